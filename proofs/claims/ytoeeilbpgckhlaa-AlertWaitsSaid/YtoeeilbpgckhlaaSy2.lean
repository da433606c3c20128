/- A symbolic run, second making: what may happen to the heap. -/
import Derived.Test.YtoeeilbpgckhlaaSy1
import Derived.Laws.Rows
import Derived.Laws.CopyRow
import Derived.Laws.AppendOwn
namespace Go.Sy
open Go

section
variable {C : Cfg} {ρ : Ren} {h : SHeap} {w : World} {fz : Nat → Prop}

theorem given_lt {α : Type} {l : List α} {k : Nat} {q : α} (e : l[k]? = some q) : k < l.length := (List.getElem?_eq_some_iff.1 e).1
theorem ne_free {k nm : Nat} {q : SO} (e : h[k]? = some (some q)) (hn : h[nm]? = some none) : k ≠ nm := fun e' => by rw [e', hn] at e; cases e

theorem SO.Rep.lt {q : SO} {x : Blk} (r : q.Rep h ρ w fz x) (hh : q.here x) : x.b < w.heap.size := by
  have key : ∀ o, w.heap[x.b]? = some o → x.b < w.heap.size := fun o e => (Array.getElem?_eq_some_iff.1 e).1
  cases q with
  | cells cs t m => obtain ⟨_, vs, tail, h1, _⟩ := r; exact h1.lt
  | row xs t m => obtain ⟨_, vs, tail, h1, _⟩ := r; exact (h1 hh).lt
  | ice xs => exact hh.elim
  | gone => exact hh.elim
  | loop l => obtain ⟨_, h1, _⟩ := r; exact key _ h1
  | dfr b => cases b <;> exact key _ r

/-- Our block 'k' is changed, nothing else. -/
theorem WRepF.set {k : Nat} {q q' : SO} {w' : World} (r : WRepF C ρ h w fz) (e : h[k]? = some (some q)) (hh : q.here (ρ k)) (hw : ∀ b, b ≠ (ρ k).b → w'.heap[b]? = w.heap[b]?)
    (hs : w'.heap.size = w.heap.size) (ho : w'.os = w.os) (ht : w'.tape = w.tape) (hu : w'.output = w.output) (hq : q'.Rep h ρ w' fz (ρ k)) : WRepF C ρ (h.set k (some q')) w' fz := by
  have hk := given_lt e
  have sb : Sub h (h.set k (some q')) := sub_set
  have hzw : ∀ b, fz b → w'.heap[b]? = w.heap[b]? := fun b hb => hw b fun e' => r.frz k q e hh (e' ▸ hb)
  have back : ∀ {j : Nat} {q2 : SO}, (h.set k (some q'))[j]? = some (some q2) → q2.here (ρ j) → ∃ q3, h[j]? = some (some q3) ∧ q3.here (ρ j) := fun {j q2} hj hl => by
    by_cases hjk : j = k
    · subst hjk; exact ⟨_, e, hh⟩
    · rw [List.getElem?_set_ne (Ne.symm hjk)] at hj; exact ⟨_, hj, hl⟩
  refine ⟨fun j hj => ⟨(r.pre j hj).1, let ⟨q, hq⟩ := (r.pre j hj).2; sb j q hq⟩, ?_, ?_, ?_, ?_, r.fznew, fun b hb => by rw [hs]; exact r.fzlt b hb, r.fzold, ?_, by rw [hs]; exact r.size,
    ho.trans r.os, ht.trans r.tape, hu.trans r.output⟩
  · intro j q2 hj
    by_cases hjk : j = k
    · subst hjk
      rw [List.getElem?_set_self hk] at hj
      cases hj
      exact hq.later sb (Ag.refl _ _) (fun _ h => h) (fun _ _ => rfl) (fun _ => rfl)
    · rw [List.getElem?_set_ne (Ne.symm hjk)] at hj
      exact (r.objs j q2 hj).later sb (Ag.refl _ _) (fun _ h => h) hzw fun hl => hw _ fun e' => hjk (r.inj j k _ _ hj e hl hh e')
  · intro j k' q1 q2 h1 h2 l1 l2
    obtain ⟨_, g1, m1⟩ := back h1 l1
    obtain ⟨_, g2, m2⟩ := back h2 l2
    exact r.inj j k' _ _ g1 g2 m1 m2
  · intro j q2 hj hl
    obtain ⟨_, g1, m1⟩ := back hj hl
    exact r.new j _ g1 m1
  · intro j q2 hj hl
    obtain ⟨_, g1, m1⟩ := back hj hl
    exact r.frz j _ g1 m1
  · intro b hb hne
    have : b ≠ (ρ k).b := fun e' => by
      rcases r.new k q e hh with h1 | h1
      · exact hne (e' ▸ h1)
      · omega
    rw [hw b this]
    exact r.block b hb hne

/-- A new block. -/
theorem WRepF.alloc {nm : Nat} {q : SO} {x : Blk} {o : Obj} (r : WRepF C ρ h w fz) (e : h[nm]? = some none) (hx : x.b = w.heap.size) (hq : q.Rep h ρ (w.alloc o) fz x) :
    WRepF C (upd ρ nm x) (h.set nm (some q)) (w.alloc o) fz := by
  have hk := given_lt e
  have sb : Sub h (h.set nm (some q)) := sub_set
  have ag : Ag h ρ (upd ρ nm x) := upd_ag e
  have lt_of : ∀ {j : Nat} {q3 : SO}, h[j]? = some (some q3) → q3.here (ρ j) → (ρ j).b < w.heap.size := fun hj hl => (r.objs _ _ hj).lt hl
  refine ⟨?_, ?_, ?_, ?_, ?_, r.fznew, fun b hb => by simpa using Nat.lt_succ_of_lt (r.fzlt b hb), r.fzold, ?_, by simpa using Nat.le_succ_of_le r.size, r.os, r.tape, r.output⟩
  · intro j hj
    obtain ⟨h1, q, hq⟩ := r.pre j hj
    exact ⟨by rw [upd_other ρ _ (ne_free hq e)]; exact h1, sb j q hq⟩
  · intro j q2 hj
    by_cases hjk : j = nm
    · subst hjk
      rw [List.getElem?_set_self hk] at hj
      cases hj
      rw [upd_same]
      exact hq.later sb ag (fun _ h => h) (fun _ _ => rfl) (fun _ => rfl)
    · rw [List.getElem?_set_ne (Ne.symm hjk)] at hj
      rw [upd_other ρ _ hjk]
      refine (r.objs j q2 hj).later sb ag (fun _ h => h) (fun b hb => heap_alloc_old w _ _ (r.fzlt b hb)) fun hl => heap_alloc_old w _ _ (lt_of hj hl)
  · intro j k' q1 q2 h1 h2 l1 l2 he
    by_cases hj : j = nm <;> by_cases hk' : k' = nm
    · rw [hj, hk']
    · subst hj
      rw [List.getElem?_set_ne (Ne.symm hk')] at h2
      rw [upd_other ρ _ hk'] at l2
      rw [upd_same, upd_other ρ _ hk'] at he
      have := lt_of h2 l2; omega
    · subst hk'
      rw [List.getElem?_set_ne (Ne.symm hj)] at h1
      rw [upd_other ρ _ hj] at l1
      rw [upd_same, upd_other ρ _ hj] at he
      have := lt_of h1 l1; omega
    · rw [List.getElem?_set_ne (Ne.symm hj)] at h1
      rw [List.getElem?_set_ne (Ne.symm hk')] at h2
      rw [upd_other ρ _ hj] at l1
      rw [upd_other ρ _ hk'] at l2
      rw [upd_other ρ _ hj, upd_other ρ _ hk'] at he
      exact r.inj j k' _ _ h1 h2 l1 l2 he
  · intro j q2 hj hl
    by_cases hjk : j = nm
    · subst hjk; rw [upd_same, hx]; exact .inr r.size
    · rw [List.getElem?_set_ne (Ne.symm hjk)] at hj
      rw [upd_other ρ _ hjk] at hl ⊢
      exact r.new j _ hj hl
  · intro j q2 hj hl hz
    by_cases hjk : j = nm
    · subst hjk; rw [upd_same, hx] at hz; exact absurd (r.fzlt _ hz) (Nat.lt_irrefl _)
    · rw [List.getElem?_set_ne (Ne.symm hjk)] at hj
      rw [upd_other ρ _ hjk] at hl hz
      exact r.frz j _ hj hl hz
  · intro b hb hne
    rw [heap_alloc_old w _ _ (Nat.lt_of_lt_of_le hb r.size)]
    exact r.block b hb hne

/-- A new name for what nobody changes, or for nothing. -/
theorem WRepF.view {nm : Nat} {q : SO} {x : Blk} (r : WRepF C ρ h w fz) (e : h[nm]? = some none) (hn : ¬ q.here x) (hq : q.Rep h ρ w fz x) :
    WRepF C (upd ρ nm x) (h.set nm (some q)) w fz := by
  have hk := given_lt e
  have sb : Sub h (h.set nm (some q)) := sub_set
  have ag : Ag h ρ (upd ρ nm x) := upd_ag e
  have back : ∀ {j : Nat} {q2 : SO}, (h.set nm (some q))[j]? = some (some q2) → q2.here (upd ρ nm x j) → h[j]? = some (some q2) ∧ upd ρ nm x j = ρ j := fun {j q2} hj hl => by
    by_cases hjk : j = nm
    · subst hjk
      rw [List.getElem?_set_self hk] at hj
      cases hj
      rw [upd_same] at hl
      exact absurd hl hn
    · rw [List.getElem?_set_ne (Ne.symm hjk)] at hj
      exact ⟨hj, upd_other ρ _ hjk⟩
  refine ⟨?_, ?_, ?_, ?_, ?_, r.fznew, r.fzlt, r.fzold, r.block, r.size, r.os, r.tape, r.output⟩
  · intro j hj
    obtain ⟨h1, q, hq⟩ := r.pre j hj
    exact ⟨by rw [upd_other ρ _ (ne_free hq e)]; exact h1, sb j q hq⟩
  · intro j q2 hj
    by_cases hjk : j = nm
    · subst hjk
      rw [List.getElem?_set_self hk] at hj
      cases hj
      rw [upd_same]
      exact hq.later sb ag (fun _ h => h) (fun _ _ => rfl) (fun _ => rfl)
    · rw [List.getElem?_set_ne (Ne.symm hjk)] at hj
      rw [upd_other ρ _ hjk]
      exact (r.objs j q2 hj).later sb ag (fun _ h => h) (fun _ _ => rfl) fun _ => rfl
  · intro j k' q1 q2 h1 h2 l1 l2 he
    obtain ⟨g1, e1⟩ := back h1 l1
    obtain ⟨g2, e2⟩ := back h2 l2
    rw [e1] at l1 he
    rw [e2] at l2 he
    exact r.inj j k' _ _ g1 g2 l1 l2 he
  · intro j q2 hj hl
    obtain ⟨g1, e1⟩ := back hj hl
    rw [e1] at hl ⊢
    exact r.new j _ g1 hl
  · intro j q2 hj hl
    obtain ⟨g1, e1⟩ := back hj hl
    rw [e1] at hl ⊢
    exact r.frz j _ g1 hl

/-- A block that is looked at no more, or of which less is said. -/
theorem WRepF.less {k : Nat} {q q' : SO} (r : WRepF C ρ h w fz) (e : h[k]? = some (some q)) (hh : q'.here (ρ k) → q.here (ρ k)) (hq : q'.Rep h ρ w fz (ρ k)) : WRepF C ρ (h.set k (some q')) w fz := by
  have hk := given_lt e
  have sb : Sub h (h.set k (some q')) := sub_set
  have back : ∀ {j : Nat} {q2 : SO}, (h.set k (some q'))[j]? = some (some q2) → q2.here (ρ j) → ∃ q3, h[j]? = some (some q3) ∧ q3.here (ρ j) := fun {j q2} hj hl => by
    by_cases hjk : j = k
    · subst hjk
      rw [List.getElem?_set_self hk] at hj
      cases hj
      exact ⟨_, e, hh hl⟩
    · rw [List.getElem?_set_ne (Ne.symm hjk)] at hj; exact ⟨_, hj, hl⟩
  refine ⟨fun j hj => ⟨(r.pre j hj).1, let ⟨q, hq⟩ := (r.pre j hj).2; sb j q hq⟩, ?_, ?_, ?_, ?_, r.fznew, r.fzlt, r.fzold, r.block, r.size, r.os, r.tape, r.output⟩
  · intro j q2 hj
    by_cases hjk : j = k
    · subst hjk
      rw [List.getElem?_set_self hk] at hj
      cases hj
      exact hq.later sb (Ag.refl _ _) (fun _ h => h) (fun _ _ => rfl) (fun _ => rfl)
    · rw [List.getElem?_set_ne (Ne.symm hjk)] at hj
      exact (r.objs j q2 hj).later sb (Ag.refl _ _) (fun _ h => h) (fun _ _ => rfl) fun _ => rfl
  · intro j k' q1 q2 h1 h2 l1 l2
    obtain ⟨_, g1, m1⟩ := back h1 l1
    obtain ⟨_, g2, m2⟩ := back h2 l2
    exact r.inj j k' _ _ g1 g2 m1 m2
  · intro j q2 hj hl
    obtain ⟨_, g1, m1⟩ := back hj hl
    exact r.new j _ g1 m1
  · intro j q2 hj hl
    obtain ⟨_, g1, m1⟩ := back hj hl
    exact r.frz j _ g1 m1
theorem WRepF.gone {k : Nat} {q : SO} (r : WRepF C ρ h w fz) (e : h[k]? = some (some q)) : WRepF C ρ (h.set k (some .gone)) w fz := r.less e (fun h => h.elim) trivial

/-- A block that nobody changes from here on. -/
theorem WRepF.freeze {k : Nat} {q : SO} {xs : List D} (r : WRepF C ρ h w fz) (e : h[k]? = some (some q)) (hh : q.here (ρ k)) {vs : List Value} (hc : ∀ (j : Nat) v, vs[j]? = some v → w.cell? ⟨(ρ k).b, (ρ k).o + j, none⟩ = some v)
    (hd : DsRep w fz xs vs) : WRepF C ρ (h.set k (some (.ice xs))) w (fun b => fz b ∨ b = (ρ k).b) := by
  have hk := given_lt e
  have sb : Sub h (h.set k (some (.ice xs))) := sub_set
  have back : ∀ {j : Nat} {q2 : SO}, (h.set k (some (.ice xs)))[j]? = some (some q2) → q2.here (ρ j) → h[j]? = some (some q2) ∧ j ≠ k := fun {j q2} hj hl => by
    by_cases hjk : j = k
    · subst hjk
      rw [List.getElem?_set_self hk] at hj
      cases hj
      exact hl.elim
    · rw [List.getElem?_set_ne (Ne.symm hjk)] at hj; exact ⟨hj, hjk⟩
  refine ⟨fun j hj => ⟨(r.pre j hj).1, let ⟨q, hq⟩ := (r.pre j hj).2; sb j q hq⟩, ?_, ?_, ?_, ?_, ?_, ?_, fun b hb => .inl (r.fzold b hb), r.block, r.size, r.os, r.tape, r.output⟩
  · intro j q2 hj
    by_cases hjk : j = k
    · subst hjk
      rw [List.getElem?_set_self hk] at hj
      cases hj
      have hv : ∀ (i : Nat) (d : D), xs[i]? = some d → vs[i]? = some (vs.getD i undef) := fun i d hi => by
        have : i < vs.length := by rw [hd.1]; exact given_lt hi
        simp [List.getD, this]
      exact ⟨fun i => vs.getD i undef, fun i d _ => .inr rfl, fun i d hi => hc i _ (hv i d hi), fun i d hi => (hd.2 i d _ hi (hv i d hi)).later (fun _ _ => rfl) (fun _ h => .inl h)⟩
    · rw [List.getElem?_set_ne (Ne.symm hjk)] at hj
      exact (r.objs j q2 hj).later sb (Ag.refl _ _) (fun _ h => .inl h) (fun _ _ => rfl) fun _ => rfl
  · intro j k' q1 q2 h1 h2 l1 l2
    exact r.inj j k' _ _ (back h1 l1).1 (back h2 l2).1 l1 l2
  · intro j q2 hj hl
    exact r.new j _ (back hj hl).1 hl
  · intro j q2 hj hl hz
    obtain ⟨g1, hne⟩ := back hj hl
    rcases hz with hz | hz
    · exact r.frz j _ g1 hl hz
    · exact hne (r.inj j k _ _ g1 e hl hh hz)
  · intro b hb
    rcases hb with hb | rfl
    · exact r.fznew b hb
    · exact .inr (r.new k q e hh)
  · intro b hb
    rcases hb with hb | rfl
    · exact r.fzlt b hb
    · exact (r.objs k q e).lt hh

/-- A block that goes on under a new name. -/
theorem WRepF.rename {k nm : Nat} {q : SO} (r : WRepF C ρ h w fz) (e : h[k]? = some (some q)) (hn : h[nm]? = some none) :
    WRepF C (upd ρ nm (ρ k)) ((h.set k (some .gone)).set nm (some q)) w fz := by
  have hkn : k ≠ nm := ne_free e hn
  have hnl : nm < h.length := given_lt hn
  have sb : Sub h ((h.set k (some .gone)).set nm (some q)) := sub_set.trans sub_set
  have ag : Ag h ρ (upd ρ nm (ρ k)) := upd_ag hn
  have back : ∀ {j : Nat} {q2 : SO}, ((h.set k (some .gone)).set nm (some q))[j]? = some (some q2) → q2.here (upd ρ nm (ρ k) j) → (j = nm ∧ q2 = q) ∨ (j ≠ nm ∧ j ≠ k ∧ h[j]? = some (some q2)) := fun {j q2} hj hl => by
    by_cases hjn : j = nm
    · subst hjn
      rw [List.getElem?_set_self (by simpa using hnl)] at hj
      cases hj
      exact .inl ⟨rfl, rfl⟩
    · rw [List.getElem?_set_ne (Ne.symm hjn)] at hj
      by_cases hjk : j = k
      · subst hjk
        rw [List.getElem?_set_self (given_lt e)] at hj
        cases hj
        exact hl.elim
      · rw [List.getElem?_set_ne (Ne.symm hjk)] at hj
        exact .inr ⟨hjn, hjk, hj⟩
  refine ⟨?_, ?_, ?_, ?_, ?_, r.fznew, r.fzlt, r.fzold, r.block, r.size, r.os, r.tape, r.output⟩
  · intro j hj
    obtain ⟨h1, q2, hq⟩ := r.pre j hj
    exact ⟨by rw [upd_other ρ _ (ne_free hq hn)]; exact h1, sb j q2 hq⟩
  · intro j q2 hj
    by_cases hjn : j = nm
    · subst hjn
      rw [List.getElem?_set_self (by simpa using hnl)] at hj
      cases hj
      rw [upd_same]
      exact (r.objs k _ e).later sb ag (fun _ h => h) (fun _ _ => rfl) fun _ => rfl
    · rw [List.getElem?_set_ne (Ne.symm hjn)] at hj
      rw [upd_other ρ _ hjn]
      by_cases hjk : j = k
      · subst hjk
        rw [List.getElem?_set_self (given_lt e)] at hj
        cases hj
        trivial
      · rw [List.getElem?_set_ne (Ne.symm hjk)] at hj
        exact (r.objs j _ hj).later sb ag (fun _ h => h) (fun _ _ => rfl) fun _ => rfl
  · intro j j' q1 q2 h1 h2 l1 l2 he
    rcases back h1 l1 with ⟨rfl, rfl⟩ | ⟨hjn, hjk, hj1⟩ <;> rcases back h2 l2 with ⟨rfl, rfl⟩ | ⟨hjn2, hjk2, hj2⟩
    · rfl
    · rw [upd_same] at l1
      rw [upd_other ρ _ hjn2] at l2
      rw [upd_same, upd_other ρ _ hjn2] at he
      exact absurd (r.inj k j' _ _ e hj2 l1 l2 he).symm hjk2
    · rw [upd_same] at l2
      rw [upd_other ρ _ hjn] at l1
      rw [upd_same, upd_other ρ _ hjn] at he
      exact absurd (r.inj j k _ _ hj1 e l1 l2 he) hjk
    · rw [upd_other ρ _ hjn] at l1
      rw [upd_other ρ _ hjn2] at l2
      rw [upd_other ρ _ hjn, upd_other ρ _ hjn2] at he
      exact r.inj j j' _ _ hj1 hj2 l1 l2 he
  · intro j q2 hj hl
    rcases back hj hl with ⟨rfl, rfl⟩ | ⟨hjn, _, hj'⟩
    · rw [upd_same] at hl ⊢; exact r.new k q2 e hl
    · rw [upd_other ρ _ hjn] at hl ⊢; exact r.new j _ hj' hl
  · intro j q2 hj hl
    rcases back hj hl with ⟨rfl, rfl⟩ | ⟨hjn, _, hj'⟩
    · rw [upd_same] at hl ⊢; exact r.frz k q2 e hl
    · rw [upd_other ρ _ hjn] at hl ⊢; exact r.frz j _ hj' hl
theorem WRepF.drew (r : WRepF C ρ h w fz) : WRepF C ρ h w.drew fz := by
  refine ⟨r.pre, fun k q e => (r.objs k q e).later (Sub.refl _) (Ag.refl _ _) (fun _ h => h) (fun _ _ => rfl) fun _ => rfl, r.inj, r.new, r.frz, r.fznew, r.fzlt, r.fzold, r.block, r.size, r.os, r.tape, r.output⟩
theorem WRep.drew (r : WRep C ρ h w) : WRep C ρ h w.drew := let ⟨fz, h⟩ := r; ⟨fz, h.drew⟩

/-- Two heaps that give the same names the same, however many names are not given. -/
def Alk (h g : SHeap) : Prop := ∀ (k : Nat) (q : SO), h[k]? = some (some q) ↔ g[k]? = some (some q)
theorem Alk.refl (h : SHeap) : Alk h h := fun _ _ => Iff.rfl
theorem Alk.trans {a b c : SHeap} (x : Alk a b) (y : Alk b c) : Alk a c := fun k q => (x k q).trans (y k q)
theorem Alk.symm {a b : SHeap} (x : Alk a b) : Alk b a := fun k q => (x k q).symm
theorem Alk.sub {h g : SHeap} (a : Alk h g) : Sub h g := fun k q e => ⟨q, (a k q).1 e⟩
theorem WRepF.alk {g : SHeap} (r : WRepF C ρ h w fz) (a : Alk h g) : WRepF C ρ g w fz :=
  ⟨fun k hk => let ⟨h1, q, h2⟩ := r.pre k hk; ⟨h1, a.sub k q h2⟩, fun k q e => (r.objs k q ((a k q).2 e)).later a.sub (Ag.refl _ _) (fun _ h => h) (fun _ _ => rfl) fun _ => rfl,
    fun j k q q' e1 e2 => r.inj j k q q' ((a _ _).2 e1) ((a _ _).2 e2), fun k q e => r.new k q ((a k q).2 e), fun k q e => r.frz k q ((a k q).2 e), r.fznew, r.fzlt, r.fzold, r.block, r.size, r.os, r.tape, r.output⟩
theorem WRep.alk {g : SHeap} (r : WRep C ρ h w) (a : Alk h g) : WRep C ρ g w := let ⟨fz, h⟩ := r; ⟨fz, h.alk a⟩
theorem alk_pad (h : SHeap) (n : Nat) : Alk h (h ++ List.replicate n none) := fun k q => by
  rcases Nat.lt_or_ge k h.length with hk | hk
  · rw [List.getElem?_append_left hk]
  · rw [List.getElem?_append_right hk, List.getElem?_eq_none hk]
    simp only [List.getElem?_replicate]
    split <;> simp
end

/-- What an operation comes to that neither reads nor writes. -/
def pureRun {α : Type} (P : Program) : Sem α → Option α
  | .pure a => some a
  | .program k => pureRun P (k P)
  | _ => none
theorem pureRun_run {α : Type} {P : Program} : ∀ {s : Sem α} {a : α}, pureRun P s = some a → ∀ w, s.run P w = .ok a w := by
  intro s
  induction s with
  | pure a => intro b h w; cases h; rfl
  | program k ih => intro b h w; exact ih P h w
  | _ => intro b h; cases h

/-- A condition that is reckoned where it can be. -/
def Ck (b : Bool) (p : Prop) : Prop := match b with | true => p | false => False
theorem Ck.out {b : Bool} {p : Prop} (h : Ck b p) : b = true ∧ p := by cases b with | true => exact ⟨rfl, h⟩ | false => exact (h : False).elim
theorem Ck.mk {b : Bool} {p : Prop} (h : b = true) (k : p) : Ck b p := by subst h; exact k
/-- The same, reckoned only where the numbers are known. -/
def Nd (kn : Bool) (b : Bool) (c p : Prop) : Prop := match kn with | true => Ck b p | false => c ∧ p
theorem Nd.out {kn : Bool} {c p : Prop} [Decidable c] (h : Nd kn (decide c) c p) : c ∧ p := by
  cases kn with
  | true => obtain ⟨h1, h2⟩ := Ck.out h; exact ⟨of_decide_eq_true h1, h2⟩
  | false => exact h

/-- The actual value of a symbol that uses no name. -/
def SC.lit : SC → Option Value
  | .v x => some x
  | .kv x => some x
  | .b z => some (.bool z)
  | _ => none
def lits : List SC → Option (List Value)
  | [] => some []
  | .v x :: r => match lits r with | some l => some (x :: l) | none => none
  | .kv x :: r => match lits r with | some l => some (x :: l) | none => none
  | .b b :: r => match lits r with | some l => some (.bool b :: l) | none => none
  | _ => none
def SV.lit : SV → Option Value
  | .c (.v x) => some x
  | .c (.kv x) => some x
  | .c (.b b) => some (.bool b)
  | .a cs => match lits cs with | some l => some (.agg l.toArray) | none => none
  | .al l => some (.agg l.toArray)
  | _ => none
theorem lits_eq {ρ : Ren} : ∀ {cs : List SC} {l vs : List Value}, lits cs = some l → CsR ρ cs vs → vs = l
  | [], l, [], h, _ => by cases h; rfl
  | c :: r, l, v :: vs, h, ⟨hc, hr⟩ => by
    have key : ∀ (x : Value), v = x → (match lits r with | some l => some (x :: l) | none => none) = some l → v :: vs = l := fun x hx h => by
      split at h
      · rename_i l' hl
        cases h
        rw [hx, lits_eq hl hr]
      · cases h
    cases c with
    | v x => exact key _ hc h
    | kv x => exact key _ hc h
    | b b => exact key _ hc h
    | _ => simp [lits] at h
  | [], _, _ :: _, _, hr => hr.elim
  | _ :: _, _, [], _, hr => hr.elim
theorem lits_mk {ρ : Ren} : ∀ {cs : List SC} {l : List Value}, lits cs = some l → CsR ρ cs l
  | [], l, h => by cases h; trivial
  | c :: r, l, h => by
    have key : ∀ (x : Value), c.R ρ x → (match lits r with | some l => some (x :: l) | none => none) = some l → CsR ρ (c :: r) l := fun x hx h => by
      split at h
      · rename_i l' hl
        cases h
        exact ⟨hx, lits_mk hl⟩
      · cases h
    cases c with
    | v x => exact key _ rfl h
    | kv x => exact key _ rfl h
    | b b => exact key _ rfl h
    | _ => simp [lits] at h
theorem lit_eq {ρ : Ren} {v : SV} {x y : Value} (h : v.lit = some x) (r : v.R ρ y) : y = x := by
  cases v with
  | c z => cases z <;> simp [SV.lit] at h <;> subst h <;> exact r
  | a cs =>
    simp only [SV.lit] at h
    split at h
    · rename_i l hl
      cases h
      obtain ⟨vs, rfl, hr⟩ := r
      rw [lits_eq hl hr]
    · cases h
  | al l => simp [SV.lit] at h; subst h; exact r
  | t vs => simp [SV.lit] at h
theorem lit_mk {ρ : Ren} {v : SV} {x : Value} (h : v.lit = some x) : v.R ρ x := by
  cases v with
  | c z => cases z <;> simp [SV.lit] at h <;> subst h <;> rfl
  | a cs =>
    simp only [SV.lit] at h
    split at h
    · rename_i l hl
      cases h
      exact ⟨l, rfl, lits_mk hl⟩
    · cases h
  | al l => simp [SV.lit] at h; subst h; rfl
  | t vs => simp [SV.lit] at h
theorem VRep.of_lit {h : SHeap} {ρ : Ren} {v : SV} {x y : Value} (hl : v.lit = some x) (r : VRep h ρ v y) : y = x := lit_eq hl r.here
theorem VRep.lit (h : SHeap) (ρ : Ren) (x : Value) : VRep h ρ (.c (.v x)) x := fun _ _ => rfl
theorem VRep.of_lit_mk {h : SHeap} {ρ : Ren} {v : SV} {x : Value} (hl : v.lit = some x) : VRep h ρ v x := fun _ _ => lit_mk hl

/-- Is it one cell (no struct, no tuple)? -/
def SC.flat : SC → Bool
  | .v (.agg _) | .v (.tuple _) | .kv (.agg _) | .kv (.tuple _) => false
  | _ => true
/-- The cells of a value, by symbols. -/
def SV.cells : SV → Option (List SC)
  | .c x => match x.flat with | true => some [x] | false => none
  | .a cs => some cs
  | .al xs => some (xs.map .v)
  | .t _ => none
theorem flat_cells {ρ : Ren} {x : SC} {y : Value} (h : x.flat = true) (r : x.R ρ y) : y.cells = #[y] ∧ y.oneCell' = true := by
  cases x with
  | v z => have : y = z := r; subst this; cases y <;> first | exact ⟨rfl, rfl⟩ | simp [SC.flat] at h
  | kv z => have : y = z := r; subst this; cases y <;> first | exact ⟨rfl, rfl⟩ | simp [SC.flat] at h
  | b z => have : y = .bool z := r; subst this; exact ⟨rfl, rfl⟩
  | p k o => have : y = _ := r; subst this; exact ⟨rfl, rfl⟩
  | s k o l c => obtain ⟨a, rfl, _⟩ := r; exact ⟨rfl, rfl⟩
  | f fn caps => have : y = _ := r; subst this; exact ⟨rfl, rfl⟩
  | y k => have : y = _ := r; subst this; exact ⟨rfl, rfl⟩
theorem SV.cells_R {v : SV} {cs : List SC} {y : Value} {ρ : Ren} (h : v.cells = some cs) (r : v.R ρ y) : CsR ρ cs y.cells.toList := by
  cases v with
  | c x =>
    simp only [SV.cells] at h
    split at h
    · rename_i hx
      cases h
      rw [(flat_cells hx r).1]
      exact ⟨r, trivial⟩
    · cases h
  | a l => cases h; obtain ⟨vs, rfl, hr⟩ := r; exact hr
  | al l => cases h; have : y = _ := r; subst this; exact CsR.vals l
  | t _ => cases h
/-- Every cell a single one. -/
def flats : List SC → Bool
  | [] => true
  | x :: r => SC.flat x && flats r
theorem flats_one {ρ : Ren} : ∀ {cs : List SC} {vs : List Value}, flats cs = true → CsR ρ cs vs → ∀ v ∈ vs, v.oneCell' = true
  | [], [], _, _ => by simp
  | c :: r, v :: vs, h, ⟨hc, hr⟩ => by
    simp only [flats, Bool.and_eq_true] at h
    intro u hu
    rcases List.mem_cons.1 hu with rfl | hu
    · exact (flat_cells h.1 hc).2
    · exact flats_one h.2 hr u hu
  | [], _ :: _, _, hr => hr.elim
  | _ :: _, [], _, hr => hr.elim
end Go.Sy
