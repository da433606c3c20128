/- A symbolic run: the single operations. -/
import Derived.Test.YtoeeilbpgckhlaaSx1
import Derived.Laws.Rows
import Derived.Laws.CopyRow
import Derived.Laws.AppendOwn
namespace Go.Sx
open Go

/-- What an operation comes to that neither reads nor writes. -/
def pureRun {α : Type} (P : Program) : Sem α → Option α
  | .pure a => some a
  | .program k => pureRun P (k P)
  | _ => none

theorem pureRun_run {α : Type} {P : Program} : ∀ {s : Sem α} {a : α}, pureRun P s = some a → ∀ w, s.run P w = .ok a w := by
  intro s
  induction s with
  | pure a => intro b h w; cases h; rfl
  | program k ih => intro b h w; exact ih P h w
  | _ => intro b h; cases h

/-- A condition that is reckoned where it can be. -/
def Ck (b : Bool) (p : Prop) : Prop := match b with | true => p | false => False
theorem Ck.out {b : Bool} {p : Prop} (h : Ck b p) : b = true ∧ p := by cases b with | true => exact ⟨rfl, h⟩ | false => exact (h : False).elim
theorem Ck.mk {b : Bool} {p : Prop} (h : b = true) (k : p) : Ck b p := by subst h; exact k

/-- The actual value of a symbol that uses no name. -/
def SC.lit : SC → Option Value
  | .v x => some x
  | .b z => some (.bool z)
  | _ => none
def lits : List SC → Option (List Value)
  | [] => some []
  | .v x :: r => match lits r with | some l => some (x :: l) | none => none
  | .b b :: r => match lits r with | some l => some (.bool b :: l) | none => none
  | _ => none
def SV.lit : SV → Option Value
  | .c (.v x) => some x
  | .c (.b b) => some (.bool b)
  | .a cs => match lits cs with | some l => some (.agg l.toArray) | none => none
  | _ => none

theorem lits_den {cs : List SC} {l : List Value} (h : lits cs = some l) (ρ : Ren) : dens ρ cs = l.toArray := by
  induction cs generalizing l with
  | nil => cases h; rfl
  | cons c r ih =>
    have key : ∀ (y : SC) (x : Value), y.den ρ = x → (match lits r with | some l => some (x :: l) | none => none) = some l → dens ρ (y :: r) = l.toArray := fun y x hy h => by
      split at h
      · rename_i l' hl
        cases h
        have := ih hl
        simp only [dens, List.map_cons] at this ⊢
        have h2 := congrArg Array.toList this
        simp at h2
        simp [h2, hy]
      · cases h
    cases c with
    | v x => exact key _ x rfl h
    | b b => exact key _ (.bool b) rfl h
    | _ => simp [lits] at h
theorem lit_den {v : SV} {x : Value} (h : v.lit = some x) (ρ : Ren) : v.den ρ = x := by
  cases v with
  | c y => cases y <;> simp [SV.lit] at h <;> exact h
  | a cs =>
    simp only [SV.lit] at h
    split at h
    · rename_i l hl; cases h; simp [SV.den, lits_den hl ρ]
    · cases h
  | t vs => simp [SV.lit] at h

theorem VRep.of_lit {h : SHeap} {ρ : Ren} {v : SV} {x y : Value} (hl : v.lit = some x) (r : VRep h ρ v y) : y = x := by rw [← r.here, lit_den hl]
theorem VRep.lit (h : SHeap) (ρ : Ren) (x : Value) : VRep h ρ (.c (.v x)) x := fun _ _ => rfl

/-- Is it one cell (no struct, no tuple)? -/
def SC.flat : SC → Bool
  | .v (.agg _) | .v (.tuple _) => false
  | _ => true

/-- The cells of a value, by symbols. (A bare actual value counts as one cell: 'flats' asks.) -/
def SV.cells : SV → Option (List SC)
  | .c x => match x.flat with | true => some [x] | false => none
  | .a cs => some cs
  | .t _ => none

theorem SV.cells_den {v : SV} {cs : List SC} (h : v.cells = some cs) (ρ : Ren) : (v.den ρ).cells = dens ρ cs := by
  cases v with
  | c x =>
    simp only [SV.cells] at h
    split at h
    · rename_i hx
      cases h
      cases x with
      | v y => cases y <;> first | rfl | simp [SC.flat] at hx
      | _ => rfl
    · cases h
  | a l => cases h; rfl
  | t _ => cases h

/-- Every cell a single one. -/
def flats : List SC → Bool
  | [] => true
  | x :: r => SC.flat x && flats r
theorem flats_den {cs : List SC} (h : flats cs = true) (ρ : Ren) : ∀ v ∈ (dens ρ cs).toList, v.oneCell' = true := by
  induction cs with
  | nil => simp [dens]
  | cons c r ih =>
    simp only [flats, Bool.and_eq_true] at h
    intro v hv
    simp only [dens, List.map_cons, List.mem_cons] at hv
    rcases hv with rfl | hv
    · cases c with
      | v y => cases y <;> first | rfl | simp [SC.flat] at h
      | _ => rfl
    · exact ih h.2 v (by simpa [dens] using hv)

theorem dens_length (ρ : Ren) (cs : List SC) : (dens ρ cs).size = cs.length := by simp [dens]

/-! ### The heap's turns -/
section
variable {C : Cfg} {ρ : Ren} {h : SHeap} {w : World}

theorem given_lt {k : Nat} {q : Option SO} (e : h[k]? = some q) : k < h.length := by
  rcases Nat.lt_or_ge k h.length with h' | h'
  · exact h'
  · simp [List.getElem?_eq_none h'] at e

theorem WRep.set {k : Nat} {l l' : List SC} {t : TypeId} {cs cs' : Array Value} (r : WRep C ρ h w) (e : h[k]? = some (some (.cells l t))) (hw : w.heap[ρ k]? = some (.cells cs t (0, 0)))
    (hc : CsRep h ρ l' cs') : WRep C ρ (h.set k (some (.cells l' t))) (w.setRow (ρ k) cs') := by
  have hk := given_lt e
  have sb : Sub h (h.set k (some (.cells l' t))) := sub_set
  refine ⟨fun j hj => ⟨(r.pre j hj).1, let ⟨q, hq⟩ := (r.pre j hj).2; sb j q hq⟩, ?_, ?_, ?_, ?_, ?_, r.os, r.tape, r.output⟩
  · intro j l2 t2 hj
    by_cases hjk : j = k
    · subst hjk
      rw [List.getElem?_set_self hk] at hj
      cases hj
      exact ⟨cs', setRow_heap w (ρ j) cs cs' t (0, 0) hw, hc.later sb (Ag.refl _ _)⟩
    · rw [List.getElem?_set_ne (Ne.symm hjk)] at hj
      obtain ⟨c2, h2, h3⟩ := r.objs j l2 t2 hj
      exact ⟨c2, by rw [setRow_other w (ρ k) (ρ j) cs' (fun e' => hjk (r.inj j k _ _ _ _ hj e e'))]; exact h2, h3.later sb (Ag.refl _ _)⟩
  · have back : ∀ (j : Nat) l2 t2, (h.set k (some (.cells l' t)))[j]? = some (some (.cells l2 t2)) → ∃ l3 t3, h[j]? = some (some (.cells l3 t3)) := fun j l2 t2 hj => by
      by_cases hjk : j = k
      · subst hjk; exact ⟨_, _, e⟩
      · rw [List.getElem?_set_ne (Ne.symm hjk)] at hj; exact ⟨_, _, hj⟩
    intro j k' l1 t1 l2 t2 h1 h2
    obtain ⟨_, _, g1⟩ := back j _ _ h1
    obtain ⟨_, _, g2⟩ := back k' _ _ h2
    exact r.inj j k' _ _ _ _ g1 g2
  · intro j l2 t2 hj hn
    by_cases hjk : j = k
    · subst hjk; exact r.new j _ _ e hn
    · rw [List.getElem?_set_ne (Ne.symm hjk)] at hj; exact r.new j _ _ hj hn
  · intro b hb hne
    have : b ≠ ρ k := by
      rcases Nat.lt_or_ge k C.n0 with hk' | hk'
      · rw [(r.pre k hk').1]; exact hne k hk'
      · have := r.new k _ _ e hk'; omega
    rw [setRow_other w (ρ k) b cs' this]
    exact r.block b hb hne
  · simpa [World.setRow] using r.size

theorem WRep.alloc {nm : Nat} {l : List SC} {t : TypeId} {cs : Array Value} (r : WRep C ρ h w) (e : h[nm]? = some none)
    (hc : CsRep h ρ l cs) : WRep C (upd ρ nm w.heap.size) (h.set nm (some (.cells l t))) (w.alloc (.cells cs t)) := by
  have hk := given_lt e
  have sb : Sub h (h.set nm (some (.cells l t))) := sub_set
  have ag : Ag h ρ (upd ρ nm w.heap.size) := upd_ag e
  have ne_of : ∀ {j : Nat} {q : SO}, h[j]? = some (some q) → j ≠ nm := fun hj e' => by rw [e', e] at hj; cases hj
  refine ⟨?_, ?_, ?_, ?_, ?_, ?_, r.os, r.tape, r.output⟩
  · intro j hj
    obtain ⟨h1, q, hq⟩ := r.pre j hj
    exact ⟨by rw [upd_other ρ _ (ne_of hq)]; exact h1, sb j q hq⟩
  · intro j l2 t2 hj
    by_cases hjk : j = nm
    · subst hjk
      rw [List.getElem?_set_self hk] at hj
      cases hj
      exact ⟨cs, by rw [upd_same]; exact heap_alloc_new w _, hc.later sb ag⟩
    · rw [List.getElem?_set_ne (Ne.symm hjk)] at hj
      obtain ⟨c2, h2, h3⟩ := r.objs j l2 t2 hj
      exact ⟨c2, by rw [upd_other ρ _ hjk, heap_alloc_old w _ _ (Array.getElem?_eq_some_iff.1 h2).1]; exact h2, h3.later sb ag⟩
  · intro j k' l1 t1 l2 t2 h1 h2 he
    have lt_of : ∀ {j : Nat} {l3 t3}, h[j]? = some (some (.cells l3 t3)) → ρ j < w.heap.size := fun hj => let ⟨c, h3, _⟩ := r.objs _ _ _ hj; (Array.getElem?_eq_some_iff.1 h3).1
    by_cases hj : j = nm <;> by_cases hk' : k' = nm
    · rw [hj, hk']
    · subst hj
      rw [List.getElem?_set_ne (Ne.symm hk')] at h2
      rw [upd_same, upd_other ρ _ hk'] at he
      have := lt_of h2; omega
    · subst hk'
      rw [List.getElem?_set_ne (Ne.symm hj)] at h1
      rw [upd_same, upd_other ρ _ hj] at he
      have := lt_of h1; omega
    · rw [List.getElem?_set_ne (Ne.symm hj)] at h1
      rw [List.getElem?_set_ne (Ne.symm hk')] at h2
      rw [upd_other ρ _ hj, upd_other ρ _ hk'] at he
      exact r.inj j k' _ _ _ _ h1 h2 he
  · intro j l2 t2 hj hn
    by_cases hjk : j = nm
    · subst hjk; rw [upd_same]; exact r.size
    · rw [List.getElem?_set_ne (Ne.symm hjk)] at hj
      rw [upd_other ρ _ hjk]
      exact r.new j _ _ hj hn
  · intro b hb hne
    rw [heap_alloc_old w _ _ (Nat.lt_of_lt_of_le hb r.size)]
    exact r.block b hb hne
  · simpa using Nat.le_succ_of_le r.size
theorem WRep.drew (r : WRep C ρ h w) : WRep C ρ h w.drew := ⟨r.pre, r.objs, r.inj, r.new, r.block, r.size, r.os, r.tape, r.output⟩

/-- A cell that was there at the begin, and is not ours, holds what it held. -/
theorem WRep.ext (r : WRep C ρ h w) {a : Addr} {v : Value} (hv : C.w0.cell? a = some v) (he : ∀ k, k < C.n0 → a.block ≠ C.ρ0 k) : w.cell? a = some v := by
  rw [World.cell?_of_block (w := C.w0) (r.block a.block (World.block_lt_of_cell? _ _ hv) he)]
  exact hv
end
end Go.Sx
