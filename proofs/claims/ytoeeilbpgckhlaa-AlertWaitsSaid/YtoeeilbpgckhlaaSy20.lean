/- A symbolic run, second making: a law said once, of blocks by its own names: it holds at every call. -/
import Derived.Test.YtoeeilbpgckhlaaSy19
namespace Go.Sy
open Go

/-- A law's begin: the blocks, by its own names; the arguments. -/
structure Pat where
  pre : List SO
  args : List SV
/-- What may come of it: when; the blocks behind it; its answer. -/
structure Alt where
  cond : Prop := True
  post : List SO
  out : SV
def up (l : List SO) : SHeap := l.map some
theorem up_get {l : List SO} {k : Nat} {q : SO} : (up l)[k]? = some (some q) ↔ l[k]? = some q := by
  simp [up, List.getElem?_map]
def LawOk (P : Program) (g : FuncId) (c : Pat) (a : Alt) : Prop :=
  ∀ (w : World) (ρ0 : Ren) (own fz0 : Nat → Prop) (args : Array Value), WRep ⟨w, c.pre.length, ρ0, own, fz0⟩ ρ0 (up c.pre) w → AsRep (up c.pre) ρ0 c.args args.toList →
    Calls P g args w fun e w' => ∃ ρ' x, e = .returned x ∧ VRep (up a.post) ρ' a.out x ∧ WRep ⟨w, c.pre.length, ρ0, own, fz0⟩ ρ' (up a.post) w'

def iceB : SO → Bool
  | .ice _ => true
  | .gone => true
  | _ => false
def okPair (l : Ats) (pre : List SO) (k k' : Nat) : Bool :=
  Nat.beq k k' || (match pre[k]?, pre[k']?, atO l k, atO l k' with | some r, some r', some a, some a' => (iceB r && iceB r') || !(Nat.beq a.j a'.j) | _, _, _, _ => true)
def okAll (l : Ats) (pre : List SO) : Bool := (List.range pre.length).all fun k => (List.range pre.length).all fun k' => okPair l pre k k'
theorem okAll_spec {l : Ats} {pre : List SO} (h : okAll l pre = true) {k k' : Nat} {r r' : SO} {a a' : At} (e : pre[k]? = some r) (e' : pre[k']? = some r') (ha : atO l k = some a) (ha' : atO l k' = some a') (hj : a.j = a'.j) (hi : iceB r = false) : k = k' := by
  have h1 := List.all_eq_true.1 h k (List.mem_range.2 (given_lt e))
  have h2 := List.all_eq_true.1 h1 k' (List.mem_range.2 (given_lt e'))
  simp only [okPair, e, e', ha, ha', hi, hj, Bool.false_and, Bool.false_or, Bool.or_eq_true] at h2
  rcases h2 with h2 | h2
  · exact Nat.eq_of_beq_eq_true h2
  · simp at h2

def setsOf (l : Ats) (f : Nat → Option At) : Nat → List SO → List SO → Option (List (Nat × SO))
  | _, [], _ => some []
  | _, _ :: _, [] => none
  | k, p :: ps, q :: qs =>
    match iceB p, atO l k with
    | false, some a => match renO f q, setsOf l f (k + 1) ps qs with | some q', some r => some ((a.j, q') :: r) | _, _ => none
    | _, _ => setsOf l f (k + 1) ps qs
theorem setsOf_len {l : Ats} {f : Nat → Option At} : ∀ {ps qs : List SO} {k : Nat} {s : List (Nat × SO)}, setsOf l f k ps qs = some s → ps.length ≤ qs.length
  | [], _, _, _, _ => Nat.zero_le _
  | _ :: _, [], _, _, h => by cases h
  | p :: ps, q :: qs, k, s, h => by
    simp only [setsOf] at h
    simp only [List.length_cons, Nat.add_le_add_iff_right]
    split at h
    · split at h
      · rename_i h2; exact setsOf_len h2
      · cases h
    · exact setsOf_len h
theorem setsOf_mem {l : Ats} {f : Nat → Option At} : ∀ {ps qs : List SO} {k : Nat} {s : List (Nat × SO)}, setsOf l f k ps qs = some s → ∀ x ∈ s, ∃ t p q a, ps[t]? = some p ∧ qs[t]? = some q ∧ iceB p = false ∧ atO l (k + t) = some a ∧ a.j = x.1 ∧ renO f q = some x.2
  | [], _, _, _, h, x, hx => by cases h; simp at hx
  | _ :: _, [], _, _, h, _, _ => by cases h
  | p :: ps, q :: qs, k, s, h, x, hx => by
    simp only [setsOf] at h
    have rec_ : ∀ {s'}, setsOf l f (k + 1) ps qs = some s' → x ∈ s' → ∃ t p' q' a, (p :: ps)[t]? = some p' ∧ (q :: qs)[t]? = some q' ∧ iceB p' = false ∧ atO l (k + t) = some a ∧ a.j = x.1 ∧ renO f q' = some x.2 := fun h2 hx2 => by
      obtain ⟨t, p', q', a, e1, e2, e3, e4, e5⟩ := setsOf_mem h2 x hx2
      exact ⟨t + 1, p', q', a, by simpa using e1, by simpa using e2, e3, by rwa [show k + (t + 1) = k + 1 + t from by omega], e5⟩
    split at h
    · rename_i a hi ha
      split at h
      · rename_i q' r h1 h2
        cases h
        rcases List.mem_cons.1 hx with rfl | hx
        · exact ⟨0, p, q, a, rfl, rfl, hi, by simpa using ha, rfl, h1⟩
        · exact rec_ h2 hx
      · cases h
    · exact rec_ h hx
theorem setsOf_key {l : Ats} {f : Nat → Option At} : ∀ {ps qs : List SO} {k : Nat} {s : List (Nat × SO)}, setsOf l f k ps qs = some s → ∀ (t : Nat) (p : SO) (a : At), ps[t]? = some p → iceB p = false → atO l (k + t) = some a → ∃ q, (a.j, q) ∈ s
  | [], _, _, _, _, t, p, a, e, _, _ => by simp at e
  | _ :: _, [], _, _, h, _, _, _, _, _, _ => by cases h
  | p :: ps, q :: qs, k, s, h, t, p', a', e, hi', ha' => by
    simp only [setsOf] at h
    have shift : ∀ t', k + 1 + t' = k + (t' + 1) := fun t' => by omega
    split at h
    · rename_i a hi ha
      split at h
      · rename_i q' r h1 h2
        cases h
        cases t with
        | zero =>
          simp only [Nat.add_zero] at ha'
          rw [ha] at ha'; cases ha'
          exact ⟨q', List.mem_cons_self ..⟩
        | succ t =>
          obtain ⟨q2, hq2⟩ := setsOf_key h2 t p' a' (by simpa using e) hi' (by rwa [shift])
          exact ⟨q2, List.mem_cons_of_mem _ hq2⟩
      · cases h
    · rename_i hne
      cases t with
      | zero =>
        simp only [List.getElem?_cons_zero, Option.some.injEq] at e
        subst e
        exact absurd (by simpa using ha') (hne a' hi')
      | succ t => exact setsOf_key h t p' a' (by simpa using e) hi' (by rwa [shift])
def effOf (l : Ats) (nm : Nat) (c : Pat) (a : Alt) : Option Eff :=
  match setsOf l (nmOf l c.pre.length (a.post.length - c.pre.length) nm) 0 c.pre a.post, renOs (nmOf l c.pre.length (a.post.length - c.pre.length) nm) (a.post.drop c.pre.length), renV (nmOf l c.pre.length (a.post.length - c.pre.length) nm) a.out with
  | some s, some n, some o => some { out := o, sets := s, news := n }
  | _, _, _ => none

theorem setNew_inv {i : Nat} {q : SO} : ∀ {l : List SO} {nm : Nat} {h : SHeap}, (setNew l nm h)[i]? = some (some q) → (∃ t, i = nm + t ∧ l[t]? = some q) ∨ ((∀ t, t < l.length → i ≠ nm + t) ∧ h[i]? = some (some q))
  | [], _, _, e => .inr ⟨fun t ht => absurd ht (Nat.not_lt_zero _), e⟩
  | o :: r, nm, h, e => by
    rcases setNew_inv (l := r) e with ⟨t, h1, h2⟩ | ⟨h1, h2⟩
    · exact .inl ⟨t + 1, by omega, by simpa using h2⟩
    · by_cases hi : i = nm
      · subst hi
        have hlt : i < h.length := by simpa using given_lt h2
        rw [List.getElem?_set_self hlt] at h2
        cases h2
        exact .inl ⟨0, rfl, rfl⟩
      · rw [List.getElem?_set_ne (Ne.symm hi)] at h2
        refine .inr ⟨fun t ht => ?_, h2⟩
        cases t with
        | zero => exact hi
        | succ t => have := h1 t (by simpa using ht); omega
theorem setNew_at : ∀ {l : List SO} {nm t : Nat} {h : SHeap}, t < l.length → (∀ t, t < l.length → nm + t < h.length) → ∃ q, (setNew l nm h)[nm + t]? = some (some q)
  | [], _, t, _, ht, _ => absurd ht (Nat.not_lt_zero _)
  | o :: r, nm, t, h, ht, hh => by
    have h0 : nm < h.length := hh 0 (by simp)
    cases t with
    | zero => exact setNew_sub r (nm + 1) (h.set nm (some o)) nm o (by rw [List.getElem?_set_self h0])
    | succ t =>
      have := setNew_at (l := r) (nm := nm + 1) (t := t) (h := h.set nm (some o)) (by simpa using ht) (fun t' ht' => by have := hh (t' + 1) (by simpa using ht'); simp; omega)
      rwa [show nm + 1 + t = nm + (t + 1) from by omega] at this
theorem setAll_inv {i : Nat} {q : SO} : ∀ {l : List (Nat × SO)} {h : SHeap}, (setAll l h)[i]? = some (some q) → (i, q) ∈ l ∨ ((∀ x ∈ l, x.1 ≠ i) ∧ h[i]? = some (some q))
  | [], _, e => .inr ⟨by simp, e⟩
  | (k, o) :: r, h, e => by
    rcases setAll_inv (l := r) e with h1 | ⟨h1, h2⟩
    · exact .inl (List.mem_cons_of_mem _ h1)
    · by_cases hi : i = k
      · subst hi
        have hlt : i < h.length := by simpa using given_lt h2
        rw [List.getElem?_set_self hlt] at h2
        cases h2
        exact .inl (List.mem_cons_self ..)
      · rw [List.getElem?_set_ne (Ne.symm hi)] at h2
        refine .inr ⟨fun x hx => ?_, h2⟩
        rcases List.mem_cons.1 hx with rfl | hx
        · exact Ne.symm hi
        · exact h1 x hx

/-! ### blocks, from the caller's side to the law's -/
theorem emptyO_here {r : SO} (h : emptyO r) : ¬ r.here ⟨0, 0, 0⟩ := fun hx => by
  unfold emptyO at h
  split at h
  · exact absurd hx (Nat.lt_irrefl 0)
  · exact hx
  · exact hx
  · exact h
theorem emptyO_rep {r : SO} (h : emptyO r) (g : SHeap) (ρ : Ren) (w : World) (fz : Nat → Prop) : r.Rep g ρ w fz ⟨0, 0, 0⟩ := by
  unfold emptyO at h
  split at h
  · subst h
    exact ⟨rfl, [], [], fun h => absurd h (Nat.lt_irrefl 0), by simp [Tail.Ok], ⟨rfl, by simp⟩⟩
  · subst h
    exact ⟨fun _ => undef, fun j d h => by simp at h, fun j d h => by simp at h, fun j d h => by simp at h⟩
  · trivial
  · exact h.elim
section
variable {A : Bool} {l : Ats} {a : At} {q r : SO} {h g : SHeap} {ρ : Ren} {w : World} {fz fz1 : Nat → Prop}
theorem matO_here (hs : matO A l a q r) (hh : r.here (atB ρ (some a))) : q.here (ρ a.j) ∧ atB ρ (some a) = ρ a.j ∧ iceB r = false := by
  unfold matO at hs
  split at hs
  · exact hh.elim
  · exact hh.elim
  · exact hh.elim
  · obtain ⟨ht, _⟩ := hs.out
    simp only [Bool.and_eq_true] at ht
    exact ⟨trivial, whole_spec ht.1 ρ, rfl⟩
  · obtain ⟨ht, hm, _⟩ := hs.out
    simp only [Bool.and_eq_true] at ht
    have e := whole_spec ht.1 ρ
    subst hm
    rw [e] at hh
    refine ⟨?_, e, rfl⟩
    rename_i xs t m ys t' _
    cases m <;> exact hh
  · obtain ⟨ht, hm⟩ := hs.out
    simp only [Bool.and_eq_true] at ht
    exact ⟨trivial, whole_spec ht.1.1 ρ, rfl⟩
  · exact hh.elim
  · exact hs.elim
theorem matO_rep (hs : matO A l a q r) (ho : onlyO g r = true) (hz : ∀ b, fz b → fz1 b) (hA : A = true → q.here (ρ a.j) → iceB r = true → fz1 (ρ a.j).b) (hr : q.Rep h ρ w fz (ρ a.j)) : r.Rep g (atR l ρ) w fz1 (atB ρ (some a)) := by
  have hat : (atB ρ (some a)).b = (ρ a.j).b ∧ (atB ρ (some a)).o = (ρ a.j).o + a.off := ⟨rfl, rfl⟩
  unfold matO at hs
  split at hs
  · subst hs
    obtain ⟨vals, h1, h2, h3⟩ := hr
    refine ⟨fun j => vals (a.off + j), fun j d hj => hz _ (h1 _ d (cutD_get hj)), fun j d hj => ?_, fun j d hj => (h3 _ d (cutD_get hj)).later (fun _ _ => rfl) hz⟩
    rw [hat.1, hat.2, Nat.add_assoc]
    exact h2 _ d (cutD_get hj)
  · obtain ⟨ht, hs⟩ := hs.out
    rename_i xs t m ys hs0
    clear hs0
    subst hs
    obtain ⟨h0, vs, tail, h1, h2, h3⟩ := hr
    have here : cutD a xs ≠ [] → (SO.row xs t m).here (ρ a.j) := fun hne => by
      cases m with
      | kn n => trivial
      | hid es =>
        obtain ⟨j, d, hj⟩ : ∃ j d, (cutD a xs)[j]? = some d := by
          cases hc : cutD a xs with
          | nil => exact absurd hc hne
          | cons d r => exact ⟨0, d, rfl⟩
        have hlt := given_lt (cutD_get hj)
        have hl := h3.1
        have h2 : vs.length + tail.length = (ρ a.j).cap * es := h2
        simp only [SO.here]
        rcases Nat.eq_zero_or_pos (ρ a.j).cap with h0 | h0
        · rw [h0] at h2; simp at h2; simp [h2.1] at hl; omega
        · exact h0
    have hlen : ∀ j d, (cutD a xs)[j]? = some d → a.off + j < vs.length := fun j d hj => by rw [h3.1]; exact given_lt (cutD_get hj)
    have ne : ∀ {j : Nat} {d : D}, (cutD a xs)[j]? = some d → cutD a xs ≠ [] := fun {j d} h e => by rw [e] at h; simp at h
    refine ⟨fun j => (vs[a.off + j]?).getD undef, fun j d hj => hA ht (here (ne hj)) rfl, fun j d hj => ?_, fun j d hj => ?_⟩
    · have hlt := hlen j d hj
      have := (h1 (here (ne hj))).cell (a.off + j)
      rw [hat.1, hat.2, h0, Nat.zero_add, this, List.getElem?_append_left hlt]; simp [List.getElem?_eq_getElem hlt]
    · have hlt := hlen j d hj
      have := h3.2 _ d vs[a.off + j] (cutD_get hj) (by rw [List.getElem?_eq_getElem hlt])
      show DRep w fz1 d ((vs[a.off + j]?).getD undef)
      rw [List.getElem?_eq_getElem hlt]
      exact this.later (fun _ _ => rfl) hz
  · obtain ⟨ht, hs⟩ := hs.out
    rename_i cs t m ys hs0
    clear hs0
    simp only [Bool.and_eq_true] at ht
    split at hs
    · rename_i xs hx
      subst hs
      obtain ⟨h0, vs, tail, h1, h2, h3⟩ := hr
      have hone := flats_one ht.2 h3.here
      obtain rfl := lits_eq hx h3.here
      have hd : DsRep w fz (vs.map .v) vs := DsRep.vals _ _ _ hone
      have hlen : ∀ j d, (cutD a (vs.map .v))[j]? = some d → a.off + j < vs.length := fun j d hj => by have := given_lt (cutD_get hj); simpa using this
      refine ⟨fun j => (vs[a.off + j]?).getD undef, fun j d hj => hA ht.1 trivial rfl, fun j d hj => ?_, fun j d hj => ?_⟩
      · have hlt := hlen j d hj
        have := h1.cell (a.off + j)
        rw [hat.1, hat.2, h0, Nat.zero_add, this, List.getElem?_append_left hlt]; simp [List.getElem?_eq_getElem hlt]
      · have hlt := hlen j d hj
        have := hd.2 _ d vs[a.off + j] (cutD_get hj) (by rw [List.getElem?_eq_getElem hlt])
        show DRep w fz1 d ((vs[a.off + j]?).getD undef)
        rw [List.getElem?_eq_getElem hlt]
        exact this.later (fun _ _ => rfl) hz
    · exact hs.elim
  · obtain ⟨ht, hm, hL⟩ := hs.out
    simp only [Bool.and_eq_true] at ht
    have e := whole_spec ht.1 ρ
    have ht := Nat.eq_of_beq_eq_true ht.2
    subst ht; subst hm
    obtain ⟨h0, vs, tail, h1, h2, h3⟩ := hr
    rw [e]
    exact ⟨h0, vs, tail, h1, h2, fun ρ' ha => (onlyL_R ha ho).2 (matL_R hL h3.here)⟩
  · obtain ⟨ht, hm, hL⟩ := hs.out
    simp only [Bool.and_eq_true] at ht
    have e := whole_spec ht.1 ρ
    have ht := Nat.eq_of_beq_eq_true ht.2
    subst ht; subst hm; subst hL
    obtain ⟨h0, vs, tail, h1, h2, h3⟩ := hr
    rw [e]
    exact ⟨h0, vs, tail, h1, h2, h3.later (fun _ _ => rfl) hz⟩
  · obtain ⟨ht, hs1⟩ := hs.out
    clear hs
    simp only [Bool.and_eq_true] at ht
    obtain ⟨⟨ht0, ht⟩, hfl⟩ := ht
    have e := whole_spec ht0 ρ
    have ht := Nat.eq_of_beq_eq_true ht
    subst ht
    split at hs1
    · rename_i xs hx
      obtain ⟨hm, hL⟩ := hs1
      subst hm; subst hL
      obtain ⟨h0, vs, tail, h1, h2, h3⟩ := hr
      have hone := flats_one hfl h3.here
      obtain rfl := lits_eq hx h3.here
      rw [e]
      exact ⟨h0, vs, tail, fun _ => h1, h2, DsRep.vals _ _ _ hone⟩
    · exact hs1.elim
  · trivial
  · exact hs.elim
end
def PlainO : SO → Prop
  | .cells _ _ _ => True
  | .row xs _ _ => ∀ d ∈ xs, ∃ x, d = .v x
  | .gone => True
  | _ => False
theorem renO_rep {f : Nat → Option At} {p q : SO} {g g' : SHeap} {ρ' ρ2 : Ren} {w : World} {fz fz2 : Nat → Prop} {x : Blk} (h : renO f p = some q) (hf : ∀ ρ'', Ag g' ρ2 ρ'' → ∀ k a, f k = some a → atB ρ'' (some a) = ρ' k)
    (hz : (∀ b, fz b → fz2 b) ∨ PlainO p) (r : p.Rep g ρ' w fz x) : q.Rep g' ρ2 w fz2 x := by
  have ds : ∀ {xs : List D} {vs : List Value}, (∀ d ∈ xs, ∃ x, d = D.v x) → DsRep w fz xs vs → DsRep w fz2 xs vs := fun {xs vs} hp hd => ⟨hd.1, fun i d v h1 h2 => by
    obtain ⟨y, rfl⟩ := hp d (List.mem_of_getElem? h1)
    have := hd.2 i _ v h1 h2
    cases this with
    | v _ ho => exact .v _ ho⟩
  cases p with
  | cells cs t m =>
    simp only [renO] at h
    split at h
    · rename_i cs' hc
      cases h
      obtain ⟨h0, vs, tail, h1, h2, h3⟩ := r
      exact ⟨h0, vs, tail, h1, h2, fun ρ'' ha => renL_R (hf ρ'' ha) hc h3.here⟩
    · cases h
  | row xs t m =>
    cases h
    obtain ⟨h0, vs, tail, h1, h2, h3⟩ := r
    refine ⟨h0, vs, tail, h1, h2, ?_⟩
    rcases hz with hz | hp
    · exact h3.later (fun _ _ => rfl) hz
    · exact ds hp h3
  | ice xs =>
    cases h
    rcases hz with hz | hp
    · obtain ⟨vals, h1, h2, h3⟩ := r
      exact ⟨vals, fun j d hj => hz _ (h1 j d hj), h2, fun j d hj => (h3 j d hj).later (fun _ _ => rfl) hz⟩
    · exact hp.elim
  | gone => cases h; trivial
  | loop L => cases h
  | dfr b => cases h
end Go.Sy
