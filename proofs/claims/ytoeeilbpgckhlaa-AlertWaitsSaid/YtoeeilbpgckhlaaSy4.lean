/- A symbolic run, second making: cells that become data; stores; structs; addresses. -/
import Derived.Test.YtoeeilbpgckhlaaSy3
namespace Go.Sy
open Go

/-! ### cells that become data -/
/-- A cell as a datum: what is frozen by it, which block was looked at. -/
def conv1 (h : SHeap) (d : TypeDesc) (c : SC) : Option (D × Option (Nat × SO) × Option (Nat × SO)) :=
  match d with
  | .slice _ =>
    match c with
    | .v (.slice none 0 0) => some (.s 0 [], none, none)
    | .s k off len _ =>
      match h[k]? with
      | some (some (.ice xs)) => some (.s len (xs.drop off), none, some (k, .ice xs))
      | some (some (.row xs t m)) => some (.s len (xs.drop off), some (k, .ice xs), some (k, .row xs t m))
      | some (some (.cells cs t m)) =>
        match flats cs, lits cs with
        | true, some vs => some (.s len ((vs.map D.v).drop off), some (k, .ice (vs.map D.v)), some (k, .cells cs t m))
        | _, _ => none
      | _ => none
    | _ => none
  | _ =>
    match c.flat, c.lit with
    | true, some x => some (.v x, none, none)
    | _, _ => none
def optL {α : Type} : Option α → List α
  | some x => [x]
  | none => []
def notAt (l : List (Nat × SO)) (k : Nat) : Bool :=
  match l with
  | [] => true
  | (j, _) :: r => !(j == k) && notAt r k
def convs (h : SHeap) : List TypeDesc → List SC → Option (List D × List (Nat × SO) × List (Nat × SO))
  | [], [] => some ([], [], [])
  | d :: ds, c :: cs =>
    match conv1 h d c with
    | some (x, S1, T1) =>
      match convs (setAll (optL S1) h) ds cs with
      | some (xs, S2, T2) => some (x :: xs, optL S1 ++ S2, optL T1 ++ T2.filter fun y => notAt (optL S1) y.1)
      | none => none
    | none => none
  | _, _ => none
theorem setAll_append (a b : List (Nat × SO)) : ∀ h : SHeap, setAll (a ++ b) h = setAll b (setAll a h) := by
  induction a with
  | nil => intro h; rfl
  | cons x r ih => intro h; obtain ⟨k, o⟩ := x; simp only [List.cons_append, setAll]; exact ih _
theorem notAt_spec {l : List (Nat × SO)} {k : Nat} (h : notAt l k = true) : ∀ x ∈ l, x.1 ≠ k := by
  induction l with
  | nil => simp
  | cons x r ih =>
    obtain ⟨j, o⟩ := x
    simp only [notAt, Bool.and_eq_true, Bool.not_eq_true', beq_eq_false_iff_ne] at h
    intro y hy
    rcases List.mem_cons.1 hy with rfl | hy
    · exact h.1
    · exact ih h.2 y hy
theorem setAll_get_ne {k : Nat} : ∀ {l : List (Nat × SO)} {h : SHeap}, (∀ x ∈ l, x.1 ≠ k) → (setAll l h)[k]? = h[k]?
  | [], _, _ => rfl
  | (j, o) :: r, h, hne => by
    simp only [setAll]
    rw [setAll_get_ne fun x hx => hne x (List.mem_cons_of_mem _ hx), List.getElem?_set_ne (hne (j, o) (List.mem_cons_self ..))]

/-- What such a turning is good for. -/
def ConvOk (cs : List SC) (xs : List D) (S T : List (Nat × SO)) : Prop :=
  ∀ {C : Cfg} {g : SHeap} {ρ : Ren} {w : World} {fz : Nat → Prop} {vs : List Value}, (∀ x ∈ T, g[x.1]? = some (some x.2)) → WRepF C ρ g w fz → CRep g ρ cs vs →
    ∃ fz' : Nat → Prop, WRepF C ρ (setAll S g) w fz' ∧ (∀ b, fz b → fz' b) ∧ DsRep w fz' xs vs

theorem Lies.drop {w : World} {fz : Nat → Prop} {b o n : Nat} {xs : List D} (h : Lies w fz b o xs) : Lies w fz b (o + n) (xs.drop n) := fun j d hj => by
  rw [List.getElem?_drop] at hj
  obtain ⟨v, h1, h2⟩ := h _ d hj
  exact ⟨v, by rw [← h1, Nat.add_assoc], h2⟩
theorem drep_slice {C : Cfg} {ρ : Ren} {g : SHeap} {w : World} {fz : Nat → Prop} (_ : WRepF C ρ g w fz) {k off len : Nat} {cp : Cap} {v : Value} {xs : List D} (hv : (SC.s k off len cp).R ρ v) (hL : Lies w fz (ρ k).b ((ρ k).o + off) xs) (hz : ∀ (j : Nat) (d : D), xs[j]? = some d → fz (ρ k).b) : DRep w fz (.s len xs) v := by
  obtain ⟨a, rfl, hl, ha⟩ := hv
  refine .s a len xs (fun j => match w.cell? ⟨(ρ k).b, (ρ k).o + off + j, none⟩ with | some v => v | none => undef) ⟨(ρ k).b, (ρ k).o + off, cp.den (ρ k)⟩ hl ha hz (fun j d hj => ?_) (fun j d hj => ?_)
  · obtain ⟨u, h1, _⟩ := hL j d hj
    simp only [h1]
  · obtain ⟨u, h1, h2⟩ := hL j d hj
    simp only [h1]
    exact h2
theorem WRepF.ice_fz {C : Cfg} {ρ : Ren} {h : SHeap} {w : World} {fz : Nat → Prop} {k : Nat} {xs : List D} (r : WRepF C ρ h w fz) (e : h[k]? = some (some (.ice xs))) {j : Nat} {d : D} (hj : xs[j]? = some d) : fz (ρ k).b := by
  obtain ⟨vals, h1, _⟩ := (r.objs k _ e : SO.Rep _ _ _ _ _ _)
  exact h1 j d hj
theorem setOne_get {h : SHeap} {k : Nat} {q q' : SO} (e : h[k]? = some (some q)) : (setAll [(k, q')] h)[k]? = some (some q') := by
  simp only [setAll]
  rw [List.getElem?_set_self (given_lt e)]
theorem conv1_sound {h : SHeap} {d : TypeDesc} {c : SC} {x : D} {S1 T1 : Option (Nat × SO)} (hc : conv1 h d c = some (x, S1, T1)) :
    (∀ y ∈ optL T1, h[y.1]? = some (some y.2)) ∧ (∀ y ∈ optL S1, ∃ q, (y.1, q) ∈ optL T1) ∧ ConvOk [c] [x] (optL S1) (optL T1) := by
  have one : ∀ {w : World} {fz : Nat → Prop} {x : D} {v : Value}, DRep w fz x v → DsRep w fz [x] [v] := fun {w fz x v} hd => ⟨rfl, fun i d u h1 h2 => by
    cases i with
    | zero => simp at h1 h2; subst h1; subst h2; exact hd
    | succ i => simp at h1⟩
  have sing : ∀ {g : SHeap} {ρ : Ren} {c : SC} {vs : List Value}, CRep g ρ [c] vs → ∃ v, vs = [v] ∧ ∀ ρ', Ag g ρ ρ' → c.R ρ' v := fun {g ρ c vs} hr => by
    have hl := hr.here.length
    match vs, hl with
    | [v], _ => exact ⟨v, rfl, fun ρ' ha => (hr ρ' ha).1⟩
  have lit : ∀ {x : Value}, c.flat = true → c.lit = some x → ConvOk [c] [.v x] [] [] := fun {x} hfl hl C g ρ w fz vs _ hW hr => by
    obtain ⟨v, rfl, hv⟩ := sing hr
    have hone := (flat_cells hfl (hv ρ (Ag.refl _ _))).2
    have : v = x := by
      have := hv ρ (Ag.refl _ _)
      cases c <;> simp [SC.lit] at hl <;> subst hl <;> exact this
    subst this
    exact ⟨fz, hW, fun _ h => h, one (.v v hone)⟩
  unfold conv1 at hc
  split at hc
  · split at hc
    · cases hc
      refine ⟨by simp [optL], by simp [optL], ?_⟩
      intro C g ρ w fz vs _ hW hr
      obtain ⟨v, rfl, hv⟩ := sing hr
      have : v = .slice none 0 0 := hv ρ (Ag.refl _ _)
      subst this
      exact ⟨fz, hW, fun _ h => h, one (.s none 0 [] (fun _ => undef) ⟨0, 0, 0⟩ (Nat.le_refl _) (fun h => absurd h (Nat.lt_irrefl _)) (fun j d h => by simp at h) (fun j d h => by simp at h) (fun j d h => by simp at h))⟩
    · rename_i k off len cp
      split at hc
      · rename_i xs hk
        cases hc
        refine ⟨fun y hy => by simp [optL] at hy; subst hy; exact hk, by simp [optL], ?_⟩
        intro C g ρ w fz vs hT hW hr
        have hg := hT _ (List.mem_singleton.2 rfl)
        obtain ⟨v, rfl, hv⟩ := sing hr
        exact ⟨fz, hW, fun _ h => h, one (drep_slice hW (hv ρ (Ag.refl _ _)) (hW.lies_ice hg).drop (fun j d hj => hW.ice_fz hg (by rw [List.getElem?_drop] at hj; exact hj)))⟩
      · rename_i xs t m hk
        cases hc
        refine ⟨fun y hy => by simp [optL] at hy; subst hy; exact hk, fun y hy => by simp [optL] at hy; subst hy; exact ⟨_, by simp [optL]; rfl⟩, ?_⟩
        intro C g ρ w fz vs hT hW hr
        have hg := hT _ (List.mem_singleton.2 rfl)
        obtain ⟨v, rfl, hv⟩ := sing hr
        have hL := hW.lies_row hg
        obtain ⟨h0, us, tail, h1, h2, h3⟩ := (hW.objs k _ hg : SO.Rep _ _ _ _ _ _)
        by_cases hh : (SO.row xs t m).here (ρ k)
        · have hF := hW.freeze hg hh (vs := us) (xs := xs) (fun j u hj => by
            rw [h0, Nat.zero_add, (h1 hh).cell]
            simp [List.getElem?_append_left (given_lt hj), hj]) h3
          exact ⟨_, hF, fun _ h => .inl h, one (drep_slice hF (hv ρ (Ag.refl _ _)) ((hF.lies_ice (setOne_get hg)).drop) (fun j d hj => .inr rfl))⟩
        · have hx : xs = [] := by
            cases m with
            | kn _ => exact absurd trivial hh
            | hid es =>
              have h2 : us.length + tail.length = (ρ k).cap * es := h2
              have : (ρ k).cap = 0 := Nat.eq_zero_of_not_pos hh
              rw [this, Nat.zero_mul] at h2
              have h4 := h3.1
              exact List.eq_nil_of_length_eq_zero (by omega)
          subst hx
          have hF := hW.less hg (q' := .ice []) (fun h => h.elim) ⟨fun _ => undef, fun j d h => by simp at h, fun j d h => by simp at h, fun j d h => by simp at h⟩
          exact ⟨_, hF, fun _ h => h, one (drep_slice hF (hv ρ (Ag.refl _ _)) (fun j d h => by simp at h) (fun j d h => by simp at h))⟩
      · rename_i cs t m hk
        split at hc
        · rename_i us hfl hus
          cases hc
          refine ⟨fun y hy => by simp [optL] at hy; subst hy; exact hk, fun y hy => by simp [optL] at hy; subst hy; exact ⟨_, by simp [optL]; rfl⟩, ?_⟩
          intro C g ρ w fz vs hT hW hr
          have hg := hT _ (List.mem_singleton.2 rfl)
          obtain ⟨v, rfl, hv⟩ := sing hr
          obtain ⟨h0, vs', tail, h1, h2, h3⟩ := hW.cellsAt hg
          have hone := flats_one hfl h3.here
          obtain rfl := lits_eq hus h3.here
          have hF := hW.freeze hg trivial (vs := vs') (xs := vs'.map .v) (fun j u hj => by
            rw [h0, Nat.zero_add, h1.cell]
            simp [List.getElem?_append_left (given_lt hj), hj]) (DsRep.vals _ _ _ hone)
          exact ⟨_, hF, fun _ h => .inl h, one (drep_slice hF (hv ρ (Ag.refl _ _)) ((hF.lies_ice (setOne_get hg)).drop) (fun j d hj => .inr rfl))⟩
        · cases hc
      · cases hc
    · cases hc
  · split at hc
    · rename_i x hfl hx
      cases hc
      exact ⟨by simp [optL], by simp [optL], lit hfl hx⟩
    · cases hc

theorem convs_sound : ∀ {ds : List TypeDesc} {cs : List SC} {h : SHeap} {xs : List D} {S T : List (Nat × SO)}, convs h ds cs = some (xs, S, T) →
    (∀ y ∈ T, h[y.1]? = some (some y.2)) ∧ (∀ y ∈ S, ∃ q, (y.1, q) ∈ T) ∧ ConvOk cs xs S T
  | [], [], h, xs, S, T, hc => by
    cases hc
    refine ⟨by simp, by simp, fun {C g ρ w fz vs} _ hW hr => ⟨fz, hW, fun _ h => h, ?_⟩⟩
    have := hr.here.length
    have : vs = [] := List.eq_nil_of_length_eq_zero this
    subst this
    exact ⟨rfl, by simp⟩
  | d :: ds, c :: cs, h, xs, S, T, hc => by
    simp only [convs] at hc
    split at hc
    · rename_i x S1 T1 h1
      split at hc
      · rename_i xs' S2 T2 h2
        cases hc
        obtain ⟨a1, b1, c1⟩ := conv1_sound h1
        obtain ⟨a2, b2, c2⟩ := convs_sound h2
        refine ⟨fun y hy => ?_, fun y hy => ?_, ?_⟩
        · rcases List.mem_append.1 hy with hy | hy
          · exact a1 y hy
          · rw [List.mem_filter] at hy
            rw [← a2 y hy.1, setAll_get_ne (notAt_spec hy.2)]
        · rcases List.mem_append.1 hy with hy | hy
          · obtain ⟨q, hq⟩ := b1 y hy
            exact ⟨q, List.mem_append.2 (.inl hq)⟩
          · obtain ⟨q, hq⟩ := b2 y hy
            cases hn : notAt (optL S1) y.1 with
            | true => exact ⟨q, List.mem_append.2 (.inr (List.mem_filter.2 ⟨hq, hn⟩))⟩
            | false =>
              cases S1 with
              | none => simp [optL, notAt] at hn
              | some s =>
                obtain ⟨j, o⟩ := s
                have hj : j = y.1 := by simpa [optL, notAt] using hn
                obtain ⟨q', hq'⟩ := b1 (j, o) (by simp [optL])
                exact ⟨q', List.mem_append.2 (.inl (hj ▸ hq'))⟩
        · intro C g ρ w fz vs hT hW hr
          have hl := hr.here.length
          match vs, hl with
          | v :: vs, _ =>
            have hr1 : CRep g ρ [c] [v] := fun ρ' ha => ⟨(hr ρ' ha).1, trivial⟩
            have hr2 : CRep g ρ cs vs := fun ρ' ha => (hr ρ' ha).2
            obtain ⟨fz1, W1, z1, d1⟩ := c1 (fun y hy => hT y (List.mem_append.2 (.inl hy))) hW hr1
            have hT2 : ∀ y ∈ T2, (setAll (optL S1) g)[y.1]? = some (some y.2) := fun y hy => by
              cases hn : notAt (optL S1) y.1 with
              | true =>
                rw [setAll_get_ne (notAt_spec hn)]
                exact hT y (List.mem_append.2 (.inr (List.mem_filter.2 ⟨hy, hn⟩)))
              | false =>
                cases S1 with
                | none => simp [optL, notAt] at hn
                | some s =>
                  obtain ⟨j, o⟩ := s
                  have hj : j = y.1 := by simpa [optL, notAt] using hn
                  subst hj
                  obtain ⟨q', hq'⟩ := b1 (y.1, o) (by simp [optL])
                  have e1 := setOne_get (q' := o) (a1 _ hq')
                  have e2 := a2 y hy
                  have e3 := setOne_get (q' := o) (hT (y.1, q') (List.mem_append.2 (.inl hq')))
                  simp only [optL] at e2 ⊢
                  rw [e1] at e2
                  rw [e3, e2]
            obtain ⟨fz2, W2, z2, d2⟩ := c2 hT2 W1 (hr2.later (setAll_sub _ _) (Ag.refl _ _))
            refine ⟨fz2, by rw [setAll_append]; exact W2, fun b hb => z2 b (z1 b hb), ?_⟩
            have d1' := d1.later (fz' := fz2) (w' := w) (fun _ _ => rfl) z2
            exact d1'.append d2
      · cases hc
    · cases hc
  | [], _ :: _, _, _, _, _, hc => by simp [convs] at hc
  | _ :: _, [], _, _, _, _, hc => by simp [convs] at hc

/-! ### stores -/
/-- A list with some of its values written over. -/
def over (xs : List D) (off : Nat) : List D → List D
  | [v] => xs.set off v
  | vs => xs.take off ++ vs ++ xs.drop (off + vs.length)
theorem over_eq {xs : List D} {off : Nat} {vs : List D} (h : off + vs.length ≤ xs.length) : over xs off vs = xs.take off ++ vs ++ xs.drop (off + vs.length) := by
  unfold over
  split
  · simp only [List.length_cons, List.length_nil] at h
    rw [List.set_eq_take_append_cons_drop, if_pos (by omega)]
    simp
  · rfl
def splice (l : List SC) (off : Nat) (cs : List SC) : List SC := l.take off ++ cs ++ l.drop (off + cs.length)
theorem toList_setRow (w : World) (b : Nat) (cs : Array Value) : (w.setRow b cs).heap.size = w.heap.size ∧ (w.setRow b cs).os = w.os ∧ (w.setRow b cs).tape = w.tape ∧ (w.setRow b cs).output = w.output := by
  simp [World.setRow]
theorem WRepF.rowWrite {C : Cfg} {ρ : Ren} {h : SHeap} {w : World} {fz : Nat → Prop} {P : Program} {k : Nat} {xs : List D} {t : TypeId} {m : Tail} (r : WRepF C ρ h w fz) (e : h[k]? = some (some (.row xs t m))) {off : Nat} {ys : List D} {news : List Value}
    (hle : off + ys.length ≤ xs.length) (hd : DsRep w fz ys news) (hone : ∀ v ∈ news, v.oneCell' = true) :
    ∃ w', (storeCells ⟨(ρ k).b, (ρ k).o + off, none⟩ news 0).run P w = .ok () w' ∧ WRepF C ρ (h.set k (some (.row (over xs off ys) t m))) w' fz := by
  obtain ⟨h0, vs, tail, h1, h2, h3⟩ := (r.objs k _ e : SO.Rep _ _ _ _ _ _)
  have hvl := h3.1
  have hnl := hd.1
  rw [h0, Nat.zero_add]
  rcases Nat.eq_zero_or_pos ys.length with hy | hy
  · have hn : news = [] := List.eq_nil_of_length_eq_zero (by omega)
    have hy : ys = [] := List.eq_nil_of_length_eq_zero hy
    subst hn; subst hy
    refine ⟨w, rfl, ?_⟩
    have : over xs off [] = xs := by simp [over]
    rw [this]
    exact r.less e (fun h => h) (r.objs k _ e)
  · have hh : (SO.row xs t m).here (ρ k) := by
      cases m with
      | kn _ => trivial
      | hid es =>
        show 0 < (ρ k).cap
        have h2 : vs.length + tail.length = (ρ k).cap * es := h2
        rcases Nat.eq_zero_or_pos (ρ k).cap with h | h
        · rw [h, Nat.zero_mul] at h2; omega
        · exact h
    have hb := h1 hh
    have e1 : (vs ++ tail).take (off + 0) ++ news ++ (vs ++ tail).drop (off + 0 + news.length) = (vs.take off ++ news ++ vs.drop (off + news.length)) ++ tail := by
      simp only [Nat.add_zero]
      rw [List.take_append_of_le_length (by omega), List.drop_append_of_le_length (by omega)]
      simp
    obtain ⟨hst, hH⟩ := hb.write (P := P) news 0 (o := off) (by simp; omega) hone
    rw [e1] at hst hH
    refine ⟨_, hst, ?_⟩
    obtain ⟨z1, z2, z3, z4⟩ := toList_setRow w (ρ k).b ((vs.take off ++ news ++ vs.drop (off + news.length)) ++ tail).toArray
    have hzw : ∀ b, fz b → (w.setRow (ρ k).b ((vs.take off ++ news ++ vs.drop (off + news.length)) ++ tail).toArray).heap[b]? = w.heap[b]? := fun b hb' => setRow_other w _ b _ fun e' => r.frz k _ e hh (e' ▸ hb')
    refine r.set e hh (fun b hb' => setRow_other w _ b _ hb') z1 z2 z3 z4 ⟨h0, _, tail, fun _ => hH, ?_, ?_⟩
    · have : (vs.take off ++ news ++ vs.drop (off + news.length)).length = vs.length := by simp; omega
      rw [this]; exact h2
    · rw [over_eq hle, ← hnl]
      exact (((h3.take off).append hd).append (h3.drop (off + news.length))).later hzw (fun _ h => h)
theorem WRepF.cellsWrite {C : Cfg} {ρ : Ren} {h : SHeap} {w : World} {fz : Nat → Prop} {P : Program} {k : Nat} {l : List SC} {t : TypeId} {m : Tail} (r : WRepF C ρ h w fz) (e : h[k]? = some (some (.cells l t m))) {off : Nat} {cs : List SC} {news : List Value}
    (hle : off + cs.length ≤ l.length) (hr : CRep h ρ cs news) (hone : ∀ v ∈ news, v.oneCell' = true) :
    ∃ w', (storeCells ⟨(ρ k).b, (ρ k).o + off, none⟩ news 0).run P w = .ok () w' ∧ WRepF C ρ (h.set k (some (.cells (splice l off cs) t m))) w' fz := by
  obtain ⟨h0, vs, tail, h1, h2, h3⟩ := r.cellsAt e
  have hvl := h3.here.length
  have hnl := hr.here.length
  rw [h0, Nat.zero_add]
  have e1 : (vs ++ tail).take (off + 0) ++ news ++ (vs ++ tail).drop (off + 0 + news.length) = (vs.take off ++ news ++ vs.drop (off + news.length)) ++ tail := by
    simp only [Nat.add_zero]
    rw [List.take_append_of_le_length (by omega), List.drop_append_of_le_length (by omega)]
    simp
  obtain ⟨hst, hH⟩ := h1.write (P := P) news 0 (o := off) (by simp; omega) hone
  rw [e1] at hst hH
  refine ⟨_, hst, ?_⟩
  obtain ⟨z1, z2, z3, z4⟩ := toList_setRow w (ρ k).b ((vs.take off ++ news ++ vs.drop (off + news.length)) ++ tail).toArray
  refine r.set e trivial (fun b hb' => setRow_other w _ b _ hb') z1 z2 z3 z4 ⟨h0, _, tail, hH, ?_, fun ρ' ha => ?_⟩
  · have : (vs.take off ++ news ++ vs.drop (off + news.length)).length = vs.length := by simp; omega
    rw [this]; exact h2
  · unfold splice
    rw [hnl]
    exact (((h3 ρ' ha).take).append (hr ρ' ha)).append ((h3 ρ' ha).drop)

section
variable {P : Program} {C : Cfg} {nm : Nat} {h : SHeap} {ev : Operand → Option SV} {o : Oper} {K : KT}

def storeS (P : Program) (h : SHeap) (ev : Operand → Option SV) (t : TypeId) (a x : Operand) (K : KT) : Prop :=
  match ev a, ev x, sizeT P t with
  | some (.c (.p k off)), some v, some n =>
    match h[k]?, v.cells with
    | some (some (.cells l t0 m)), some cs =>
      Ck (decide (cs.length = n) && flats cs && decide (off + cs.length ≤ l.length)) (K [(k, .cells l t0 m)] { out := .t [], sets := [(k, .cells (splice l off cs) t0 m)] })
    | some (some (.row xs t0 m)), some cs =>
      match convs h (cellDs P 20 t) cs with
      | some (ds, S, T) =>
        Ck (decide (cs.length = n) && decide (ds.length = n) && flats cs && notAt S k) (off + n ≤ xs.length ∧ K ((k, .row xs t0 m) :: T) { out := .t [], sets := S ++ [(k, .row (over xs off ds) t0 m)] })
      | none => False
    | _, _ => False
  | _, _, _ => False
theorem storeS_sound {t : TypeId} {a x : Operand} (ho : o.op = .store t a x) (hs : storeS P h ev t a x K) : Has P C nm h ev o K := by
  unfold storeS at hs
  split at hs
  · rename_i k off v n ha hx hn
    split at hs
    · rename_i l t0 m cs hk hc
      obtain ⟨hh, hK⟩ := hs.out
      simp only [Bool.and_eq_true, decide_eq_true_eq] at hh
      obtain ⟨⟨hl, hfl⟩, hle⟩ := hh
      refine ⟨_, _, fun x hx => by simp only [List.mem_cons, List.not_mem_nil, or_false] at hx; subst hx; exact hk, ?_, hK⟩
      intro g ρ f w hT _ hW hE
      obtain ⟨fz, hW⟩ := hW
      have hg := hT _ (List.mem_singleton.2 rfl)
      have hfa : f a = .pointer (some ⟨(ρ k).b, (ρ k).o + off, none⟩) := (hE a _ ha).here
      have hr : CRep g ρ cs (f x).cells.toList := fun ρ' hag => SV.cells_R hc (hE x _ hx ρ' hag)
      obtain ⟨w', hst, hW'⟩ := hW.cellsWrite (P := P) hg hle hr (flats_one hfl hr.here)
      refine ⟨ρ, undef, w', Ag.refl _ _, .inr ⟨?_, rfl⟩, fun _ _ => ⟨[], rfl, trivial⟩, fz, hW'⟩
      have hlen := hr.here.length
      simp only [Array.length_toList] at hlen
      simp [execOp, ho, hfa, Instr.storeAt, Instr.sureAddr, storeVar, run_sizeOf hn, hlen, hl, hst]
    · rename_i xs t0 m cs hk hc
      split at hs
      · rename_i ds S T hcv
        obtain ⟨hh, hle, hK⟩ := hs.out
        simp only [Bool.and_eq_true, decide_eq_true_eq] at hh
        obtain ⟨⟨⟨hl, hdl⟩, hfl⟩, hna⟩ := hh
        obtain ⟨hT0, _, hcok⟩ := convs_sound hcv
        refine ⟨_, _, fun x hx => ?_, ?_, hK⟩
        · rcases List.mem_cons.1 hx with rfl | hx
          · exact hk
          · exact hT0 x hx
        intro g ρ f w hT _ hW hE
        obtain ⟨fz, hW⟩ := hW
        have hg := hT _ (List.mem_cons_self ..)
        have hfa : f a = .pointer (some ⟨(ρ k).b, (ρ k).o + off, none⟩) := (hE a _ ha).here
        have hr : CRep g ρ cs (f x).cells.toList := fun ρ' hag => SV.cells_R hc (hE x _ hx ρ' hag)
        obtain ⟨fz', hW', _, hd⟩ := hcok (fun y hy => hT y (List.mem_cons_of_mem _ hy)) hW hr
        have hg' : (setAll S g)[k]? = some (some (.row xs t0 m)) := by rw [setAll_get_ne (notAt_spec hna)]; exact hg
        obtain ⟨w', hst, hW2⟩ := hW'.rowWrite (P := P) (off := off) hg' (by omega) hd (flats_one hfl hr.here)
        refine ⟨ρ, undef, w', Ag.refl _ _, .inr ⟨?_, rfl⟩, fun _ _ => ⟨[], rfl, trivial⟩, fz', ?_⟩
        · have hlen := hr.here.length
          simp only [Array.length_toList] at hlen
          simp [execOp, ho, hfa, Instr.storeAt, Instr.sureAddr, storeVar, run_sizeOf hn, hlen, hl, hst]
        · simp only [Eff.app, setNew, setAll_append]
          exact hW2
      · exact hs.elim
    · exact hs.elim
  · exact hs.elim

/-! ### structs built -/
def sfill (place : Nat → Option (Nat × Nat)) (cells : List SC) : List (Nat × List SC) → Option (List SC)
  | [] => some cells
  | (i, pc) :: rest =>
    match place i with
    | none => none
    | some (off, size) =>
      match decide (pc.length = size), decide (off + pc.length ≤ cells.length) with
      | true, true => sfill place (splice cells off pc) rest
      | _, _ => none
theorem foldl_splice (off : Nat) : ∀ (vs : List Value) (k : Nat) (cells : Array Value), off + k + vs.length ≤ cells.size →
    (vs.zipIdx k).foldl (fun cs (c, j) => cs.setIfInBounds (off + j) c) cells = (cells.toList.take (off + k) ++ vs ++ cells.toList.drop (off + k + vs.length)).toArray
  | [], k, cells, _ => by simp
  | v :: vs, k, cells, hle => by
    simp only [List.zipIdx_cons, List.foldl_cons]
    rw [foldl_splice off vs (k + 1) _ (by simp at hle ⊢; omega)]
    simp only [List.length_cons] at hle
    congr 1
    have hlt : off + k < cells.toList.length := by simp; omega
    simp only [Array.toList_setIfInBounds, List.length_cons]
    rw [show off + (k + 1) = off + k + 1 from by omega, List.take_add_one, List.take_set_of_le (by omega), List.getElem?_set_self hlt,
      List.drop_set_of_lt (by omega), show off + k + 1 + vs.length = off + k + (vs.length + 1) from by omega]
    simp
/-- The parts' symbols stand for the parts. -/
def PartsR (ρ : Ren) : List (Nat × List SC) → List (Nat × Value) → Prop
  | [], [] => True
  | (i, cs) :: r, (j, v) :: s => i = j ∧ CsR ρ cs v.cells.toList ∧ PartsR ρ r s
  | _, _ => False
theorem sfill_R (ρ : Ren) (place : Nat → Option (Nat × Nat)) : ∀ (parts : List (Nat × List SC)) (cells : List SC) (r : List SC) (cv : List Value) (vs : List (Nat × Value)),
    sfill place cells parts = some r → CsR ρ cells cv → PartsR ρ parts vs → ∃ rv : List Value, Instr.fill place cv.toArray vs = some rv.toArray ∧ CsR ρ r rv
  | [], cells, r, cv, [], hs, hc, _ => by simp only [sfill, Option.some.injEq] at hs; subst hs; exact ⟨cv, rfl, hc⟩
  | (i, pc) :: rest, cells, r, cv, (j, v) :: us, hs, hc, ⟨hij, hv, hr⟩ => by
    subst hij
    simp only [sfill] at hs
    simp only [Instr.fill]
    split at hs
    · cases hs
    · rename_i off size hp
      split at hs
      · rename_i h1 h2
        simp only [decide_eq_true_eq] at h1 h2
        simp only [hp]
        have hvl := hv.length
        have hcl := hc.length
        simp only [Array.length_toList] at hvl
        rw [if_neg (by simp; omega)]
        have hf : v.cells.zipIdx.foldl (fun cs (c, j) => cs.setIfInBounds (off + j) c) cv.toArray = (cv.take off ++ v.cells.toList ++ cv.drop (off + v.cells.toList.length)).toArray := by
          rw [← Array.foldl_toList, Array.toList_zipIdx, foldl_splice off _ 0 _ (by simp; omega)]
          simp
        rw [hf]
        refine sfill_R ρ place rest _ r _ us hs ?_ hr
        unfold splice
        rw [← hv.length]
        exact ((hc.take).append hv).append (hc.drop)
      · cases hs
  | [], _, _, _, _ :: _, _, _, h => h.elim
  | _ :: _, _, _, _, [], _, _, h => h.elim

def sbuilt (P : Program) (t : TypeId) (parts : List (Nat × List SC)) : Option (List SC) :=
  match P.info? t, P.underlying t with
  | some it, some (.array _ e) =>
    match it.zero, P.info? e with
    | some z, some ie => sfill (fun i => some (i * ie.size, ie.size)) (z.cells.toList.map tag) parts
    | _, _ => none
  | some it, some (.struct fields) =>
    match it.zero, fields.toList.mapM (fun f => (P.info? f.type).map fun i => (f.offset, i.size)) with
    | some z, some places => sfill (places.toArray[·]?) (z.cells.toList.map tag) parts
    | _, _ => none
  | _, _ => none
theorem sbuilt_R {P : Program} {t : TypeId} {parts : List (Nat × List SC)} {r : List SC} (hs : sbuilt P t parts = some r) (ρ : Ren) (vs : List (Nat × Value)) (hp : PartsR ρ parts vs) :
    ∃ rv : List Value, P.built t vs = some rv.toArray ∧ CsR ρ r rv := by
  unfold sbuilt at hs
  unfold Program.built
  split at hs
  · rename_i it n e hi hu
    split at hs
    · rename_i z ie hz hie
      simp only [hi, hu, hz, hie]
      have := sfill_R ρ _ parts _ r z.cells.toList vs hs (CsR.tags _) hp
      simpa using this
    · cases hs
  · rename_i it fields hi hu
    split at hs
    · rename_i z places hz hpl
      simp only [hi, hu, hz, hpl]
      have := sfill_R ρ _ parts _ r z.cells.toList vs hs (CsR.tags _) hp
      simpa using this
    · cases hs
  · cases hs

/-- The parts' symbols. -/
def partsS (ev : Operand → Option SV) : List (Nat × Operand) → Option (List (Nat × List SC))
  | [] => some []
  | (i, x) :: r =>
    match ev x with
    | some v =>
      match v.cells, partsS ev r with
      | some cs, some l => some ((i, cs) :: l)
      | _, _ => none
    | none => none
theorem partsS_R {g : SHeap} {ρ ρ' : Ren} {f : Operand → Value} (hE : ERep g ρ ev f) (ha : Ag g ρ ρ') : ∀ {parts : List (Nat × Operand)} {l : List (Nat × List SC)}, partsS ev parts = some l →
    PartsR ρ' l (parts.map fun (i, x) => (i, f x))
  | [], l, h => by simp only [partsS, Option.some.injEq] at h; subst h; trivial
  | (i, x) :: r, l, h => by
    simp only [partsS] at h
    split at h
    · rename_i v hv
      split at h
      · rename_i cs l' hc hr
        cases h
        exact ⟨rfl, SV.cells_R hc (hE x v hv ρ' ha), partsS_R hE ha hr⟩
      · cases h
    · cases h

def buildS (P : Program) (ev : Operand → Option SV) (t : TypeId) (parts : Array (Nat × Operand)) (K : KT) : Prop :=
  match partsS ev parts.toList with
  | some l =>
    match sbuilt P t l with
    | some r => K [] { out := .a r }
    | none => False
  | none => False
theorem buildS_sound {t : TypeId} {parts : Array (Nat × Operand)} (ho : o.op = .build t parts) (hs : buildS P ev t parts K) : Has P C nm h ev o K := by
  unfold buildS at hs
  split at hs
  · rename_i l hl
    split at hs
    · rename_i r hr
      refine has_pure hs fun g ρ f w hW hE => ?_
      obtain ⟨rv, hb, _⟩ := sbuilt_R hr ρ _ (partsS_R hE (Ag.refl g ρ) hl)
      refine ⟨.agg rv.toArray, ?_, fun ρ' ha => ?_⟩
      · have := run_build w t (parts.map fun (i, x) => (i, f x)) rv.toArray (by simpa using hb)
        simp [execOp, ho, this]
      · obtain ⟨rv', hb', hr'⟩ := sbuilt_R hr ρ' _ (partsS_R hE ha hl)
        rw [hb] at hb'
        have : rv.toArray = rv'.toArray := Option.some.inj hb'
        exact ⟨rv', by rw [this], hr'⟩
    · exact hs.elim
  · exact hs.elim

/-! ### addresses -/
def fieldAddrS (P : Program) (ev : Operand → Option SV) (s : TypeId) (x : Operand) (i : Nat) (K : KT) : Prop :=
  match P.underlying s, ev x with
  | some (.struct fs), some (.c (.p k off)) =>
    match fs[i]? with
    | some fd =>
      match sizeT P fd.type with
      | some (_ + 1) => K [] { out := .c (.p k (off + fd.offset)) }
      | _ => False
    | none => False
  | _, _ => False
theorem fieldAddrS_sound {s : TypeId} {x : Operand} {i : Nat} (ho : o.op = .fieldAddr s x i) (hs : fieldAddrS P ev s x i K) : Has P C nm h ev o K := by
  unfold fieldAddrS at hs
  split at hs
  · rename_i fs k off hu hx
    split at hs
    · rename_i fd hfd
      split at hs
      · rename_i n hn
        refine has_pure hs fun g ρ f w hW hE => ⟨.pointer (some ⟨(ρ k).b, (ρ k).o + (off + fd.offset), none⟩), ?_, fun ρ' ha => ?_⟩
        · have hf : f x = .pointer (some ⟨(ρ k).b, (ρ k).o + off, none⟩) := (hE x _ hx).here
          simp [execOp, ho, Instr.fieldAt, run_underlying hu, hfd, hf, Instr.sureAddr, fieldPlace, run_sizeOf hn, addr_add_own, Nat.add_assoc]
        · have h1 : f x = .pointer (some ⟨(ρ' k).b, (ρ' k).o + off, none⟩) := (hE x _ hx) ρ' ha
          have h2 : f x = .pointer (some ⟨(ρ k).b, (ρ k).o + off, none⟩) := (hE x _ hx).here
          rw [h2] at h1
          simp only [Value.pointer.injEq, Option.some.injEq, Addr.mk.injEq, and_true] at h1
          show _ = _
          simp only [Value.pointer.injEq, Option.some.injEq, Addr.mk.injEq, and_true]
          exact ⟨h1.1, by omega⟩
      · exact hs.elim
    · exact hs.elim
  · exact hs.elim
end
end Go.Sy
