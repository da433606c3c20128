/- The same laws, as functions of the numbers; and that 'known' answers true. -/
import Derived.Test.YtoeeilbpgckhlaaBl1
import Derived.KernelRfl
namespace Go.Proofs.Ytoeeilbpgckhlaa
open Go.RowKit Go.Sy
theorem wrap_sub_self (t : Int) : IntKind.i64.wrap (t - t) = 0 := by
  rw [Int.sub_self]; rfl
/-- What a step answers: the state behind it, and what happened. -/
def stepS (f k p s fi c t : Int) (ra cl : Bool) : (Int × Int × Int × Int) × Int :=
  if p = 0 then
    if ra = false then ((p, s, fi, c), 0)
    else if 0 ≥ f then ((2, t, t, -1), 1) else ((1, t, -1, -1), 0)
  else if p = 1 then
    if cl = true ∧ ra = false then ((0, -1, -1, -1), 0)
    else if IntKind.i64.wrap (t - s) ≥ f then ((2, s, t, -1), 1) else ((p, s, fi, c), 0)
  else if cl = false then ((p, s, fi, -1), 0)
  else if c = -1 then (if 0 ≥ k then ((0, -1, -1, -1), 2) else ((p, s, fi, t), 0))
  else if IntKind.i64.wrap (t - c) ≥ k then ((0, -1, -1, -1), 2)
  else ((p, s, fi, c), 0)
def stV (x : Int × Int × Int × Int) : Value := st x.1 x.2.1 x.2.2.1 x.2.2.2
def stepV (x : (Int × Int × Int × Int) × Int) : Value := .tuple #[stV x.1, .int .i64 x.2]
/-- The reference's step. -/
def rstepS (f k p s fi c t : Int) (ra cl : Bool) : (Int × Int × Int × Int) × Int :=
  if p = 0 then
    if ra = false then ((p, s, fi, c), 0)
    else if cl = true ∧ ra = false then ((0, -1, -1, -1), 0)
    else if 0 ≥ f then ((2, t, t, -1), 1) else ((1, t, -1, -1), 0)
  else if p = 1 then
    if cl = true ∧ ra = false then ((0, -1, -1, -1), 0)
    else if IntKind.i64.wrap (t - s) ≥ f then ((2, s, t, -1), 1) else ((p, s, fi, c), 0)
  else if cl = false then ((p, s, fi, -1), 0)
  else if c < 0 then (if 0 ≥ k then ((0, -1, -1, -1), 2) else ((p, s, fi, t), 0))
  else if IntKind.i64.wrap (t - c) ≥ k then ((0, -1, -1, -1), 2)
  else ((p, s, fi, c), 0)
def iAt (l : List Value) (i : Nat) : Int := match l[i]? with | some (.int _ n) => n | _ => 0
def okInt (l : List Value) (i : Nat) : Bool := match l[i]? with | some (.int .i64 _) => true | _ => false
theorem okInt_spec {l : List Value} {i : Nat} (h : okInt l i = true) : l[i]? = some (.int .i64 (iAt l i)) := by
  unfold okInt at h
  unfold iAt
  split at h
  · rename_i n e; simp [e]
  · cases h
def isSt (l : List Value) : Bool := l.length == 4 && (okInt l 0 && (okInt l 1 && (okInt l 2 && okInt l 3)))
theorem isSt_spec {a : Array Value} (h : isSt a.toList = true) : Value.agg a = st (iAt a.toList 0) (iAt a.toList 1) (iAt a.toList 2) (iAt a.toList 3) := by
  simp only [isSt, Bool.and_eq_true, beq_iff_eq] at h
  obtain ⟨hl, h0, h1, h2, h3⟩ := h
  have e0 := okInt_spec h0
  have e1 := okInt_spec h1
  have e2 := okInt_spec h2
  have e3 := okInt_spec h3
  obtain ⟨l⟩ := a
  dsimp only at *
  generalize iAt l 0 = x0 at *
  generalize iAt l 1 = x1 at *
  generalize iAt l 2 = x2 at *
  generalize iAt l 3 = x3 at *
  match l, hl with
  | [a, b, c, d], _ =>
    simp only [List.getElem?_cons_zero, List.getElem?_cons_succ, Option.some.injEq] at e0 e1 e2 e3
    subst e0; subst e1; subst e2; subst e3; rfl
def isRule (n : Nat) (l : List Value) : Bool := l.length == n && (okInt l 11 && okInt l 12)
def stepDom (n : Nat) (vs : List Value) : Prop :=
  match vs with
  | [.agg r, .agg s, .bool _, .bool _, .int .i64 _] => (match isRule n r.toList && isSt s.toList with | true => True | false => False)
  | _ => False
def stepOut (F : Int → Int → Int → Int → Int → Int → Int → Bool → Bool → (Int × Int × Int × Int) × Int) (vs : List Value) : Value :=
  match vs with
  | [.agg r, .agg s, .bool ra, .bool cl, .int .i64 t] => stepV (F (iAt r.toList 11) (iAt r.toList 12) (iAt s.toList 0) (iAt s.toList 1) (iAt s.toList 2) (iAt s.toList 3) t ra cl)
  | _ => undef
theorem step_law (vs : List Value) (w : World) (h : stepDom 16 vs) : Calls Try.prog 18 vs.toArray w fun e w' => ∃ x, e = .returned x ∧ x = stepOut stepS vs ∧ Below w.heap.size w w' := by
  unfold stepDom at h
  split at h
  · rename_i r s ra cl t
    split at h
    · rename_i hb
      simp only [Bool.and_eq_true] at hb
      obtain ⟨hr, hs⟩ := hb
      simp only [stepOut]
      rw [isSt_spec hs]
      simp only [isRule, Bool.and_eq_true, beq_iff_eq] at hr
      obtain ⟨hl, h11, h12⟩ := hr
      have e11 := okInt_spec h11
      have e12 := okInt_spec h12
      obtain ⟨l⟩ := r
      dsimp only at *
      generalize iAt l 11 = f at *
      generalize iAt l 12 = k at *
      generalize iAt s.toList 0 = p at *
      generalize iAt s.toList 1 = si at *
      generalize iAt s.toList 2 = fi at *
      generalize iAt s.toList 3 = c at *
      match l, hl with
      | [r0, r1, r2, r3, r4, r5, r6, r7, r8, r9, r10, x11, x12, r13, r14, r15], _ =>
        simp only [List.getElem?_cons_zero, List.getElem?_cons_succ, Option.some.injEq] at e11 e12
        subst e11; subst e12
        refine step_raw _ r0 r1 r2 r3 r4 r5 r6 r7 r8 r9 r10 r13 r14 r15 f k p si fi c t ra cl w ?_
        simp only [wrap_sub_self]
        unfold stepS stepV stV
        repeat' (first | apply And.intro | intro _)
        all_goals first | (simp_all; done) | (simp_all; omega) | (simp_all; rw [if_neg (by omega)]; simp; done) | (simp_all; rw [if_neg (by omega)]; rw [if_neg (by omega)]; simp; done) | (simp_all; rw [if_neg (by omega)]; rw [if_pos (by omega)]; simp; done)
    · exact h.elim
  · exact h.elim
theorem rstep_law (vs : List Value) (w : World) (h : stepDom 16 vs) : Calls Try.prog 19 vs.toArray w fun e w' => ∃ x, e = .returned x ∧ x = stepOut rstepS vs ∧ Below w.heap.size w w' := by
  unfold stepDom at h
  split at h
  · rename_i r s ra cl t
    split at h
    · rename_i hb
      simp only [Bool.and_eq_true] at hb
      obtain ⟨hr, hs⟩ := hb
      simp only [stepOut]
      rw [isSt_spec hs]
      simp only [isRule, Bool.and_eq_true, beq_iff_eq] at hr
      obtain ⟨hl, h11, h12⟩ := hr
      have e11 := okInt_spec h11
      have e12 := okInt_spec h12
      obtain ⟨l⟩ := r
      dsimp only at *
      generalize iAt l 11 = f at *
      generalize iAt l 12 = k at *
      generalize iAt s.toList 0 = p at *
      generalize iAt s.toList 1 = si at *
      generalize iAt s.toList 2 = fi at *
      generalize iAt s.toList 3 = c at *
      match l, hl with
      | [r0, r1, r2, r3, r4, r5, r6, r7, r8, r9, r10, x11, x12, r13, r14, r15], _ =>
        simp only [List.getElem?_cons_zero, List.getElem?_cons_succ, Option.some.injEq] at e11 e12
        subst e11; subst e12
        refine rstep_raw _ r0 r1 r2 r3 r4 r5 r6 r7 r8 r9 r10 r13 r14 r15 f k p si fi c t ra cl w ?_
        simp only [wrap_sub_self]
        unfold rstepS stepV stV
        repeat' (first | apply And.intro | intro _)
        all_goals first | (simp_all; done) | (simp_all; omega) | (simp_all; rw [if_neg (by omega)]; simp; done) | (simp_all; rw [if_neg (by omega)]; rw [if_neg (by omega)]; simp; done) | (simp_all; rw [if_neg (by omega)]; rw [if_pos (by omega)]; simp; done)
    · exact h.elim
  · exact h.elim
def stepLaw : FnLaw Try.prog := ⟨18, stepDom 16, stepOut stepS, step_law⟩
def rstepLaw : FnLaw Try.prog := ⟨19, stepDom 16, stepOut rstepS, rstep_law⟩
def stDom (vs : List Value) : Prop :=
  match vs with
  | [.agg s] => (match isSt s.toList with | true => True | false => False)
  | _ => False
def stOut (F : Int → Int → Int → Int → Value) (vs : List Value) : Value :=
  match vs with
  | [.agg s] => F (iAt s.toList 0) (iAt s.toList 1) (iAt s.toList 2) (iAt s.toList 3)
  | _ => undef
theorem st_law {g : FuncId} {F : Int → Int → Int → Int → Value} (hraw : ∀ p s fi c w, Calls Try.prog g #[st p s fi c] w fun e w' => ∃ x, e = .returned x ∧ x = F p s fi c ∧ Below w.heap.size w w') (vs : List Value) (w : World) (h : stDom vs) :
    Calls Try.prog g vs.toArray w fun e w' => ∃ x, e = .returned x ∧ x = stOut F vs ∧ Below w.heap.size w w' := by
  unfold stDom at h
  split at h
  · rename_i s
    split at h
    · rename_i hs
      simp only [stOut]
      rw [isSt_spec hs]
      exact hraw _ _ _ _ w
    · exact h.elim
  · exact h.elim
def ofLaw : FnLaw Try.prog := ⟨21, stDom, stOut st, st_law fun p s fi c w => of_raw _ p s fi c w rfl⟩
def checkS (p s fi c : Int) : Int :=
  if p = 0 then (if s = -1 ∧ fi = -1 ∧ c = -1 then 0 else 1)
  else if p = 1 then (if s ≥ 0 ∧ fi = -1 ∧ c = -1 then 0 else 1)
  else if p = 2 then (if s ≥ 0 ∧ fi ≥ s ∧ c ≥ -1 then 0 else 1)
  else 1
theorem check_law (p s fi c : Int) (w : World) : Calls Try.prog 22 #[st p s fi c] w fun e w' => ∃ x, e = .returned x ∧ x = .int .i64 (checkS p s fi c) ∧ Below w.heap.size w w' := by
  refine check_raw _ p s fi c w ?_
  unfold checkS
  repeat' (first | apply And.intro | intro _)
  all_goals simp_all
  all_goals omega
theorem rcheck_law (p s fi c : Int) (w : World) : Calls Try.prog 23 #[st p s fi c] w fun e w' => ∃ x, e = .returned x ∧ x = .int .i64 (checkS p s fi c) ∧ Below w.heap.size w w' := by
  refine rcheck_raw _ p s fi c w ?_
  unfold checkS
  repeat' (first | apply And.intro | intro _)
  all_goals simp_all
  all_goals omega
def checkLaw : FnLaw Try.prog := ⟨22, stDom, stOut fun p s fi c => .int .i64 (checkS p s fi c), st_law check_law⟩
def rcheckLaw : FnLaw Try.prog := ⟨23, stDom, stOut fun p s fi c => .int .i64 (checkS p s fi c), st_law rcheck_law⟩
theorem cb15 : callable Try.prog 15 = some Try.f15 := by kernel_rfl
set_option maxRecDepth 100000 in
theorem known_raw (A : Value → Prop) (w : World) (h : (True ∧ True ∧ True ∧ True ∧ True ∧ True ∧ True ∧ True ∧ A (Value.bool true))) : Calls Try.prog 15 #[] w fun e w' => ∃ x, e = .returned x ∧ A x ∧ Below w.heap.size w w' := by
  refine plain_calls cb15 [newLaw.law, stepLaw.law, checkLaw.law] true [] 400 ?_
  refine chk h ?_
  kernel_rfl
end Go.Proofs.Ytoeeilbpgckhlaa
