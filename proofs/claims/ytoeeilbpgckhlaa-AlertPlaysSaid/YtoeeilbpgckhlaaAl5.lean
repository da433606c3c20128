/- AlertPlays: the rule as the document's, and the loop. -/
import Derived.Test.YtoeeilbpgckhlaaAl4
import Derived.KernelRfl
namespace Go.Proofs.Ytoeeilbpgckhlaa
open Go.RowKit Go.Sx
theorem cb65 : callable Try.prog 65 = some Try.f65 := by kernel_rfl
theorem cb66 : callable Try.prog 66 = some Try.f66 := by kernel_rfl
theorem cb20 : callable Try.prog 20 = some Try.f20 := by kernel_rfl
theorem cb3 : callable Try.prog 3 = some Try.f3 := by kernel_rfl
set_option maxRecDepth 100000 in
theorem of5_raw (A : Value → Prop) (w : World) (h : (∀ (_ρ : Ren), A (Value.slice none 0 0))) : Calls Try.prog 65 #[.slice none 0 0] w fun e w' => ∃ x, e = .returned x ∧ A x ∧ Below w.heap.size w w' := by
  refine plain_calls cb65 [] true 100 (.au 5 fun _ => .lp (.au 5 fun _ => .fin)) ?_
  refine chk h ?_
  kernel_rfl
set_option maxRecDepth 100000 in
theorem of3_raw (A : Value → Prop) (w : World) (h : (∀ (_ρ : Ren), A (Value.slice none 0 0))) : Calls Try.prog 66 #[.slice none 0 0] w fun e w' => ∃ x, e = .returned x ∧ A x ∧ Below w.heap.size w w' := by
  refine plain_calls cb66 [] true 100 (.au 5 fun _ => .lp (.au 5 fun _ => .fin)) ?_
  refine chk h ?_
  kernel_rfl
def nilDom (vs : List Value) : Prop := match vs with | [.slice none 0 0] => True | _ => False
theorem nil_law {g : FuncId} (hraw : ∀ w, Calls Try.prog g #[.slice none 0 0] w fun e w' => ∃ x, e = .returned x ∧ x = .slice none 0 0 ∧ Below w.heap.size w w') (vs : List Value) (w : World) (h : nilDom vs) :
    Calls Try.prog g vs.toArray w fun e w' => ∃ x, e = .returned x ∧ x = .slice none 0 0 ∧ Below w.heap.size w w' := by
  unfold nilDom at h
  split at h
  · exact hraw w
  · exact h.elim
def of5Law : FnLaw Try.prog := ⟨65, nilDom, fun _ => .slice none 0 0, nil_law fun w => of5_raw _ w fun _ => rfl⟩
def of3Law : FnLaw Try.prog := ⟨66, nilDom, fun _ => .slice none 0 0, nil_law fun w => of3_raw _ w fun _ => rfl⟩
abbrev ruleV (f k : Int) : Value := .agg #[.string ⟨#[]⟩, .int .i64 0, .int .i64 0, .int .i64 0, .bool false, .int .i64 0, .int .i64 0, .int .i64 0, .int .i64 0, .int .i64 0, .int .i64 0, .int .i64 f, .int .i64 k, .slice none 0 0, .slice none 0 0, .slice none 0 0]
set_option maxRecDepth 100000 in
theorem ofrule_raw (A : Value → Prop) (f k : Int) (w : World) (h : (True ∧
        True ∧
          True ∧
            ∀ (_ρ : Ren),
              A
                (Value.agg
                  #[Value.string { data := #[] }, Value.int IntKind.i64 0, Value.int IntKind.i64 0, Value.int IntKind.i64 0,
                    Value.bool false, Value.int IntKind.i64 0, Value.int IntKind.i64 0, Value.int IntKind.i64 0,
                    Value.int IntKind.i64 0, Value.int IntKind.i64 0, Value.int IntKind.i64 0, Value.int IntKind.i64 f,
                    Value.int IntKind.i64 k, Value.slice none 0 0, Value.slice none 0 0, Value.slice none 0 0]))) : Calls Try.prog 20 #[ruleV f k] w fun e w' => ∃ x, e = .returned x ∧ A x ∧ Below w.heap.size w w' := by
  refine plain_calls cb20 [of5Law, of3Law] true 100 auto ?_
  refine chk h ?_
  kernel_rfl
def ruleInt (vs : List Value) (i : Nat) : Int := match vs with | [.agg r] => iAt r.toList i | _ => 0
def ruleDom (vs : List Value) : Prop := vs = [ruleV (ruleInt vs 11) (ruleInt vs 12)]
def ruleOut (vs : List Value) : Value :=
  match vs with
  | [.agg r] => ruleV (iAt r.toList 11) (iAt r.toList 12)
  | _ => undef
theorem rule_law (vs : List Value) (w : World) (h : ruleDom vs) : Calls Try.prog 20 vs.toArray w fun e w' => ∃ x, e = .returned x ∧ x = ruleOut vs ∧ Below w.heap.size w w' := by
  unfold ruleDom at h
  generalize ruleInt vs 11 = f at h
  generalize ruleInt vs 12 = k at h
  subst h
  exact ofrule_raw _ f k w ⟨trivial, trivial, trivial, fun _ => rfl⟩
def ruleLaw : FnLaw Try.prog := ⟨20, ruleDom, ruleOut, rule_law⟩
noncomputable abbrev J3 (w : World) (A : Value → Prop) : Job := plainJob Try.prog [newLaw, idleLaw, stepLaw, rstepLaw, ruleLaw, ofLaw, checkLaw, knownLaw] 3 w A
noncomputable def plays (a : Addr) (n cp : Nat) (f k : Int) (i : Nat) (t p s fd c p2 s2 fd2 c2 : Int) : St :=
  ⟨[⟨3, slots 94 [(2, .c (.v (.slice (some a) n cp))), (6, vB false), (7, .c (.p 0 0)), (8, .c (.p 1 0)), (9, .c (.p 2 0)), (10, vI t), (11, vI i)], loopTodo Try.f3 0, false⟩],
    [some (.cells (ruleC f k) 31), some (.cells [cI p, cI s, cI fd, cI c] 33), some (.cells [cI p2, cI s2, cI fd2, cI c2] 35)]⟩
set_option maxRecDepth 100000 in
theorem plays_in (A : Value → Prop) (w : World) (x y : Int) (a : Addr) (n cp : Nat)
    (h : (True ∧
        (false = true → ∀ (_ρ : Ren), A (Value.bool false)) ∧
          (false = false →
            (decide ((↑n : Int) > 100) = true → ∀ (_ρ : Ren), A (Value.bool true)) ∧
              (decide ((↑n : Int) > 100) = false →
                True ∧
                  True ∧
                    (((3 = 3 ∧ loopTodo Try.f3 0 = loopTodo Try.f3 0 ∧ false = false) ∧
                          (SV.c (SC.v (Value.slice (some a) n cp)) = SV.c (SC.v (Value.slice (some a) n cp)) ∧
                              SV.c (SC.v (Value.bool false)) = SV.c (SC.v (Value.bool false)) ∧
                                SV.c (SC.p 0 0) = SV.c (SC.p 0 0) ∧
                                  SV.c (SC.p 1 0) = SV.c (SC.p 1 0) ∧
                                    SV.c (SC.p 2 0) = SV.c (SC.p 2 0) ∧
                                      SV.c (SC.v (Value.int IntKind.i64 0)) = SV.c (SC.v (Value.int IntKind.i64 0)) ∧
                                        SV.c (SC.v (Value.int IntKind.i64 0)) = SV.c (SC.v (Value.int IntKind.i64 0)) ∧
                                          True) ∧
                            True) ∧
                        SO.cells
                              [SC.v (Value.string { data := #[] }), SC.v (Value.int IntKind.i64 0),
                                SC.v (Value.int IntKind.i64 0), SC.v (Value.int IntKind.i64 0), SC.v (Value.bool false),
                                SC.v (Value.int IntKind.i64 0), SC.v (Value.int IntKind.i64 0),
                                SC.v (Value.int IntKind.i64 0), SC.v (Value.int IntKind.i64 0),
                                SC.v (Value.int IntKind.i64 0), SC.v (Value.int IntKind.i64 0),
                                SC.v (Value.int IntKind.i64 (IntKind.i64.wrap x)),
                                SC.v (Value.int IntKind.i64 (IntKind.i64.wrap y)), SC.v (Value.slice none 0 0),
                                SC.v (Value.slice none 0 0), SC.v (Value.slice none 0 0)]
                              31 =
                            SO.cells
                              [SC.v (Value.string { data := #[] }), SC.v (Value.int IntKind.i64 0),
                                SC.v (Value.int IntKind.i64 0), SC.v (Value.int IntKind.i64 0), SC.v (Value.bool false),
                                SC.v (Value.int IntKind.i64 0), SC.v (Value.int IntKind.i64 0),
                                SC.v (Value.int IntKind.i64 0), SC.v (Value.int IntKind.i64 0),
                                SC.v (Value.int IntKind.i64 0), SC.v (Value.int IntKind.i64 0),
                                SC.v (Value.int IntKind.i64 (IntKind.i64.wrap x)),
                                SC.v (Value.int IntKind.i64 (IntKind.i64.wrap y)), SC.v (Value.slice none 0 0),
                                SC.v (Value.slice none 0 0), SC.v (Value.slice none 0 0)]
                              31 ∧
                          SO.cells
                                [SC.v (Value.int IntKind.i64 0), SC.v (Value.int IntKind.i64 (-1)),
                                  SC.v (Value.int IntKind.i64 (-1)), SC.v (Value.int IntKind.i64 (-1))]
                                33 =
                              SO.cells
                                [SC.v (Value.int IntKind.i64 0), SC.v (Value.int IntKind.i64 (-1)),
                                  SC.v (Value.int IntKind.i64 (-1)), SC.v (Value.int IntKind.i64 (-1))]
                                33 ∧
                            SO.cells
                                  [SC.v (Value.int IntKind.i64 0), SC.v (Value.int IntKind.i64 (-1)),
                                    SC.v (Value.int IntKind.i64 (-1)), SC.v (Value.int IntKind.i64 (-1))]
                                  35 =
                                SO.cells
                                  [SC.v (Value.int IntKind.i64 0), SC.v (Value.int IntKind.i64 (-1)),
                                    SC.v (Value.int IntKind.i64 (-1)), SC.v (Value.int IntKind.i64 (-1))]
                                  35 ∧
                              True) ∧
                      Run (plainJob Try.prog [newLaw, idleLaw, stepLaw, rstepLaw, ruleLaw, ofLaw, checkLaw, knownLaw] 3 w A)
                        (plays a n cp (IntKind.i64.wrap x) (IntKind.i64.wrap y) 0 0 0 (-1) (-1) (-1) 0 (-1) (-1) (-1)))))) : Calls Try.prog 3 #[.int .u16 x, .int .u16 y, .slice (some a) n cp] w fun e w' => ∃ x, e = .returned x ∧ A x ∧ Below w.heap.size w w' := by
  refine plain_calls cb3 [newLaw, idleLaw, stepLaw, rstepLaw, ruleLaw, ofLaw, checkLaw, knownLaw] false 400 (.au 40 fun _ => .lp (.cut fun s => plays a n cp (intH s 0 11) (intH s 0 12) 0 (intT s 10) (intH s 1 0) (intH s 1 1) (intH s 1 2) (intH s 1 3) (intH s 2 0) (intH s 2 1) (intH s 2 2) (intH s 2 3))) ?_
  refine chk h ?_
  kernel_rfl
set_option maxRecDepth 100000 in
theorem plays_nil_in (A : Value → Prop) (w : World) (x y : Int)
    (h : (True ∧
        (false = true → ∀ (_ρ : Ren), A (Value.bool false)) ∧
          (false = false →
            (false = true → ∀ (_ρ : Ren), A (Value.bool true)) ∧
              (false = false →
                True ∧
                  True ∧
                    (false = true → (false = true → False) ∧ (false = false → False)) ∧
                      (false = false → ∀ (_ρ : Ren), A (Value.bool true)))))) : Calls Try.prog 3 #[.int .u16 x, .int .u16 y, .slice none 0 0] w fun e w' => ∃ x, e = .returned x ∧ A x ∧ Below w.heap.size w w' := by
  refine plain_calls cb3 [newLaw, idleLaw, stepLaw, rstepLaw, ruleLaw, ofLaw, checkLaw, knownLaw] false 400 (.au 40 fun _ => .lp (.br (.sp false .fin .fin) .fin)) ?_
  refine chk h ?_
  kernel_rfl
set_option maxRecDepth 100000 in
theorem plays_body (A : Value → Prop) (w : World) (a : Addr) (n cp : Nat) (f k : Int) (i : Nat) (t p s fd c p2 s2 fd2 c2 : Int)
    (h : ((decide ((↑i : Int) < (↑n : Int)) = true →
          Ck (decide (0 ≤ (↑i : Int) ∧ (↑i : Int) < (↑n : Int)))
            (∃ a_2,
              some a = some a_2 ∧
                Ext (J3 w A).C ((a_2.add (i * 3)).add 2).block ∧
                  ∃ n_1,
                    w.cell? ((a_2.add (i * 3)).add 2) = some (Value.int IntKind.u16 n_1) ∧
                      Ck (decide (0 ≤ (↑i : Int) ∧ (↑i : Int) < (↑n : Int)))
                        (∃ a_3,
                          some a = some a_3 ∧
                            Ext (J3 w A).C ((a_3.add (i * 3)).add 0).block ∧
                              ∃ b,
                                w.cell? ((a_3.add (i * 3)).add 0) = some (Value.bool b) ∧
                                  Ck (decide (0 ≤ (↑i : Int) ∧ (↑i : Int) < (↑n : Int)))
                                    (∃ a_4,
                                      some a = some a_4 ∧
                                        Ext (J3 w A).C ((a_4.add (i * 3)).add 1).block ∧
                                          ∃ b_1,
                                            w.cell? ((a_4.add (i * 3)).add 1) = some (Value.bool b_1) ∧
                                              True ∧
                                                [Value.agg
                                                        #[Value.string { data := #[] }, Value.int IntKind.i64 0,
                                                          Value.int IntKind.i64 0, Value.int IntKind.i64 0, Value.bool false,
                                                          Value.int IntKind.i64 0, Value.int IntKind.i64 0,
                                                          Value.int IntKind.i64 0, Value.int IntKind.i64 0,
                                                          Value.int IntKind.i64 0, Value.int IntKind.i64 0,
                                                          Value.int IntKind.i64 f, Value.int IntKind.i64 k,
                                                          Value.slice none 0 0, Value.slice none 0 0, Value.slice none 0 0]] =
                                                    [Value.agg
                                                        #[Value.string { data := #[] }, Value.int IntKind.i64 0,
                                                          Value.int IntKind.i64 0, Value.int IntKind.i64 0, Value.bool false,
                                                          Value.int IntKind.i64 0, Value.int IntKind.i64 0,
                                                          Value.int IntKind.i64 0, Value.int IntKind.i64 0,
                                                          Value.int IntKind.i64 0, Value.int IntKind.i64 0,
                                                          Value.int IntKind.i64
                                                            (ruleInt
                                                              [Value.agg
                                                                  #[Value.string { data := #[] }, Value.int IntKind.i64 0,
                                                                    Value.int IntKind.i64 0, Value.int IntKind.i64 0,
                                                                    Value.bool false, Value.int IntKind.i64 0,
                                                                    Value.int IntKind.i64 0, Value.int IntKind.i64 0,
                                                                    Value.int IntKind.i64 0, Value.int IntKind.i64 0,
                                                                    Value.int IntKind.i64 0, Value.int IntKind.i64 f,
                                                                    Value.int IntKind.i64 k, Value.slice none 0 0,
                                                                    Value.slice none 0 0, Value.slice none 0 0]]
                                                              11),
                                                          Value.int IntKind.i64
                                                            (ruleInt
                                                              [Value.agg
                                                                  #[Value.string { data := #[] }, Value.int IntKind.i64 0,
                                                                    Value.int IntKind.i64 0, Value.int IntKind.i64 0,
                                                                    Value.bool false, Value.int IntKind.i64 0,
                                                                    Value.int IntKind.i64 0, Value.int IntKind.i64 0,
                                                                    Value.int IntKind.i64 0, Value.int IntKind.i64 0,
                                                                    Value.int IntKind.i64 0, Value.int IntKind.i64 f,
                                                                    Value.int IntKind.i64 k, Value.slice none 0 0,
                                                                    Value.slice none 0 0, Value.slice none 0 0]]
                                                              12),
                                                          Value.slice none 0 0, Value.slice none 0 0, Value.slice none 0 0]] ∧
                                                  Ck (decide (0 ≤ (↑i : Int) ∧ (↑i : Int) < (↑n : Int)))
                                                    (∃ a_5,
                                                      some a = some a_5 ∧
                                                        Ext (J3 w A).C ((a_5.add (i * 3)).add 0).block ∧
                                                          ∃ b_2,
                                                            w.cell? ((a_5.add (i * 3)).add 0) = some (Value.bool b_2) ∧
                                                              Ck (decide (0 ≤ (↑i : Int) ∧ (↑i : Int) < (↑n : Int)))
                                                                (∃ a_6,
                                                                  some a = some a_6 ∧
                                                                    Ext (J3 w A).C ((a_6.add (i * 3)).add 1).block ∧
                                                                      ∃ b_3,
                                                                        w.cell? ((a_6.add (i * 3)).add 1) =
                                                                            some (Value.bool b_3) ∧
                                                                          True ∧
                                                                            True ∧
                                                                              ((!((stepS f k p s fd c
                                                                                                (IntKind.i64.wrap
                                                                                                  (IntKind.i64.wrap (t + 1) +
                                                                                                    IntKind.i64.wrap n_1))
                                                                                                b b_1).fst.fst ==
                                                                                          (rstepS f k p2 s2 fd2 c2
                                                                                                (IntKind.i64.wrap
                                                                                                  (IntKind.i64.wrap (t + 1) +
                                                                                                    IntKind.i64.wrap n_1))
                                                                                                b_2 b_3).fst.fst &&
                                                                                        ((stepS f k p s fd c
                                                                                                    (IntKind.i64.wrap
                                                                                                      (IntKind.i64.wrap
                                                                                                          (t + 1) +
                                                                                                        IntKind.i64.wrap n_1))
                                                                                                    b b_1).fst.snd.fst ==
                                                                                            (rstepS f k p2 s2 fd2 c2
                                                                                                    (IntKind.i64.wrap
                                                                                                      (IntKind.i64.wrap
                                                                                                          (t + 1) +
                                                                                                        IntKind.i64.wrap n_1))
                                                                                                    b_2 b_3).fst.snd.fst &&
                                                                                          ((stepS f k p s fd c
                                                                                                        (IntKind.i64.wrap
                                                                                                          (IntKind.i64.wrap
                                                                                                              (t + 1) +
                                                                                                            IntKind.i64.wrap
                                                                                                              n_1))
                                                                                                        b
                                                                                                        b_1).fst.snd.snd.fst ==
                                                                                              (rstepS f k p2 s2 fd2 c2
                                                                                                        (IntKind.i64.wrap
                                                                                                          (IntKind.i64.wrap
                                                                                                              (t + 1) +
                                                                                                            IntKind.i64.wrap
                                                                                                              n_1))
                                                                                                        b_2
                                                                                                        b_3).fst.snd.snd.fst &&
                                                                                            ((stepS f k p s fd c
                                                                                                          (IntKind.i64.wrap
                                                                                                            (IntKind.i64.wrap
                                                                                                                (t + 1) +
                                                                                                              IntKind.i64.wrap
                                                                                                                n_1))
                                                                                                          b
                                                                                                          b_1).fst.snd.snd.snd ==
                                                                                                (rstepS f k p2 s2 fd2 c2
                                                                                                          (IntKind.i64.wrap
                                                                                                            (IntKind.i64.wrap
                                                                                                                (t + 1) +
                                                                                                              IntKind.i64.wrap
                                                                                                                n_1))
                                                                                                          b_2
                                                                                                          b_3).fst.snd.snd.snd &&
                                                                                              true))))) =
                                                                                    true →
                                                                                  ∀ (_ρ : Ren), A (Value.bool false)) ∧
                                                                                ((!((stepS f k p s fd c
                                                                                                (IntKind.i64.wrap
                                                                                                  (IntKind.i64.wrap (t + 1) +
                                                                                                    IntKind.i64.wrap n_1))
                                                                                                b b_1).fst.fst ==
                                                                                          (rstepS f k p2 s2 fd2 c2
                                                                                                (IntKind.i64.wrap
                                                                                                  (IntKind.i64.wrap (t + 1) +
                                                                                                    IntKind.i64.wrap n_1))
                                                                                                b_2 b_3).fst.fst &&
                                                                                        ((stepS f k p s fd c
                                                                                                    (IntKind.i64.wrap
                                                                                                      (IntKind.i64.wrap
                                                                                                          (t + 1) +
                                                                                                        IntKind.i64.wrap n_1))
                                                                                                    b b_1).fst.snd.fst ==
                                                                                            (rstepS f k p2 s2 fd2 c2
                                                                                                    (IntKind.i64.wrap
                                                                                                      (IntKind.i64.wrap
                                                                                                          (t + 1) +
                                                                                                        IntKind.i64.wrap n_1))
                                                                                                    b_2 b_3).fst.snd.fst &&
                                                                                          ((stepS f k p s fd c
                                                                                                        (IntKind.i64.wrap
                                                                                                          (IntKind.i64.wrap
                                                                                                              (t + 1) +
                                                                                                            IntKind.i64.wrap
                                                                                                              n_1))
                                                                                                        b
                                                                                                        b_1).fst.snd.snd.fst ==
                                                                                              (rstepS f k p2 s2 fd2 c2
                                                                                                        (IntKind.i64.wrap
                                                                                                          (IntKind.i64.wrap
                                                                                                              (t + 1) +
                                                                                                            IntKind.i64.wrap
                                                                                                              n_1))
                                                                                                        b_2
                                                                                                        b_3).fst.snd.snd.fst &&
                                                                                            ((stepS f k p s fd c
                                                                                                          (IntKind.i64.wrap
                                                                                                            (IntKind.i64.wrap
                                                                                                                (t + 1) +
                                                                                                              IntKind.i64.wrap
                                                                                                                n_1))
                                                                                                          b
                                                                                                          b_1).fst.snd.snd.snd ==
                                                                                                (rstepS f k p2 s2 fd2 c2
                                                                                                          (IntKind.i64.wrap
                                                                                                            (IntKind.i64.wrap
                                                                                                                (t + 1) +
                                                                                                              IntKind.i64.wrap
                                                                                                                n_1))
                                                                                                          b_2
                                                                                                          b_3).fst.snd.snd.snd &&
                                                                                              true))))) =
                                                                                    false →
                                                                                  (((stepS f k p s fd c
                                                                                              (IntKind.i64.wrap
                                                                                                (IntKind.i64.wrap (t + 1) +
                                                                                                  IntKind.i64.wrap n_1))
                                                                                              b b_1).snd !=
                                                                                          (rstepS f k p2 s2 fd2 c2
                                                                                              (IntKind.i64.wrap
                                                                                                (IntKind.i64.wrap (t + 1) +
                                                                                                  IntKind.i64.wrap n_1))
                                                                                              b_2 b_3).snd) =
                                                                                        true →
                                                                                      ∀ (_ρ : Ren), A (Value.bool false)) ∧
                                                                                    (((stepS f k p s fd c
                                                                                              (IntKind.i64.wrap
                                                                                                (IntKind.i64.wrap (t + 1) +
                                                                                                  IntKind.i64.wrap n_1))
                                                                                              b b_1).snd !=
                                                                                          (rstepS f k p2 s2 fd2 c2
                                                                                              (IntKind.i64.wrap
                                                                                                (IntKind.i64.wrap (t + 1) +
                                                                                                  IntKind.i64.wrap n_1))
                                                                                              b_2 b_3).snd) =
                                                                                        false →
                                                                                      True ∧
                                                                                        ((checkS
                                                                                                  (stepS f k p s fd c
                                                                                                        (IntKind.i64.wrap
                                                                                                          (IntKind.i64.wrap
                                                                                                              (t + 1) +
                                                                                                            IntKind.i64.wrap
                                                                                                              n_1))
                                                                                                        b b_1).fst.fst
                                                                                                  (stepS f k p s fd c
                                                                                                          (IntKind.i64.wrap
                                                                                                            (IntKind.i64.wrap
                                                                                                                (t + 1) +
                                                                                                              IntKind.i64.wrap
                                                                                                                n_1))
                                                                                                          b b_1).fst.snd.fst
                                                                                                  (stepS f k p s fd c
                                                                                                            (IntKind.i64.wrap
                                                                                                              (IntKind.i64.wrap
                                                                                                                  (t + 1) +
                                                                                                                IntKind.i64.wrap
                                                                                                                  n_1))
                                                                                                            b
                                                                                                            b_1).fst.snd.snd.fst
                                                                                                  (stepS f k p s fd c
                                                                                                            (IntKind.i64.wrap
                                                                                                              (IntKind.i64.wrap
                                                                                                                  (t + 1) +
                                                                                                                IntKind.i64.wrap
                                                                                                                  n_1))
                                                                                                            b
                                                                                                            b_1).fst.snd.snd.snd !=
                                                                                                0) =
                                                                                              true →
                                                                                            ∀ (_ρ : Ren),
                                                                                              A (Value.bool false)) ∧
                                                                                          ((checkS
                                                                                                  (stepS f k p s fd c
                                                                                                        (IntKind.i64.wrap
                                                                                                          (IntKind.i64.wrap
                                                                                                              (t + 1) +
                                                                                                            IntKind.i64.wrap
                                                                                                              n_1))
                                                                                                        b b_1).fst.fst
                                                                                                  (stepS f k p s fd c
                                                                                                          (IntKind.i64.wrap
                                                                                                            (IntKind.i64.wrap
                                                                                                                (t + 1) +
                                                                                                              IntKind.i64.wrap
                                                                                                                n_1))
                                                                                                          b b_1).fst.snd.fst
                                                                                                  (stepS f k p s fd c
                                                                                                            (IntKind.i64.wrap
                                                                                                              (IntKind.i64.wrap
                                                                                                                  (t + 1) +
                                                                                                                IntKind.i64.wrap
                                                                                                                  n_1))
                                                                                                            b
                                                                                                            b_1).fst.snd.snd.fst
                                                                                                  (stepS f k p s fd c
                                                                                                            (IntKind.i64.wrap
                                                                                                              (IntKind.i64.wrap
                                                                                                                  (t + 1) +
                                                                                                                IntKind.i64.wrap
                                                                                                                  n_1))
                                                                                                            b
                                                                                                            b_1).fst.snd.snd.snd !=
                                                                                                0) =
                                                                                              false →
                                                                                            (((3 = 3 ∧
                                                                                                    loopTodo Try.f3 0 =
                                                                                                        loopTodo Try.f3 0 ∧
                                                                                                      false = false) ∧
                                                                                                  (SV.c
                                                                                                          (SC.v
                                                                                                            (Value.slice
                                                                                                              (some a) n
                                                                                                              cp)) =
                                                                                                        SV.c
                                                                                                          (SC.v
                                                                                                            (Value.slice
                                                                                                              (some a) n
                                                                                                              cp)) ∧
                                                                                                      SV.c
                                                                                                            (SC.v
                                                                                                              (Value.bool
                                                                                                                false)) =
                                                                                                          SV.c
                                                                                                            (SC.v
                                                                                                              (Value.bool
                                                                                                                false)) ∧
                                                                                                        SV.c (SC.p 0 0) =
                                                                                                            SV.c (SC.p 0 0) ∧
                                                                                                          SV.c (SC.p 1 0) =
                                                                                                              SV.c
                                                                                                                (SC.p 1 0) ∧
                                                                                                            SV.c (SC.p 2 0) =
                                                                                                                SV.c
                                                                                                                  (SC.p 2 0) ∧
                                                                                                              SV.c
                                                                                                                    (SC.v
                                                                                                                      (Value.int
                                                                                                                        IntKind.i64
                                                                                                                        (IntKind.i64.wrap
                                                                                                                          (IntKind.i64.wrap
                                                                                                                              (t +
                                                                                                                                1) +
                                                                                                                            IntKind.i64.wrap
                                                                                                                              n_1)))) =
                                                                                                                  SV.c
                                                                                                                    (SC.v
                                                                                                                      (Value.int
                                                                                                                        IntKind.i64
                                                                                                                        (IntKind.i64.wrap
                                                                                                                          (IntKind.i64.wrap
                                                                                                                              (t +
                                                                                                                                1) +
                                                                                                                            IntKind.i64.wrap
                                                                                                                              n_1)))) ∧
                                                                                                                SV.c
                                                                                                                      (SC.v
                                                                                                                        (Value.int
                                                                                                                          IntKind.i64
                                                                                                                          (IntKind.i64.wrap
                                                                                                                            ((↑i :
                                                                                                                                Int) +
                                                                                                                              1)))) =
                                                                                                                    SV.c
                                                                                                                      (SC.v
                                                                                                                        (Value.int
                                                                                                                          IntKind.i64
                                                                                                                          (↑(i +
                                                                                                                                1) :
                                                                                                                            Int))) ∧
                                                                                                                  True) ∧
                                                                                                    True) ∧
                                                                                                SO.cells
                                                                                                      [SC.v
                                                                                                          (Value.string
                                                                                                            { data := #[] }),
                                                                                                        SC.v
                                                                                                          (Value.int
                                                                                                            IntKind.i64 0),
                                                                                                        SC.v
                                                                                                          (Value.int
                                                                                                            IntKind.i64 0),
                                                                                                        SC.v
                                                                                                          (Value.int
                                                                                                            IntKind.i64 0),
                                                                                                        SC.v
                                                                                                          (Value.bool false),
                                                                                                        SC.v
                                                                                                          (Value.int
                                                                                                            IntKind.i64 0),
                                                                                                        SC.v
                                                                                                          (Value.int
                                                                                                            IntKind.i64 0),
                                                                                                        SC.v
                                                                                                          (Value.int
                                                                                                            IntKind.i64 0),
                                                                                                        SC.v
                                                                                                          (Value.int
                                                                                                            IntKind.i64 0),
                                                                                                        SC.v
                                                                                                          (Value.int
                                                                                                            IntKind.i64 0),
                                                                                                        SC.v
                                                                                                          (Value.int
                                                                                                            IntKind.i64 0),
                                                                                                        SC.v
                                                                                                          (Value.int
                                                                                                            IntKind.i64 f),
                                                                                                        SC.v
                                                                                                          (Value.int
                                                                                                            IntKind.i64 k),
                                                                                                        SC.v
                                                                                                          (Value.slice none 0
                                                                                                            0),
                                                                                                        SC.v
                                                                                                          (Value.slice none 0
                                                                                                            0),
                                                                                                        SC.v
                                                                                                          (Value.slice none 0
                                                                                                            0)]
                                                                                                      31 =
                                                                                                    SO.cells
                                                                                                      [SC.v
                                                                                                          (Value.string
                                                                                                            { data := #[] }),
                                                                                                        SC.v
                                                                                                          (Value.int
                                                                                                            IntKind.i64 0),
                                                                                                        SC.v
                                                                                                          (Value.int
                                                                                                            IntKind.i64 0),
                                                                                                        SC.v
                                                                                                          (Value.int
                                                                                                            IntKind.i64 0),
                                                                                                        SC.v
                                                                                                          (Value.bool false),
                                                                                                        SC.v
                                                                                                          (Value.int
                                                                                                            IntKind.i64 0),
                                                                                                        SC.v
                                                                                                          (Value.int
                                                                                                            IntKind.i64 0),
                                                                                                        SC.v
                                                                                                          (Value.int
                                                                                                            IntKind.i64 0),
                                                                                                        SC.v
                                                                                                          (Value.int
                                                                                                            IntKind.i64 0),
                                                                                                        SC.v
                                                                                                          (Value.int
                                                                                                            IntKind.i64 0),
                                                                                                        SC.v
                                                                                                          (Value.int
                                                                                                            IntKind.i64 0),
                                                                                                        SC.v
                                                                                                          (Value.int
                                                                                                            IntKind.i64 f),
                                                                                                        SC.v
                                                                                                          (Value.int
                                                                                                            IntKind.i64 k),
                                                                                                        SC.v
                                                                                                          (Value.slice none 0
                                                                                                            0),
                                                                                                        SC.v
                                                                                                          (Value.slice none 0
                                                                                                            0),
                                                                                                        SC.v
                                                                                                          (Value.slice none 0
                                                                                                            0)]
                                                                                                      31 ∧
                                                                                                  SO.cells
                                                                                                        [SC.v
                                                                                                            (Value.int
                                                                                                              IntKind.i64
                                                                                                              (stepS f k p s
                                                                                                                    fd c
                                                                                                                    (IntKind.i64.wrap
                                                                                                                      (IntKind.i64.wrap
                                                                                                                          (t +
                                                                                                                            1) +
                                                                                                                        IntKind.i64.wrap
                                                                                                                          n_1))
                                                                                                                    b
                                                                                                                    b_1).fst.fst),
                                                                                                          SC.v
                                                                                                            (Value.int
                                                                                                              IntKind.i64
                                                                                                              (stepS f k p s
                                                                                                                      fd c
                                                                                                                      (IntKind.i64.wrap
                                                                                                                        (IntKind.i64.wrap
                                                                                                                            (t +
                                                                                                                              1) +
                                                                                                                          IntKind.i64.wrap
                                                                                                                            n_1))
                                                                                                                      b
                                                                                                                      b_1).fst.snd.fst),
                                                                                                          SC.v
                                                                                                            (Value.int
                                                                                                              IntKind.i64
                                                                                                              (stepS f k p s
                                                                                                                        fd c
                                                                                                                        (IntKind.i64.wrap
                                                                                                                          (IntKind.i64.wrap
                                                                                                                              (t +
                                                                                                                                1) +
                                                                                                                            IntKind.i64.wrap
                                                                                                                              n_1))
                                                                                                                        b
                                                                                                                        b_1).fst.snd.snd.fst),
                                                                                                          SC.v
                                                                                                            (Value.int
                                                                                                              IntKind.i64
                                                                                                              (stepS f k p s
                                                                                                                        fd c
                                                                                                                        (IntKind.i64.wrap
                                                                                                                          (IntKind.i64.wrap
                                                                                                                              (t +
                                                                                                                                1) +
                                                                                                                            IntKind.i64.wrap
                                                                                                                              n_1))
                                                                                                                        b
                                                                                                                        b_1).fst.snd.snd.snd)]
                                                                                                        33 =
                                                                                                      SO.cells
                                                                                                        [SC.v
                                                                                                            (Value.int
                                                                                                              IntKind.i64
                                                                                                              (stepS f k p s
                                                                                                                    fd c
                                                                                                                    (IntKind.i64.wrap
                                                                                                                      (IntKind.i64.wrap
                                                                                                                          (t +
                                                                                                                            1) +
                                                                                                                        IntKind.i64.wrap
                                                                                                                          n_1))
                                                                                                                    b
                                                                                                                    b_1).fst.fst),
                                                                                                          SC.v
                                                                                                            (Value.int
                                                                                                              IntKind.i64
                                                                                                              (stepS f k p s
                                                                                                                      fd c
                                                                                                                      (IntKind.i64.wrap
                                                                                                                        (IntKind.i64.wrap
                                                                                                                            (t +
                                                                                                                              1) +
                                                                                                                          IntKind.i64.wrap
                                                                                                                            n_1))
                                                                                                                      b
                                                                                                                      b_1).fst.snd.fst),
                                                                                                          SC.v
                                                                                                            (Value.int
                                                                                                              IntKind.i64
                                                                                                              (stepS f k p s
                                                                                                                        fd c
                                                                                                                        (IntKind.i64.wrap
                                                                                                                          (IntKind.i64.wrap
                                                                                                                              (t +
                                                                                                                                1) +
                                                                                                                            IntKind.i64.wrap
                                                                                                                              n_1))
                                                                                                                        b
                                                                                                                        b_1).fst.snd.snd.fst),
                                                                                                          SC.v
                                                                                                            (Value.int
                                                                                                              IntKind.i64
                                                                                                              (stepS f k p s
                                                                                                                        fd c
                                                                                                                        (IntKind.i64.wrap
                                                                                                                          (IntKind.i64.wrap
                                                                                                                              (t +
                                                                                                                                1) +
                                                                                                                            IntKind.i64.wrap
                                                                                                                              n_1))
                                                                                                                        b
                                                                                                                        b_1).fst.snd.snd.snd)]
                                                                                                        33 ∧
                                                                                                    SO.cells
                                                                                                          [SC.v
                                                                                                              (Value.int
                                                                                                                IntKind.i64
                                                                                                                (rstepS f k p2
                                                                                                                      s2 fd2
                                                                                                                      c2
                                                                                                                      (IntKind.i64.wrap
                                                                                                                        (IntKind.i64.wrap
                                                                                                                            (t +
                                                                                                                              1) +
                                                                                                                          IntKind.i64.wrap
                                                                                                                            n_1))
                                                                                                                      b_2
                                                                                                                      b_3).fst.fst),
                                                                                                            SC.v
                                                                                                              (Value.int
                                                                                                                IntKind.i64
                                                                                                                (rstepS f k p2
                                                                                                                        s2 fd2
                                                                                                                        c2
                                                                                                                        (IntKind.i64.wrap
                                                                                                                          (IntKind.i64.wrap
                                                                                                                              (t +
                                                                                                                                1) +
                                                                                                                            IntKind.i64.wrap
                                                                                                                              n_1))
                                                                                                                        b_2
                                                                                                                        b_3).fst.snd.fst),
                                                                                                            SC.v
                                                                                                              (Value.int
                                                                                                                IntKind.i64
                                                                                                                (rstepS f k p2
                                                                                                                          s2
                                                                                                                          fd2
                                                                                                                          c2
                                                                                                                          (IntKind.i64.wrap
                                                                                                                            (IntKind.i64.wrap
                                                                                                                                (t +
                                                                                                                                  1) +
                                                                                                                              IntKind.i64.wrap
                                                                                                                                n_1))
                                                                                                                          b_2
                                                                                                                          b_3).fst.snd.snd.fst),
                                                                                                            SC.v
                                                                                                              (Value.int
                                                                                                                IntKind.i64
                                                                                                                (rstepS f k p2
                                                                                                                          s2
                                                                                                                          fd2
                                                                                                                          c2
                                                                                                                          (IntKind.i64.wrap
                                                                                                                            (IntKind.i64.wrap
                                                                                                                                (t +
                                                                                                                                  1) +
                                                                                                                              IntKind.i64.wrap
                                                                                                                                n_1))
                                                                                                                          b_2
                                                                                                                          b_3).fst.snd.snd.snd)]
                                                                                                          35 =
                                                                                                        SO.cells
                                                                                                          [SC.v
                                                                                                              (Value.int
                                                                                                                IntKind.i64
                                                                                                                (rstepS f k p2
                                                                                                                      s2 fd2
                                                                                                                      c2
                                                                                                                      (IntKind.i64.wrap
                                                                                                                        (IntKind.i64.wrap
                                                                                                                            (t +
                                                                                                                              1) +
                                                                                                                          IntKind.i64.wrap
                                                                                                                            n_1))
                                                                                                                      b_2
                                                                                                                      b_3).fst.fst),
                                                                                                            SC.v
                                                                                                              (Value.int
                                                                                                                IntKind.i64
                                                                                                                (rstepS f k p2
                                                                                                                        s2 fd2
                                                                                                                        c2
                                                                                                                        (IntKind.i64.wrap
                                                                                                                          (IntKind.i64.wrap
                                                                                                                              (t +
                                                                                                                                1) +
                                                                                                                            IntKind.i64.wrap
                                                                                                                              n_1))
                                                                                                                        b_2
                                                                                                                        b_3).fst.snd.fst),
                                                                                                            SC.v
                                                                                                              (Value.int
                                                                                                                IntKind.i64
                                                                                                                (rstepS f k p2
                                                                                                                          s2
                                                                                                                          fd2
                                                                                                                          c2
                                                                                                                          (IntKind.i64.wrap
                                                                                                                            (IntKind.i64.wrap
                                                                                                                                (t +
                                                                                                                                  1) +
                                                                                                                              IntKind.i64.wrap
                                                                                                                                n_1))
                                                                                                                          b_2
                                                                                                                          b_3).fst.snd.snd.fst),
                                                                                                            SC.v
                                                                                                              (Value.int
                                                                                                                IntKind.i64
                                                                                                                (rstepS f k p2
                                                                                                                          s2
                                                                                                                          fd2
                                                                                                                          c2
                                                                                                                          (IntKind.i64.wrap
                                                                                                                            (IntKind.i64.wrap
                                                                                                                                (t +
                                                                                                                                  1) +
                                                                                                                              IntKind.i64.wrap
                                                                                                                                n_1))
                                                                                                                          b_2
                                                                                                                          b_3).fst.snd.snd.snd)]
                                                                                                          35 ∧
                                                                                                      True) ∧
                                                                                              Run (J3 w A)
                                                                                                (plays a n cp f k (i + 1)
                                                                                                  (IntKind.i64.wrap
                                                                                                    (IntKind.i64.wrap
                                                                                                        (t + 1) +
                                                                                                      IntKind.i64.wrap n_1))
                                                                                                  (stepS f k p s fd c
                                                                                                        (IntKind.i64.wrap
                                                                                                          (IntKind.i64.wrap
                                                                                                              (t + 1) +
                                                                                                            IntKind.i64.wrap
                                                                                                              n_1))
                                                                                                        b b_1).fst.fst
                                                                                                  (stepS f k p s fd c
                                                                                                          (IntKind.i64.wrap
                                                                                                            (IntKind.i64.wrap
                                                                                                                (t + 1) +
                                                                                                              IntKind.i64.wrap
                                                                                                                n_1))
                                                                                                          b b_1).fst.snd.fst
                                                                                                  (stepS f k p s fd c
                                                                                                            (IntKind.i64.wrap
                                                                                                              (IntKind.i64.wrap
                                                                                                                  (t + 1) +
                                                                                                                IntKind.i64.wrap
                                                                                                                  n_1))
                                                                                                            b
                                                                                                            b_1).fst.snd.snd.fst
                                                                                                  (stepS f k p s fd c
                                                                                                            (IntKind.i64.wrap
                                                                                                              (IntKind.i64.wrap
                                                                                                                  (t + 1) +
                                                                                                                IntKind.i64.wrap
                                                                                                                  n_1))
                                                                                                            b
                                                                                                            b_1).fst.snd.snd.snd
                                                                                                  (rstepS f k p2 s2 fd2 c2
                                                                                                        (IntKind.i64.wrap
                                                                                                          (IntKind.i64.wrap
                                                                                                              (t + 1) +
                                                                                                            IntKind.i64.wrap
                                                                                                              n_1))
                                                                                                        b_2 b_3).fst.fst
                                                                                                  (rstepS f k p2 s2 fd2 c2
                                                                                                          (IntKind.i64.wrap
                                                                                                            (IntKind.i64.wrap
                                                                                                                (t + 1) +
                                                                                                              IntKind.i64.wrap
                                                                                                                n_1))
                                                                                                          b_2 b_3).fst.snd.fst
                                                                                                  (rstepS f k p2 s2 fd2 c2
                                                                                                            (IntKind.i64.wrap
                                                                                                              (IntKind.i64.wrap
                                                                                                                  (t + 1) +
                                                                                                                IntKind.i64.wrap
                                                                                                                  n_1))
                                                                                                            b_2
                                                                                                            b_3).fst.snd.snd.fst
                                                                                                  (rstepS f k p2 s2 fd2 c2
                                                                                                            (IntKind.i64.wrap
                                                                                                              (IntKind.i64.wrap
                                                                                                                  (t + 1) +
                                                                                                                IntKind.i64.wrap
                                                                                                                  n_1))
                                                                                                            b_2
                                                                                                            b_3).fst.snd.snd.snd)))))))))) ∧
        (decide ((↑i : Int) < (↑n : Int)) = false → ∀ (_ρ : Ren), A (Value.bool true)))) : Run (J3 w A) (plays a n cp f k i t p s fd c p2 s2 fd2 c2) := by
  refine run_chk false 400 (.au 40 fun _ => .lp (.cut fun z => plays a n cp f k (i + 1) (intT z 10) (intH z 1 0) (intH z 1 1) (intH z 1 2) (intH z 1 3) (intH z 2 0) (intH z 2 1) (intH z 2 2) (intH z 2 3))) ?_
  refine chk h ?_
  kernel_rfl
end Go.Proofs.Ytoeeilbpgckhlaa
