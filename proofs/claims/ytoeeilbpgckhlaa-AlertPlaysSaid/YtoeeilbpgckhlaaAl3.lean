/- AlertTurns: the loop. -/
import Derived.Test.YtoeeilbpgckhlaaAl2
import Derived.KernelRfl
namespace Go.Proofs.Ytoeeilbpgckhlaa
open Go.RowKit Go.Sx
theorem cb6 : callable Try.prog 6 = some Try.f6 := by kernel_rfl
def knownLaw : FnLaw Try.prog := ⟨15, fun vs => match vs with | [] => True | _ => False, fun _ => .bool true, fun vs w h => by cases vs with | nil => exact known_raw _ w (by simp) | cons _ _ => exact h.elim⟩
noncomputable abbrev J6 (w : World) (A : Value → Prop) : Job := plainJob Try.prog [newLaw, stepLaw, knownLaw] 6 w A
abbrev vI (n : Int) : SV := .c (.v (.int .i64 n))
abbrev vB (b : Bool) : SV := .c (.v (.bool b))
abbrev cI (n : Int) : SC := .v (.int .i64 n)
def ruleC (f k : Int) : List SC := [.v (.string ⟨#[]⟩), cI 0, cI 0, cI 0, .v (.bool false), cI 0, cI 0, cI 0, cI 0, cI 0, cI 0, cI f, cI k, .v (.slice none 0 0), .v (.slice none 0 0), .v (.slice none 0 0)]
noncomputable def turns (a : Addr) (n cp : Nat) (f k : Int) (i : Nat) (fi : Bool) (t p s fd c : Int) : St :=
  ⟨[⟨6, slots 82 [(2, .c (.v (.slice (some a) n cp))), (6, vB false), (7, .c (.p 0 0)), (8, .c (.p 1 0)), (9, vB fi), (10, vI t), (11, vI i)], loopTodo Try.f6 0, false⟩],
    [some (.cells (ruleC f k) 31), some (.cells [cI p, cI s, cI fd, cI c] 33)]⟩
set_option maxRecDepth 100000 in
theorem turns_in (A : Value → Prop) (w : World) (x y : Int) (a : Addr) (n cp : Nat)
    (h : (True ∧
        (false = true → ∀ (_ρ : Ren), A (Value.bool false)) ∧
          (false = false →
            (decide ((↑n : Int) > 100) = true → ∀ (_ρ : Ren), A (Value.bool true)) ∧
              (decide ((↑n : Int) > 100) = false →
                True ∧
                  (((6 = 6 ∧ loopTodo Try.f6 0 = loopTodo Try.f6 0 ∧ false = false) ∧
                        (SV.c (SC.v (Value.slice (some a) n cp)) = SV.c (SC.v (Value.slice (some a) n cp)) ∧
                            SV.c (SC.v (Value.bool false)) = SV.c (SC.v (Value.bool false)) ∧
                              SV.c (SC.p 0 0) = SV.c (SC.p 0 0) ∧
                                SV.c (SC.p 1 0) = SV.c (SC.p 1 0) ∧
                                  SV.c (SC.v (Value.bool false)) = SV.c (SC.v (Value.bool false)) ∧
                                    SV.c (SC.v (Value.int IntKind.i64 0)) = SV.c (SC.v (Value.int IntKind.i64 0)) ∧
                                      SV.c (SC.v (Value.int IntKind.i64 0)) = SV.c (SC.v (Value.int IntKind.i64 0)) ∧ True) ∧
                          True) ∧
                      SO.cells
                            [SC.v (Value.string { data := #[] }), SC.v (Value.int IntKind.i64 0),
                              SC.v (Value.int IntKind.i64 0), SC.v (Value.int IntKind.i64 0), SC.v (Value.bool false),
                              SC.v (Value.int IntKind.i64 0), SC.v (Value.int IntKind.i64 0), SC.v (Value.int IntKind.i64 0),
                              SC.v (Value.int IntKind.i64 0), SC.v (Value.int IntKind.i64 0), SC.v (Value.int IntKind.i64 0),
                              SC.v (Value.int IntKind.i64 (IntKind.i64.wrap x)),
                              SC.v (Value.int IntKind.i64 (IntKind.i64.wrap y)), SC.v (Value.slice none 0 0),
                              SC.v (Value.slice none 0 0), SC.v (Value.slice none 0 0)]
                            31 =
                          SO.cells
                            [SC.v (Value.string { data := #[] }), SC.v (Value.int IntKind.i64 0),
                              SC.v (Value.int IntKind.i64 0), SC.v (Value.int IntKind.i64 0), SC.v (Value.bool false),
                              SC.v (Value.int IntKind.i64 0), SC.v (Value.int IntKind.i64 0), SC.v (Value.int IntKind.i64 0),
                              SC.v (Value.int IntKind.i64 0), SC.v (Value.int IntKind.i64 0), SC.v (Value.int IntKind.i64 0),
                              SC.v (Value.int IntKind.i64 (IntKind.i64.wrap x)),
                              SC.v (Value.int IntKind.i64 (IntKind.i64.wrap y)), SC.v (Value.slice none 0 0),
                              SC.v (Value.slice none 0 0), SC.v (Value.slice none 0 0)]
                            31 ∧
                        SO.cells
                              [SC.v (Value.int IntKind.i64 0), SC.v (Value.int IntKind.i64 (-1)),
                                SC.v (Value.int IntKind.i64 (-1)), SC.v (Value.int IntKind.i64 (-1))]
                              33 =
                            SO.cells
                              [SC.v (Value.int IntKind.i64 0), SC.v (Value.int IntKind.i64 (-1)),
                                SC.v (Value.int IntKind.i64 (-1)), SC.v (Value.int IntKind.i64 (-1))]
                              33 ∧
                          True) ∧
                    Run (plainJob Try.prog [newLaw, stepLaw, knownLaw] 6 w A)
                      (turns a n cp (IntKind.i64.wrap x) (IntKind.i64.wrap y) 0 false 0 0 (-1) (-1) (-1)))))) : Calls Try.prog 6 #[.int .u16 x, .int .u16 y, .slice (some a) n cp] w fun e w' => ∃ x, e = .returned x ∧ A x ∧ Below w.heap.size w w' := by
  refine plain_calls cb6 [newLaw, stepLaw, knownLaw] false 400 (.au 40 fun _ => .lp (.cut fun s => turns a n cp (intH s 0 11) (intH s 0 12) 0 (boolT s 9) (intT s 10) (intH s 1 0) (intH s 1 1) (intH s 1 2) (intH s 1 3))) ?_
  refine chk h ?_
  kernel_rfl
set_option maxRecDepth 100000 in
theorem turns_nil_in (A : Value → Prop) (w : World) (x y : Int)
    (h : (True ∧
        (false = true → ∀ (_ρ : Ren), A (Value.bool false)) ∧
          (false = false →
            (false = true → ∀ (_ρ : Ren), A (Value.bool true)) ∧
              (false = false →
                True ∧
                  (false = true → (false = true → False) ∧ (false = false → False)) ∧
                    (false = false → ∀ (_ρ : Ren), A (Value.bool true)))))) : Calls Try.prog 6 #[.int .u16 x, .int .u16 y, .slice none 0 0] w fun e w' => ∃ x, e = .returned x ∧ A x ∧ Below w.heap.size w w' := by
  refine plain_calls cb6 [newLaw, stepLaw, knownLaw] false 400 (.au 40 fun _ => .lp (.br (.sp false .fin .fin) .fin)) ?_
  refine chk h ?_
  kernel_rfl
theorem step_inv {f k p s fd c t : Int} {ra cl : Bool} {x : (Int × Int × Int × Int) × Int} (hx : stepS f k p s fd c t ra cl = x) (hp : p = 0 ∨ p = 1 ∨ p = 2) :
    (x.2 = 1 → x.1.2.2.1 = t ∧ x.1.1 = 2 ∧ p ≠ 2) ∧ (x.2 = 2 → x.1 = (0, -1, -1, -1) ∧ p = 2) ∧ (x.2 ≠ 1 → x.2 ≠ 2 → (x.1.1 = 2 ↔ p = 2)) ∧ (x.1.1 = 0 ∨ x.1.1 = 1 ∨ x.1.1 = 2) := by
  subst hx
  unfold stepS
  repeat' split
  all_goals simp_all
  all_goals omega
set_option maxRecDepth 100000 in
theorem turns_body (A : Value → Prop) (w : World) (a : Addr) (n cp : Nat) (f k : Int) (i : Nat) (fi : Bool) (t p s fd c : Int)
    (h : ((decide ((↑i : Int) < (↑n : Int)) = true →
          Ck (decide (0 ≤ (↑i : Int) ∧ (↑i : Int) < (↑n : Int)))
            (∃ a_2,
              some a = some a_2 ∧
                Ext (J6 w A).C ((a_2.add (i * 3)).add 2).block ∧
                  ∃ n_1,
                    w.cell? ((a_2.add (i * 3)).add 2) = some (Value.int IntKind.u16 n_1) ∧
                      Ck (decide (0 ≤ (↑i : Int) ∧ (↑i : Int) < (↑n : Int)))
                        (∃ a_3,
                          some a = some a_3 ∧
                            Ext (J6 w A).C ((a_3.add (i * 3)).add 0).block ∧
                              ∃ b,
                                w.cell? ((a_3.add (i * 3)).add 0) = some (Value.bool b) ∧
                                  Ck (decide (0 ≤ (↑i : Int) ∧ (↑i : Int) < (↑n : Int)))
                                    (∃ a_4,
                                      some a = some a_4 ∧
                                        Ext (J6 w A).C ((a_4.add (i * 3)).add 1).block ∧
                                          ∃ b_1,
                                            w.cell? ((a_4.add (i * 3)).add 1) = some (Value.bool b_1) ∧
                                              True ∧
                                                (((stepS f k p s fd c
                                                            (IntKind.i64.wrap
                                                              (IntKind.i64.wrap (t + 1) + IntKind.i64.wrap n_1))
                                                            b b_1).snd ==
                                                        1) =
                                                      true →
                                                    (fi = false →
                                                        (((stepS f k p s fd c
                                                                          (IntKind.i64.wrap
                                                                            (IntKind.i64.wrap (t + 1) + IntKind.i64.wrap n_1))
                                                                          b b_1).fst.snd.snd.fst !=
                                                                IntKind.i64.wrap
                                                                  (IntKind.i64.wrap (t + 1) + IntKind.i64.wrap n_1)) =
                                                              true →
                                                            ∀ (_ρ : Ren), A (Value.bool false)) ∧
                                                          (((stepS f k p s fd c
                                                                          (IntKind.i64.wrap
                                                                            (IntKind.i64.wrap (t + 1) + IntKind.i64.wrap n_1))
                                                                          b b_1).fst.snd.snd.fst !=
                                                                IntKind.i64.wrap
                                                                  (IntKind.i64.wrap (t + 1) + IntKind.i64.wrap n_1)) =
                                                              false →
                                                            ((!true ==
                                                                      ((stepS f k p s fd c
                                                                              (IntKind.i64.wrap
                                                                                (IntKind.i64.wrap (t + 1) +
                                                                                  IntKind.i64.wrap n_1))
                                                                              b b_1).fst.fst ==
                                                                        2)) =
                                                                  true →
                                                                ∀ (_ρ : Ren), A (Value.bool false)) ∧
                                                              ((!true ==
                                                                      ((stepS f k p s fd c
                                                                              (IntKind.i64.wrap
                                                                                (IntKind.i64.wrap (t + 1) +
                                                                                  IntKind.i64.wrap n_1))
                                                                              b b_1).fst.fst ==
                                                                        2)) =
                                                                  false →
                                                                (((6 = 6 ∧
                                                                        loopTodo Try.f6 0 = loopTodo Try.f6 0 ∧
                                                                          false = false) ∧
                                                                      (SV.c (SC.v (Value.slice (some a) n cp)) =
                                                                            SV.c (SC.v (Value.slice (some a) n cp)) ∧
                                                                          SV.c (SC.v (Value.bool false)) =
                                                                              SV.c (SC.v (Value.bool false)) ∧
                                                                            SV.c (SC.p 0 0) = SV.c (SC.p 0 0) ∧
                                                                              SV.c (SC.p 1 0) = SV.c (SC.p 1 0) ∧
                                                                                SV.c (SC.v (Value.bool true)) =
                                                                                    SV.c (SC.v (Value.bool true)) ∧
                                                                                  SV.c
                                                                                        (SC.v
                                                                                          (Value.int IntKind.i64
                                                                                            (IntKind.i64.wrap
                                                                                              (IntKind.i64.wrap (t + 1) +
                                                                                                IntKind.i64.wrap n_1)))) =
                                                                                      SV.c
                                                                                        (SC.v
                                                                                          (Value.int IntKind.i64
                                                                                            (IntKind.i64.wrap
                                                                                              (IntKind.i64.wrap (t + 1) +
                                                                                                IntKind.i64.wrap n_1)))) ∧
                                                                                    SV.c
                                                                                          (SC.v
                                                                                            (Value.int IntKind.i64
                                                                                              (IntKind.i64.wrap
                                                                                                ((↑i : Int) + 1)))) =
                                                                                        SV.c
                                                                                          (SC.v
                                                                                            (Value.int IntKind.i64
                                                                                              (↑(i + 1) : Int))) ∧
                                                                                      True) ∧
                                                                        True) ∧
                                                                    SO.cells
                                                                          [SC.v (Value.string { data := #[] }),
                                                                            SC.v (Value.int IntKind.i64 0),
                                                                            SC.v (Value.int IntKind.i64 0),
                                                                            SC.v (Value.int IntKind.i64 0),
                                                                            SC.v (Value.bool false),
                                                                            SC.v (Value.int IntKind.i64 0),
                                                                            SC.v (Value.int IntKind.i64 0),
                                                                            SC.v (Value.int IntKind.i64 0),
                                                                            SC.v (Value.int IntKind.i64 0),
                                                                            SC.v (Value.int IntKind.i64 0),
                                                                            SC.v (Value.int IntKind.i64 0),
                                                                            SC.v (Value.int IntKind.i64 f),
                                                                            SC.v (Value.int IntKind.i64 k),
                                                                            SC.v (Value.slice none 0 0),
                                                                            SC.v (Value.slice none 0 0),
                                                                            SC.v (Value.slice none 0 0)]
                                                                          31 =
                                                                        SO.cells
                                                                          [SC.v (Value.string { data := #[] }),
                                                                            SC.v (Value.int IntKind.i64 0),
                                                                            SC.v (Value.int IntKind.i64 0),
                                                                            SC.v (Value.int IntKind.i64 0),
                                                                            SC.v (Value.bool false),
                                                                            SC.v (Value.int IntKind.i64 0),
                                                                            SC.v (Value.int IntKind.i64 0),
                                                                            SC.v (Value.int IntKind.i64 0),
                                                                            SC.v (Value.int IntKind.i64 0),
                                                                            SC.v (Value.int IntKind.i64 0),
                                                                            SC.v (Value.int IntKind.i64 0),
                                                                            SC.v (Value.int IntKind.i64 f),
                                                                            SC.v (Value.int IntKind.i64 k),
                                                                            SC.v (Value.slice none 0 0),
                                                                            SC.v (Value.slice none 0 0),
                                                                            SC.v (Value.slice none 0 0)]
                                                                          31 ∧
                                                                      SO.cells
                                                                            [SC.v
                                                                                (Value.int IntKind.i64
                                                                                  (stepS f k p s fd c
                                                                                        (IntKind.i64.wrap
                                                                                          (IntKind.i64.wrap (t + 1) +
                                                                                            IntKind.i64.wrap n_1))
                                                                                        b b_1).fst.fst),
                                                                              SC.v
                                                                                (Value.int IntKind.i64
                                                                                  (stepS f k p s fd c
                                                                                          (IntKind.i64.wrap
                                                                                            (IntKind.i64.wrap (t + 1) +
                                                                                              IntKind.i64.wrap n_1))
                                                                                          b b_1).fst.snd.fst),
                                                                              SC.v
                                                                                (Value.int IntKind.i64
                                                                                  (stepS f k p s fd c
                                                                                            (IntKind.i64.wrap
                                                                                              (IntKind.i64.wrap (t + 1) +
                                                                                                IntKind.i64.wrap n_1))
                                                                                            b b_1).fst.snd.snd.fst),
                                                                              SC.v
                                                                                (Value.int IntKind.i64
                                                                                  (stepS f k p s fd c
                                                                                            (IntKind.i64.wrap
                                                                                              (IntKind.i64.wrap (t + 1) +
                                                                                                IntKind.i64.wrap n_1))
                                                                                            b b_1).fst.snd.snd.snd)]
                                                                            33 =
                                                                          SO.cells
                                                                            [SC.v
                                                                                (Value.int IntKind.i64
                                                                                  (stepS f k p s fd c
                                                                                        (IntKind.i64.wrap
                                                                                          (IntKind.i64.wrap (t + 1) +
                                                                                            IntKind.i64.wrap n_1))
                                                                                        b b_1).fst.fst),
                                                                              SC.v
                                                                                (Value.int IntKind.i64
                                                                                  (stepS f k p s fd c
                                                                                          (IntKind.i64.wrap
                                                                                            (IntKind.i64.wrap (t + 1) +
                                                                                              IntKind.i64.wrap n_1))
                                                                                          b b_1).fst.snd.fst),
                                                                              SC.v
                                                                                (Value.int IntKind.i64
                                                                                  (stepS f k p s fd c
                                                                                            (IntKind.i64.wrap
                                                                                              (IntKind.i64.wrap (t + 1) +
                                                                                                IntKind.i64.wrap n_1))
                                                                                            b b_1).fst.snd.snd.fst),
                                                                              SC.v
                                                                                (Value.int IntKind.i64
                                                                                  (stepS f k p s fd c
                                                                                            (IntKind.i64.wrap
                                                                                              (IntKind.i64.wrap (t + 1) +
                                                                                                IntKind.i64.wrap n_1))
                                                                                            b b_1).fst.snd.snd.snd)]
                                                                            33 ∧
                                                                        True) ∧
                                                                  Run (J6 w A)
                                                                    (turns a n cp f k (i + 1) true
                                                                      (IntKind.i64.wrap
                                                                        (IntKind.i64.wrap (t + 1) + IntKind.i64.wrap n_1))
                                                                      (stepS f k p s fd c
                                                                            (IntKind.i64.wrap
                                                                              (IntKind.i64.wrap (t + 1) +
                                                                                IntKind.i64.wrap n_1))
                                                                            b b_1).fst.fst
                                                                      (stepS f k p s fd c
                                                                              (IntKind.i64.wrap
                                                                                (IntKind.i64.wrap (t + 1) +
                                                                                  IntKind.i64.wrap n_1))
                                                                              b b_1).fst.snd.fst
                                                                      (stepS f k p s fd c
                                                                                (IntKind.i64.wrap
                                                                                  (IntKind.i64.wrap (t + 1) +
                                                                                    IntKind.i64.wrap n_1))
                                                                                b b_1).fst.snd.snd.fst
                                                                      (stepS f k p s fd c
                                                                                (IntKind.i64.wrap
                                                                                  (IntKind.i64.wrap (t + 1) +
                                                                                    IntKind.i64.wrap n_1))
                                                                                b b_1).fst.snd.snd.snd)))) ∧
                                                      (fi = true → ∀ (_ρ : Ren), A (Value.bool false))) ∧
                                                  (((stepS f k p s fd c
                                                            (IntKind.i64.wrap
                                                              (IntKind.i64.wrap (t + 1) + IntKind.i64.wrap n_1))
                                                            b b_1).snd ==
                                                        1) =
                                                      false →
                                                    (((stepS f k p s fd c
                                                                (IntKind.i64.wrap
                                                                  (IntKind.i64.wrap (t + 1) + IntKind.i64.wrap n_1))
                                                                b b_1).snd ==
                                                            2) =
                                                          true →
                                                        ((!fi) = true → ∀ (_ρ : Ren), A (Value.bool false)) ∧
                                                          ((!fi) = false →
                                                            True ∧
                                                              ((!((stepS f k p s fd c
                                                                                (IntKind.i64.wrap
                                                                                  (IntKind.i64.wrap (t + 1) +
                                                                                    IntKind.i64.wrap n_1))
                                                                                b b_1).fst.fst ==
                                                                          0 &&
                                                                        ((stepS f k p s fd c
                                                                                    (IntKind.i64.wrap
                                                                                      (IntKind.i64.wrap (t + 1) +
                                                                                        IntKind.i64.wrap n_1))
                                                                                    b b_1).fst.snd.fst ==
                                                                            -1 &&
                                                                          ((stepS f k p s fd c
                                                                                        (IntKind.i64.wrap
                                                                                          (IntKind.i64.wrap (t + 1) +
                                                                                            IntKind.i64.wrap n_1))
                                                                                        b b_1).fst.snd.snd.fst ==
                                                                              -1 &&
                                                                            ((stepS f k p s fd c
                                                                                          (IntKind.i64.wrap
                                                                                            (IntKind.i64.wrap (t + 1) +
                                                                                              IntKind.i64.wrap n_1))
                                                                                          b b_1).fst.snd.snd.snd ==
                                                                                -1 &&
                                                                              true))))) =
                                                                    true →
                                                                  ∀ (_ρ : Ren), A (Value.bool false)) ∧
                                                                ((!((stepS f k p s fd c
                                                                                (IntKind.i64.wrap
                                                                                  (IntKind.i64.wrap (t + 1) +
                                                                                    IntKind.i64.wrap n_1))
                                                                                b b_1).fst.fst ==
                                                                          0 &&
                                                                        ((stepS f k p s fd c
                                                                                    (IntKind.i64.wrap
                                                                                      (IntKind.i64.wrap (t + 1) +
                                                                                        IntKind.i64.wrap n_1))
                                                                                    b b_1).fst.snd.fst ==
                                                                            -1 &&
                                                                          ((stepS f k p s fd c
                                                                                        (IntKind.i64.wrap
                                                                                          (IntKind.i64.wrap (t + 1) +
                                                                                            IntKind.i64.wrap n_1))
                                                                                        b b_1).fst.snd.snd.fst ==
                                                                              -1 &&
                                                                            ((stepS f k p s fd c
                                                                                          (IntKind.i64.wrap
                                                                                            (IntKind.i64.wrap (t + 1) +
                                                                                              IntKind.i64.wrap n_1))
                                                                                          b b_1).fst.snd.snd.snd ==
                                                                                -1 &&
                                                                              true))))) =
                                                                    false →
                                                                  ((!false ==
                                                                            ((stepS f k p s fd c
                                                                                    (IntKind.i64.wrap
                                                                                      (IntKind.i64.wrap (t + 1) +
                                                                                        IntKind.i64.wrap n_1))
                                                                                    b b_1).fst.fst ==
                                                                              2)) =
                                                                        true →
                                                                      ∀ (_ρ : Ren), A (Value.bool false)) ∧
                                                                    ((!false ==
                                                                            ((stepS f k p s fd c
                                                                                    (IntKind.i64.wrap
                                                                                      (IntKind.i64.wrap (t + 1) +
                                                                                        IntKind.i64.wrap n_1))
                                                                                    b b_1).fst.fst ==
                                                                              2)) =
                                                                        false →
                                                                      (((6 = 6 ∧
                                                                              loopTodo Try.f6 0 = loopTodo Try.f6 0 ∧
                                                                                false = false) ∧
                                                                            (SV.c (SC.v (Value.slice (some a) n cp)) =
                                                                                  SV.c (SC.v (Value.slice (some a) n cp)) ∧
                                                                                SV.c (SC.v (Value.bool false)) =
                                                                                    SV.c (SC.v (Value.bool false)) ∧
                                                                                  SV.c (SC.p 0 0) = SV.c (SC.p 0 0) ∧
                                                                                    SV.c (SC.p 1 0) = SV.c (SC.p 1 0) ∧
                                                                                      SV.c (SC.v (Value.bool false)) =
                                                                                          SV.c (SC.v (Value.bool false)) ∧
                                                                                        SV.c
                                                                                              (SC.v
                                                                                                (Value.int IntKind.i64
                                                                                                  (IntKind.i64.wrap
                                                                                                    (IntKind.i64.wrap
                                                                                                        (t + 1) +
                                                                                                      IntKind.i64.wrap
                                                                                                        n_1)))) =
                                                                                            SV.c
                                                                                              (SC.v
                                                                                                (Value.int IntKind.i64
                                                                                                  (IntKind.i64.wrap
                                                                                                    (IntKind.i64.wrap
                                                                                                        (t + 1) +
                                                                                                      IntKind.i64.wrap
                                                                                                        n_1)))) ∧
                                                                                          SV.c
                                                                                                (SC.v
                                                                                                  (Value.int IntKind.i64
                                                                                                    (IntKind.i64.wrap
                                                                                                      ((↑i : Int) + 1)))) =
                                                                                              SV.c
                                                                                                (SC.v
                                                                                                  (Value.int IntKind.i64
                                                                                                    (↑(i + 1) : Int))) ∧
                                                                                            True) ∧
                                                                              True) ∧
                                                                          SO.cells
                                                                                [SC.v (Value.string { data := #[] }),
                                                                                  SC.v (Value.int IntKind.i64 0),
                                                                                  SC.v (Value.int IntKind.i64 0),
                                                                                  SC.v (Value.int IntKind.i64 0),
                                                                                  SC.v (Value.bool false),
                                                                                  SC.v (Value.int IntKind.i64 0),
                                                                                  SC.v (Value.int IntKind.i64 0),
                                                                                  SC.v (Value.int IntKind.i64 0),
                                                                                  SC.v (Value.int IntKind.i64 0),
                                                                                  SC.v (Value.int IntKind.i64 0),
                                                                                  SC.v (Value.int IntKind.i64 0),
                                                                                  SC.v (Value.int IntKind.i64 f),
                                                                                  SC.v (Value.int IntKind.i64 k),
                                                                                  SC.v (Value.slice none 0 0),
                                                                                  SC.v (Value.slice none 0 0),
                                                                                  SC.v (Value.slice none 0 0)]
                                                                                31 =
                                                                              SO.cells
                                                                                [SC.v (Value.string { data := #[] }),
                                                                                  SC.v (Value.int IntKind.i64 0),
                                                                                  SC.v (Value.int IntKind.i64 0),
                                                                                  SC.v (Value.int IntKind.i64 0),
                                                                                  SC.v (Value.bool false),
                                                                                  SC.v (Value.int IntKind.i64 0),
                                                                                  SC.v (Value.int IntKind.i64 0),
                                                                                  SC.v (Value.int IntKind.i64 0),
                                                                                  SC.v (Value.int IntKind.i64 0),
                                                                                  SC.v (Value.int IntKind.i64 0),
                                                                                  SC.v (Value.int IntKind.i64 0),
                                                                                  SC.v (Value.int IntKind.i64 f),
                                                                                  SC.v (Value.int IntKind.i64 k),
                                                                                  SC.v (Value.slice none 0 0),
                                                                                  SC.v (Value.slice none 0 0),
                                                                                  SC.v (Value.slice none 0 0)]
                                                                                31 ∧
                                                                            SO.cells
                                                                                  [SC.v
                                                                                      (Value.int IntKind.i64
                                                                                        (stepS f k p s fd c
                                                                                              (IntKind.i64.wrap
                                                                                                (IntKind.i64.wrap (t + 1) +
                                                                                                  IntKind.i64.wrap n_1))
                                                                                              b b_1).fst.fst),
                                                                                    SC.v
                                                                                      (Value.int IntKind.i64
                                                                                        (stepS f k p s fd c
                                                                                                (IntKind.i64.wrap
                                                                                                  (IntKind.i64.wrap (t + 1) +
                                                                                                    IntKind.i64.wrap n_1))
                                                                                                b b_1).fst.snd.fst),
                                                                                    SC.v
                                                                                      (Value.int IntKind.i64
                                                                                        (stepS f k p s fd c
                                                                                                  (IntKind.i64.wrap
                                                                                                    (IntKind.i64.wrap
                                                                                                        (t + 1) +
                                                                                                      IntKind.i64.wrap n_1))
                                                                                                  b b_1).fst.snd.snd.fst),
                                                                                    SC.v
                                                                                      (Value.int IntKind.i64
                                                                                        (stepS f k p s fd c
                                                                                                  (IntKind.i64.wrap
                                                                                                    (IntKind.i64.wrap
                                                                                                        (t + 1) +
                                                                                                      IntKind.i64.wrap n_1))
                                                                                                  b b_1).fst.snd.snd.snd)]
                                                                                  33 =
                                                                                SO.cells
                                                                                  [SC.v
                                                                                      (Value.int IntKind.i64
                                                                                        (stepS f k p s fd c
                                                                                              (IntKind.i64.wrap
                                                                                                (IntKind.i64.wrap (t + 1) +
                                                                                                  IntKind.i64.wrap n_1))
                                                                                              b b_1).fst.fst),
                                                                                    SC.v
                                                                                      (Value.int IntKind.i64
                                                                                        (stepS f k p s fd c
                                                                                                (IntKind.i64.wrap
                                                                                                  (IntKind.i64.wrap (t + 1) +
                                                                                                    IntKind.i64.wrap n_1))
                                                                                                b b_1).fst.snd.fst),
                                                                                    SC.v
                                                                                      (Value.int IntKind.i64
                                                                                        (stepS f k p s fd c
                                                                                                  (IntKind.i64.wrap
                                                                                                    (IntKind.i64.wrap
                                                                                                        (t + 1) +
                                                                                                      IntKind.i64.wrap n_1))
                                                                                                  b b_1).fst.snd.snd.fst),
                                                                                    SC.v
                                                                                      (Value.int IntKind.i64
                                                                                        (stepS f k p s fd c
                                                                                                  (IntKind.i64.wrap
                                                                                                    (IntKind.i64.wrap
                                                                                                        (t + 1) +
                                                                                                      IntKind.i64.wrap n_1))
                                                                                                  b b_1).fst.snd.snd.snd)]
                                                                                  33 ∧
                                                                              True) ∧
                                                                        Run (J6 w A)
                                                                          (turns a n cp f k (i + 1) false
                                                                            (IntKind.i64.wrap
                                                                              (IntKind.i64.wrap (t + 1) +
                                                                                IntKind.i64.wrap n_1))
                                                                            (stepS f k p s fd c
                                                                                  (IntKind.i64.wrap
                                                                                    (IntKind.i64.wrap (t + 1) +
                                                                                      IntKind.i64.wrap n_1))
                                                                                  b b_1).fst.fst
                                                                            (stepS f k p s fd c
                                                                                    (IntKind.i64.wrap
                                                                                      (IntKind.i64.wrap (t + 1) +
                                                                                        IntKind.i64.wrap n_1))
                                                                                    b b_1).fst.snd.fst
                                                                            (stepS f k p s fd c
                                                                                      (IntKind.i64.wrap
                                                                                        (IntKind.i64.wrap (t + 1) +
                                                                                          IntKind.i64.wrap n_1))
                                                                                      b b_1).fst.snd.snd.fst
                                                                            (stepS f k p s fd c
                                                                                      (IntKind.i64.wrap
                                                                                        (IntKind.i64.wrap (t + 1) +
                                                                                          IntKind.i64.wrap n_1))
                                                                                      b b_1).fst.snd.snd.snd))))) ∧
                                                      (((stepS f k p s fd c
                                                                (IntKind.i64.wrap
                                                                  (IntKind.i64.wrap (t + 1) + IntKind.i64.wrap n_1))
                                                                b b_1).snd ==
                                                            2) =
                                                          false →
                                                        ((!fi ==
                                                                  ((stepS f k p s fd c
                                                                          (IntKind.i64.wrap
                                                                            (IntKind.i64.wrap (t + 1) + IntKind.i64.wrap n_1))
                                                                          b b_1).fst.fst ==
                                                                    2)) =
                                                              true →
                                                            ∀ (_ρ : Ren), A (Value.bool false)) ∧
                                                          ((!fi ==
                                                                  ((stepS f k p s fd c
                                                                          (IntKind.i64.wrap
                                                                            (IntKind.i64.wrap (t + 1) + IntKind.i64.wrap n_1))
                                                                          b b_1).fst.fst ==
                                                                    2)) =
                                                              false →
                                                            (((6 = 6 ∧
                                                                    loopTodo Try.f6 0 = loopTodo Try.f6 0 ∧ false = false) ∧
                                                                  (SV.c (SC.v (Value.slice (some a) n cp)) =
                                                                        SV.c (SC.v (Value.slice (some a) n cp)) ∧
                                                                      SV.c (SC.v (Value.bool false)) =
                                                                          SV.c (SC.v (Value.bool false)) ∧
                                                                        SV.c (SC.p 0 0) = SV.c (SC.p 0 0) ∧
                                                                          SV.c (SC.p 1 0) = SV.c (SC.p 1 0) ∧
                                                                            SV.c (SC.v (Value.bool fi)) =
                                                                                SV.c (SC.v (Value.bool fi)) ∧
                                                                              SV.c
                                                                                    (SC.v
                                                                                      (Value.int IntKind.i64
                                                                                        (IntKind.i64.wrap
                                                                                          (IntKind.i64.wrap (t + 1) +
                                                                                            IntKind.i64.wrap n_1)))) =
                                                                                  SV.c
                                                                                    (SC.v
                                                                                      (Value.int IntKind.i64
                                                                                        (IntKind.i64.wrap
                                                                                          (IntKind.i64.wrap (t + 1) +
                                                                                            IntKind.i64.wrap n_1)))) ∧
                                                                                SV.c
                                                                                      (SC.v
                                                                                        (Value.int IntKind.i64
                                                                                          (IntKind.i64.wrap
                                                                                            ((↑i : Int) + 1)))) =
                                                                                    SV.c
                                                                                      (SC.v
                                                                                        (Value.int IntKind.i64
                                                                                          (↑(i + 1) : Int))) ∧
                                                                                  True) ∧
                                                                    True) ∧
                                                                SO.cells
                                                                      [SC.v (Value.string { data := #[] }),
                                                                        SC.v (Value.int IntKind.i64 0),
                                                                        SC.v (Value.int IntKind.i64 0),
                                                                        SC.v (Value.int IntKind.i64 0),
                                                                        SC.v (Value.bool false),
                                                                        SC.v (Value.int IntKind.i64 0),
                                                                        SC.v (Value.int IntKind.i64 0),
                                                                        SC.v (Value.int IntKind.i64 0),
                                                                        SC.v (Value.int IntKind.i64 0),
                                                                        SC.v (Value.int IntKind.i64 0),
                                                                        SC.v (Value.int IntKind.i64 0),
                                                                        SC.v (Value.int IntKind.i64 f),
                                                                        SC.v (Value.int IntKind.i64 k),
                                                                        SC.v (Value.slice none 0 0),
                                                                        SC.v (Value.slice none 0 0),
                                                                        SC.v (Value.slice none 0 0)]
                                                                      31 =
                                                                    SO.cells
                                                                      [SC.v (Value.string { data := #[] }),
                                                                        SC.v (Value.int IntKind.i64 0),
                                                                        SC.v (Value.int IntKind.i64 0),
                                                                        SC.v (Value.int IntKind.i64 0),
                                                                        SC.v (Value.bool false),
                                                                        SC.v (Value.int IntKind.i64 0),
                                                                        SC.v (Value.int IntKind.i64 0),
                                                                        SC.v (Value.int IntKind.i64 0),
                                                                        SC.v (Value.int IntKind.i64 0),
                                                                        SC.v (Value.int IntKind.i64 0),
                                                                        SC.v (Value.int IntKind.i64 0),
                                                                        SC.v (Value.int IntKind.i64 f),
                                                                        SC.v (Value.int IntKind.i64 k),
                                                                        SC.v (Value.slice none 0 0),
                                                                        SC.v (Value.slice none 0 0),
                                                                        SC.v (Value.slice none 0 0)]
                                                                      31 ∧
                                                                  SO.cells
                                                                        [SC.v
                                                                            (Value.int IntKind.i64
                                                                              (stepS f k p s fd c
                                                                                    (IntKind.i64.wrap
                                                                                      (IntKind.i64.wrap (t + 1) +
                                                                                        IntKind.i64.wrap n_1))
                                                                                    b b_1).fst.fst),
                                                                          SC.v
                                                                            (Value.int IntKind.i64
                                                                              (stepS f k p s fd c
                                                                                      (IntKind.i64.wrap
                                                                                        (IntKind.i64.wrap (t + 1) +
                                                                                          IntKind.i64.wrap n_1))
                                                                                      b b_1).fst.snd.fst),
                                                                          SC.v
                                                                            (Value.int IntKind.i64
                                                                              (stepS f k p s fd c
                                                                                        (IntKind.i64.wrap
                                                                                          (IntKind.i64.wrap (t + 1) +
                                                                                            IntKind.i64.wrap n_1))
                                                                                        b b_1).fst.snd.snd.fst),
                                                                          SC.v
                                                                            (Value.int IntKind.i64
                                                                              (stepS f k p s fd c
                                                                                        (IntKind.i64.wrap
                                                                                          (IntKind.i64.wrap (t + 1) +
                                                                                            IntKind.i64.wrap n_1))
                                                                                        b b_1).fst.snd.snd.snd)]
                                                                        33 =
                                                                      SO.cells
                                                                        [SC.v
                                                                            (Value.int IntKind.i64
                                                                              (stepS f k p s fd c
                                                                                    (IntKind.i64.wrap
                                                                                      (IntKind.i64.wrap (t + 1) +
                                                                                        IntKind.i64.wrap n_1))
                                                                                    b b_1).fst.fst),
                                                                          SC.v
                                                                            (Value.int IntKind.i64
                                                                              (stepS f k p s fd c
                                                                                      (IntKind.i64.wrap
                                                                                        (IntKind.i64.wrap (t + 1) +
                                                                                          IntKind.i64.wrap n_1))
                                                                                      b b_1).fst.snd.fst),
                                                                          SC.v
                                                                            (Value.int IntKind.i64
                                                                              (stepS f k p s fd c
                                                                                        (IntKind.i64.wrap
                                                                                          (IntKind.i64.wrap (t + 1) +
                                                                                            IntKind.i64.wrap n_1))
                                                                                        b b_1).fst.snd.snd.fst),
                                                                          SC.v
                                                                            (Value.int IntKind.i64
                                                                              (stepS f k p s fd c
                                                                                        (IntKind.i64.wrap
                                                                                          (IntKind.i64.wrap (t + 1) +
                                                                                            IntKind.i64.wrap n_1))
                                                                                        b b_1).fst.snd.snd.snd)]
                                                                        33 ∧
                                                                    True) ∧
                                                              Run (J6 w A)
                                                                (turns a n cp f k (i + 1) fi
                                                                  (IntKind.i64.wrap
                                                                    (IntKind.i64.wrap (t + 1) + IntKind.i64.wrap n_1))
                                                                  (stepS f k p s fd c
                                                                        (IntKind.i64.wrap
                                                                          (IntKind.i64.wrap (t + 1) + IntKind.i64.wrap n_1))
                                                                        b b_1).fst.fst
                                                                  (stepS f k p s fd c
                                                                          (IntKind.i64.wrap
                                                                            (IntKind.i64.wrap (t + 1) + IntKind.i64.wrap n_1))
                                                                          b b_1).fst.snd.fst
                                                                  (stepS f k p s fd c
                                                                            (IntKind.i64.wrap
                                                                              (IntKind.i64.wrap (t + 1) +
                                                                                IntKind.i64.wrap n_1))
                                                                            b b_1).fst.snd.snd.fst
                                                                  (stepS f k p s fd c
                                                                            (IntKind.i64.wrap
                                                                              (IntKind.i64.wrap (t + 1) +
                                                                                IntKind.i64.wrap n_1))
                                                                            b b_1).fst.snd.snd.snd)))))))) ∧
        (decide ((↑i : Int) < (↑n : Int)) = false → ∀ (_ρ : Ren), A (Value.bool true)))) : Run (J6 w A) (turns a n cp f k i fi t p s fd c) := by
  refine run_chk false 400 (.au 40 fun _ => .lp (.cut fun z => turns a n cp f k (i + 1) (boolT z 9) (intT z 10) (intH z 1 0) (intH z 1 1) (intH z 1 2) (intH z 1 3))) ?_
  refine chk h ?_
  kernel_rfl
end Go.Proofs.Ytoeeilbpgckhlaa
