/- AlertWaits: its runs, from head to head. -/
import Derived.Test.YtoeeilbpgckhlaaBl9
import Derived.KernelRfl
namespace Go.Proofs.Ytoeeilbpgckhlaa
open Go.RowKit Go.Sy
theorem cb5 : callable Try.prog 5 = some Try.f5 := by kernel_rfl
abbrev ruleL (f k : Int) : List SC := [.v (.string ⟨#[]⟩), .v (.int .i64 0), .v (.int .i64 0), .v (.int .i64 0), .v (.bool false), .v (.int .i64 0), .v (.int .i64 0), .v (.int .i64 0), .v (.int .i64 0), .v (.int .i64 0), .v (.int .i64 0), .v (.int .i64 f), .v (.int .i64 k), .v (.slice none 0 0), .v (.slice none 0 0), .v (.slice none 0 0)]
abbrev stL (p s f c : Int) : List SC := [.v (.int .i64 p), .v (.int .i64 s), .v (.int .i64 f), .v (.int .i64 c)]
abbrev vU (n : Int) : SV := .c (.v (.int .u16 n))
/-- The outer loop's head. -/
noncomputable def waAt (n : Nat) (xs : List D) (wt kp f k : Int) (ts : List D) (l : Nat) (i t p s fd c : Int) : St :=
  ⟨[{ fn := 5, tmps := slots 179 [(0, vU wt), (1, vU kp), (2, .c (.s 0 0 n (.hid 0))), (7, .c (.p 1 0)), (8, .c (.p 2 0)), (9, .c (.s 3 0 l (.hid 0))), (10, vI t), (11, vI i)], todo := loopTodo Try.f5 0 }],
    [some (.ice xs), some (.cells (ruleL f k) 31 (.kn 0)), some (.cells (stL p s fd c) 33 (.kn 0)), some (.row ts 2 (.hid 1))]⟩
/-- The head of the loop that looks back to where it was raised. -/
noncomputable def wa1At (n : Nat) (xs : List D) (wt kp f k : Int) (ts : List D) (l : Nat) (i t p s fd c q : Int) : St :=
  ⟨[{ fn := 5, tmps := slots 179 [(0, vU wt), (1, vU kp), (2, .c (.s 0 0 n (.hid 0))), (7, .c (.p 1 0)), (8, .c (.p 2 0)), (9, .c (.s 3 0 l (.hid 0))), (10, vI t), (11, vI i), (15, vI q)], todo := loopTodo Try.f5 1 }],
    [some (.ice xs), some (.cells (ruleL f k) 31 (.kn 0)), some (.cells (stL p s fd c) 33 (.kn 0)), some (.row ts 2 (.hid 1))]⟩
/-- The head of the loop that looks back to where it was clear. -/
noncomputable def wa2At (n : Nat) (xs : List D) (wt kp f k : Int) (ts : List D) (l : Nat) (i t p s fd c p0 s0 f0 c0 q : Int) : St :=
  ⟨[{ fn := 5, tmps := slots 179 [(0, vU wt), (1, vU kp), (2, .c (.s 0 0 n (.hid 0))), (7, .c (.p 1 0)), (8, .c (.p 2 0)), (9, .c (.s 3 0 l (.hid 0))), (10, vI t), (11, vI i), (12, .c (.p 4 0)), (16, vI q)], todo := loopTodo Try.f5 2 }],
    [some (.ice xs), some (.cells (ruleL f k) 31 (.kn 0)), some (.cells (stL p s fd c) 33 (.kn 0)), some (.row ts 2 (.hid 1)), some (.cells (stL p0 s0 f0 c0) 33 (.kn 0))]⟩
def ptO (v : SV) : Option Nat := match v with | .c (.p k _) => some k | _ => none
abbrev waNm (s : St) : Nms := [some 0, ptO (slotT s 7), ptO (slotT s 8), nmO (slotT s 9)]
abbrev waNm2 (s : St) : Nms := [some 0, ptO (slotT s 7), ptO (slotT s 8), nmO (slotT s 9), ptO (slotT s 12)]
noncomputable abbrev waCut (n : Nat) (xs : List D) (wt kp : Int) : CutAt := ⟨5, 10, fun s => waAt n xs wt kp (intH s (nameT s 7) 11) (intH s (nameT s 7) 12) (rowO s (nmO (slotT s 9))) (lenT s 9) (intT s 11) (intT s 10) (intH s (nameT s 8) 0) (intH s (nameT s 8) 1) (intH s (nameT s 8) 2) (intH s (nameT s 8) 3), waNm⟩
noncomputable abbrev waCut1 (n : Nat) (xs : List D) (wt kp : Int) : CutAt := ⟨5, 20, fun s => wa1At n xs wt kp (intH s (nameT s 7) 11) (intH s (nameT s 7) 12) (rowO s (nmO (slotT s 9))) (lenT s 9) (intT s 11) (intT s 10) (intH s (nameT s 8) 0) (intH s (nameT s 8) 1) (intH s (nameT s 8) 2) (intH s (nameT s 8) 3) (intT s 15), waNm⟩
noncomputable abbrev waCut2 (n : Nat) (xs : List D) (wt kp : Int) : CutAt := ⟨5, 28, fun s => wa2At n xs wt kp (intH s (nameT s 7) 11) (intH s (nameT s 7) 12) (rowO s (nmO (slotT s 9))) (lenT s 9) (intT s 11) (intT s 10) (intH s (nameT s 8) 0) (intH s (nameT s 8) 1) (intH s (nameT s 8) 2) (intH s (nameT s 8) 3) (intH s (nameT s 12) 0) (intH s (nameT s 12) 1) (intH s (nameT s 12) 2) (intH s (nameT s 12) 3) (intT s 16), waNm2⟩
noncomputable abbrev J5 (n : Nat) (xs : List D) (wt kp : Int) (w : World) (A : Value → Prop) : Job Try.prog := plainJob Try.prog [knownLaw.law, newLaw.law, stepvLaw.law] false [waCut n xs wt kp, waCut1 n xs wt kp, waCut2 n xs wt kp] 5 w A
set_option maxRecDepth 100000 in
theorem wa_in (A : Value → Prop) (n : Nat) (xs : List D) (wt kp : Int) (w : World)
    (h : (True ∧
        (decide ((↑n : Int) > (100 : Int)) = true → A (Value.bool true)) ∧
          (decide ((↑n : Int) > (100 : Int)) = false →
            True ∧
              ((xs = xs ∧
                    (Tail.kn (0 : Nat) = Tail.kn (0 : Nat) ∧
                        (ByteArray.mk #[]) = (ByteArray.mk #[]) ∧
                          (0 : Int) = (0 : Int) ∧
                            (0 : Int) = (0 : Int) ∧
                              (0 : Int) = (0 : Int) ∧
                                false = false ∧
                                  (0 : Int) = (0 : Int) ∧
                                    (0 : Int) = (0 : Int) ∧
                                      (0 : Int) = (0 : Int) ∧
                                        (0 : Int) = (0 : Int) ∧
                                          (0 : Int) = (0 : Int) ∧
                                            (0 : Int) = (0 : Int) ∧
                                              IntKind.i64.wrap wt = IntKind.i64.wrap wt ∧
                                                IntKind.i64.wrap kp = IntKind.i64.wrap kp ∧ True ∧ True ∧ True ∧ True) ∧
                      (Tail.kn (0 : Nat) = Tail.kn (0 : Nat) ∧
                          (0 : Int) = (0 : Int) ∧
                            (-1 : Int) = (-1 : Int) ∧ (-1 : Int) = (-1 : Int) ∧ (-1 : Int) = (-1 : Int) ∧ True) ∧
                        ([] : List D) = [] ∧ True) ∧
                  loopTodo Try.f5 (0 : Nat) = loopTodo Try.f5 (0 : Nat) ∧
                    (wt = wt ∧
                        kp = kp ∧
                          ((0 : Nat) = (0 : Nat) ∧ n = n ∧ Cap.hid (0 : Nat) = Cap.hid (0 : Nat)) ∧
                            (0 : Nat) = (0 : Nat) ∧
                              (0 : Nat) = (0 : Nat) ∧
                                (0 : Nat) = (0 : Nat) ∧ (0 : Int) = (0 : Int) ∧ (0 : Int) = (0 : Int) ∧ True) ∧
                      True) ∧
                Run Try.prog (J5 n xs wt kp w A).C (5 : Nat) (J5 n xs wt kp w A).R
                  (waAt n xs wt kp (IntKind.i64.wrap wt) (IntKind.i64.wrap kp) [] (0 : Nat) (0 : Int) (0 : Int) (0 : Int)
                    (-1 : Int) (-1 : Int) (-1 : Int))))) : Run Try.prog (J5 n xs wt kp w A).C 5 (J5 n xs wt kp w A).R ⟨[enterS 5 Try.f5 [vU wt, vU kp, .c (.s 0 0 n (.hid 0))]], [some (.ice xs)]⟩ := by
  refine run_chk (J := J5 n xs wt kp w A) 400 ?_
  refine chk h ?_
  kernel_rfl
set_option maxRecDepth 100000 in
theorem wa_body (A : Value → Prop) (n : Nat) (xs : List D) (wt kp f k : Int) (ts : List D) (l i : Nat) (t p s fd c : Int) (w : World)
    (h : ((decide ((↑i : Int) < (↑n : Int)) = true →
          ((0 : Int) ≤ (↑i : Int) ∧ (↑i : Int) < (↑n : Int)) ∧
            ∃ n_1,
              xs[(0 : Nat) + i * (3 : Nat) + (2 : Nat)]? = some (D.v (Value.int IntKind.u16 n_1)) ∧
                (l + (1 : Nat) ≤ (9223372036854775807 : Nat) ∧ (l + (1 : Nat)) * (8 : Nat) ≤ (140737488355328 : Nat)) ∧
                  l * (1 : Nat) ≤ ts.length ∧
                    ((0 : Int) ≤ (↑i : Int) ∧ (↑i : Int) < (↑n : Int)) ∧
                      ∃ b,
                        xs[(0 : Nat) + i * (3 : Nat) + (0 : Nat)]? = some (D.v (Value.bool b)) ∧
                          ((0 : Int) ≤ (↑i : Int) ∧ (↑i : Int) < (↑n : Int)) ∧
                            ∃ b_1,
                              xs[(0 : Nat) + i * (3 : Nat) + (1 : Nat)]? = some (D.v (Value.bool b_1)) ∧
                                True ∧
                                  (((ByteArray.mk #[]) = (ByteArray.mk #[]) ∧
                                        (0 : Int) = (0 : Int) ∧
                                          (0 : Int) = (0 : Int) ∧
                                            (0 : Int) = (0 : Int) ∧
                                              false = false ∧
                                                (0 : Int) = (0 : Int) ∧
                                                  (0 : Int) = (0 : Int) ∧
                                                    (0 : Int) = (0 : Int) ∧
                                                      (0 : Int) = (0 : Int) ∧
                                                        (0 : Int) = (0 : Int) ∧
                                                          (0 : Int) = (0 : Int) ∧ f = f ∧ k = k ∧ True ∧ True ∧ True ∧ True) ∧
                                      (p = p ∧ s = s ∧ fd = fd ∧ c = c ∧ True) ∧
                                        b = b ∧
                                          b_1 = b_1 ∧
                                            IntKind.i64.wrap (IntKind.i64.wrap (t + (1 : Int)) + IntKind.i64.wrap n_1) =
                                                IntKind.i64.wrap (IntKind.i64.wrap (t + (1 : Int)) + IntKind.i64.wrap n_1) ∧
                                              True) ∧
                                    (True ∧ True ∧ True ∧ True) ∧
                                      (True →
                                          (((stepS f k p s fd c
                                                      (IntKind.i64.wrap
                                                        (IntKind.i64.wrap (t + (1 : Int)) + IntKind.i64.wrap n_1))
                                                      b b_1).snd ==
                                                  (1 : Int)) =
                                                true →
                                              ((xs = xs ∧
                                                    (Tail.kn (0 : Nat) = Tail.kn (0 : Nat) ∧
                                                        (ByteArray.mk #[]) = (ByteArray.mk #[]) ∧
                                                          (0 : Int) = (0 : Int) ∧
                                                            (0 : Int) = (0 : Int) ∧
                                                              (0 : Int) = (0 : Int) ∧
                                                                false = false ∧
                                                                  (0 : Int) = (0 : Int) ∧
                                                                    (0 : Int) = (0 : Int) ∧
                                                                      (0 : Int) = (0 : Int) ∧
                                                                        (0 : Int) = (0 : Int) ∧
                                                                          (0 : Int) = (0 : Int) ∧
                                                                            (0 : Int) = (0 : Int) ∧
                                                                              f = f ∧ k = k ∧ True ∧ True ∧ True ∧ True) ∧
                                                      (Tail.kn (0 : Nat) = Tail.kn (0 : Nat) ∧
                                                          (stepS f k p s fd c
                                                                    (IntKind.i64.wrap
                                                                      (IntKind.i64.wrap (t + (1 : Int)) +
                                                                        IntKind.i64.wrap n_1))
                                                                    b b_1).fst.fst =
                                                              (stepS f k p s fd c
                                                                    (IntKind.i64.wrap
                                                                      (IntKind.i64.wrap (t + (1 : Int)) +
                                                                        IntKind.i64.wrap n_1))
                                                                    b b_1).fst.fst ∧
                                                            (stepS f k p s fd c
                                                                        (IntKind.i64.wrap
                                                                          (IntKind.i64.wrap (t + (1 : Int)) +
                                                                            IntKind.i64.wrap n_1))
                                                                        b b_1).fst.snd.fst =
                                                                (stepS f k p s fd c
                                                                        (IntKind.i64.wrap
                                                                          (IntKind.i64.wrap (t + (1 : Int)) +
                                                                            IntKind.i64.wrap n_1))
                                                                        b b_1).fst.snd.fst ∧
                                                              (stepS f k p s fd c
                                                                            (IntKind.i64.wrap
                                                                              (IntKind.i64.wrap (t + (1 : Int)) +
                                                                                IntKind.i64.wrap n_1))
                                                                            b b_1).fst.snd.snd.fst =
                                                                  (stepS f k p s fd c
                                                                            (IntKind.i64.wrap
                                                                              (IntKind.i64.wrap (t + (1 : Int)) +
                                                                                IntKind.i64.wrap n_1))
                                                                            b b_1).fst.snd.snd.fst ∧
                                                                (stepS f k p s fd c
                                                                              (IntKind.i64.wrap
                                                                                (IntKind.i64.wrap (t + (1 : Int)) +
                                                                                  IntKind.i64.wrap n_1))
                                                                              b b_1).fst.snd.snd.snd =
                                                                    (stepS f k p s fd c
                                                                              (IntKind.i64.wrap
                                                                                (IntKind.i64.wrap (t + (1 : Int)) +
                                                                                  IntKind.i64.wrap n_1))
                                                                              b b_1).fst.snd.snd.snd ∧
                                                                  True) ∧
                                                        (Tail.hid (1 : Nat) = Tail.hid (1 : Nat) ∧
                                                            List.take (l * (1 : Nat)) ts ++
                                                                [D.v
                                                                    (Value.int IntKind.i64
                                                                      (IntKind.i64.wrap
                                                                        (IntKind.i64.wrap (t + (1 : Int)) +
                                                                          IntKind.i64.wrap n_1)))] =
                                                              List.take (l * (1 : Nat)) ts ++
                                                                [D.v
                                                                    (Value.int IntKind.i64
                                                                      (IntKind.i64.wrap
                                                                        (IntKind.i64.wrap (t + (1 : Int)) +
                                                                          IntKind.i64.wrap n_1)))]) ∧
                                                          True) ∧
                                                  loopTodo Try.f5 (1 : Nat) = loopTodo Try.f5 (1 : Nat) ∧
                                                    (wt = wt ∧
                                                        kp = kp ∧
                                                          ((0 : Nat) = (0 : Nat) ∧
                                                              n = n ∧ Cap.hid (0 : Nat) = Cap.hid (0 : Nat)) ∧
                                                            (0 : Nat) = (0 : Nat) ∧
                                                              (0 : Nat) = (0 : Nat) ∧
                                                                ((0 : Nat) = (0 : Nat) ∧
                                                                    l + (1 : Nat) = l + (1 : Nat) ∧
                                                                      Cap.hid (0 : Nat) = Cap.hid (0 : Nat)) ∧
                                                                  IntKind.i64.wrap
                                                                        (IntKind.i64.wrap (t + (1 : Int)) +
                                                                          IntKind.i64.wrap n_1) =
                                                                      IntKind.i64.wrap
                                                                        (IntKind.i64.wrap (t + (1 : Int)) +
                                                                          IntKind.i64.wrap n_1) ∧
                                                                    (↑i : Int) = (↑i : Int) ∧
                                                                      (↑i : Int) = (↑i : Int) ∧ True) ∧
                                                      True) ∧
                                                Run Try.prog (J5 n xs wt kp w A).C (5 : Nat) (J5 n xs wt kp w A).R
                                                  (wa1At n xs wt kp f k
                                                    (List.take (l * (1 : Nat)) ts ++
                                                      [D.v
                                                          (Value.int IntKind.i64
                                                            (IntKind.i64.wrap
                                                              (IntKind.i64.wrap (t + (1 : Int)) + IntKind.i64.wrap n_1)))])
                                                    (l + (1 : Nat)) (↑i : Int)
                                                    (IntKind.i64.wrap
                                                      (IntKind.i64.wrap (t + (1 : Int)) + IntKind.i64.wrap n_1))
                                                    (stepS f k p s fd c
                                                          (IntKind.i64.wrap
                                                            (IntKind.i64.wrap (t + (1 : Int)) + IntKind.i64.wrap n_1))
                                                          b b_1).fst.fst
                                                    (stepS f k p s fd c
                                                            (IntKind.i64.wrap
                                                              (IntKind.i64.wrap (t + (1 : Int)) + IntKind.i64.wrap n_1))
                                                            b b_1).fst.snd.fst
                                                    (stepS f k p s fd c
                                                              (IntKind.i64.wrap
                                                                (IntKind.i64.wrap (t + (1 : Int)) + IntKind.i64.wrap n_1))
                                                              b b_1).fst.snd.snd.fst
                                                    (stepS f k p s fd c
                                                              (IntKind.i64.wrap
                                                                (IntKind.i64.wrap (t + (1 : Int)) + IntKind.i64.wrap n_1))
                                                              b b_1).fst.snd.snd.snd
                                                    (↑i : Int))) ∧
                                            (((stepS f k p s fd c
                                                      (IntKind.i64.wrap
                                                        (IntKind.i64.wrap (t + (1 : Int)) + IntKind.i64.wrap n_1))
                                                      b b_1).snd ==
                                                  (1 : Int)) =
                                                false →
                                              (((stepS f k p s fd c
                                                          (IntKind.i64.wrap
                                                            (IntKind.i64.wrap (t + (1 : Int)) + IntKind.i64.wrap n_1))
                                                          b b_1).snd ==
                                                      (2 : Int)) =
                                                    true →
                                                  ((xs = xs ∧
                                                        (Tail.kn (0 : Nat) = Tail.kn (0 : Nat) ∧
                                                            (ByteArray.mk #[]) = (ByteArray.mk #[]) ∧
                                                              (0 : Int) = (0 : Int) ∧
                                                                (0 : Int) = (0 : Int) ∧
                                                                  (0 : Int) = (0 : Int) ∧
                                                                    false = false ∧
                                                                      (0 : Int) = (0 : Int) ∧
                                                                        (0 : Int) = (0 : Int) ∧
                                                                          (0 : Int) = (0 : Int) ∧
                                                                            (0 : Int) = (0 : Int) ∧
                                                                              (0 : Int) = (0 : Int) ∧
                                                                                (0 : Int) = (0 : Int) ∧
                                                                                  f = f ∧ k = k ∧ True ∧ True ∧ True ∧ True) ∧
                                                          (Tail.kn (0 : Nat) = Tail.kn (0 : Nat) ∧
                                                              (stepS f k p s fd c
                                                                        (IntKind.i64.wrap
                                                                          (IntKind.i64.wrap (t + (1 : Int)) +
                                                                            IntKind.i64.wrap n_1))
                                                                        b b_1).fst.fst =
                                                                  (stepS f k p s fd c
                                                                        (IntKind.i64.wrap
                                                                          (IntKind.i64.wrap (t + (1 : Int)) +
                                                                            IntKind.i64.wrap n_1))
                                                                        b b_1).fst.fst ∧
                                                                (stepS f k p s fd c
                                                                            (IntKind.i64.wrap
                                                                              (IntKind.i64.wrap (t + (1 : Int)) +
                                                                                IntKind.i64.wrap n_1))
                                                                            b b_1).fst.snd.fst =
                                                                    (stepS f k p s fd c
                                                                            (IntKind.i64.wrap
                                                                              (IntKind.i64.wrap (t + (1 : Int)) +
                                                                                IntKind.i64.wrap n_1))
                                                                            b b_1).fst.snd.fst ∧
                                                                  (stepS f k p s fd c
                                                                                (IntKind.i64.wrap
                                                                                  (IntKind.i64.wrap (t + (1 : Int)) +
                                                                                    IntKind.i64.wrap n_1))
                                                                                b b_1).fst.snd.snd.fst =
                                                                      (stepS f k p s fd c
                                                                                (IntKind.i64.wrap
                                                                                  (IntKind.i64.wrap (t + (1 : Int)) +
                                                                                    IntKind.i64.wrap n_1))
                                                                                b b_1).fst.snd.snd.fst ∧
                                                                    (stepS f k p s fd c
                                                                                  (IntKind.i64.wrap
                                                                                    (IntKind.i64.wrap (t + (1 : Int)) +
                                                                                      IntKind.i64.wrap n_1))
                                                                                  b b_1).fst.snd.snd.snd =
                                                                        (stepS f k p s fd c
                                                                                  (IntKind.i64.wrap
                                                                                    (IntKind.i64.wrap (t + (1 : Int)) +
                                                                                      IntKind.i64.wrap n_1))
                                                                                  b b_1).fst.snd.snd.snd ∧
                                                                      True) ∧
                                                            (Tail.hid (1 : Nat) = Tail.hid (1 : Nat) ∧
                                                                List.take (l * (1 : Nat)) ts ++
                                                                    [D.v
                                                                        (Value.int IntKind.i64
                                                                          (IntKind.i64.wrap
                                                                            (IntKind.i64.wrap (t + (1 : Int)) +
                                                                              IntKind.i64.wrap n_1)))] =
                                                                  List.take (l * (1 : Nat)) ts ++
                                                                    [D.v
                                                                        (Value.int IntKind.i64
                                                                          (IntKind.i64.wrap
                                                                            (IntKind.i64.wrap (t + (1 : Int)) +
                                                                              IntKind.i64.wrap n_1)))]) ∧
                                                              (Tail.kn (0 : Nat) = Tail.kn (0 : Nat) ∧
                                                                  p = p ∧ s = s ∧ fd = fd ∧ c = c ∧ True) ∧
                                                                True) ∧
                                                      loopTodo Try.f5 (2 : Nat) = loopTodo Try.f5 (2 : Nat) ∧
                                                        (wt = wt ∧
                                                            kp = kp ∧
                                                              ((0 : Nat) = (0 : Nat) ∧
                                                                  n = n ∧ Cap.hid (0 : Nat) = Cap.hid (0 : Nat)) ∧
                                                                (0 : Nat) = (0 : Nat) ∧
                                                                  (0 : Nat) = (0 : Nat) ∧
                                                                    ((0 : Nat) = (0 : Nat) ∧
                                                                        l + (1 : Nat) = l + (1 : Nat) ∧
                                                                          Cap.hid (0 : Nat) = Cap.hid (0 : Nat)) ∧
                                                                      IntKind.i64.wrap
                                                                            (IntKind.i64.wrap (t + (1 : Int)) +
                                                                              IntKind.i64.wrap n_1) =
                                                                          IntKind.i64.wrap
                                                                            (IntKind.i64.wrap (t + (1 : Int)) +
                                                                              IntKind.i64.wrap n_1) ∧
                                                                        (↑i : Int) = (↑i : Int) ∧
                                                                          (0 : Nat) = (0 : Nat) ∧
                                                                            (↑i : Int) = (↑i : Int) ∧ True) ∧
                                                          True) ∧
                                                    Run Try.prog (J5 n xs wt kp w A).C (5 : Nat) (J5 n xs wt kp w A).R
                                                      (wa2At n xs wt kp f k
                                                        (List.take (l * (1 : Nat)) ts ++
                                                          [D.v
                                                              (Value.int IntKind.i64
                                                                (IntKind.i64.wrap
                                                                  (IntKind.i64.wrap (t + (1 : Int)) +
                                                                    IntKind.i64.wrap n_1)))])
                                                        (l + (1 : Nat)) (↑i : Int)
                                                        (IntKind.i64.wrap
                                                          (IntKind.i64.wrap (t + (1 : Int)) + IntKind.i64.wrap n_1))
                                                        (stepS f k p s fd c
                                                              (IntKind.i64.wrap
                                                                (IntKind.i64.wrap (t + (1 : Int)) + IntKind.i64.wrap n_1))
                                                              b b_1).fst.fst
                                                        (stepS f k p s fd c
                                                                (IntKind.i64.wrap
                                                                  (IntKind.i64.wrap (t + (1 : Int)) + IntKind.i64.wrap n_1))
                                                                b b_1).fst.snd.fst
                                                        (stepS f k p s fd c
                                                                  (IntKind.i64.wrap
                                                                    (IntKind.i64.wrap (t + (1 : Int)) + IntKind.i64.wrap n_1))
                                                                  b b_1).fst.snd.snd.fst
                                                        (stepS f k p s fd c
                                                                  (IntKind.i64.wrap
                                                                    (IntKind.i64.wrap (t + (1 : Int)) + IntKind.i64.wrap n_1))
                                                                  b b_1).fst.snd.snd.snd
                                                        p s fd c (↑i : Int))) ∧
                                                (((stepS f k p s fd c
                                                          (IntKind.i64.wrap
                                                            (IntKind.i64.wrap (t + (1 : Int)) + IntKind.i64.wrap n_1))
                                                          b b_1).snd ==
                                                      (2 : Int)) =
                                                    false →
                                                  ((xs = xs ∧
                                                        (Tail.kn (0 : Nat) = Tail.kn (0 : Nat) ∧
                                                            (ByteArray.mk #[]) = (ByteArray.mk #[]) ∧
                                                              (0 : Int) = (0 : Int) ∧
                                                                (0 : Int) = (0 : Int) ∧
                                                                  (0 : Int) = (0 : Int) ∧
                                                                    false = false ∧
                                                                      (0 : Int) = (0 : Int) ∧
                                                                        (0 : Int) = (0 : Int) ∧
                                                                          (0 : Int) = (0 : Int) ∧
                                                                            (0 : Int) = (0 : Int) ∧
                                                                              (0 : Int) = (0 : Int) ∧
                                                                                (0 : Int) = (0 : Int) ∧
                                                                                  f = f ∧ k = k ∧ True ∧ True ∧ True ∧ True) ∧
                                                          (Tail.kn (0 : Nat) = Tail.kn (0 : Nat) ∧
                                                              (stepS f k p s fd c
                                                                        (IntKind.i64.wrap
                                                                          (IntKind.i64.wrap (t + (1 : Int)) +
                                                                            IntKind.i64.wrap n_1))
                                                                        b b_1).fst.fst =
                                                                  (stepS f k p s fd c
                                                                        (IntKind.i64.wrap
                                                                          (IntKind.i64.wrap (t + (1 : Int)) +
                                                                            IntKind.i64.wrap n_1))
                                                                        b b_1).fst.fst ∧
                                                                (stepS f k p s fd c
                                                                            (IntKind.i64.wrap
                                                                              (IntKind.i64.wrap (t + (1 : Int)) +
                                                                                IntKind.i64.wrap n_1))
                                                                            b b_1).fst.snd.fst =
                                                                    (stepS f k p s fd c
                                                                            (IntKind.i64.wrap
                                                                              (IntKind.i64.wrap (t + (1 : Int)) +
                                                                                IntKind.i64.wrap n_1))
                                                                            b b_1).fst.snd.fst ∧
                                                                  (stepS f k p s fd c
                                                                                (IntKind.i64.wrap
                                                                                  (IntKind.i64.wrap (t + (1 : Int)) +
                                                                                    IntKind.i64.wrap n_1))
                                                                                b b_1).fst.snd.snd.fst =
                                                                      (stepS f k p s fd c
                                                                                (IntKind.i64.wrap
                                                                                  (IntKind.i64.wrap (t + (1 : Int)) +
                                                                                    IntKind.i64.wrap n_1))
                                                                                b b_1).fst.snd.snd.fst ∧
                                                                    (stepS f k p s fd c
                                                                                  (IntKind.i64.wrap
                                                                                    (IntKind.i64.wrap (t + (1 : Int)) +
                                                                                      IntKind.i64.wrap n_1))
                                                                                  b b_1).fst.snd.snd.snd =
                                                                        (stepS f k p s fd c
                                                                                  (IntKind.i64.wrap
                                                                                    (IntKind.i64.wrap (t + (1 : Int)) +
                                                                                      IntKind.i64.wrap n_1))
                                                                                  b b_1).fst.snd.snd.snd ∧
                                                                      True) ∧
                                                            (Tail.hid (1 : Nat) = Tail.hid (1 : Nat) ∧
                                                                List.take (l * (1 : Nat)) ts ++
                                                                    [D.v
                                                                        (Value.int IntKind.i64
                                                                          (IntKind.i64.wrap
                                                                            (IntKind.i64.wrap (t + (1 : Int)) +
                                                                              IntKind.i64.wrap n_1)))] =
                                                                  List.take (l * (1 : Nat)) ts ++
                                                                    [D.v
                                                                        (Value.int IntKind.i64
                                                                          (IntKind.i64.wrap
                                                                            (IntKind.i64.wrap (t + (1 : Int)) +
                                                                              IntKind.i64.wrap n_1)))]) ∧
                                                              True) ∧
                                                      loopTodo Try.f5 (0 : Nat) = loopTodo Try.f5 (0 : Nat) ∧
                                                        (wt = wt ∧
                                                            kp = kp ∧
                                                              ((0 : Nat) = (0 : Nat) ∧
                                                                  n = n ∧ Cap.hid (0 : Nat) = Cap.hid (0 : Nat)) ∧
                                                                (0 : Nat) = (0 : Nat) ∧
                                                                  (0 : Nat) = (0 : Nat) ∧
                                                                    ((0 : Nat) = (0 : Nat) ∧
                                                                        l + (1 : Nat) = l + (1 : Nat) ∧
                                                                          Cap.hid (0 : Nat) = Cap.hid (0 : Nat)) ∧
                                                                      IntKind.i64.wrap
                                                                            (IntKind.i64.wrap (t + (1 : Int)) +
                                                                              IntKind.i64.wrap n_1) =
                                                                          IntKind.i64.wrap
                                                                            (IntKind.i64.wrap (t + (1 : Int)) +
                                                                              IntKind.i64.wrap n_1) ∧
                                                                        IntKind.i64.wrap ((↑i : Int) + (1 : Int)) =
                                                                            IntKind.i64.wrap ((↑i : Int) + (1 : Int)) ∧
                                                                          True) ∧
                                                          True) ∧
                                                    Run Try.prog (J5 n xs wt kp w A).C (5 : Nat) (J5 n xs wt kp w A).R
                                                      (waAt n xs wt kp f k
                                                        (List.take (l * (1 : Nat)) ts ++
                                                          [D.v
                                                              (Value.int IntKind.i64
                                                                (IntKind.i64.wrap
                                                                  (IntKind.i64.wrap (t + (1 : Int)) +
                                                                    IntKind.i64.wrap n_1)))])
                                                        (l + (1 : Nat)) (IntKind.i64.wrap ((↑i : Int) + (1 : Int)))
                                                        (IntKind.i64.wrap
                                                          (IntKind.i64.wrap (t + (1 : Int)) + IntKind.i64.wrap n_1))
                                                        (stepS f k p s fd c
                                                              (IntKind.i64.wrap
                                                                (IntKind.i64.wrap (t + (1 : Int)) + IntKind.i64.wrap n_1))
                                                              b b_1).fst.fst
                                                        (stepS f k p s fd c
                                                                (IntKind.i64.wrap
                                                                  (IntKind.i64.wrap (t + (1 : Int)) + IntKind.i64.wrap n_1))
                                                                b b_1).fst.snd.fst
                                                        (stepS f k p s fd c
                                                                  (IntKind.i64.wrap
                                                                    (IntKind.i64.wrap (t + (1 : Int)) + IntKind.i64.wrap n_1))
                                                                  b b_1).fst.snd.snd.fst
                                                        (stepS f k p s fd c
                                                                  (IntKind.i64.wrap
                                                                    (IntKind.i64.wrap (t + (1 : Int)) + IntKind.i64.wrap n_1))
                                                                  b b_1).fst.snd.snd.snd)))) ∧
                                        True) ∧
        (decide ((↑i : Int) < (↑n : Int)) = false → A (Value.bool true)))) : Run Try.prog (J5 n xs wt kp w A).C 5 (J5 n xs wt kp w A).R (waAt n xs wt kp f k ts l i t p s fd c) := by
  refine run_chk (J := J5 n xs wt kp w A) 400 ?_
  refine chk h ?_
  kernel_rfl
set_option maxRecDepth 100000 in
theorem wa1_body (A : Value → Prop) (n : Nat) (xs : List D) (wt kp f k : Int) (ts : List D) (l i : Nat) (t p s fd c : Int) (q : Nat) (w : World)
    (h : ((decide ((↑q : Int) > (0 : Int)) = true →
          ((0 : Int) ≤ (↑q : Int) ∧ (↑q : Int) < (↑l : Int)) ∧
            ∃ n_1,
              ts[(0 : Nat) + q * (1 : Nat)]? = some (D.v (Value.int IntKind.i64 n_1)) ∧
                ((n_1 != s) = true →
                    ((0 : Int) ≤ (↑q : Int) ∧ (↑q : Int) < (↑n : Int)) ∧
                      ∃ b,
                        xs[(0 : Nat) + q * (3 : Nat) + (1 : Nat)]? = some (D.v (Value.bool b)) ∧
                          (b = true →
                              ((0 : Int) ≤ (↑q : Int) ∧ (↑q : Int) < (↑n : Int)) ∧
                                ∃ b,
                                  xs[(0 : Nat) + q * (3 : Nat) + (0 : Nat)]? = some (D.v (Value.bool b)) ∧
                                    ((!b) = true → A (Value.bool false)) ∧
                                      ((!b) = false →
                                        ((xs = xs ∧
                                              (Tail.kn (0 : Nat) = Tail.kn (0 : Nat) ∧
                                                  (ByteArray.mk #[]) = (ByteArray.mk #[]) ∧
                                                    (0 : Int) = (0 : Int) ∧
                                                      (0 : Int) = (0 : Int) ∧
                                                        (0 : Int) = (0 : Int) ∧
                                                          false = false ∧
                                                            (0 : Int) = (0 : Int) ∧
                                                              (0 : Int) = (0 : Int) ∧
                                                                (0 : Int) = (0 : Int) ∧
                                                                  (0 : Int) = (0 : Int) ∧
                                                                    (0 : Int) = (0 : Int) ∧
                                                                      (0 : Int) = (0 : Int) ∧
                                                                        f = f ∧ k = k ∧ True ∧ True ∧ True ∧ True) ∧
                                                (Tail.kn (0 : Nat) = Tail.kn (0 : Nat) ∧
                                                    p = p ∧ s = s ∧ fd = fd ∧ c = c ∧ True) ∧
                                                  (Tail.hid (1 : Nat) = Tail.hid (1 : Nat) ∧ ts = ts) ∧ True) ∧
                                            loopTodo Try.f5 (1 : Nat) = loopTodo Try.f5 (1 : Nat) ∧
                                              (wt = wt ∧
                                                  kp = kp ∧
                                                    ((0 : Nat) = (0 : Nat) ∧ n = n ∧ Cap.hid (0 : Nat) = Cap.hid (0 : Nat)) ∧
                                                      (0 : Nat) = (0 : Nat) ∧
                                                        (0 : Nat) = (0 : Nat) ∧
                                                          ((0 : Nat) = (0 : Nat) ∧
                                                              l = l ∧ Cap.hid (0 : Nat) = Cap.hid (0 : Nat)) ∧
                                                            t = t ∧
                                                              (↑i : Int) = (↑i : Int) ∧
                                                                IntKind.i64.wrap ((↑q : Int) - (1 : Int)) =
                                                                    IntKind.i64.wrap ((↑q : Int) - (1 : Int)) ∧
                                                                  True) ∧
                                                True) ∧
                                          Run Try.prog (J5 n xs wt kp w A).C (5 : Nat) (J5 n xs wt kp w A).R
                                            (wa1At n xs wt kp f k ts l (↑i : Int) t p s fd c
                                              (IntKind.i64.wrap ((↑q : Int) - (1 : Int)))))) ∧
                            (b = false →
                              ((xs = xs ∧
                                    (Tail.kn (0 : Nat) = Tail.kn (0 : Nat) ∧
                                        (ByteArray.mk #[]) = (ByteArray.mk #[]) ∧
                                          (0 : Int) = (0 : Int) ∧
                                            (0 : Int) = (0 : Int) ∧
                                              (0 : Int) = (0 : Int) ∧
                                                false = false ∧
                                                  (0 : Int) = (0 : Int) ∧
                                                    (0 : Int) = (0 : Int) ∧
                                                      (0 : Int) = (0 : Int) ∧
                                                        (0 : Int) = (0 : Int) ∧
                                                          (0 : Int) = (0 : Int) ∧
                                                            (0 : Int) = (0 : Int) ∧
                                                              f = f ∧ k = k ∧ True ∧ True ∧ True ∧ True) ∧
                                      (Tail.kn (0 : Nat) = Tail.kn (0 : Nat) ∧ p = p ∧ s = s ∧ fd = fd ∧ c = c ∧ True) ∧
                                        (Tail.hid (1 : Nat) = Tail.hid (1 : Nat) ∧ ts = ts) ∧ True) ∧
                                  loopTodo Try.f5 (1 : Nat) = loopTodo Try.f5 (1 : Nat) ∧
                                    (wt = wt ∧
                                        kp = kp ∧
                                          ((0 : Nat) = (0 : Nat) ∧ n = n ∧ Cap.hid (0 : Nat) = Cap.hid (0 : Nat)) ∧
                                            (0 : Nat) = (0 : Nat) ∧
                                              (0 : Nat) = (0 : Nat) ∧
                                                ((0 : Nat) = (0 : Nat) ∧ l = l ∧ Cap.hid (0 : Nat) = Cap.hid (0 : Nat)) ∧
                                                  t = t ∧
                                                    (↑i : Int) = (↑i : Int) ∧
                                                      IntKind.i64.wrap ((↑q : Int) - (1 : Int)) =
                                                          IntKind.i64.wrap ((↑q : Int) - (1 : Int)) ∧
                                                        True) ∧
                                      True) ∧
                                Run Try.prog (J5 n xs wt kp w A).C (5 : Nat) (J5 n xs wt kp w A).R
                                  (wa1At n xs wt kp f k ts l (↑i : Int) t p s fd c
                                    (IntKind.i64.wrap ((↑q : Int) - (1 : Int)))))) ∧
                  ((n_1 != s) = false →
                    ((0 : Int) ≤ (↑q : Int) ∧ (↑q : Int) < (↑l : Int)) ∧
                      ∃ n_2,
                        ts[(0 : Nat) + q * (1 : Nat)]? = some (D.v (Value.int IntKind.i64 n_2)) ∧
                          ((n_2 != s) = true → A (Value.bool false)) ∧
                            ((n_2 != s) = false →
                              ((0 : Int) ≤ (↑q : Int) ∧ (↑q : Int) < (↑n : Int)) ∧
                                ∃ b,
                                  xs[(0 : Nat) + q * (3 : Nat) + (0 : Nat)]? = some (D.v (Value.bool b)) ∧
                                    ((!b) = true → A (Value.bool false)) ∧
                                      ((!b) = false →
                                        ((0 : Int) ≤ (↑q : Int) ∧ (↑q : Int) < (↑l : Int)) ∧
                                          ∃ n_3,
                                            ts[(0 : Nat) + q * (1 : Nat)]? = some (D.v (Value.int IntKind.i64 n_3)) ∧
                                              (decide (IntKind.i64.wrap (t - n_3) < IntKind.i64.wrap wt) = true →
                                                  A (Value.bool false)) ∧
                                                (decide (IntKind.i64.wrap (t - n_3) < IntKind.i64.wrap wt) = false →
                                                  ((xs = xs ∧
                                                        (Tail.kn (0 : Nat) = Tail.kn (0 : Nat) ∧
                                                            (ByteArray.mk #[]) = (ByteArray.mk #[]) ∧
                                                              (0 : Int) = (0 : Int) ∧
                                                                (0 : Int) = (0 : Int) ∧
                                                                  (0 : Int) = (0 : Int) ∧
                                                                    false = false ∧
                                                                      (0 : Int) = (0 : Int) ∧
                                                                        (0 : Int) = (0 : Int) ∧
                                                                          (0 : Int) = (0 : Int) ∧
                                                                            (0 : Int) = (0 : Int) ∧
                                                                              (0 : Int) = (0 : Int) ∧
                                                                                (0 : Int) = (0 : Int) ∧
                                                                                  f = f ∧ k = k ∧ True ∧ True ∧ True ∧ True) ∧
                                                          (Tail.kn (0 : Nat) = Tail.kn (0 : Nat) ∧
                                                              p = p ∧ s = s ∧ fd = fd ∧ c = c ∧ True) ∧
                                                            (Tail.hid (1 : Nat) = Tail.hid (1 : Nat) ∧ ts = ts) ∧ True) ∧
                                                      loopTodo Try.f5 (0 : Nat) = loopTodo Try.f5 (0 : Nat) ∧
                                                        (wt = wt ∧
                                                            kp = kp ∧
                                                              ((0 : Nat) = (0 : Nat) ∧
                                                                  n = n ∧ Cap.hid (0 : Nat) = Cap.hid (0 : Nat)) ∧
                                                                (0 : Nat) = (0 : Nat) ∧
                                                                  (0 : Nat) = (0 : Nat) ∧
                                                                    ((0 : Nat) = (0 : Nat) ∧
                                                                        l = l ∧ Cap.hid (0 : Nat) = Cap.hid (0 : Nat)) ∧
                                                                      t = t ∧
                                                                        IntKind.i64.wrap ((↑i : Int) + (1 : Int)) =
                                                                            IntKind.i64.wrap ((↑i : Int) + (1 : Int)) ∧
                                                                          True) ∧
                                                          True) ∧
                                                    Run Try.prog (J5 n xs wt kp w A).C (5 : Nat) (J5 n xs wt kp w A).R
                                                      (waAt n xs wt kp f k ts l (IntKind.i64.wrap ((↑i : Int) + (1 : Int))) t
                                                        p s fd c)))))) ∧
        (decide ((↑q : Int) > (0 : Int)) = false →
          ((0 : Int) ≤ (↑q : Int) ∧ (↑q : Int) < (↑l : Int)) ∧
            ∃ n_1,
              ts[(0 : Nat) + q * (1 : Nat)]? = some (D.v (Value.int IntKind.i64 n_1)) ∧
                ((n_1 != s) = true → A (Value.bool false)) ∧
                  ((n_1 != s) = false →
                    ((0 : Int) ≤ (↑q : Int) ∧ (↑q : Int) < (↑n : Int)) ∧
                      ∃ b,
                        xs[(0 : Nat) + q * (3 : Nat) + (0 : Nat)]? = some (D.v (Value.bool b)) ∧
                          ((!b) = true → A (Value.bool false)) ∧
                            ((!b) = false →
                              ((0 : Int) ≤ (↑q : Int) ∧ (↑q : Int) < (↑l : Int)) ∧
                                ∃ n_2,
                                  ts[(0 : Nat) + q * (1 : Nat)]? = some (D.v (Value.int IntKind.i64 n_2)) ∧
                                    (decide (IntKind.i64.wrap (t - n_2) < IntKind.i64.wrap wt) = true →
                                        A (Value.bool false)) ∧
                                      (decide (IntKind.i64.wrap (t - n_2) < IntKind.i64.wrap wt) = false →
                                        ((xs = xs ∧
                                              (Tail.kn (0 : Nat) = Tail.kn (0 : Nat) ∧
                                                  (ByteArray.mk #[]) = (ByteArray.mk #[]) ∧
                                                    (0 : Int) = (0 : Int) ∧
                                                      (0 : Int) = (0 : Int) ∧
                                                        (0 : Int) = (0 : Int) ∧
                                                          false = false ∧
                                                            (0 : Int) = (0 : Int) ∧
                                                              (0 : Int) = (0 : Int) ∧
                                                                (0 : Int) = (0 : Int) ∧
                                                                  (0 : Int) = (0 : Int) ∧
                                                                    (0 : Int) = (0 : Int) ∧
                                                                      (0 : Int) = (0 : Int) ∧
                                                                        f = f ∧ k = k ∧ True ∧ True ∧ True ∧ True) ∧
                                                (Tail.kn (0 : Nat) = Tail.kn (0 : Nat) ∧
                                                    p = p ∧ s = s ∧ fd = fd ∧ c = c ∧ True) ∧
                                                  (Tail.hid (1 : Nat) = Tail.hid (1 : Nat) ∧ ts = ts) ∧ True) ∧
                                            loopTodo Try.f5 (0 : Nat) = loopTodo Try.f5 (0 : Nat) ∧
                                              (wt = wt ∧
                                                  kp = kp ∧
                                                    ((0 : Nat) = (0 : Nat) ∧ n = n ∧ Cap.hid (0 : Nat) = Cap.hid (0 : Nat)) ∧
                                                      (0 : Nat) = (0 : Nat) ∧
                                                        (0 : Nat) = (0 : Nat) ∧
                                                          ((0 : Nat) = (0 : Nat) ∧
                                                              l = l ∧ Cap.hid (0 : Nat) = Cap.hid (0 : Nat)) ∧
                                                            t = t ∧
                                                              IntKind.i64.wrap ((↑i : Int) + (1 : Int)) =
                                                                  IntKind.i64.wrap ((↑i : Int) + (1 : Int)) ∧
                                                                True) ∧
                                                True) ∧
                                          Run Try.prog (J5 n xs wt kp w A).C (5 : Nat) (J5 n xs wt kp w A).R
                                            (waAt n xs wt kp f k ts l (IntKind.i64.wrap ((↑i : Int) + (1 : Int))) t p s fd
                                              c))))))) : Run Try.prog (J5 n xs wt kp w A).C 5 (J5 n xs wt kp w A).R (wa1At n xs wt kp f k ts l i t p s fd c q) := by
  refine run_chk (J := J5 n xs wt kp w A) 400 ?_
  refine chk h ?_
  kernel_rfl
set_option maxRecDepth 100000 in
theorem wa2_body (A : Value → Prop) (n : Nat) (xs : List D) (wt kp f k : Int) (ts : List D) (l i : Nat) (t p s fd c p0 s0 f0 c0 : Int) (q : Nat) (w : World)
    (h : ((decide ((↑q : Int) > (0 : Int)) = true →
          ((0 : Int) ≤ IntKind.i64.wrap ((↑q : Int) - (1 : Int)) ∧ IntKind.i64.wrap ((↑q : Int) - (1 : Int)) < (↑n : Int)) ∧
            ∃ b,
              xs[(0 : Nat) + (IntKind.i64.wrap ((↑q : Int) - (1 : Int))).toNat * (3 : Nat) + (1 : Nat)]? =
                  some (D.v (Value.bool b)) ∧
                (b = true →
                    ((0 : Int) ≤ IntKind.i64.wrap ((↑q : Int) - (1 : Int)) ∧
                        IntKind.i64.wrap ((↑q : Int) - (1 : Int)) < (↑l : Int)) ∧
                      ∃ n_1,
                        ts[(0 : Nat) + (IntKind.i64.wrap ((↑q : Int) - (1 : Int))).toNat * (1 : Nat)]? =
                            some (D.v (Value.int IntKind.i64 n_1)) ∧
                          (decide (n_1 ≥ IntKind.i64.wrap (f0 + (1 : Int))) = true →
                              ((0 : Int) ≤ (↑q : Int) ∧ (↑q : Int) < (↑l : Int)) ∧
                                ∃ n_2,
                                  ts[(0 : Nat) + q * (1 : Nat)]? = some (D.v (Value.int IntKind.i64 n_2)) ∧
                                    (decide (n_2 > c0) = true →
                                        ((xs = xs ∧
                                              (Tail.kn (0 : Nat) = Tail.kn (0 : Nat) ∧
                                                  (ByteArray.mk #[]) = (ByteArray.mk #[]) ∧
                                                    (0 : Int) = (0 : Int) ∧
                                                      (0 : Int) = (0 : Int) ∧
                                                        (0 : Int) = (0 : Int) ∧
                                                          false = false ∧
                                                            (0 : Int) = (0 : Int) ∧
                                                              (0 : Int) = (0 : Int) ∧
                                                                (0 : Int) = (0 : Int) ∧
                                                                  (0 : Int) = (0 : Int) ∧
                                                                    (0 : Int) = (0 : Int) ∧
                                                                      (0 : Int) = (0 : Int) ∧
                                                                        f = f ∧ k = k ∧ True ∧ True ∧ True ∧ True) ∧
                                                (Tail.kn (0 : Nat) = Tail.kn (0 : Nat) ∧
                                                    p = p ∧ s = s ∧ fd = fd ∧ c = c ∧ True) ∧
                                                  (Tail.hid (1 : Nat) = Tail.hid (1 : Nat) ∧ ts = ts) ∧
                                                    (Tail.kn (0 : Nat) = Tail.kn (0 : Nat) ∧
                                                        p0 = p0 ∧ s0 = s0 ∧ f0 = f0 ∧ c0 = c0 ∧ True) ∧
                                                      True) ∧
                                            loopTodo Try.f5 (2 : Nat) = loopTodo Try.f5 (2 : Nat) ∧
                                              (wt = wt ∧
                                                  kp = kp ∧
                                                    ((0 : Nat) = (0 : Nat) ∧ n = n ∧ Cap.hid (0 : Nat) = Cap.hid (0 : Nat)) ∧
                                                      (0 : Nat) = (0 : Nat) ∧
                                                        (0 : Nat) = (0 : Nat) ∧
                                                          ((0 : Nat) = (0 : Nat) ∧
                                                              l = l ∧ Cap.hid (0 : Nat) = Cap.hid (0 : Nat)) ∧
                                                            t = t ∧
                                                              (↑i : Int) = (↑i : Int) ∧
                                                                (0 : Nat) = (0 : Nat) ∧
                                                                  IntKind.i64.wrap ((↑q : Int) - (1 : Int)) =
                                                                      IntKind.i64.wrap ((↑q : Int) - (1 : Int)) ∧
                                                                    True) ∧
                                                True) ∧
                                          Run Try.prog (J5 n xs wt kp w A).C (5 : Nat) (J5 n xs wt kp w A).R
                                            (wa2At n xs wt kp f k ts l (↑i : Int) t p s fd c p0 s0 f0 c0
                                              (IntKind.i64.wrap ((↑q : Int) - (1 : Int))))) ∧
                                      (decide (n_2 > c0) = false →
                                        ((0 : Int) ≤ (↑i : Int) ∧ (↑i : Int) < (↑n : Int)) ∧
                                          ∃ b,
                                            xs[(0 : Nat) + i * (3 : Nat) + (1 : Nat)]? = some (D.v (Value.bool b)) ∧
                                              ((!b) = false →
                                                  ((p0 != (2 : Int)) = false →
                                                      ((0 : Int) ≤ (↑q : Int) ∧ (↑q : Int) < (↑l : Int)) ∧
                                                        ∃ n_3,
                                                          ts[(0 : Nat) + q * (1 : Nat)]? =
                                                              some (D.v (Value.int IntKind.i64 n_3)) ∧
                                                            (decide (IntKind.i64.wrap (t - n_3) < IntKind.i64.wrap kp) =
                                                                  true →
                                                                A (Value.bool false)) ∧
                                                              (decide (IntKind.i64.wrap (t - n_3) < IntKind.i64.wrap kp) =
                                                                  false →
                                                                ((xs = xs ∧
                                                                      (Tail.kn (0 : Nat) = Tail.kn (0 : Nat) ∧
                                                                          (ByteArray.mk #[]) = (ByteArray.mk #[]) ∧
                                                                            (0 : Int) = (0 : Int) ∧
                                                                              (0 : Int) = (0 : Int) ∧
                                                                                (0 : Int) = (0 : Int) ∧
                                                                                  false = false ∧
                                                                                    (0 : Int) = (0 : Int) ∧
                                                                                      (0 : Int) = (0 : Int) ∧
                                                                                        (0 : Int) = (0 : Int) ∧
                                                                                          (0 : Int) = (0 : Int) ∧
                                                                                            (0 : Int) = (0 : Int) ∧
                                                                                              (0 : Int) = (0 : Int) ∧
                                                                                                f = f ∧
                                                                                                  k = k ∧
                                                                                                    True ∧
                                                                                                      True ∧ True ∧ True) ∧
                                                                        (Tail.kn (0 : Nat) = Tail.kn (0 : Nat) ∧
                                                                            p = p ∧ s = s ∧ fd = fd ∧ c = c ∧ True) ∧
                                                                          (Tail.hid (1 : Nat) = Tail.hid (1 : Nat) ∧
                                                                              ts = ts) ∧
                                                                            True) ∧
                                                                    loopTodo Try.f5 (0 : Nat) = loopTodo Try.f5 (0 : Nat) ∧
                                                                      (wt = wt ∧
                                                                          kp = kp ∧
                                                                            ((0 : Nat) = (0 : Nat) ∧
                                                                                n = n ∧
                                                                                  Cap.hid (0 : Nat) = Cap.hid (0 : Nat)) ∧
                                                                              (0 : Nat) = (0 : Nat) ∧
                                                                                (0 : Nat) = (0 : Nat) ∧
                                                                                  ((0 : Nat) = (0 : Nat) ∧
                                                                                      l = l ∧
                                                                                        Cap.hid (0 : Nat) =
                                                                                          Cap.hid (0 : Nat)) ∧
                                                                                    t = t ∧
                                                                                      IntKind.i64.wrap
                                                                                            ((↑i : Int) + (1 : Int)) =
                                                                                          IntKind.i64.wrap
                                                                                            ((↑i : Int) + (1 : Int)) ∧
                                                                                        True) ∧
                                                                        True) ∧
                                                                  Run Try.prog (J5 n xs wt kp w A).C (5 : Nat)
                                                                    (J5 n xs wt kp w A).R
                                                                    (waAt n xs wt kp f k ts l
                                                                      (IntKind.i64.wrap ((↑i : Int) + (1 : Int))) t p s fd
                                                                      c))) ∧
                                                    ((p0 != (2 : Int)) = true → A (Value.bool false))) ∧
                                                ((!b) = true → A (Value.bool false)))) ∧
                            (decide (n_1 ≥ IntKind.i64.wrap (f0 + (1 : Int))) = false →
                              ((0 : Int) ≤ (↑i : Int) ∧ (↑i : Int) < (↑n : Int)) ∧
                                ∃ b,
                                  xs[(0 : Nat) + i * (3 : Nat) + (1 : Nat)]? = some (D.v (Value.bool b)) ∧
                                    ((!b) = false →
                                        ((p0 != (2 : Int)) = false →
                                            ((0 : Int) ≤ (↑q : Int) ∧ (↑q : Int) < (↑l : Int)) ∧
                                              ∃ n_2,
                                                ts[(0 : Nat) + q * (1 : Nat)]? = some (D.v (Value.int IntKind.i64 n_2)) ∧
                                                  (decide (IntKind.i64.wrap (t - n_2) < IntKind.i64.wrap kp) = true →
                                                      A (Value.bool false)) ∧
                                                    (decide (IntKind.i64.wrap (t - n_2) < IntKind.i64.wrap kp) = false →
                                                      ((xs = xs ∧
                                                            (Tail.kn (0 : Nat) = Tail.kn (0 : Nat) ∧
                                                                (ByteArray.mk #[]) = (ByteArray.mk #[]) ∧
                                                                  (0 : Int) = (0 : Int) ∧
                                                                    (0 : Int) = (0 : Int) ∧
                                                                      (0 : Int) = (0 : Int) ∧
                                                                        false = false ∧
                                                                          (0 : Int) = (0 : Int) ∧
                                                                            (0 : Int) = (0 : Int) ∧
                                                                              (0 : Int) = (0 : Int) ∧
                                                                                (0 : Int) = (0 : Int) ∧
                                                                                  (0 : Int) = (0 : Int) ∧
                                                                                    (0 : Int) = (0 : Int) ∧
                                                                                      f = f ∧
                                                                                        k = k ∧ True ∧ True ∧ True ∧ True) ∧
                                                              (Tail.kn (0 : Nat) = Tail.kn (0 : Nat) ∧
                                                                  p = p ∧ s = s ∧ fd = fd ∧ c = c ∧ True) ∧
                                                                (Tail.hid (1 : Nat) = Tail.hid (1 : Nat) ∧ ts = ts) ∧ True) ∧
                                                          loopTodo Try.f5 (0 : Nat) = loopTodo Try.f5 (0 : Nat) ∧
                                                            (wt = wt ∧
                                                                kp = kp ∧
                                                                  ((0 : Nat) = (0 : Nat) ∧
                                                                      n = n ∧ Cap.hid (0 : Nat) = Cap.hid (0 : Nat)) ∧
                                                                    (0 : Nat) = (0 : Nat) ∧
                                                                      (0 : Nat) = (0 : Nat) ∧
                                                                        ((0 : Nat) = (0 : Nat) ∧
                                                                            l = l ∧ Cap.hid (0 : Nat) = Cap.hid (0 : Nat)) ∧
                                                                          t = t ∧
                                                                            IntKind.i64.wrap ((↑i : Int) + (1 : Int)) =
                                                                                IntKind.i64.wrap ((↑i : Int) + (1 : Int)) ∧
                                                                              True) ∧
                                                              True) ∧
                                                        Run Try.prog (J5 n xs wt kp w A).C (5 : Nat) (J5 n xs wt kp w A).R
                                                          (waAt n xs wt kp f k ts l
                                                            (IntKind.i64.wrap ((↑i : Int) + (1 : Int))) t p s fd c))) ∧
                                          ((p0 != (2 : Int)) = true → A (Value.bool false))) ∧
                                      ((!b) = true → A (Value.bool false)))) ∧
                  (b = false →
                    ((0 : Int) ≤ (↑i : Int) ∧ (↑i : Int) < (↑n : Int)) ∧
                      ∃ b,
                        xs[(0 : Nat) + i * (3 : Nat) + (1 : Nat)]? = some (D.v (Value.bool b)) ∧
                          ((!b) = false →
                              ((p0 != (2 : Int)) = false →
                                  ((0 : Int) ≤ (↑q : Int) ∧ (↑q : Int) < (↑l : Int)) ∧
                                    ∃ n_1,
                                      ts[(0 : Nat) + q * (1 : Nat)]? = some (D.v (Value.int IntKind.i64 n_1)) ∧
                                        (decide (IntKind.i64.wrap (t - n_1) < IntKind.i64.wrap kp) = true →
                                            A (Value.bool false)) ∧
                                          (decide (IntKind.i64.wrap (t - n_1) < IntKind.i64.wrap kp) = false →
                                            ((xs = xs ∧
                                                  (Tail.kn (0 : Nat) = Tail.kn (0 : Nat) ∧
                                                      (ByteArray.mk #[]) = (ByteArray.mk #[]) ∧
                                                        (0 : Int) = (0 : Int) ∧
                                                          (0 : Int) = (0 : Int) ∧
                                                            (0 : Int) = (0 : Int) ∧
                                                              false = false ∧
                                                                (0 : Int) = (0 : Int) ∧
                                                                  (0 : Int) = (0 : Int) ∧
                                                                    (0 : Int) = (0 : Int) ∧
                                                                      (0 : Int) = (0 : Int) ∧
                                                                        (0 : Int) = (0 : Int) ∧
                                                                          (0 : Int) = (0 : Int) ∧
                                                                            f = f ∧ k = k ∧ True ∧ True ∧ True ∧ True) ∧
                                                    (Tail.kn (0 : Nat) = Tail.kn (0 : Nat) ∧
                                                        p = p ∧ s = s ∧ fd = fd ∧ c = c ∧ True) ∧
                                                      (Tail.hid (1 : Nat) = Tail.hid (1 : Nat) ∧ ts = ts) ∧ True) ∧
                                                loopTodo Try.f5 (0 : Nat) = loopTodo Try.f5 (0 : Nat) ∧
                                                  (wt = wt ∧
                                                      kp = kp ∧
                                                        ((0 : Nat) = (0 : Nat) ∧
                                                            n = n ∧ Cap.hid (0 : Nat) = Cap.hid (0 : Nat)) ∧
                                                          (0 : Nat) = (0 : Nat) ∧
                                                            (0 : Nat) = (0 : Nat) ∧
                                                              ((0 : Nat) = (0 : Nat) ∧
                                                                  l = l ∧ Cap.hid (0 : Nat) = Cap.hid (0 : Nat)) ∧
                                                                t = t ∧
                                                                  IntKind.i64.wrap ((↑i : Int) + (1 : Int)) =
                                                                      IntKind.i64.wrap ((↑i : Int) + (1 : Int)) ∧
                                                                    True) ∧
                                                    True) ∧
                                              Run Try.prog (J5 n xs wt kp w A).C (5 : Nat) (J5 n xs wt kp w A).R
                                                (waAt n xs wt kp f k ts l (IntKind.i64.wrap ((↑i : Int) + (1 : Int))) t p s fd
                                                  c))) ∧
                                ((p0 != (2 : Int)) = true → A (Value.bool false))) ∧
                            ((!b) = true → A (Value.bool false)))) ∧
        (decide ((↑q : Int) > (0 : Int)) = false →
          ((0 : Int) ≤ (↑i : Int) ∧ (↑i : Int) < (↑n : Int)) ∧
            ∃ b,
              xs[(0 : Nat) + i * (3 : Nat) + (1 : Nat)]? = some (D.v (Value.bool b)) ∧
                ((!b) = false →
                    ((p0 != (2 : Int)) = false →
                        ((0 : Int) ≤ (↑q : Int) ∧ (↑q : Int) < (↑l : Int)) ∧
                          ∃ n_1,
                            ts[(0 : Nat) + q * (1 : Nat)]? = some (D.v (Value.int IntKind.i64 n_1)) ∧
                              (decide (IntKind.i64.wrap (t - n_1) < IntKind.i64.wrap kp) = true → A (Value.bool false)) ∧
                                (decide (IntKind.i64.wrap (t - n_1) < IntKind.i64.wrap kp) = false →
                                  ((xs = xs ∧
                                        (Tail.kn (0 : Nat) = Tail.kn (0 : Nat) ∧
                                            (ByteArray.mk #[]) = (ByteArray.mk #[]) ∧
                                              (0 : Int) = (0 : Int) ∧
                                                (0 : Int) = (0 : Int) ∧
                                                  (0 : Int) = (0 : Int) ∧
                                                    false = false ∧
                                                      (0 : Int) = (0 : Int) ∧
                                                        (0 : Int) = (0 : Int) ∧
                                                          (0 : Int) = (0 : Int) ∧
                                                            (0 : Int) = (0 : Int) ∧
                                                              (0 : Int) = (0 : Int) ∧
                                                                (0 : Int) = (0 : Int) ∧
                                                                  f = f ∧ k = k ∧ True ∧ True ∧ True ∧ True) ∧
                                          (Tail.kn (0 : Nat) = Tail.kn (0 : Nat) ∧ p = p ∧ s = s ∧ fd = fd ∧ c = c ∧ True) ∧
                                            (Tail.hid (1 : Nat) = Tail.hid (1 : Nat) ∧ ts = ts) ∧ True) ∧
                                      loopTodo Try.f5 (0 : Nat) = loopTodo Try.f5 (0 : Nat) ∧
                                        (wt = wt ∧
                                            kp = kp ∧
                                              ((0 : Nat) = (0 : Nat) ∧ n = n ∧ Cap.hid (0 : Nat) = Cap.hid (0 : Nat)) ∧
                                                (0 : Nat) = (0 : Nat) ∧
                                                  (0 : Nat) = (0 : Nat) ∧
                                                    ((0 : Nat) = (0 : Nat) ∧ l = l ∧ Cap.hid (0 : Nat) = Cap.hid (0 : Nat)) ∧
                                                      t = t ∧
                                                        IntKind.i64.wrap ((↑i : Int) + (1 : Int)) =
                                                            IntKind.i64.wrap ((↑i : Int) + (1 : Int)) ∧
                                                          True) ∧
                                          True) ∧
                                    Run Try.prog (J5 n xs wt kp w A).C (5 : Nat) (J5 n xs wt kp w A).R
                                      (waAt n xs wt kp f k ts l (IntKind.i64.wrap ((↑i : Int) + (1 : Int))) t p s fd c))) ∧
                      ((p0 != (2 : Int)) = true → A (Value.bool false))) ∧
                  ((!b) = true → A (Value.bool false))))) : Run Try.prog (J5 n xs wt kp w A).C 5 (J5 n xs wt kp w A).R (wa2At n xs wt kp f k ts l i t p s fd c p0 s0 f0 c0 q) := by
  refine run_chk (J := J5 n xs wt kp w A) 400 ?_
  refine chk h ?_
  kernel_rfl
end Go.Proofs.Ytoeeilbpgckhlaa
