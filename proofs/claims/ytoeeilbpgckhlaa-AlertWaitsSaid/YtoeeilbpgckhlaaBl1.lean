/- What a step of an alert answers, and its like in the reference, as laws of the functions. -/
import Derived.Test.YtoeeilbpgckhlaaSy21
import Derived.Test.YtoeeilbpgckhlaaProg
import Derived.KernelRfl
namespace Go.Proofs.Ytoeeilbpgckhlaa
open Go.RowKit Go.Sy
abbrev st (p s f c : Int) : Value := .agg #[.int .i64 p, .int .i64 s, .int .i64 f, .int .i64 c]
theorem cb16 : callable Try.prog 16 = some Try.f16 := by kernel_rfl
theorem cb17 : callable Try.prog 17 = some Try.f17 := by kernel_rfl
theorem cb18 : callable Try.prog 18 = some Try.f18 := by kernel_rfl
theorem cb19 : callable Try.prog 19 = some Try.f19 := by kernel_rfl
theorem cb21 : callable Try.prog 21 = some Try.f21 := by kernel_rfl
theorem cb22 : callable Try.prog 22 = some Try.f22 := by kernel_rfl
theorem cb23 : callable Try.prog 23 = some Try.f23 := by kernel_rfl
set_option maxRecDepth 100000 in
theorem new_raw (A : Value → Prop) (w : World) (h : (A
        (Value.agg
          #[Value.int IntKind.i64 (0 : Int), Value.int IntKind.i64 (-1 : Int), Value.int IntKind.i64 (-1 : Int),
            Value.int IntKind.i64 (-1 : Int)]))) : Calls Try.prog 16 #[] w fun e w' => ∃ x, e = .returned x ∧ A x ∧ Below w.heap.size w w' := by
  refine plain_calls cb16 [] true [] 100 ?_
  refine chk h ?_
  kernel_rfl
def newLaw : FnLaw Try.prog where
  g := 16
  dom := fun vs => match vs with | [] => True | _ => False
  out := fun _ => st 0 (-1) (-1) (-1)
  ok := fun vs w h => by cases vs with | nil => exact new_raw _ w rfl | cons _ _ => exact h.elim
set_option maxRecDepth 100000 in
theorem idle_raw (A : Value → Prop) (w : World) (h : (A
        (Value.agg
          #[Value.int IntKind.i64 (0 : Int), Value.int IntKind.i64 (-1 : Int), Value.int IntKind.i64 (-1 : Int),
            Value.int IntKind.i64 (-1 : Int)]))) : Calls Try.prog 17 #[] w fun e w' => ∃ x, e = .returned x ∧ A x ∧ Below w.heap.size w w' := by
  refine plain_calls cb17 [] true [] 100 ?_
  refine chk h ?_
  kernel_rfl
def idleLaw : FnLaw Try.prog where
  g := 17
  dom := fun vs => match vs with | [] => True | _ => False
  out := fun _ => st 0 (-1) (-1) (-1)
  ok := fun vs w h => by cases vs with | nil => exact idle_raw _ w rfl | cons _ _ => exact h.elim
set_option maxRecDepth 100000 in
theorem step_raw (A : Value → Prop) (r0 r1 r2 r3 r4 r5 r6 r7 r8 r9 r10 r13 r14 r15 : Value) (f k : Int) (p s fi c : Int) (t : Int) (ra cl : Bool) (w : World)
   (h : (((p == (0 : Int)) = true →
          ((!ra) = true →
              A
                (Value.tuple
                  #[Value.agg
                      #[Value.int IntKind.i64 p, Value.int IntKind.i64 s, Value.int IntKind.i64 fi, Value.int IntKind.i64 c],
                    Value.int IntKind.i64 (0 : Int)])) ∧
            ((!ra) = false →
              (cl = true →
                  ((!ra) = true →
                      True ∧
                        A
                          (Value.tuple
                            #[Value.agg
                                #[Value.int IntKind.i64 (0 : Int), Value.int IntKind.i64 (-1 : Int),
                                  Value.int IntKind.i64 (-1 : Int), Value.int IntKind.i64 (-1 : Int)],
                              Value.int IntKind.i64 (0 : Int)])) ∧
                    ((!ra) = false →
                      (decide (IntKind.i64.wrap (t - t) ≥ f) = true →
                          A
                            (Value.tuple
                              #[Value.agg
                                  #[Value.int IntKind.i64 (2 : Int), Value.int IntKind.i64 t, Value.int IntKind.i64 t,
                                    Value.int IntKind.i64 (-1 : Int)],
                                Value.int IntKind.i64 (1 : Int)])) ∧
                        (decide (IntKind.i64.wrap (t - t) ≥ f) = false →
                          A
                            (Value.tuple
                              #[Value.agg
                                  #[Value.int IntKind.i64 (1 : Int), Value.int IntKind.i64 t,
                                    Value.int IntKind.i64 (-1 : Int), Value.int IntKind.i64 (-1 : Int)],
                                Value.int IntKind.i64 (0 : Int)])))) ∧
                (cl = false →
                  (decide (IntKind.i64.wrap (t - t) ≥ f) = true →
                      A
                        (Value.tuple
                          #[Value.agg
                              #[Value.int IntKind.i64 (2 : Int), Value.int IntKind.i64 t, Value.int IntKind.i64 t,
                                Value.int IntKind.i64 (-1 : Int)],
                            Value.int IntKind.i64 (1 : Int)])) ∧
                    (decide (IntKind.i64.wrap (t - t) ≥ f) = false →
                      A
                        (Value.tuple
                          #[Value.agg
                              #[Value.int IntKind.i64 (1 : Int), Value.int IntKind.i64 t, Value.int IntKind.i64 (-1 : Int),
                                Value.int IntKind.i64 (-1 : Int)],
                            Value.int IntKind.i64 (0 : Int)]))))) ∧
        ((p == (0 : Int)) = false →
          ((p == (1 : Int)) = true →
              (cl = true →
                  ((!ra) = true →
                      True ∧
                        A
                          (Value.tuple
                            #[Value.agg
                                #[Value.int IntKind.i64 (0 : Int), Value.int IntKind.i64 (-1 : Int),
                                  Value.int IntKind.i64 (-1 : Int), Value.int IntKind.i64 (-1 : Int)],
                              Value.int IntKind.i64 (0 : Int)])) ∧
                    ((!ra) = false →
                      (decide (IntKind.i64.wrap (t - s) ≥ f) = true →
                          A
                            (Value.tuple
                              #[Value.agg
                                  #[Value.int IntKind.i64 (2 : Int), Value.int IntKind.i64 s, Value.int IntKind.i64 t,
                                    Value.int IntKind.i64 (-1 : Int)],
                                Value.int IntKind.i64 (1 : Int)])) ∧
                        (decide (IntKind.i64.wrap (t - s) ≥ f) = false →
                          A
                            (Value.tuple
                              #[Value.agg
                                  #[Value.int IntKind.i64 p, Value.int IntKind.i64 s, Value.int IntKind.i64 fi,
                                    Value.int IntKind.i64 c],
                                Value.int IntKind.i64 (0 : Int)])))) ∧
                (cl = false →
                  (decide (IntKind.i64.wrap (t - s) ≥ f) = true →
                      A
                        (Value.tuple
                          #[Value.agg
                              #[Value.int IntKind.i64 (2 : Int), Value.int IntKind.i64 s, Value.int IntKind.i64 t,
                                Value.int IntKind.i64 (-1 : Int)],
                            Value.int IntKind.i64 (1 : Int)])) ∧
                    (decide (IntKind.i64.wrap (t - s) ≥ f) = false →
                      A
                        (Value.tuple
                          #[Value.agg
                              #[Value.int IntKind.i64 p, Value.int IntKind.i64 s, Value.int IntKind.i64 fi,
                                Value.int IntKind.i64 c],
                            Value.int IntKind.i64 (0 : Int)])))) ∧
            ((p == (1 : Int)) = false →
              ((!cl) = true →
                  A
                    (Value.tuple
                      #[Value.agg
                          #[Value.int IntKind.i64 p, Value.int IntKind.i64 s, Value.int IntKind.i64 fi,
                            Value.int IntKind.i64 (-1 : Int)],
                        Value.int IntKind.i64 (0 : Int)])) ∧
                ((!cl) = false →
                  ((c == (-1 : Int)) = true →
                      (decide (IntKind.i64.wrap (t - t) ≥ k) = true →
                          True ∧
                            A
                              (Value.tuple
                                #[Value.agg
                                    #[Value.int IntKind.i64 (0 : Int), Value.int IntKind.i64 (-1 : Int),
                                      Value.int IntKind.i64 (-1 : Int), Value.int IntKind.i64 (-1 : Int)],
                                  Value.int IntKind.i64 (2 : Int)])) ∧
                        (decide (IntKind.i64.wrap (t - t) ≥ k) = false →
                          A
                            (Value.tuple
                              #[Value.agg
                                  #[Value.int IntKind.i64 p, Value.int IntKind.i64 s, Value.int IntKind.i64 fi,
                                    Value.int IntKind.i64 t],
                                Value.int IntKind.i64 (0 : Int)]))) ∧
                    ((c == (-1 : Int)) = false →
                      (decide (IntKind.i64.wrap (t - c) ≥ k) = true →
                          True ∧
                            A
                              (Value.tuple
                                #[Value.agg
                                    #[Value.int IntKind.i64 (0 : Int), Value.int IntKind.i64 (-1 : Int),
                                      Value.int IntKind.i64 (-1 : Int), Value.int IntKind.i64 (-1 : Int)],
                                  Value.int IntKind.i64 (2 : Int)])) ∧
                        (decide (IntKind.i64.wrap (t - c) ≥ k) = false →
                          A
                            (Value.tuple
                              #[Value.agg
                                  #[Value.int IntKind.i64 p, Value.int IntKind.i64 s, Value.int IntKind.i64 fi,
                                    Value.int IntKind.i64 c],
                                Value.int IntKind.i64 (0 : Int)])))))))) : Calls Try.prog 18 #[.agg #[r0, r1, r2, r3, r4, r5, r6, r7, r8, r9, r10, .int .i64 f, .int .i64 k, r13, r14, r15], st p s fi c, .bool ra, .bool cl, .int .i64 t] w fun e w' => ∃ x, e = .returned x ∧ A x ∧ Below w.heap.size w w' := by
  refine plain_calls cb18 [newLaw.law] false [] 400 ?_
  refine chk h ?_
  kernel_rfl
set_option maxRecDepth 100000 in
theorem rstep_raw (A : Value → Prop) (r0 r1 r2 r3 r4 r5 r6 r7 r8 r9 r10 r13 r14 r15 : Value) (f k : Int) (p s fi c : Int) (t : Int) (ra cl : Bool) (w : World)
   (h : (((p == (0 : Int)) = true →
          ((!ra) = true →
              A
                (Value.tuple
                  #[Value.agg
                      #[Value.int IntKind.i64 p, Value.int IntKind.i64 s, Value.int IntKind.i64 fi, Value.int IntKind.i64 c],
                    Value.int IntKind.i64 (0 : Int)])) ∧
            ((!ra) = false →
              (cl = true →
                  ((!ra) = true →
                      True ∧
                        A
                          (Value.tuple
                            #[Value.agg
                                #[Value.int IntKind.i64 (0 : Int), Value.int IntKind.i64 (-1 : Int),
                                  Value.int IntKind.i64 (-1 : Int), Value.int IntKind.i64 (-1 : Int)],
                              Value.int IntKind.i64 (0 : Int)])) ∧
                    ((!ra) = false →
                      (decide (IntKind.i64.wrap (t - t) ≥ f) = true →
                          A
                            (Value.tuple
                              #[Value.agg
                                  #[Value.int IntKind.i64 (2 : Int), Value.int IntKind.i64 t, Value.int IntKind.i64 t,
                                    Value.int IntKind.i64 (-1 : Int)],
                                Value.int IntKind.i64 (1 : Int)])) ∧
                        (decide (IntKind.i64.wrap (t - t) ≥ f) = false →
                          A
                            (Value.tuple
                              #[Value.agg
                                  #[Value.int IntKind.i64 (1 : Int), Value.int IntKind.i64 t,
                                    Value.int IntKind.i64 (-1 : Int), Value.int IntKind.i64 (-1 : Int)],
                                Value.int IntKind.i64 (0 : Int)])))) ∧
                (cl = false →
                  (decide (IntKind.i64.wrap (t - t) ≥ f) = true →
                      A
                        (Value.tuple
                          #[Value.agg
                              #[Value.int IntKind.i64 (2 : Int), Value.int IntKind.i64 t, Value.int IntKind.i64 t,
                                Value.int IntKind.i64 (-1 : Int)],
                            Value.int IntKind.i64 (1 : Int)])) ∧
                    (decide (IntKind.i64.wrap (t - t) ≥ f) = false →
                      A
                        (Value.tuple
                          #[Value.agg
                              #[Value.int IntKind.i64 (1 : Int), Value.int IntKind.i64 t, Value.int IntKind.i64 (-1 : Int),
                                Value.int IntKind.i64 (-1 : Int)],
                            Value.int IntKind.i64 (0 : Int)]))))) ∧
        ((p == (0 : Int)) = false →
          ((p == (1 : Int)) = true →
              (cl = true →
                  ((!ra) = true →
                      True ∧
                        A
                          (Value.tuple
                            #[Value.agg
                                #[Value.int IntKind.i64 (0 : Int), Value.int IntKind.i64 (-1 : Int),
                                  Value.int IntKind.i64 (-1 : Int), Value.int IntKind.i64 (-1 : Int)],
                              Value.int IntKind.i64 (0 : Int)])) ∧
                    ((!ra) = false →
                      (decide (IntKind.i64.wrap (t - s) ≥ f) = true →
                          A
                            (Value.tuple
                              #[Value.agg
                                  #[Value.int IntKind.i64 (2 : Int), Value.int IntKind.i64 s, Value.int IntKind.i64 t,
                                    Value.int IntKind.i64 (-1 : Int)],
                                Value.int IntKind.i64 (1 : Int)])) ∧
                        (decide (IntKind.i64.wrap (t - s) ≥ f) = false →
                          A
                            (Value.tuple
                              #[Value.agg
                                  #[Value.int IntKind.i64 p, Value.int IntKind.i64 s, Value.int IntKind.i64 fi,
                                    Value.int IntKind.i64 c],
                                Value.int IntKind.i64 (0 : Int)])))) ∧
                (cl = false →
                  (decide (IntKind.i64.wrap (t - s) ≥ f) = true →
                      A
                        (Value.tuple
                          #[Value.agg
                              #[Value.int IntKind.i64 (2 : Int), Value.int IntKind.i64 s, Value.int IntKind.i64 t,
                                Value.int IntKind.i64 (-1 : Int)],
                            Value.int IntKind.i64 (1 : Int)])) ∧
                    (decide (IntKind.i64.wrap (t - s) ≥ f) = false →
                      A
                        (Value.tuple
                          #[Value.agg
                              #[Value.int IntKind.i64 p, Value.int IntKind.i64 s, Value.int IntKind.i64 fi,
                                Value.int IntKind.i64 c],
                            Value.int IntKind.i64 (0 : Int)])))) ∧
            ((p == (1 : Int)) = false →
              ((!cl) = true →
                  A
                    (Value.tuple
                      #[Value.agg
                          #[Value.int IntKind.i64 p, Value.int IntKind.i64 s, Value.int IntKind.i64 fi,
                            Value.int IntKind.i64 (-1 : Int)],
                        Value.int IntKind.i64 (0 : Int)])) ∧
                ((!cl) = false →
                  (decide (c < (0 : Int)) = true →
                      (decide (IntKind.i64.wrap (t - t) ≥ k) = true →
                          True ∧
                            A
                              (Value.tuple
                                #[Value.agg
                                    #[Value.int IntKind.i64 (0 : Int), Value.int IntKind.i64 (-1 : Int),
                                      Value.int IntKind.i64 (-1 : Int), Value.int IntKind.i64 (-1 : Int)],
                                  Value.int IntKind.i64 (2 : Int)])) ∧
                        (decide (IntKind.i64.wrap (t - t) ≥ k) = false →
                          A
                            (Value.tuple
                              #[Value.agg
                                  #[Value.int IntKind.i64 p, Value.int IntKind.i64 s, Value.int IntKind.i64 fi,
                                    Value.int IntKind.i64 t],
                                Value.int IntKind.i64 (0 : Int)]))) ∧
                    (decide (c < (0 : Int)) = false →
                      (decide (IntKind.i64.wrap (t - c) ≥ k) = true →
                          True ∧
                            A
                              (Value.tuple
                                #[Value.agg
                                    #[Value.int IntKind.i64 (0 : Int), Value.int IntKind.i64 (-1 : Int),
                                      Value.int IntKind.i64 (-1 : Int), Value.int IntKind.i64 (-1 : Int)],
                                  Value.int IntKind.i64 (2 : Int)])) ∧
                        (decide (IntKind.i64.wrap (t - c) ≥ k) = false →
                          A
                            (Value.tuple
                              #[Value.agg
                                  #[Value.int IntKind.i64 p, Value.int IntKind.i64 s, Value.int IntKind.i64 fi,
                                    Value.int IntKind.i64 c],
                                Value.int IntKind.i64 (0 : Int)])))))))) : Calls Try.prog 19 #[.agg #[r0, r1, r2, r3, r4, r5, r6, r7, r8, r9, r10, .int .i64 f, .int .i64 k, r13, r14, r15], st p s fi c, .bool ra, .bool cl, .int .i64 t] w fun e w' => ∃ x, e = .returned x ∧ A x ∧ Below w.heap.size w w' := by
  refine plain_calls cb19 [idleLaw.law] false [] 400 ?_
  refine chk h ?_
  kernel_rfl
set_option maxRecDepth 100000 in
theorem of_raw (A : Value → Prop) (p s fi c : Int) (w : World)
   (h : (A (Value.agg #[Value.int IntKind.i64 p, Value.int IntKind.i64 s, Value.int IntKind.i64 fi, Value.int IntKind.i64 c]))) : Calls Try.prog 21 #[st p s fi c] w fun e w' => ∃ x, e = .returned x ∧ A x ∧ Below w.heap.size w w' := by
  refine plain_calls cb21 [] false [] 400 ?_
  refine chk h ?_
  kernel_rfl
set_option maxRecDepth 100000 in
theorem check_raw (A : Value → Prop) (p s fi c : Int) (w : World)
   (h : (((p == (0 : Int)) = true →
          True ∧
            ((!(p == (0 : Int) && (s == (-1 : Int) && (fi == (-1 : Int) && (c == (-1 : Int) && true))))) = true →
                A (Value.int IntKind.i64 (1 : Int))) ∧
              ((!(p == (0 : Int) && (s == (-1 : Int) && (fi == (-1 : Int) && (c == (-1 : Int) && true))))) = false →
                A (Value.int IntKind.i64 (0 : Int)))) ∧
        ((p == (0 : Int)) = false →
          ((p == (1 : Int)) = true →
              (decide (s ≥ (0 : Int)) = true →
                  ((fi == (-1 : Int)) = true →
                      ((!c == (-1 : Int)) = true → A (Value.int IntKind.i64 (1 : Int))) ∧
                        ((!c == (-1 : Int)) = false → A (Value.int IntKind.i64 (0 : Int)))) ∧
                    ((fi == (-1 : Int)) = false → A (Value.int IntKind.i64 (1 : Int)))) ∧
                (decide (s ≥ (0 : Int)) = false → A (Value.int IntKind.i64 (1 : Int)))) ∧
            ((p == (1 : Int)) = false →
              ((p == (2 : Int)) = true →
                  (decide (s ≥ (0 : Int)) = true →
                      (decide (fi ≥ s) = true →
                          ((!decide (c ≥ (-1 : Int))) = true → A (Value.int IntKind.i64 (1 : Int))) ∧
                            ((!decide (c ≥ (-1 : Int))) = false → A (Value.int IntKind.i64 (0 : Int)))) ∧
                        (decide (fi ≥ s) = false → A (Value.int IntKind.i64 (1 : Int)))) ∧
                    (decide (s ≥ (0 : Int)) = false → A (Value.int IntKind.i64 (1 : Int)))) ∧
                ((p == (2 : Int)) = false → A (Value.int IntKind.i64 (1 : Int))))))) : Calls Try.prog 22 #[st p s fi c] w fun e w' => ∃ x, e = .returned x ∧ A x ∧ Below w.heap.size w w' := by
  refine plain_calls cb22 [newLaw.law] false [] 400 ?_
  refine chk h ?_
  kernel_rfl
set_option maxRecDepth 100000 in
theorem rcheck_raw (A : Value → Prop) (p s fi c : Int) (w : World)
   (h : (((p == (0 : Int)) = true →
          True ∧
            ((!(p == (0 : Int) && (s == (-1 : Int) && (fi == (-1 : Int) && (c == (-1 : Int) && true))))) = true →
                A (Value.int IntKind.i64 (1 : Int))) ∧
              ((!(p == (0 : Int) && (s == (-1 : Int) && (fi == (-1 : Int) && (c == (-1 : Int) && true))))) = false →
                A (Value.int IntKind.i64 (0 : Int)))) ∧
        ((p == (0 : Int)) = false →
          ((p == (1 : Int)) = true →
              (decide (s < (0 : Int)) = false →
                  ((fi != (-1 : Int)) = false →
                      ((c != (-1 : Int)) = true → A (Value.int IntKind.i64 (1 : Int))) ∧
                        ((c != (-1 : Int)) = false → A (Value.int IntKind.i64 (0 : Int)))) ∧
                    ((fi != (-1 : Int)) = true → A (Value.int IntKind.i64 (1 : Int)))) ∧
                (decide (s < (0 : Int)) = true → A (Value.int IntKind.i64 (1 : Int)))) ∧
            ((p == (1 : Int)) = false →
              ((p == (2 : Int)) = true →
                  (decide (s < (0 : Int)) = false →
                      (decide (fi < s) = false →
                          (decide (c < (-1 : Int)) = true → A (Value.int IntKind.i64 (1 : Int))) ∧
                            (decide (c < (-1 : Int)) = false → A (Value.int IntKind.i64 (0 : Int)))) ∧
                        (decide (fi < s) = true → A (Value.int IntKind.i64 (1 : Int)))) ∧
                    (decide (s < (0 : Int)) = true → A (Value.int IntKind.i64 (1 : Int)))) ∧
                ((p == (2 : Int)) = false → A (Value.int IntKind.i64 (1 : Int))))))) : Calls Try.prog 23 #[st p s fi c] w fun e w' => ∃ x, e = .returned x ∧ A x ∧ Below w.heap.size w w' := by
  refine plain_calls cb23 [idleLaw.law] false [] 400 ?_
  refine chk h ?_
  kernel_rfl
end Go.Proofs.Ytoeeilbpgckhlaa
