/- What a step of an alert answers, and its like in the reference, as laws of the functions. -/
import Derived.Test.YtoeeilbpgckhlaaSx10
import Derived.Test.YtoeeilbpgckhlaaProg
import Derived.KernelRfl
namespace Go.Proofs.Ytoeeilbpgckhlaa
open Go.RowKit Go.Sx
abbrev st (p s f c : Int) : Value := .agg #[.int .i64 p, .int .i64 s, .int .i64 f, .int .i64 c]
theorem cb16 : callable Try.prog 16 = some Try.f16 := by kernel_rfl
theorem cb17 : callable Try.prog 17 = some Try.f17 := by kernel_rfl
theorem cb18 : callable Try.prog 18 = some Try.f18 := by kernel_rfl
theorem cb19 : callable Try.prog 19 = some Try.f19 := by kernel_rfl
theorem cb21 : callable Try.prog 21 = some Try.f21 := by kernel_rfl
theorem cb22 : callable Try.prog 22 = some Try.f22 := by kernel_rfl
theorem cb23 : callable Try.prog 23 = some Try.f23 := by kernel_rfl
abbrev auto : T := .au 40 fun _ => .fin
set_option maxRecDepth 100000 in
theorem new_raw (A : Value → Prop) (w : World) (h : (∀ (_ρ : Ren),
        A
          (Value.agg
            #[Value.int IntKind.i64 0, Value.int IntKind.i64 (-1), Value.int IntKind.i64 (-1), Value.int IntKind.i64 (-1)]))) : Calls Try.prog 16 #[] w fun e w' => ∃ x, e = .returned x ∧ A x ∧ Below w.heap.size w w' := by
  refine plain_calls cb16 [] true 100 auto ?_
  refine chk h ?_
  kernel_rfl
def newLaw : FnLaw Try.prog where
  g := 16
  dom := fun vs => match vs with | [] => True | _ => False
  out := fun _ => st 0 (-1) (-1) (-1)
  ok := fun vs w h => by cases vs with | nil => exact new_raw _ w fun _ => rfl | cons _ _ => exact h.elim
set_option maxRecDepth 100000 in
theorem idle_raw (A : Value → Prop) (w : World) (h : (∀ (_ρ : Ren),
        A
          (Value.agg
            #[Value.int IntKind.i64 0, Value.int IntKind.i64 (-1), Value.int IntKind.i64 (-1), Value.int IntKind.i64 (-1)]))) : Calls Try.prog 17 #[] w fun e w' => ∃ x, e = .returned x ∧ A x ∧ Below w.heap.size w w' := by
  refine plain_calls cb17 [] true 100 auto ?_
  refine chk h ?_
  kernel_rfl
def idleLaw : FnLaw Try.prog where
  g := 17
  dom := fun vs => match vs with | [] => True | _ => False
  out := fun _ => st 0 (-1) (-1) (-1)
  ok := fun vs w h => by cases vs with | nil => exact idle_raw _ w fun _ => rfl | cons _ _ => exact h.elim
set_option maxRecDepth 100000 in
theorem step_raw (A : Value → Prop) (r0 r1 r2 r3 r4 r5 r6 r7 r8 r9 r10 r13 r14 r15 : Value) (f k : Int) (p s fi c : Int) (t : Int) (ra cl : Bool) (w : World)
   (h : (((p == 0) = true →
          ((!ra) = true →
              ∀ (_ρ : Ren),
                A
                  (Value.tuple
                    #[Value.agg
                        #[Value.int IntKind.i64 p, Value.int IntKind.i64 s, Value.int IntKind.i64 fi,
                          Value.int IntKind.i64 c],
                      Value.int IntKind.i64 0])) ∧
            ((!ra) = false →
              (cl = true →
                  ((!ra) = true →
                      True ∧
                        ∀ (_ρ : Ren),
                          A
                            (Value.tuple
                              #[Value.agg
                                  #[Value.int IntKind.i64 0, Value.int IntKind.i64 (-1), Value.int IntKind.i64 (-1),
                                    Value.int IntKind.i64 (-1)],
                                Value.int IntKind.i64 0])) ∧
                    ((!ra) = false →
                      (decide (IntKind.i64.wrap (t - t) ≥ f) = true →
                          ∀ (_ρ : Ren),
                            A
                              (Value.tuple
                                #[Value.agg
                                    #[Value.int IntKind.i64 2, Value.int IntKind.i64 t, Value.int IntKind.i64 t,
                                      Value.int IntKind.i64 (-1)],
                                  Value.int IntKind.i64 1])) ∧
                        (decide (IntKind.i64.wrap (t - t) ≥ f) = false →
                          ∀ (_ρ : Ren),
                            A
                              (Value.tuple
                                #[Value.agg
                                    #[Value.int IntKind.i64 1, Value.int IntKind.i64 t, Value.int IntKind.i64 (-1),
                                      Value.int IntKind.i64 (-1)],
                                  Value.int IntKind.i64 0])))) ∧
                (cl = false →
                  (decide (IntKind.i64.wrap (t - t) ≥ f) = true →
                      ∀ (_ρ : Ren),
                        A
                          (Value.tuple
                            #[Value.agg
                                #[Value.int IntKind.i64 2, Value.int IntKind.i64 t, Value.int IntKind.i64 t,
                                  Value.int IntKind.i64 (-1)],
                              Value.int IntKind.i64 1])) ∧
                    (decide (IntKind.i64.wrap (t - t) ≥ f) = false →
                      ∀ (_ρ : Ren),
                        A
                          (Value.tuple
                            #[Value.agg
                                #[Value.int IntKind.i64 1, Value.int IntKind.i64 t, Value.int IntKind.i64 (-1),
                                  Value.int IntKind.i64 (-1)],
                              Value.int IntKind.i64 0]))))) ∧
        ((p == 0) = false →
          ((p == 1) = true →
              (cl = true →
                  ((!ra) = true →
                      True ∧
                        ∀ (_ρ : Ren),
                          A
                            (Value.tuple
                              #[Value.agg
                                  #[Value.int IntKind.i64 0, Value.int IntKind.i64 (-1), Value.int IntKind.i64 (-1),
                                    Value.int IntKind.i64 (-1)],
                                Value.int IntKind.i64 0])) ∧
                    ((!ra) = false →
                      (decide (IntKind.i64.wrap (t - s) ≥ f) = true →
                          ∀ (_ρ : Ren),
                            A
                              (Value.tuple
                                #[Value.agg
                                    #[Value.int IntKind.i64 2, Value.int IntKind.i64 s, Value.int IntKind.i64 t,
                                      Value.int IntKind.i64 (-1)],
                                  Value.int IntKind.i64 1])) ∧
                        (decide (IntKind.i64.wrap (t - s) ≥ f) = false →
                          ∀ (_ρ : Ren),
                            A
                              (Value.tuple
                                #[Value.agg
                                    #[Value.int IntKind.i64 p, Value.int IntKind.i64 s, Value.int IntKind.i64 fi,
                                      Value.int IntKind.i64 c],
                                  Value.int IntKind.i64 0])))) ∧
                (cl = false →
                  (decide (IntKind.i64.wrap (t - s) ≥ f) = true →
                      ∀ (_ρ : Ren),
                        A
                          (Value.tuple
                            #[Value.agg
                                #[Value.int IntKind.i64 2, Value.int IntKind.i64 s, Value.int IntKind.i64 t,
                                  Value.int IntKind.i64 (-1)],
                              Value.int IntKind.i64 1])) ∧
                    (decide (IntKind.i64.wrap (t - s) ≥ f) = false →
                      ∀ (_ρ : Ren),
                        A
                          (Value.tuple
                            #[Value.agg
                                #[Value.int IntKind.i64 p, Value.int IntKind.i64 s, Value.int IntKind.i64 fi,
                                  Value.int IntKind.i64 c],
                              Value.int IntKind.i64 0])))) ∧
            ((p == 1) = false →
              ((!cl) = true →
                  ∀ (_ρ : Ren),
                    A
                      (Value.tuple
                        #[Value.agg
                            #[Value.int IntKind.i64 p, Value.int IntKind.i64 s, Value.int IntKind.i64 fi,
                              Value.int IntKind.i64 (-1)],
                          Value.int IntKind.i64 0])) ∧
                ((!cl) = false →
                  ((c == -1) = true →
                      (decide (IntKind.i64.wrap (t - t) ≥ k) = true →
                          True ∧
                            ∀ (_ρ : Ren),
                              A
                                (Value.tuple
                                  #[Value.agg
                                      #[Value.int IntKind.i64 0, Value.int IntKind.i64 (-1), Value.int IntKind.i64 (-1),
                                        Value.int IntKind.i64 (-1)],
                                    Value.int IntKind.i64 2])) ∧
                        (decide (IntKind.i64.wrap (t - t) ≥ k) = false →
                          ∀ (_ρ : Ren),
                            A
                              (Value.tuple
                                #[Value.agg
                                    #[Value.int IntKind.i64 p, Value.int IntKind.i64 s, Value.int IntKind.i64 fi,
                                      Value.int IntKind.i64 t],
                                  Value.int IntKind.i64 0]))) ∧
                    ((c == -1) = false →
                      (decide (IntKind.i64.wrap (t - c) ≥ k) = true →
                          True ∧
                            ∀ (_ρ : Ren),
                              A
                                (Value.tuple
                                  #[Value.agg
                                      #[Value.int IntKind.i64 0, Value.int IntKind.i64 (-1), Value.int IntKind.i64 (-1),
                                        Value.int IntKind.i64 (-1)],
                                    Value.int IntKind.i64 2])) ∧
                        (decide (IntKind.i64.wrap (t - c) ≥ k) = false →
                          ∀ (_ρ : Ren),
                            A
                              (Value.tuple
                                #[Value.agg
                                    #[Value.int IntKind.i64 p, Value.int IntKind.i64 s, Value.int IntKind.i64 fi,
                                      Value.int IntKind.i64 c],
                                  Value.int IntKind.i64 0])))))))) : Calls Try.prog 18 #[.agg #[r0, r1, r2, r3, r4, r5, r6, r7, r8, r9, r10, .int .i64 f, .int .i64 k, r13, r14, r15], st p s fi c, .bool ra, .bool cl, .int .i64 t] w fun e w' => ∃ x, e = .returned x ∧ A x ∧ Below w.heap.size w w' := by
  refine plain_calls cb18 [newLaw] false 400 auto ?_
  refine chk h ?_
  kernel_rfl
set_option maxRecDepth 100000 in
theorem rstep_raw (A : Value → Prop) (r0 r1 r2 r3 r4 r5 r6 r7 r8 r9 r10 r13 r14 r15 : Value) (f k : Int) (p s fi c : Int) (t : Int) (ra cl : Bool) (w : World)
   (h : (((p == 0) = true →
          ((!ra) = true →
              ∀ (_ρ : Ren),
                A
                  (Value.tuple
                    #[Value.agg
                        #[Value.int IntKind.i64 p, Value.int IntKind.i64 s, Value.int IntKind.i64 fi,
                          Value.int IntKind.i64 c],
                      Value.int IntKind.i64 0])) ∧
            ((!ra) = false →
              (true = true →
                  (cl = true →
                      ((!ra) = true →
                          True ∧
                            ∀ (_ρ : Ren),
                              A
                                (Value.tuple
                                  #[Value.agg
                                      #[Value.int IntKind.i64 0, Value.int IntKind.i64 (-1), Value.int IntKind.i64 (-1),
                                        Value.int IntKind.i64 (-1)],
                                    Value.int IntKind.i64 0])) ∧
                        ((!ra) = false →
                          (decide (IntKind.i64.wrap (t - t) ≥ f) = true →
                              ∀ (_ρ : Ren),
                                A
                                  (Value.tuple
                                    #[Value.agg
                                        #[Value.int IntKind.i64 2, Value.int IntKind.i64 t, Value.int IntKind.i64 t,
                                          Value.int IntKind.i64 (-1)],
                                      Value.int IntKind.i64 1])) ∧
                            (decide (IntKind.i64.wrap (t - t) ≥ f) = false →
                              ∀ (_ρ : Ren),
                                A
                                  (Value.tuple
                                    #[Value.agg
                                        #[Value.int IntKind.i64 1, Value.int IntKind.i64 t, Value.int IntKind.i64 (-1),
                                          Value.int IntKind.i64 (-1)],
                                      Value.int IntKind.i64 0])))) ∧
                    (cl = false →
                      (decide (IntKind.i64.wrap (t - t) ≥ f) = true →
                          ∀ (_ρ : Ren),
                            A
                              (Value.tuple
                                #[Value.agg
                                    #[Value.int IntKind.i64 2, Value.int IntKind.i64 t, Value.int IntKind.i64 t,
                                      Value.int IntKind.i64 (-1)],
                                  Value.int IntKind.i64 1])) ∧
                        (decide (IntKind.i64.wrap (t - t) ≥ f) = false →
                          ∀ (_ρ : Ren),
                            A
                              (Value.tuple
                                #[Value.agg
                                    #[Value.int IntKind.i64 1, Value.int IntKind.i64 t, Value.int IntKind.i64 (-1),
                                      Value.int IntKind.i64 (-1)],
                                  Value.int IntKind.i64 0])))) ∧
                (true = false →
                  ((!cl) = true →
                      ∀ (_ρ : Ren),
                        A
                          (Value.tuple
                            #[Value.agg
                                #[Value.int IntKind.i64 1, Value.int IntKind.i64 t, Value.int IntKind.i64 (-1),
                                  Value.int IntKind.i64 (-1)],
                              Value.int IntKind.i64 0])) ∧
                    ((!cl) = false →
                      (true = true →
                          (decide (IntKind.i64.wrap (t - t) ≥ k) = true →
                              True ∧
                                ∀ (_ρ : Ren),
                                  A
                                    (Value.tuple
                                      #[Value.agg
                                          #[Value.int IntKind.i64 0, Value.int IntKind.i64 (-1), Value.int IntKind.i64 (-1),
                                            Value.int IntKind.i64 (-1)],
                                        Value.int IntKind.i64 2])) ∧
                            (decide (IntKind.i64.wrap (t - t) ≥ k) = false →
                              ∀ (_ρ : Ren),
                                A
                                  (Value.tuple
                                    #[Value.agg
                                        #[Value.int IntKind.i64 1, Value.int IntKind.i64 t, Value.int IntKind.i64 (-1),
                                          Value.int IntKind.i64 t],
                                      Value.int IntKind.i64 0]))) ∧
                        (true = false →
                          (decide (IntKind.i64.wrap (t - -1) ≥ k) = true →
                              True ∧
                                ∀ (_ρ : Ren),
                                  A
                                    (Value.tuple
                                      #[Value.agg
                                          #[Value.int IntKind.i64 0, Value.int IntKind.i64 (-1), Value.int IntKind.i64 (-1),
                                            Value.int IntKind.i64 (-1)],
                                        Value.int IntKind.i64 2])) ∧
                            (decide (IntKind.i64.wrap (t - -1) ≥ k) = false →
                              ∀ (_ρ : Ren),
                                A
                                  (Value.tuple
                                    #[Value.agg
                                        #[Value.int IntKind.i64 1, Value.int IntKind.i64 t, Value.int IntKind.i64 (-1),
                                          Value.int IntKind.i64 (-1)],
                                      Value.int IntKind.i64 0]))))))) ∧
        ((p == 0) = false →
          ((p == 1) = true →
              (cl = true →
                  ((!ra) = true →
                      True ∧
                        ∀ (_ρ : Ren),
                          A
                            (Value.tuple
                              #[Value.agg
                                  #[Value.int IntKind.i64 0, Value.int IntKind.i64 (-1), Value.int IntKind.i64 (-1),
                                    Value.int IntKind.i64 (-1)],
                                Value.int IntKind.i64 0])) ∧
                    ((!ra) = false →
                      (decide (IntKind.i64.wrap (t - s) ≥ f) = true →
                          ∀ (_ρ : Ren),
                            A
                              (Value.tuple
                                #[Value.agg
                                    #[Value.int IntKind.i64 2, Value.int IntKind.i64 s, Value.int IntKind.i64 t,
                                      Value.int IntKind.i64 (-1)],
                                  Value.int IntKind.i64 1])) ∧
                        (decide (IntKind.i64.wrap (t - s) ≥ f) = false →
                          ∀ (_ρ : Ren),
                            A
                              (Value.tuple
                                #[Value.agg
                                    #[Value.int IntKind.i64 p, Value.int IntKind.i64 s, Value.int IntKind.i64 fi,
                                      Value.int IntKind.i64 c],
                                  Value.int IntKind.i64 0])))) ∧
                (cl = false →
                  (decide (IntKind.i64.wrap (t - s) ≥ f) = true →
                      ∀ (_ρ : Ren),
                        A
                          (Value.tuple
                            #[Value.agg
                                #[Value.int IntKind.i64 2, Value.int IntKind.i64 s, Value.int IntKind.i64 t,
                                  Value.int IntKind.i64 (-1)],
                              Value.int IntKind.i64 1])) ∧
                    (decide (IntKind.i64.wrap (t - s) ≥ f) = false →
                      ∀ (_ρ : Ren),
                        A
                          (Value.tuple
                            #[Value.agg
                                #[Value.int IntKind.i64 p, Value.int IntKind.i64 s, Value.int IntKind.i64 fi,
                                  Value.int IntKind.i64 c],
                              Value.int IntKind.i64 0])))) ∧
            ((p == 1) = false →
              ((!cl) = true →
                  ∀ (_ρ : Ren),
                    A
                      (Value.tuple
                        #[Value.agg
                            #[Value.int IntKind.i64 p, Value.int IntKind.i64 s, Value.int IntKind.i64 fi,
                              Value.int IntKind.i64 (-1)],
                          Value.int IntKind.i64 0])) ∧
                ((!cl) = false →
                  (decide (c < 0) = true →
                      (decide (IntKind.i64.wrap (t - t) ≥ k) = true →
                          True ∧
                            ∀ (_ρ : Ren),
                              A
                                (Value.tuple
                                  #[Value.agg
                                      #[Value.int IntKind.i64 0, Value.int IntKind.i64 (-1), Value.int IntKind.i64 (-1),
                                        Value.int IntKind.i64 (-1)],
                                    Value.int IntKind.i64 2])) ∧
                        (decide (IntKind.i64.wrap (t - t) ≥ k) = false →
                          ∀ (_ρ : Ren),
                            A
                              (Value.tuple
                                #[Value.agg
                                    #[Value.int IntKind.i64 p, Value.int IntKind.i64 s, Value.int IntKind.i64 fi,
                                      Value.int IntKind.i64 t],
                                  Value.int IntKind.i64 0]))) ∧
                    (decide (c < 0) = false →
                      (decide (IntKind.i64.wrap (t - c) ≥ k) = true →
                          True ∧
                            ∀ (_ρ : Ren),
                              A
                                (Value.tuple
                                  #[Value.agg
                                      #[Value.int IntKind.i64 0, Value.int IntKind.i64 (-1), Value.int IntKind.i64 (-1),
                                        Value.int IntKind.i64 (-1)],
                                    Value.int IntKind.i64 2])) ∧
                        (decide (IntKind.i64.wrap (t - c) ≥ k) = false →
                          ∀ (_ρ : Ren),
                            A
                              (Value.tuple
                                #[Value.agg
                                    #[Value.int IntKind.i64 p, Value.int IntKind.i64 s, Value.int IntKind.i64 fi,
                                      Value.int IntKind.i64 c],
                                  Value.int IntKind.i64 0])))))))) : Calls Try.prog 19 #[.agg #[r0, r1, r2, r3, r4, r5, r6, r7, r8, r9, r10, .int .i64 f, .int .i64 k, r13, r14, r15], st p s fi c, .bool ra, .bool cl, .int .i64 t] w fun e w' => ∃ x, e = .returned x ∧ A x ∧ Below w.heap.size w w' := by
  refine plain_calls cb19 [idleLaw] false 400 auto ?_
  refine chk h ?_
  kernel_rfl
set_option maxRecDepth 100000 in
theorem of_raw (A : Value → Prop) (p s fi c : Int) (w : World)
   (h : (∀ (_ρ : Ren),
        A (Value.agg #[Value.int IntKind.i64 p, Value.int IntKind.i64 s, Value.int IntKind.i64 fi, Value.int IntKind.i64 c]))) : Calls Try.prog 21 #[st p s fi c] w fun e w' => ∃ x, e = .returned x ∧ A x ∧ Below w.heap.size w w' := by
  refine plain_calls cb21 [] false 400 auto ?_
  refine chk h ?_
  kernel_rfl
set_option maxRecDepth 100000 in
theorem check_raw (A : Value → Prop) (p s fi c : Int) (w : World)
   (h : (((p == 0) = true →
          True ∧
            ((!(p == 0 && (s == -1 && (fi == -1 && (c == -1 && true))))) = true → ∀ (_ρ : Ren), A (Value.int IntKind.i64 1)) ∧
              ((!(p == 0 && (s == -1 && (fi == -1 && (c == -1 && true))))) = false →
                ∀ (_ρ : Ren), A (Value.int IntKind.i64 0))) ∧
        ((p == 0) = false →
          ((p == 1) = true →
              (decide (s ≥ 0) = true →
                  ((fi == -1) = true →
                      ((!c == -1) = true → ∀ (_ρ : Ren), A (Value.int IntKind.i64 1)) ∧
                        ((!c == -1) = false → ∀ (_ρ : Ren), A (Value.int IntKind.i64 0))) ∧
                    ((fi == -1) = false → ∀ (_ρ : Ren), A (Value.int IntKind.i64 1))) ∧
                (decide (s ≥ 0) = false → ∀ (_ρ : Ren), A (Value.int IntKind.i64 1))) ∧
            ((p == 1) = false →
              ((p == 2) = true →
                  (decide (s ≥ 0) = true →
                      (decide (fi ≥ s) = true →
                          ((!decide (c ≥ -1)) = true → ∀ (_ρ : Ren), A (Value.int IntKind.i64 1)) ∧
                            ((!decide (c ≥ -1)) = false → ∀ (_ρ : Ren), A (Value.int IntKind.i64 0))) ∧
                        (decide (fi ≥ s) = false → ∀ (_ρ : Ren), A (Value.int IntKind.i64 1))) ∧
                    (decide (s ≥ 0) = false → ∀ (_ρ : Ren), A (Value.int IntKind.i64 1))) ∧
                ((p == 2) = false → ∀ (_ρ : Ren), A (Value.int IntKind.i64 1)))))) : Calls Try.prog 22 #[st p s fi c] w fun e w' => ∃ x, e = .returned x ∧ A x ∧ Below w.heap.size w w' := by
  refine plain_calls cb22 [newLaw] false 400 auto ?_
  refine chk h ?_
  kernel_rfl
set_option maxRecDepth 100000 in
theorem rcheck_raw (A : Value → Prop) (p s fi c : Int) (w : World)
   (h : (((p == 0) = true →
          True ∧
            ((!(p == 0 && (s == -1 && (fi == -1 && (c == -1 && true))))) = true → ∀ (_ρ : Ren), A (Value.int IntKind.i64 1)) ∧
              ((!(p == 0 && (s == -1 && (fi == -1 && (c == -1 && true))))) = false →
                ∀ (_ρ : Ren), A (Value.int IntKind.i64 0))) ∧
        ((p == 0) = false →
          ((p == 1) = true →
              (decide (s < 0) = false →
                  ((fi != -1) = false →
                      ((c != -1) = true → ∀ (_ρ : Ren), A (Value.int IntKind.i64 1)) ∧
                        ((c != -1) = false → ∀ (_ρ : Ren), A (Value.int IntKind.i64 0))) ∧
                    ((fi != -1) = true → ∀ (_ρ : Ren), A (Value.int IntKind.i64 1))) ∧
                (decide (s < 0) = true → ∀ (_ρ : Ren), A (Value.int IntKind.i64 1))) ∧
            ((p == 1) = false →
              ((p == 2) = true →
                  (decide (s < 0) = false →
                      (decide (fi < s) = false →
                          (decide (c < -1) = true → ∀ (_ρ : Ren), A (Value.int IntKind.i64 1)) ∧
                            (decide (c < -1) = false → ∀ (_ρ : Ren), A (Value.int IntKind.i64 0))) ∧
                        (decide (fi < s) = true → ∀ (_ρ : Ren), A (Value.int IntKind.i64 1))) ∧
                    (decide (s < 0) = true → ∀ (_ρ : Ren), A (Value.int IntKind.i64 1))) ∧
                ((p == 2) = false → ∀ (_ρ : Ren), A (Value.int IntKind.i64 1)))))) : Calls Try.prog 23 #[st p s fi c] w fun e w' => ∃ x, e = .returned x ∧ A x ∧ Below w.heap.size w w' := by
  refine plain_calls cb23 [idleLaw] false 400 auto ?_
  refine chk h ?_
  kernel_rfl
end Go.Proofs.Ytoeeilbpgckhlaa
