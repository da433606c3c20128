/- A step, whatever else the rule holds: laws. -/
import Derived.Test.YtoeeilbpgckhlaaBl7
import Derived.KernelRfl
namespace Go.Proofs.Ytoeeilbpgckhlaa
open Go.RowKit Go.Sy
abbrev stSV (p s f c : Int) : SV := .a [.v (.int .i64 p), .v (.int .i64 s), .v (.int .i64 f), .v (.int .i64 c)]
structure StepQ where
  x0 : SC
  x1 : SC
  x2 : SC
  x3 : SC
  x4 : SC
  x5 : SC
  x6 : SC
  x7 : SC
  x8 : SC
  x9 : SC
  x10 : SC
  f : Int
  k : Int
  x13 : SC
  x14 : SC
  x15 : SC
  p : Int
  s : Int
  fi : Int
  c : Int
  ra : Bool
  cl : Bool
  t : Int
abbrev stepPat (q : StepQ) : Pat := ⟨[.gone, .gone, .gone], [.a [q.x0, q.x1, q.x2, q.x3, q.x4, q.x5, q.x6, q.x7, q.x8, q.x9, q.x10, .v (.int .i64 q.f), .v (.int .i64 q.k), q.x13, q.x14, q.x15], stSV q.p q.s q.fi q.c, .c (.v (.bool q.ra)), .c (.v (.bool q.cl)), .c (.v (.int .i64 q.t))]⟩
def stepFind (_ : SHeap) (l : List SV) : Option (StepQ × Ats) :=
  match l with
  | [.a [x0, x1, x2, x3, x4, x5, x6, x7, x8, x9, x10, x11, x12, x13, x14, x15], .a [y0, y1, y2, y3], .c b0, .c b1, .c t] =>
    some (⟨x0, x1, x2, x3, x4, x5, x6, x7, x8, x9, x10, intC x11, intC x12, canC 0 x13, canC 1 x14, canC 2 x15, intC y0, intC y1, intC y2, intC y3, boolC b0, boolC b1, intC t⟩, [atC x13, atC x14, atC x15])
  | _ => none
set_option maxRecDepth 100000 in
theorem stepv_raw (A : Value → Prop) (x0 x1 x2 x3 x4 x5 x6 x7 x8 x9 x10 x13 x14 x15 : SC) (f k p s fi c t : Int) (ra cl : Bool) (w : World) (ρ0 : Ren) (own fz0 : Nat → Prop)
   (h : (((p == (0 : Int)) = true →
          ((!ra) = true →
              (True ∧ True ∧ True ∧ True) ∧
                A
                  (Value.tuple
                    #[Value.agg
                        #[Value.int IntKind.i64 p, Value.int IntKind.i64 s, Value.int IntKind.i64 fi,
                          Value.int IntKind.i64 c],
                      Value.int IntKind.i64 (0 : Int)])) ∧
            ((!ra) = false →
              (cl = true →
                  ((!ra) = true →
                      True ∧
                        (True ∧ True ∧ True ∧ True) ∧
                          A
                            (Value.tuple
                              #[Value.agg
                                  #[Value.int IntKind.i64 (0 : Int), Value.int IntKind.i64 (-1 : Int),
                                    Value.int IntKind.i64 (-1 : Int), Value.int IntKind.i64 (-1 : Int)],
                                Value.int IntKind.i64 (0 : Int)])) ∧
                    ((!ra) = false →
                      (decide (IntKind.i64.wrap (t - t) ≥ f) = true →
                          (True ∧ True ∧ True ∧ True) ∧
                            A
                              (Value.tuple
                                #[Value.agg
                                    #[Value.int IntKind.i64 (2 : Int), Value.int IntKind.i64 t, Value.int IntKind.i64 t,
                                      Value.int IntKind.i64 (-1 : Int)],
                                  Value.int IntKind.i64 (1 : Int)])) ∧
                        (decide (IntKind.i64.wrap (t - t) ≥ f) = false →
                          (True ∧ True ∧ True ∧ True) ∧
                            A
                              (Value.tuple
                                #[Value.agg
                                    #[Value.int IntKind.i64 (1 : Int), Value.int IntKind.i64 t,
                                      Value.int IntKind.i64 (-1 : Int), Value.int IntKind.i64 (-1 : Int)],
                                  Value.int IntKind.i64 (0 : Int)])))) ∧
                (cl = false →
                  (decide (IntKind.i64.wrap (t - t) ≥ f) = true →
                      (True ∧ True ∧ True ∧ True) ∧
                        A
                          (Value.tuple
                            #[Value.agg
                                #[Value.int IntKind.i64 (2 : Int), Value.int IntKind.i64 t, Value.int IntKind.i64 t,
                                  Value.int IntKind.i64 (-1 : Int)],
                              Value.int IntKind.i64 (1 : Int)])) ∧
                    (decide (IntKind.i64.wrap (t - t) ≥ f) = false →
                      (True ∧ True ∧ True ∧ True) ∧
                        A
                          (Value.tuple
                            #[Value.agg
                                #[Value.int IntKind.i64 (1 : Int), Value.int IntKind.i64 t, Value.int IntKind.i64 (-1 : Int),
                                  Value.int IntKind.i64 (-1 : Int)],
                              Value.int IntKind.i64 (0 : Int)]))))) ∧
        ((p == (0 : Int)) = false →
          ((p == (1 : Int)) = true →
              (cl = true →
                  ((!ra) = true →
                      True ∧
                        (True ∧ True ∧ True ∧ True) ∧
                          A
                            (Value.tuple
                              #[Value.agg
                                  #[Value.int IntKind.i64 (0 : Int), Value.int IntKind.i64 (-1 : Int),
                                    Value.int IntKind.i64 (-1 : Int), Value.int IntKind.i64 (-1 : Int)],
                                Value.int IntKind.i64 (0 : Int)])) ∧
                    ((!ra) = false →
                      (decide (IntKind.i64.wrap (t - s) ≥ f) = true →
                          (True ∧ True ∧ True ∧ True) ∧
                            A
                              (Value.tuple
                                #[Value.agg
                                    #[Value.int IntKind.i64 (2 : Int), Value.int IntKind.i64 s, Value.int IntKind.i64 t,
                                      Value.int IntKind.i64 (-1 : Int)],
                                  Value.int IntKind.i64 (1 : Int)])) ∧
                        (decide (IntKind.i64.wrap (t - s) ≥ f) = false →
                          (True ∧ True ∧ True ∧ True) ∧
                            A
                              (Value.tuple
                                #[Value.agg
                                    #[Value.int IntKind.i64 p, Value.int IntKind.i64 s, Value.int IntKind.i64 fi,
                                      Value.int IntKind.i64 c],
                                  Value.int IntKind.i64 (0 : Int)])))) ∧
                (cl = false →
                  (decide (IntKind.i64.wrap (t - s) ≥ f) = true →
                      (True ∧ True ∧ True ∧ True) ∧
                        A
                          (Value.tuple
                            #[Value.agg
                                #[Value.int IntKind.i64 (2 : Int), Value.int IntKind.i64 s, Value.int IntKind.i64 t,
                                  Value.int IntKind.i64 (-1 : Int)],
                              Value.int IntKind.i64 (1 : Int)])) ∧
                    (decide (IntKind.i64.wrap (t - s) ≥ f) = false →
                      (True ∧ True ∧ True ∧ True) ∧
                        A
                          (Value.tuple
                            #[Value.agg
                                #[Value.int IntKind.i64 p, Value.int IntKind.i64 s, Value.int IntKind.i64 fi,
                                  Value.int IntKind.i64 c],
                              Value.int IntKind.i64 (0 : Int)])))) ∧
            ((p == (1 : Int)) = false →
              ((!cl) = true →
                  (True ∧ True ∧ True ∧ True) ∧
                    A
                      (Value.tuple
                        #[Value.agg
                            #[Value.int IntKind.i64 p, Value.int IntKind.i64 s, Value.int IntKind.i64 fi,
                              Value.int IntKind.i64 (-1 : Int)],
                          Value.int IntKind.i64 (0 : Int)])) ∧
                ((!cl) = false →
                  ((c == (-1 : Int)) = true →
                      (decide (IntKind.i64.wrap (t - t) ≥ k) = true →
                          True ∧
                            (True ∧ True ∧ True ∧ True) ∧
                              A
                                (Value.tuple
                                  #[Value.agg
                                      #[Value.int IntKind.i64 (0 : Int), Value.int IntKind.i64 (-1 : Int),
                                        Value.int IntKind.i64 (-1 : Int), Value.int IntKind.i64 (-1 : Int)],
                                    Value.int IntKind.i64 (2 : Int)])) ∧
                        (decide (IntKind.i64.wrap (t - t) ≥ k) = false →
                          (True ∧ True ∧ True ∧ True) ∧
                            A
                              (Value.tuple
                                #[Value.agg
                                    #[Value.int IntKind.i64 p, Value.int IntKind.i64 s, Value.int IntKind.i64 fi,
                                      Value.int IntKind.i64 t],
                                  Value.int IntKind.i64 (0 : Int)]))) ∧
                    ((c == (-1 : Int)) = false →
                      (decide (IntKind.i64.wrap (t - c) ≥ k) = true →
                          True ∧
                            (True ∧ True ∧ True ∧ True) ∧
                              A
                                (Value.tuple
                                  #[Value.agg
                                      #[Value.int IntKind.i64 (0 : Int), Value.int IntKind.i64 (-1 : Int),
                                        Value.int IntKind.i64 (-1 : Int), Value.int IntKind.i64 (-1 : Int)],
                                    Value.int IntKind.i64 (2 : Int)])) ∧
                        (decide (IntKind.i64.wrap (t - c) ≥ k) = false →
                          (True ∧ True ∧ True ∧ True) ∧
                            A
                              (Value.tuple
                                #[Value.agg
                                    #[Value.int IntKind.i64 p, Value.int IntKind.i64 s, Value.int IntKind.i64 fi,
                                      Value.int IntKind.i64 c],
                                  Value.int IntKind.i64 (0 : Int)])))))))) : Run Try.prog (valJob (stepPat ⟨x0, x1, x2, x3, x4, x5, x6, x7, x8, x9, x10, f, k, x13, x14, x15, p, s, fi, c, ra, cl, t⟩) A [newLaw.law] false [] 18 w ρ0 own fz0).C 18
      (valJob (stepPat ⟨x0, x1, x2, x3, x4, x5, x6, x7, x8, x9, x10, f, k, x13, x14, x15, p, s, fi, c, ra, cl, t⟩) A [newLaw.law] false [] 18 w ρ0 own fz0).R
      ⟨[enterS 18 Try.f18 (stepPat ⟨x0, x1, x2, x3, x4, x5, x6, x7, x8, x9, x10, f, k, x13, x14, x15, p, s, fi, c, ra, cl, t⟩).args], [some .gone, some .gone, some .gone]⟩ := by
  refine run_chk (J := valJob (stepPat ⟨x0, x1, x2, x3, x4, x5, x6, x7, x8, x9, x10, f, k, x13, x14, x15, p, s, fi, c, ra, cl, t⟩) A [newLaw.law] false [] 18 w ρ0 own fz0) 400 ?_
  refine chk h ?_
  kernel_rfl
set_option maxRecDepth 100000 in
theorem rstepv_raw (A : Value → Prop) (x0 x1 x2 x3 x4 x5 x6 x7 x8 x9 x10 x13 x14 x15 : SC) (f k p s fi c t : Int) (ra cl : Bool) (w : World) (ρ0 : Ren) (own fz0 : Nat → Prop)
   (h : (((p == (0 : Int)) = true →
          ((!ra) = true →
              (True ∧ True ∧ True ∧ True) ∧
                A
                  (Value.tuple
                    #[Value.agg
                        #[Value.int IntKind.i64 p, Value.int IntKind.i64 s, Value.int IntKind.i64 fi,
                          Value.int IntKind.i64 c],
                      Value.int IntKind.i64 (0 : Int)])) ∧
            ((!ra) = false →
              (cl = true →
                  ((!ra) = true →
                      True ∧
                        (True ∧ True ∧ True ∧ True) ∧
                          A
                            (Value.tuple
                              #[Value.agg
                                  #[Value.int IntKind.i64 (0 : Int), Value.int IntKind.i64 (-1 : Int),
                                    Value.int IntKind.i64 (-1 : Int), Value.int IntKind.i64 (-1 : Int)],
                                Value.int IntKind.i64 (0 : Int)])) ∧
                    ((!ra) = false →
                      (decide (IntKind.i64.wrap (t - t) ≥ f) = true →
                          (True ∧ True ∧ True ∧ True) ∧
                            A
                              (Value.tuple
                                #[Value.agg
                                    #[Value.int IntKind.i64 (2 : Int), Value.int IntKind.i64 t, Value.int IntKind.i64 t,
                                      Value.int IntKind.i64 (-1 : Int)],
                                  Value.int IntKind.i64 (1 : Int)])) ∧
                        (decide (IntKind.i64.wrap (t - t) ≥ f) = false →
                          (True ∧ True ∧ True ∧ True) ∧
                            A
                              (Value.tuple
                                #[Value.agg
                                    #[Value.int IntKind.i64 (1 : Int), Value.int IntKind.i64 t,
                                      Value.int IntKind.i64 (-1 : Int), Value.int IntKind.i64 (-1 : Int)],
                                  Value.int IntKind.i64 (0 : Int)])))) ∧
                (cl = false →
                  (decide (IntKind.i64.wrap (t - t) ≥ f) = true →
                      (True ∧ True ∧ True ∧ True) ∧
                        A
                          (Value.tuple
                            #[Value.agg
                                #[Value.int IntKind.i64 (2 : Int), Value.int IntKind.i64 t, Value.int IntKind.i64 t,
                                  Value.int IntKind.i64 (-1 : Int)],
                              Value.int IntKind.i64 (1 : Int)])) ∧
                    (decide (IntKind.i64.wrap (t - t) ≥ f) = false →
                      (True ∧ True ∧ True ∧ True) ∧
                        A
                          (Value.tuple
                            #[Value.agg
                                #[Value.int IntKind.i64 (1 : Int), Value.int IntKind.i64 t, Value.int IntKind.i64 (-1 : Int),
                                  Value.int IntKind.i64 (-1 : Int)],
                              Value.int IntKind.i64 (0 : Int)]))))) ∧
        ((p == (0 : Int)) = false →
          ((p == (1 : Int)) = true →
              (cl = true →
                  ((!ra) = true →
                      True ∧
                        (True ∧ True ∧ True ∧ True) ∧
                          A
                            (Value.tuple
                              #[Value.agg
                                  #[Value.int IntKind.i64 (0 : Int), Value.int IntKind.i64 (-1 : Int),
                                    Value.int IntKind.i64 (-1 : Int), Value.int IntKind.i64 (-1 : Int)],
                                Value.int IntKind.i64 (0 : Int)])) ∧
                    ((!ra) = false →
                      (decide (IntKind.i64.wrap (t - s) ≥ f) = true →
                          (True ∧ True ∧ True ∧ True) ∧
                            A
                              (Value.tuple
                                #[Value.agg
                                    #[Value.int IntKind.i64 (2 : Int), Value.int IntKind.i64 s, Value.int IntKind.i64 t,
                                      Value.int IntKind.i64 (-1 : Int)],
                                  Value.int IntKind.i64 (1 : Int)])) ∧
                        (decide (IntKind.i64.wrap (t - s) ≥ f) = false →
                          (True ∧ True ∧ True ∧ True) ∧
                            A
                              (Value.tuple
                                #[Value.agg
                                    #[Value.int IntKind.i64 p, Value.int IntKind.i64 s, Value.int IntKind.i64 fi,
                                      Value.int IntKind.i64 c],
                                  Value.int IntKind.i64 (0 : Int)])))) ∧
                (cl = false →
                  (decide (IntKind.i64.wrap (t - s) ≥ f) = true →
                      (True ∧ True ∧ True ∧ True) ∧
                        A
                          (Value.tuple
                            #[Value.agg
                                #[Value.int IntKind.i64 (2 : Int), Value.int IntKind.i64 s, Value.int IntKind.i64 t,
                                  Value.int IntKind.i64 (-1 : Int)],
                              Value.int IntKind.i64 (1 : Int)])) ∧
                    (decide (IntKind.i64.wrap (t - s) ≥ f) = false →
                      (True ∧ True ∧ True ∧ True) ∧
                        A
                          (Value.tuple
                            #[Value.agg
                                #[Value.int IntKind.i64 p, Value.int IntKind.i64 s, Value.int IntKind.i64 fi,
                                  Value.int IntKind.i64 c],
                              Value.int IntKind.i64 (0 : Int)])))) ∧
            ((p == (1 : Int)) = false →
              ((!cl) = true →
                  (True ∧ True ∧ True ∧ True) ∧
                    A
                      (Value.tuple
                        #[Value.agg
                            #[Value.int IntKind.i64 p, Value.int IntKind.i64 s, Value.int IntKind.i64 fi,
                              Value.int IntKind.i64 (-1 : Int)],
                          Value.int IntKind.i64 (0 : Int)])) ∧
                ((!cl) = false →
                  (decide (c < (0 : Int)) = true →
                      (decide (IntKind.i64.wrap (t - t) ≥ k) = true →
                          True ∧
                            (True ∧ True ∧ True ∧ True) ∧
                              A
                                (Value.tuple
                                  #[Value.agg
                                      #[Value.int IntKind.i64 (0 : Int), Value.int IntKind.i64 (-1 : Int),
                                        Value.int IntKind.i64 (-1 : Int), Value.int IntKind.i64 (-1 : Int)],
                                    Value.int IntKind.i64 (2 : Int)])) ∧
                        (decide (IntKind.i64.wrap (t - t) ≥ k) = false →
                          (True ∧ True ∧ True ∧ True) ∧
                            A
                              (Value.tuple
                                #[Value.agg
                                    #[Value.int IntKind.i64 p, Value.int IntKind.i64 s, Value.int IntKind.i64 fi,
                                      Value.int IntKind.i64 t],
                                  Value.int IntKind.i64 (0 : Int)]))) ∧
                    (decide (c < (0 : Int)) = false →
                      (decide (IntKind.i64.wrap (t - c) ≥ k) = true →
                          True ∧
                            (True ∧ True ∧ True ∧ True) ∧
                              A
                                (Value.tuple
                                  #[Value.agg
                                      #[Value.int IntKind.i64 (0 : Int), Value.int IntKind.i64 (-1 : Int),
                                        Value.int IntKind.i64 (-1 : Int), Value.int IntKind.i64 (-1 : Int)],
                                    Value.int IntKind.i64 (2 : Int)])) ∧
                        (decide (IntKind.i64.wrap (t - c) ≥ k) = false →
                          (True ∧ True ∧ True ∧ True) ∧
                            A
                              (Value.tuple
                                #[Value.agg
                                    #[Value.int IntKind.i64 p, Value.int IntKind.i64 s, Value.int IntKind.i64 fi,
                                      Value.int IntKind.i64 c],
                                  Value.int IntKind.i64 (0 : Int)])))))))) : Run Try.prog (valJob (stepPat ⟨x0, x1, x2, x3, x4, x5, x6, x7, x8, x9, x10, f, k, x13, x14, x15, p, s, fi, c, ra, cl, t⟩) A [idleLaw.law] false [] 19 w ρ0 own fz0).C 19
      (valJob (stepPat ⟨x0, x1, x2, x3, x4, x5, x6, x7, x8, x9, x10, f, k, x13, x14, x15, p, s, fi, c, ra, cl, t⟩) A [idleLaw.law] false [] 19 w ρ0 own fz0).R
      ⟨[enterS 19 Try.f19 (stepPat ⟨x0, x1, x2, x3, x4, x5, x6, x7, x8, x9, x10, f, k, x13, x14, x15, p, s, fi, c, ra, cl, t⟩).args], [some .gone, some .gone, some .gone]⟩ := by
  refine run_chk (J := valJob (stepPat ⟨x0, x1, x2, x3, x4, x5, x6, x7, x8, x9, x10, f, k, x13, x14, x15, p, s, fi, c, ra, cl, t⟩) A [idleLaw.law] false [] 19 w ρ0 own fz0) 400 ?_
  refine chk h ?_
  kernel_rfl
theorem stepv_ok (q : StepQ) : LawOk Try.prog 18 (stepPat q) { post := (stepPat q).pre, out := litV (stepV (stepS q.f q.k q.p q.s q.fi q.c q.t q.ra q.cl)) } := by
  obtain ⟨x0, x1, x2, x3, x4, x5, x6, x7, x8, x9, x10, f, k, x13, x14, x15, p, s, fi, c, ra, cl, t⟩ := q
  refine val_run cb18 (laws := [newLaw.law]) (L := false) (cuts := []) fun w ρ0 own fz0 => stepv_raw _ x0 x1 x2 x3 x4 x5 x6 x7 x8 x9 x10 x13 x14 x15 f k p s fi c t ra cl w ρ0 own fz0 ?_
  simp only [wrap_sub_self]
  unfold stepS stepV stV
  repeat' (first | apply And.intro | intro _)
  all_goals first | trivial | (simp_all; done) | (simp_all; omega) | (simp_all; rw [if_neg (by omega)]; simp; done) | (simp_all; rw [if_neg (by omega)]; rw [if_neg (by omega)]; simp; done) | (simp_all; rw [if_neg (by omega)]; rw [if_pos (by omega)]; simp; done)
theorem rstepv_ok (q : StepQ) : LawOk Try.prog 19 (stepPat q) { post := (stepPat q).pre, out := litV (stepV (rstepS q.f q.k q.p q.s q.fi q.c q.t q.ra q.cl)) } := by
  obtain ⟨x0, x1, x2, x3, x4, x5, x6, x7, x8, x9, x10, f, k, x13, x14, x15, p, s, fi, c, ra, cl, t⟩ := q
  refine val_run cb19 (laws := [idleLaw.law]) (L := false) (cuts := []) fun w ρ0 own fz0 => rstepv_raw _ x0 x1 x2 x3 x4 x5 x6 x7 x8 x9 x10 x13 x14 x15 f k p s fi c t ra cl w ρ0 own fz0 ?_
  simp only [wrap_sub_self]
  unfold rstepS stepV stV
  repeat' (first | apply And.intro | intro _)
  all_goals first | trivial | (simp_all; done) | (simp_all; omega) | (simp_all; rw [if_neg (by omega)]; simp; done) | (simp_all; rw [if_neg (by omega)]; rw [if_neg (by omega)]; simp; done) | (simp_all; rw [if_neg (by omega)]; rw [if_pos (by omega)]; simp; done)
def stepvLaw : CLaw Try.prog := valLaw 18 StepQ stepFind stepPat (fun q => stepV (stepS q.f q.k q.p q.s q.fi q.c q.t q.ra q.cl)) (fun _ => True) (fun _ => rfl) (fun q _ => stepv_ok q)
def rstepvLaw : CLaw Try.prog := valLaw 19 StepQ stepFind stepPat (fun q => stepV (rstepS q.f q.k q.p q.s q.fi q.c q.t q.ra q.cl)) (fun _ => True) (fun _ => rfl) (fun q _ => rstepv_ok q)
end Go.Proofs.Ytoeeilbpgckhlaa
