/- A rule as the document's: its law; AlertAny's run. -/
import Derived.Test.YtoeeilbpgckhlaaBl8
import Derived.KernelRfl
namespace Go.Proofs.Ytoeeilbpgckhlaa
open Go.RowKit Go.Sy
theorem cb20 : callable Try.prog 20 = some Try.f20 := by kernel_rfl
structure RuleQ where
  s0 : ByteArray
  i1 : Int
  i2 : Int
  i3 : Int
  b4 : Bool
  i5 : Int
  i6 : Int
  i7 : Int
  i8 : Int
  i9 : Int
  i10 : Int
  i11 : Int
  i12 : Int
  n1 : Nat
  n2 : Nat
  n3 : Nat
  xs1 : List D
  xs2 : List D
  xs3 : List D
abbrev RuleQ.cells (q : RuleQ) (k : Nat) : SV := .a [.v (.string q.s0), .v (.int .i64 q.i1), .v (.int .i64 q.i2), .v (.int .i64 q.i3), .v (.bool q.b4), .v (.int .i64 q.i5), .v (.int .i64 q.i6), .v (.int .i64 q.i7), .v (.int .i64 q.i8), .v (.int .i64 q.i9), .v (.int .i64 q.i10), .v (.int .i64 q.i11), .v (.int .i64 q.i12), .s k 0 q.n1 (.hid 0), .s (k + 1) 0 q.n2 (.hid 0), .s (k + 2) 0 q.n3 (.hid 0)]
abbrev RuleQ.ices (q : RuleQ) : List SO := [.ice q.xs1, .ice q.xs2, .ice q.xs3]
abbrev rulePat (q : RuleQ) : Pat := ⟨q.ices, [q.cells 0]⟩
abbrev ruleAlt (q : RuleQ) : Alt := ⟨True, q.ices ++ [.row q.xs1 158 (.hid 3), .row q.xs2 158 (.hid 3), .row q.xs3 161 (.hid 2)], q.cells 3⟩
def ruleFind (h : SHeap) (l : List SV) : Option (RuleQ × Ats) :=
  match l with
  | [.a [x0, x1, x2, x3, x4, x5, x6, x7, x8, x9, x10, x11, x12, x13, x14, x15]] =>
    some (⟨strC x0, intC x1, intC x2, intC x3, boolC x4, intC x5, intC x6, intC x7, intC x8, intC x9, intC x10, intC x11, intC x12, (seenD h x13).1, (seenD h x14).1, (seenD h x15).1, (seenD h x13).2, (seenD h x14).2, (seenD h x15).2⟩, [atC x13, atC x14, atC x15])
  | _ => none
abbrev ruleNms (_ : SHeap) (v : SV) : Nms := [some 0, some 1, some 2, cellN v 13, cellN v 14, cellN v 15]
noncomputable abbrev J20 (q : RuleQ) (w : World) (ρ0 : Ren) (own fz0 : Nat → Prop) : Job Try.prog := canJob (rulePat q) (ruleAlt q) [of5Law.law, of3Law.law] false [] ruleNms 20 w ρ0 own fz0
set_option maxRecDepth 100000 in
theorem rule_in (s0 : ByteArray) (i1 i2 i3 : Int) (b4 : Bool) (i5 i6 i7 i8 i9 i10 i11 i12 : Int) (n1 n2 n3 : Nat) (xs1 xs2 xs3 : List D) (w : World) (ρ0 : Ren) (own fz0 : Nat → Prop)
    (h : ((Strs xs1 ∧ xs1.length = n1 * (3 : Nat) ∧ n1 < (1000000 : Nat)) ∧
        (((0 : Nat) = (0 : Nat) ∧ n1 = n1 ∧ Cap.hid (0 : Nat) = Cap.hid (0 : Nat)) ∧ True) ∧
          (xs1 = xs1 ∧ True) ∧
            (True →
                (Strs xs2 ∧ xs2.length = n2 * (3 : Nat) ∧ n2 < (1000000 : Nat)) ∧
                  (((0 : Nat) = (0 : Nat) ∧ n2 = n2 ∧ Cap.hid (0 : Nat) = Cap.hid (0 : Nat)) ∧ True) ∧
                    (xs2 = xs2 ∧ True) ∧
                      (True →
                          (Strs xs3 ∧ xs3.length = n3 * (2 : Nat) ∧ n3 < (1000000 : Nat)) ∧
                            (((0 : Nat) = (0 : Nat) ∧ n3 = n3 ∧ Cap.hid (0 : Nat) = Cap.hid (0 : Nat)) ∧ True) ∧
                              (xs3 = xs3 ∧ True) ∧
                                (True →
                                    (xs1 = xs1 ∧
                                        xs2 = xs2 ∧
                                          xs3 = xs3 ∧
                                            (Tail.hid (3 : Nat) = Tail.hid (3 : Nat) ∧ xs1 = xs1) ∧
                                              (Tail.hid (3 : Nat) = Tail.hid (3 : Nat) ∧ xs2 = xs2) ∧
                                                (Tail.hid (2 : Nat) = Tail.hid (2 : Nat) ∧ xs3 = xs3) ∧ True) ∧
                                      s0 = s0 ∧
                                        i1 = i1 ∧
                                          i2 = i2 ∧
                                            i3 = i3 ∧
                                              b4 = b4 ∧
                                                i5 = i5 ∧
                                                  i6 = i6 ∧
                                                    i7 = i7 ∧
                                                      i8 = i8 ∧
                                                        i9 = i9 ∧
                                                          i10 = i10 ∧
                                                            i11 = i11 ∧
                                                              i12 = i12 ∧
                                                                ((0 : Nat) = (0 : Nat) ∧
                                                                    n1 = n1 ∧ Cap.hid (0 : Nat) = Cap.hid (0 : Nat)) ∧
                                                                  ((0 : Nat) = (0 : Nat) ∧
                                                                      n2 = n2 ∧ Cap.hid (0 : Nat) = Cap.hid (0 : Nat)) ∧
                                                                    ((0 : Nat) = (0 : Nat) ∧
                                                                        n3 = n3 ∧ Cap.hid (0 : Nat) = Cap.hid (0 : Nat)) ∧
                                                                      True) ∧
                                  True) ∧
                        True) ∧
              True)) : Run Try.prog (J20 ⟨s0, i1, i2, i3, b4, i5, i6, i7, i8, i9, i10, i11, i12, n1, n2, n3, xs1, xs2, xs3⟩ w ρ0 own fz0).C 20 (J20 ⟨s0, i1, i2, i3, b4, i5, i6, i7, i8, i9, i10, i11, i12, n1, n2, n3, xs1, xs2, xs3⟩ w ρ0 own fz0).R
      ⟨[enterS 20 Try.f20 [RuleQ.cells ⟨s0, i1, i2, i3, b4, i5, i6, i7, i8, i9, i10, i11, i12, n1, n2, n3, xs1, xs2, xs3⟩ 0]], [some (.ice xs1), some (.ice xs2), some (.ice xs3)]⟩ := by
  refine run_chk (J := J20 ⟨s0, i1, i2, i3, b4, i5, i6, i7, i8, i9, i10, i11, i12, n1, n2, n3, xs1, xs2, xs3⟩ w ρ0 own fz0) 400 ?_
  refine chk h ?_
  kernel_rfl
def RuleQ.Ok (q : RuleQ) : Prop := (Strs q.xs1 ∧ q.xs1.length = q.n1 * 3 ∧ q.n1 < 1000000) ∧ (Strs q.xs2 ∧ q.xs2.length = q.n2 * 3 ∧ q.n2 < 1000000) ∧ (Strs q.xs3 ∧ q.xs3.length = q.n3 * 2 ∧ q.n3 < 1000000)
theorem rule_ok (q : RuleQ) (h : q.Ok) : LawOk Try.prog 20 (rulePat q) (ruleAlt q) := by
  obtain ⟨s0, i1, i2, i3, b4, i5, i6, i7, i8, i9, i10, i11, i12, n1, n2, n3, xs1, xs2, xs3⟩ := q
  obtain ⟨h1, h2, h3⟩ := h
  refine claim_run cb20 (laws := [of5Law.law, of3Law.law]) (L := false) (cuts := []) (nms := ruleNms) fun w ρ0 own fz0 => rule_in s0 i1 i2 i3 b4 i5 i6 i7 i8 i9 i10 i11 i12 n1 n2 n3 xs1 xs2 xs3 w ρ0 own fz0 ?_
  exact ⟨h1, by simp, by simp, fun _ => ⟨h2, by simp, by simp, fun _ => ⟨h3, by simp, by simp, fun _ => by simp, trivial⟩, trivial⟩, trivial⟩
def ruleLaw : CLaw Try.prog where
  g := 20
  Q := RuleQ
  find := ruleFind
  can := rulePat
  alts := fun q => [ruleAlt q]
  dom := RuleQ.Ok
  plain := fun _ q hd a ha _ k p hp hi => by
    simp at ha; subst ha
    match k with
    | 0 => have := hi (.ice q.xs1) rfl; simp [iceB] at this
    | 1 => have := hi (.ice q.xs2) rfl; simp [iceB] at this
    | 2 => have := hi (.ice q.xs3) rfl; simp [iceB] at this
    | 3 => simp at hp; subst hp; exact plain_strs hd.1.1
    | 4 => simp at hp; subst hp; exact plain_strs hd.2.1.1
    | 5 => simp at hp; subst hp; exact plain_strs hd.2.2.1
    | k + 6 => simp at hp
  ex := fun q _ => ⟨_, List.mem_singleton.2 rfl, trivial⟩
  ok := fun q hd a ha _ => by simp at ha; subst ha; exact rule_ok q hd
def knownLaw : FnLaw Try.prog := ⟨15, fun vs => match vs with | [] => True | _ => False, fun _ => .bool true, fun vs w h => by cases vs with | nil => exact known_raw _ w (by simp) | cons _ _ => exact h.elim⟩
noncomputable abbrev J4 (w : World) (A : Value → Prop) : Job Try.prog := plainJob Try.prog [knownLaw.law, stepvLaw.law, rstepvLaw.law, ofLaw.law, checkLaw.law, rcheckLaw.law, few5Law.law, few3Law.law, ruleLaw.law] false [] 4 w A
set_option maxRecDepth 100000 in
theorem any_in (A : Value → Prop) (s0 : ByteArray) (i1 i2 i3 : Int) (b4 : Bool) (i5 i6 i7 i8 i9 i10 i11 i12 : Int) (n1 n2 n3 : Nat) (xs1 xs2 xs3 : List D) (p s f c : Int) (ra cl : Bool) (t : Int) (w : World)
    (h : (True ∧
        True ∧
          True ∧
            True ∧
              ((checkS p s f c != checkS p s f c) = true → A (Value.bool false)) ∧
                ((checkS p s f c != checkS p s f c) = false →
                  ((checkS p s f c != (0 : Int)) = false →
                      (decide ((↑s0.size : Int) ≤ (100 : Int)) = true →
                          (Strs xs1 ∧ xs1.length = n1 * (3 : Nat)) ∧
                            (((0 : Nat) = (0 : Nat) ∧ n1 = n1 ∧ Cap.hid (0 : Nat) = Cap.hid (0 : Nat)) ∧ True) ∧
                              (xs1 = xs1 ∧ True) ∧
                                (True →
                                    (few5B n1 xs1 = true →
                                        (Strs xs2 ∧ xs2.length = n2 * (3 : Nat)) ∧
                                          (((0 : Nat) = (0 : Nat) ∧ n2 = n2 ∧ Cap.hid (0 : Nat) = Cap.hid (0 : Nat)) ∧ True) ∧
                                            (xs2 = xs2 ∧ True) ∧
                                              (True →
                                                  (few5B n2 xs2 = true →
                                                      (Strs xs3 ∧ xs3.length = n3 * (2 : Nat)) ∧
                                                        (((0 : Nat) = (0 : Nat) ∧
                                                              n3 = n3 ∧ Cap.hid (0 : Nat) = Cap.hid (0 : Nat)) ∧
                                                            True) ∧
                                                          (xs3 = xs3 ∧ True) ∧
                                                            (True →
                                                                ((!few3B n3 xs3) = false →
                                                                    (decide (t < (0 : Int)) = false →
                                                                        (decide (t > (4398046511104 : Int)) = true →
                                                                            A (Value.bool true)) ∧
                                                                          (decide (t > (4398046511104 : Int)) = false →
                                                                            (decide (t < s) = false →
                                                                                (decide (i11 < (0 : Int)) = false →
                                                                                    (decide (i11 > (4398046511104 : Int)) =
                                                                                          true →
                                                                                        A (Value.bool true)) ∧
                                                                                      (decide (i11 > (4398046511104 : Int)) =
                                                                                          false →
                                                                                        (decide (i12 < (0 : Int)) = false →
                                                                                            (decide
                                                                                                    (i12 >
                                                                                                      (4398046511104 : Int)) =
                                                                                                  true →
                                                                                                A (Value.bool true)) ∧
                                                                                              (decide
                                                                                                    (i12 >
                                                                                                      (4398046511104 : Int)) =
                                                                                                  false →
                                                                                                (decide (c > t) = true →
                                                                                                    A (Value.bool true)) ∧
                                                                                                  (decide (c > t) = false →
                                                                                                    True ∧
                                                                                                      ((s0 = s0 ∧
                                                                                                            i1 = i1 ∧
                                                                                                              i2 = i2 ∧
                                                                                                                i3 = i3 ∧
                                                                                                                  b4 = b4 ∧
                                                                                                                    i5 = i5 ∧
                                                                                                                      i6 =
                                                                                                                          i6 ∧
                                                                                                                        i7 =
                                                                                                                            i7 ∧
                                                                                                                          i8 =
                                                                                                                              i8 ∧
                                                                                                                            i9 =
                                                                                                                                i9 ∧
                                                                                                                              i10 =
                                                                                                                                  i10 ∧
                                                                                                                                i11 =
                                                                                                                                    i11 ∧
                                                                                                                                  i12 =
                                                                                                                                      i12 ∧
                                                                                                                                    ((0 :
                                                                                                                                            Nat) =
                                                                                                                                          (0 :
                                                                                                                                            Nat) ∧
                                                                                                                                        n1 =
                                                                                                                                            n1 ∧
                                                                                                                                          Cap.hid
                                                                                                                                              (0 :
                                                                                                                                                Nat) =
                                                                                                                                            Cap.hid
                                                                                                                                              (0 :
                                                                                                                                                Nat)) ∧
                                                                                                                                      ((0 :
                                                                                                                                              Nat) =
                                                                                                                                            (0 :
                                                                                                                                              Nat) ∧
                                                                                                                                          n2 =
                                                                                                                                              n2 ∧
                                                                                                                                            Cap.hid
                                                                                                                                                (0 :
                                                                                                                                                  Nat) =
                                                                                                                                              Cap.hid
                                                                                                                                                (0 :
                                                                                                                                                  Nat)) ∧
                                                                                                                                        ((0 :
                                                                                                                                                Nat) =
                                                                                                                                              (0 :
                                                                                                                                                Nat) ∧
                                                                                                                                            n3 =
                                                                                                                                                n3 ∧
                                                                                                                                              Cap.hid
                                                                                                                                                  (0 :
                                                                                                                                                    Nat) =
                                                                                                                                                Cap.hid
                                                                                                                                                  (0 :
                                                                                                                                                    Nat)) ∧
                                                                                                                                          True) ∧
                                                                                                          (p = p ∧
                                                                                                              s = s ∧
                                                                                                                f = f ∧
                                                                                                                  c = c ∧
                                                                                                                    True) ∧
                                                                                                            ra = ra ∧
                                                                                                              cl = cl ∧
                                                                                                                t = t ∧
                                                                                                                  True) ∧
                                                                                                        (True ∧
                                                                                                            True ∧
                                                                                                              True ∧ True) ∧
                                                                                                          (True →
                                                                                                              ((Strs xs1 ∧
                                                                                                                    xs1.length =
                                                                                                                        n1 *
                                                                                                                          (3 :
                                                                                                                            Nat) ∧
                                                                                                                      n1 <
                                                                                                                        (1000000 :
                                                                                                                          Nat)) ∧
                                                                                                                  (Strs xs2 ∧
                                                                                                                      xs2.length =
                                                                                                                          n2 *
                                                                                                                            (3 :
                                                                                                                              Nat) ∧
                                                                                                                        n2 <
                                                                                                                          (1000000 :
                                                                                                                            Nat)) ∧
                                                                                                                    Strs xs3 ∧
                                                                                                                      xs3.length =
                                                                                                                          n3 *
                                                                                                                            (2 :
                                                                                                                              Nat) ∧
                                                                                                                        n3 <
                                                                                                                          (1000000 :
                                                                                                                            Nat)) ∧
                                                                                                                ((s0 = s0 ∧
                                                                                                                      i1 =
                                                                                                                          i1 ∧
                                                                                                                        i2 =
                                                                                                                            i2 ∧
                                                                                                                          i3 =
                                                                                                                              i3 ∧
                                                                                                                            b4 =
                                                                                                                                b4 ∧
                                                                                                                              i5 =
                                                                                                                                  i5 ∧
                                                                                                                                i6 =
                                                                                                                                    i6 ∧
                                                                                                                                  i7 =
                                                                                                                                      i7 ∧
                                                                                                                                    i8 =
                                                                                                                                        i8 ∧
                                                                                                                                      i9 =
                                                                                                                                          i9 ∧
                                                                                                                                        i10 =
                                                                                                                                            i10 ∧
                                                                                                                                          i11 =
                                                                                                                                              i11 ∧
                                                                                                                                            i12 =
                                                                                                                                                i12 ∧
                                                                                                                                              ((0 :
                                                                                                                                                      Nat) =
                                                                                                                                                    (0 :
                                                                                                                                                      Nat) ∧
                                                                                                                                                  n1 =
                                                                                                                                                      n1 ∧
                                                                                                                                                    Cap.hid
                                                                                                                                                        (0 :
                                                                                                                                                          Nat) =
                                                                                                                                                      Cap.hid
                                                                                                                                                        (0 :
                                                                                                                                                          Nat)) ∧
                                                                                                                                                ((0 :
                                                                                                                                                        Nat) =
                                                                                                                                                      (0 :
                                                                                                                                                        Nat) ∧
                                                                                                                                                    n2 =
                                                                                                                                                        n2 ∧
                                                                                                                                                      Cap.hid
                                                                                                                                                          (0 :
                                                                                                                                                            Nat) =
                                                                                                                                                        Cap.hid
                                                                                                                                                          (0 :
                                                                                                                                                            Nat)) ∧
                                                                                                                                                  ((0 :
                                                                                                                                                          Nat) =
                                                                                                                                                        (0 :
                                                                                                                                                          Nat) ∧
                                                                                                                                                      n3 =
                                                                                                                                                          n3 ∧
                                                                                                                                                        Cap.hid
                                                                                                                                                            (0 :
                                                                                                                                                              Nat) =
                                                                                                                                                          Cap.hid
                                                                                                                                                            (0 :
                                                                                                                                                              Nat)) ∧
                                                                                                                                                    True) ∧
                                                                                                                    True) ∧
                                                                                                                  (xs1 = xs1 ∧
                                                                                                                      xs2 =
                                                                                                                          xs2 ∧
                                                                                                                        xs3 =
                                                                                                                            xs3 ∧
                                                                                                                          True) ∧
                                                                                                                    (True →
                                                                                                                        True ∧
                                                                                                                          True ∧
                                                                                                                            ((s0 =
                                                                                                                                    s0 ∧
                                                                                                                                  i1 =
                                                                                                                                      i1 ∧
                                                                                                                                    i2 =
                                                                                                                                        i2 ∧
                                                                                                                                      i3 =
                                                                                                                                          i3 ∧
                                                                                                                                        b4 =
                                                                                                                                            b4 ∧
                                                                                                                                          i5 =
                                                                                                                                              i5 ∧
                                                                                                                                            i6 =
                                                                                                                                                i6 ∧
                                                                                                                                              i7 =
                                                                                                                                                  i7 ∧
                                                                                                                                                i8 =
                                                                                                                                                    i8 ∧
                                                                                                                                                  i9 =
                                                                                                                                                      i9 ∧
                                                                                                                                                    i10 =
                                                                                                                                                        i10 ∧
                                                                                                                                                      i11 =
                                                                                                                                                          i11 ∧
                                                                                                                                                        i12 =
                                                                                                                                                            i12 ∧
                                                                                                                                                          ((0 :
                                                                                                                                                                  Nat) =
                                                                                                                                                                (0 :
                                                                                                                                                                  Nat) ∧
                                                                                                                                                              n1 =
                                                                                                                                                                  n1 ∧
                                                                                                                                                                Cap.hid
                                                                                                                                                                    (0 :
                                                                                                                                                                      Nat) =
                                                                                                                                                                  Cap.hid
                                                                                                                                                                    (0 :
                                                                                                                                                                      Nat)) ∧
                                                                                                                                                            ((0 :
                                                                                                                                                                    Nat) =
                                                                                                                                                                  (0 :
                                                                                                                                                                    Nat) ∧
                                                                                                                                                                n2 =
                                                                                                                                                                    n2 ∧
                                                                                                                                                                  Cap.hid
                                                                                                                                                                      (0 :
                                                                                                                                                                        Nat) =
                                                                                                                                                                    Cap.hid
                                                                                                                                                                      (0 :
                                                                                                                                                                        Nat)) ∧
                                                                                                                                                              ((0 :
                                                                                                                                                                      Nat) =
                                                                                                                                                                    (0 :
                                                                                                                                                                      Nat) ∧
                                                                                                                                                                  n3 =
                                                                                                                                                                      n3 ∧
                                                                                                                                                                    Cap.hid
                                                                                                                                                                        (0 :
                                                                                                                                                                          Nat) =
                                                                                                                                                                      Cap.hid
                                                                                                                                                                        (0 :
                                                                                                                                                                          Nat)) ∧
                                                                                                                                                                True) ∧
                                                                                                                                (p =
                                                                                                                                      p ∧
                                                                                                                                    s =
                                                                                                                                        s ∧
                                                                                                                                      f =
                                                                                                                                          f ∧
                                                                                                                                        c =
                                                                                                                                            c ∧
                                                                                                                                          True) ∧
                                                                                                                                  ra =
                                                                                                                                      ra ∧
                                                                                                                                    cl =
                                                                                                                                        cl ∧
                                                                                                                                      t =
                                                                                                                                          t ∧
                                                                                                                                        True) ∧
                                                                                                                              (True ∧
                                                                                                                                  True ∧
                                                                                                                                    True ∧
                                                                                                                                      True) ∧
                                                                                                                                (True →
                                                                                                                                    True ∧
                                                                                                                                      (((stepS
                                                                                                                                                      i11
                                                                                                                                                      i12
                                                                                                                                                      p
                                                                                                                                                      s
                                                                                                                                                      f
                                                                                                                                                      c
                                                                                                                                                      t
                                                                                                                                                      ra
                                                                                                                                                      cl).fst.fst ==
                                                                                                                                                (rstepS
                                                                                                                                                      i11
                                                                                                                                                      i12
                                                                                                                                                      p
                                                                                                                                                      s
                                                                                                                                                      f
                                                                                                                                                      c
                                                                                                                                                      t
                                                                                                                                                      ra
                                                                                                                                                      cl).fst.fst &&
                                                                                                                                              ((stepS
                                                                                                                                                          i11
                                                                                                                                                          i12
                                                                                                                                                          p
                                                                                                                                                          s
                                                                                                                                                          f
                                                                                                                                                          c
                                                                                                                                                          t
                                                                                                                                                          ra
                                                                                                                                                          cl).fst.snd.fst ==
                                                                                                                                                  (rstepS
                                                                                                                                                          i11
                                                                                                                                                          i12
                                                                                                                                                          p
                                                                                                                                                          s
                                                                                                                                                          f
                                                                                                                                                          c
                                                                                                                                                          t
                                                                                                                                                          ra
                                                                                                                                                          cl).fst.snd.fst &&
                                                                                                                                                ((stepS
                                                                                                                                                              i11
                                                                                                                                                              i12
                                                                                                                                                              p
                                                                                                                                                              s
                                                                                                                                                              f
                                                                                                                                                              c
                                                                                                                                                              t
                                                                                                                                                              ra
                                                                                                                                                              cl).fst.snd.snd.fst ==
                                                                                                                                                    (rstepS
                                                                                                                                                              i11
                                                                                                                                                              i12
                                                                                                                                                              p
                                                                                                                                                              s
                                                                                                                                                              f
                                                                                                                                                              c
                                                                                                                                                              t
                                                                                                                                                              ra
                                                                                                                                                              cl).fst.snd.snd.fst &&
                                                                                                                                                  ((stepS
                                                                                                                                                                i11
                                                                                                                                                                i12
                                                                                                                                                                p
                                                                                                                                                                s
                                                                                                                                                                f
                                                                                                                                                                c
                                                                                                                                                                t
                                                                                                                                                                ra
                                                                                                                                                                cl).fst.snd.snd.snd ==
                                                                                                                                                      (rstepS
                                                                                                                                                                i11
                                                                                                                                                                i12
                                                                                                                                                                p
                                                                                                                                                                s
                                                                                                                                                                f
                                                                                                                                                                c
                                                                                                                                                                t
                                                                                                                                                                ra
                                                                                                                                                                cl).fst.snd.snd.snd &&
                                                                                                                                                    true)))) =
                                                                                                                                            true →
                                                                                                                                          A
                                                                                                                                            (Value.bool
                                                                                                                                              ((stepS
                                                                                                                                                    i11
                                                                                                                                                    i12
                                                                                                                                                    p
                                                                                                                                                    s
                                                                                                                                                    f
                                                                                                                                                    c
                                                                                                                                                    t
                                                                                                                                                    ra
                                                                                                                                                    cl).snd ==
                                                                                                                                                (rstepS
                                                                                                                                                    i11
                                                                                                                                                    i12
                                                                                                                                                    p
                                                                                                                                                    s
                                                                                                                                                    f
                                                                                                                                                    c
                                                                                                                                                    t
                                                                                                                                                    ra
                                                                                                                                                    cl).snd))) ∧
                                                                                                                                        (((stepS
                                                                                                                                                      i11
                                                                                                                                                      i12
                                                                                                                                                      p
                                                                                                                                                      s
                                                                                                                                                      f
                                                                                                                                                      c
                                                                                                                                                      t
                                                                                                                                                      ra
                                                                                                                                                      cl).fst.fst ==
                                                                                                                                                (rstepS
                                                                                                                                                      i11
                                                                                                                                                      i12
                                                                                                                                                      p
                                                                                                                                                      s
                                                                                                                                                      f
                                                                                                                                                      c
                                                                                                                                                      t
                                                                                                                                                      ra
                                                                                                                                                      cl).fst.fst &&
                                                                                                                                              ((stepS
                                                                                                                                                          i11
                                                                                                                                                          i12
                                                                                                                                                          p
                                                                                                                                                          s
                                                                                                                                                          f
                                                                                                                                                          c
                                                                                                                                                          t
                                                                                                                                                          ra
                                                                                                                                                          cl).fst.snd.fst ==
                                                                                                                                                  (rstepS
                                                                                                                                                          i11
                                                                                                                                                          i12
                                                                                                                                                          p
                                                                                                                                                          s
                                                                                                                                                          f
                                                                                                                                                          c
                                                                                                                                                          t
                                                                                                                                                          ra
                                                                                                                                                          cl).fst.snd.fst &&
                                                                                                                                                ((stepS
                                                                                                                                                              i11
                                                                                                                                                              i12
                                                                                                                                                              p
                                                                                                                                                              s
                                                                                                                                                              f
                                                                                                                                                              c
                                                                                                                                                              t
                                                                                                                                                              ra
                                                                                                                                                              cl).fst.snd.snd.fst ==
                                                                                                                                                    (rstepS
                                                                                                                                                              i11
                                                                                                                                                              i12
                                                                                                                                                              p
                                                                                                                                                              s
                                                                                                                                                              f
                                                                                                                                                              c
                                                                                                                                                              t
                                                                                                                                                              ra
                                                                                                                                                              cl).fst.snd.snd.fst &&
                                                                                                                                                  ((stepS
                                                                                                                                                                i11
                                                                                                                                                                i12
                                                                                                                                                                p
                                                                                                                                                                s
                                                                                                                                                                f
                                                                                                                                                                c
                                                                                                                                                                t
                                                                                                                                                                ra
                                                                                                                                                                cl).fst.snd.snd.snd ==
                                                                                                                                                      (rstepS
                                                                                                                                                                i11
                                                                                                                                                                i12
                                                                                                                                                                p
                                                                                                                                                                s
                                                                                                                                                                f
                                                                                                                                                                c
                                                                                                                                                                t
                                                                                                                                                                ra
                                                                                                                                                                cl).fst.snd.snd.snd &&
                                                                                                                                                    true)))) =
                                                                                                                                            false →
                                                                                                                                          A
                                                                                                                                            (Value.bool
                                                                                                                                              false))) ∧
                                                                                                                                  True) ∧
                                                                                                                      True) ∧
                                                                                                            True))) ∧
                                                                                          (decide (i12 < (0 : Int)) = true →
                                                                                            A (Value.bool true)))) ∧
                                                                                  (decide (i11 < (0 : Int)) = true →
                                                                                    A (Value.bool true))) ∧
                                                                              (decide (t < s) = true →
                                                                                A (Value.bool true)))) ∧
                                                                      (decide (t < (0 : Int)) = true → A (Value.bool true))) ∧
                                                                  ((!few3B n3 xs3) = true → A (Value.bool true))) ∧
                                                              True) ∧
                                                    (few5B n2 xs2 = false → A (Value.bool true))) ∧
                                                True) ∧
                                      (few5B n1 xs1 = false → A (Value.bool true))) ∧
                                  True) ∧
                        (decide ((↑s0.size : Int) ≤ (100 : Int)) = false → A (Value.bool true))) ∧
                    ((checkS p s f c != (0 : Int)) = true → A (Value.bool true))))) : Run Try.prog (J4 w A).C 4 (J4 w A).R
      ⟨[enterS 4 Try.f4 [RuleQ.cells ⟨s0, i1, i2, i3, b4, i5, i6, i7, i8, i9, i10, i11, i12, n1, n2, n3, xs1, xs2, xs3⟩ 0, stSV p s f c, .c (.v (.bool ra)), .c (.v (.bool cl)), .c (.v (.int .i64 t))]], [some (.ice xs1), some (.ice xs2), some (.ice xs3)]⟩ := by
  refine run_chk (J := J4 w A) 400 ?_
  refine chk h ?_
  kernel_rfl
end Go.Proofs.Ytoeeilbpgckhlaa
