/- Few: are matchers, labels few and short? -/
import Derived.Test.YtoeeilbpgckhlaaBl2
import Derived.KernelRfl
namespace Go.Proofs.Ytoeeilbpgckhlaa
open Go.RowKit Go.Sy
theorem cb67 : callable Try.prog 67 = some Try.f67 := by kernel_rfl
abbrev vI (n : Int) : SV := .c (.v (.int .i64 n))
abbrev vB (b : Bool) : SV := .c (.v (.bool b))
abbrev slC (n : Nat) (xs : List D) : Pat := ⟨[.ice xs], [.c (.s 0 0 n (.hid 0))]⟩
abbrev slA (xs : List D) (v : SV) : Alt := ⟨True, [.ice xs], v⟩
noncomputable def few5At (n : Nat) (xs : List D) (i : Int) : St := ⟨[{ fn := 67, tmps := slots 38 [(0, .c (.s 0 0 n (.hid 0))), (3, vI i)], todo := loopTodo Try.f67 0 }], [some (.ice xs)]⟩
noncomputable abbrev J67 (n : Nat) (xs : List D) (b : Bool) (w : World) (ρ0 : Ren) (own fz0 : Nat → Prop) : Job Try.prog := canJob (slC n xs) (slA xs (vB b)) [] false [⟨67, 4, fun s => few5At n xs (intT s 3), fun _ => []⟩] nms0 67 w ρ0 own fz0
set_option maxRecDepth 100000 in
theorem few5_in (n : Nat) (xs : List D) (b : Bool) (w : World) (ρ0 : Ren) (own fz0 : Nat → Prop) (h : ((decide ((↑n : Int) > (12 : Int)) = true → (xs = xs ∧ True) ∧ false = b) ∧
        (decide ((↑n : Int) > (12 : Int)) = false →
          ((xs = xs ∧ True) ∧
              loopTodo Try.f67 (0 : Nat) = loopTodo Try.f67 (0 : Nat) ∧
                (((0 : Nat) = (0 : Nat) ∧ n = n ∧ Cap.hid (0 : Nat) = Cap.hid (0 : Nat)) ∧ (0 : Int) = (0 : Int) ∧ True) ∧
                  True) ∧
            Run Try.prog (J67 n xs b w ρ0 own fz0).C (J67 n xs b w ρ0 own fz0).f (J67 n xs b w ρ0 own fz0).R
              (few5At n xs (0 : Int))))) :
    Run Try.prog (J67 n xs b w ρ0 own fz0).C 67 (J67 n xs b w ρ0 own fz0).R ⟨[enterS 67 Try.f67 [.c (.s 0 0 n (.hid 0))]], [some (.ice xs)]⟩ := by
  refine run_chk (J := J67 n xs b w ρ0 own fz0) 400 ?_
  refine chk h ?_
  kernel_rfl
set_option maxRecDepth 100000 in
theorem few5_body (n : Nat) (xs : List D) (b : Bool) (i : Nat) (w : World) (ρ0 : Ren) (own fz0 : Nat → Prop) (h : ((decide ((↑i : Int) < (↑n : Int)) = true →
          ((0 : Int) ≤ (↑i : Int) ∧ (↑i : Int) < (↑n : Int)) ∧
            ∃ s,
              xs[(0 : Nat) + i * (3 : Nat) + (0 : Nat)]? = some (D.v (Value.string s)) ∧
                (decide ((↑s.size : Int) > (100 : Int)) = false →
                    ((0 : Int) ≤ (↑i : Int) ∧ (↑i : Int) < (↑n : Int)) ∧
                      ∃ s,
                        xs[(0 : Nat) + i * (3 : Nat) + (1 : Nat)]? = some (D.v (Value.string s)) ∧
                          (decide ((↑s.size : Int) > (10 : Int)) = false →
                              ((0 : Int) ≤ (↑i : Int) ∧ (↑i : Int) < (↑n : Int)) ∧
                                ∃ s,
                                  xs[(0 : Nat) + i * (3 : Nat) + (2 : Nat)]? = some (D.v (Value.string s)) ∧
                                    (decide ((↑s.size : Int) > (200 : Int)) = true → (xs = xs ∧ True) ∧ false = b) ∧
                                      (decide ((↑s.size : Int) > (200 : Int)) = false →
                                        ((xs = xs ∧ True) ∧
                                            loopTodo Try.f67 (0 : Nat) = loopTodo Try.f67 (0 : Nat) ∧
                                              (((0 : Nat) = (0 : Nat) ∧ n = n ∧ Cap.hid (0 : Nat) = Cap.hid (0 : Nat)) ∧
                                                  IntKind.i64.wrap ((↑i : Int) + (1 : Int)) =
                                                      IntKind.i64.wrap ((↑i : Int) + (1 : Int)) ∧
                                                    True) ∧
                                                True) ∧
                                          Run Try.prog (J67 n xs b w ρ0 own fz0).C (J67 n xs b w ρ0 own fz0).f
                                            (J67 n xs b w ρ0 own fz0).R
                                            (few5At n xs (IntKind.i64.wrap ((↑i : Int) + (1 : Int)))))) ∧
                            (decide ((↑s.size : Int) > (10 : Int)) = true → (xs = xs ∧ True) ∧ false = b)) ∧
                  (decide ((↑s.size : Int) > (100 : Int)) = true → (xs = xs ∧ True) ∧ false = b)) ∧
        (decide ((↑i : Int) < (↑n : Int)) = false → (xs = xs ∧ True) ∧ true = b))) :
    Run Try.prog (J67 n xs b w ρ0 own fz0).C 67 (J67 n xs b w ρ0 own fz0).R (few5At n xs i) := by
  refine run_chk (J := J67 n xs b w ρ0 own fz0) 400 ?_
  refine chk h ?_
  kernel_rfl
end Go.Proofs.Ytoeeilbpgckhlaa
