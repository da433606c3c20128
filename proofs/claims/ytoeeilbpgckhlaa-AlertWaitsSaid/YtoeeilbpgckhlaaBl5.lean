/- Labels: few? Matchers, labels as the document's. -/
import Derived.Test.YtoeeilbpgckhlaaBl4
import Derived.KernelRfl
namespace Go.Proofs.Ytoeeilbpgckhlaa
open Go.RowKit Go.Sy
theorem cb68 : callable Try.prog 68 = some Try.f68 := by kernel_rfl
theorem cb65 : callable Try.prog 65 = some Try.f65 := by kernel_rfl
theorem cb66 : callable Try.prog 66 = some Try.f66 := by kernel_rfl
noncomputable def few3At (n : Nat) (xs : List D) (i : Int) : St := ⟨[{ fn := 68, tmps := slots 29 [(0, .c (.s 0 0 n (.hid 0))), (3, vI i)], todo := loopTodo Try.f68 0 }], [some (.ice xs)]⟩
noncomputable abbrev J68 (n : Nat) (xs : List D) (b : Bool) (w : World) (ρ0 : Ren) (own fz0 : Nat → Prop) : Job Try.prog := canJob (slC n xs) (slA xs (vB b)) [] false [⟨68, 4, fun s => few3At n xs (intT s 3), fun _ => []⟩] nms0 68 w ρ0 own fz0
set_option maxRecDepth 100000 in
theorem few3_in (n : Nat) (xs : List D) (b : Bool) (w : World) (ρ0 : Ren) (own fz0 : Nat → Prop) (h : ((decide ((↑n : Int) > (30 : Int)) = true → (xs = xs ∧ True) ∧ false = b) ∧
        (decide ((↑n : Int) > (30 : Int)) = false →
          ((xs = xs ∧ True) ∧
              loopTodo Try.f68 (0 : Nat) = loopTodo Try.f68 (0 : Nat) ∧
                (((0 : Nat) = (0 : Nat) ∧ n = n ∧ Cap.hid (0 : Nat) = Cap.hid (0 : Nat)) ∧ (0 : Int) = (0 : Int) ∧ True) ∧
                  True) ∧
            Run Try.prog (J68 n xs b w ρ0 own fz0).C (J68 n xs b w ρ0 own fz0).f (J68 n xs b w ρ0 own fz0).R
              (few3At n xs (0 : Int))))) :
    Run Try.prog (J68 n xs b w ρ0 own fz0).C 68 (J68 n xs b w ρ0 own fz0).R ⟨[enterS 68 Try.f68 [.c (.s 0 0 n (.hid 0))]], [some (.ice xs)]⟩ := by
  refine run_chk (J := J68 n xs b w ρ0 own fz0) 400 ?_
  refine chk h ?_
  kernel_rfl
set_option maxRecDepth 100000 in
theorem few3_body (n : Nat) (xs : List D) (b : Bool) (i : Nat) (w : World) (ρ0 : Ren) (own fz0 : Nat → Prop) (h : ((decide ((↑i : Int) < (↑n : Int)) = true →
          ((0 : Int) ≤ (↑i : Int) ∧ (↑i : Int) < (↑n : Int)) ∧
            ∃ s,
              xs[(0 : Nat) + i * (2 : Nat) + (0 : Nat)]? = some (D.v (Value.string s)) ∧
                (decide ((↑s.size : Int) > (100 : Int)) = false →
                    ((0 : Int) ≤ (↑i : Int) ∧ (↑i : Int) < (↑n : Int)) ∧
                      ∃ s,
                        xs[(0 : Nat) + i * (2 : Nat) + (1 : Nat)]? = some (D.v (Value.string s)) ∧
                          (decide ((↑s.size : Int) > (200 : Int)) = true → (xs = xs ∧ True) ∧ false = b) ∧
                            (decide ((↑s.size : Int) > (200 : Int)) = false →
                              ((xs = xs ∧ True) ∧
                                  loopTodo Try.f68 (0 : Nat) = loopTodo Try.f68 (0 : Nat) ∧
                                    (((0 : Nat) = (0 : Nat) ∧ n = n ∧ Cap.hid (0 : Nat) = Cap.hid (0 : Nat)) ∧
                                        IntKind.i64.wrap ((↑i : Int) + (1 : Int)) =
                                            IntKind.i64.wrap ((↑i : Int) + (1 : Int)) ∧
                                          True) ∧
                                      True) ∧
                                Run Try.prog (J68 n xs b w ρ0 own fz0).C (J68 n xs b w ρ0 own fz0).f
                                  (J68 n xs b w ρ0 own fz0).R (few3At n xs (IntKind.i64.wrap ((↑i : Int) + (1 : Int)))))) ∧
                  (decide ((↑s.size : Int) > (100 : Int)) = true → (xs = xs ∧ True) ∧ false = b)) ∧
        (decide ((↑i : Int) < (↑n : Int)) = false → (xs = xs ∧ True) ∧ true = b))) :
    Run Try.prog (J68 n xs b w ρ0 own fz0).C 68 (J68 n xs b w ρ0 own fz0).R (few3At n xs i) := by
  refine run_chk (J := J68 n xs b w ρ0 own fz0) 400 ?_
  refine chk h ?_
  kernel_rfl
abbrev slO (n : Nat) (xs : List D) (t : TypeId) (es : Nat) : Alt := ⟨True, [.ice xs, .row xs t (.hid es)], .c (.s 1 0 n (.hid 0))⟩
noncomputable def of5At (n : Nat) (xs ys : List D) (l : Nat) (i : Int) : St := ⟨[{ fn := 65, tmps := slots 31 [(0, .c (.s 0 0 n (.hid 0))), (3, .c (.s 1 0 l (.hid 0))), (4, vI i)], todo := loopTodo Try.f65 0 }], [some (.ice xs), some (.row ys 158 (.hid 3))]⟩
noncomputable abbrev J65 (n : Nat) (xs : List D) (w : World) (ρ0 : Ren) (own fz0 : Nat → Prop) : Job Try.prog := canJob (slC n xs) (slO n xs 158 3) [] false [⟨65, 3, fun s => of5At n xs (rowO s (nmO (slotT s 3))) (lenT s 3) (intT s 4), fun s => [some 0, nmO (slotT s 3)]⟩] (fun _ v => [some 0, nmO v]) 65 w ρ0 own fz0
set_option maxRecDepth 100000 in
theorem of5_in (n : Nat) (xs : List D) (w : World) (ρ0 : Ren) (own fz0 : Nat → Prop) (h : (((xs = xs ∧ ([] : List D) = [] ∧ True) ∧
          loopTodo Try.f65 (0 : Nat) = loopTodo Try.f65 (0 : Nat) ∧
            (((0 : Nat) = (0 : Nat) ∧ n = n ∧ Cap.hid (0 : Nat) = Cap.hid (0 : Nat)) ∧
                (0 : Nat) = (0 : Nat) ∧ (0 : Int) = (0 : Int) ∧ True) ∧
              True) ∧
        Run Try.prog (J65 n xs w ρ0 own fz0).C (J65 n xs w ρ0 own fz0).f (J65 n xs w ρ0 own fz0).R
          (of5At n xs [] (0 : Nat) (0 : Int)))) :
    Run Try.prog (J65 n xs w ρ0 own fz0).C 65 (J65 n xs w ρ0 own fz0).R ⟨[enterS 65 Try.f65 [.c (.s 0 0 n (.hid 0))]], [some (.ice xs)]⟩ := by
  refine run_chk (J := J65 n xs w ρ0 own fz0) 400 ?_
  refine chk h ?_
  kernel_rfl
set_option maxRecDepth 100000 in
theorem of5_body (n : Nat) (xs ys : List D) (l : Nat) (i : Nat) (w : World) (ρ0 : Ren) (own fz0 : Nat → Prop) (h : ((decide ((↑i : Int) < (↑n : Int)) = true →
          ((0 : Int) ≤ (↑i : Int) ∧ (↑i : Int) < (↑n : Int)) ∧
            ∃ s,
              xs[(0 : Nat) + i * (3 : Nat) + (0 : Nat)]? = some (D.v (Value.string s)) ∧
                ((0 : Int) ≤ (↑i : Int) ∧ (↑i : Int) < (↑n : Int)) ∧
                  ∃ s_1,
                    xs[(0 : Nat) + i * (3 : Nat) + (1 : Nat)]? = some (D.v (Value.string s_1)) ∧
                      ((0 : Int) ≤ (↑i : Int) ∧ (↑i : Int) < (↑n : Int)) ∧
                        ∃ s_2,
                          xs[(0 : Nat) + i * (3 : Nat) + (2 : Nat)]? = some (D.v (Value.string s_2)) ∧
                            (l + (1 : Nat) ≤ (9223372036854775807 : Nat) ∧
                                (l + (1 : Nat)) * (48 : Nat) ≤ (140737488355328 : Nat)) ∧
                              l * (3 : Nat) ≤ ys.length ∧
                                ((xs = xs ∧
                                      (Tail.hid (3 : Nat) = Tail.hid (3 : Nat) ∧
                                          List.take (l * (3 : Nat)) ys ++
                                              [D.v (Value.string s), D.v (Value.string s_1), D.v (Value.string s_2)] =
                                            List.take (l * (3 : Nat)) ys ++
                                              [D.v (Value.string s), D.v (Value.string s_1), D.v (Value.string s_2)]) ∧
                                        True) ∧
                                    loopTodo Try.f65 (0 : Nat) = loopTodo Try.f65 (0 : Nat) ∧
                                      (((0 : Nat) = (0 : Nat) ∧ n = n ∧ Cap.hid (0 : Nat) = Cap.hid (0 : Nat)) ∧
                                          ((0 : Nat) = (0 : Nat) ∧
                                              l + (1 : Nat) = l + (1 : Nat) ∧ Cap.hid (0 : Nat) = Cap.hid (0 : Nat)) ∧
                                            IntKind.i64.wrap ((↑i : Int) + (1 : Int)) =
                                                IntKind.i64.wrap ((↑i : Int) + (1 : Int)) ∧
                                              True) ∧
                                        True) ∧
                                  Run Try.prog (J65 n xs w ρ0 own fz0).C (J65 n xs w ρ0 own fz0).f (J65 n xs w ρ0 own fz0).R
                                    (of5At n xs
                                      (List.take (l * (3 : Nat)) ys ++
                                        [D.v (Value.string s), D.v (Value.string s_1), D.v (Value.string s_2)])
                                      (l + (1 : Nat)) (IntKind.i64.wrap ((↑i : Int) + (1 : Int))))) ∧
        (decide ((↑i : Int) < (↑n : Int)) = false →
          (xs = xs ∧ (Tail.hid (3 : Nat) = Tail.hid (3 : Nat) ∧ ys = xs) ∧ True) ∧
            (0 : Nat) = (0 : Nat) ∧ l = n ∧ Cap.hid (0 : Nat) = Cap.hid (0 : Nat)))) :
    Run Try.prog (J65 n xs w ρ0 own fz0).C 65 (J65 n xs w ρ0 own fz0).R (of5At n xs ys l i) := by
  refine run_chk (J := J65 n xs w ρ0 own fz0) 400 ?_
  refine chk h ?_
  kernel_rfl
end Go.Proofs.Ytoeeilbpgckhlaa
