/- Labels few; matchers, labels as the document's: to their ends; laws. -/
import Derived.Test.YtoeeilbpgckhlaaBl5
import Derived.KernelRfl
namespace Go.Proofs.Ytoeeilbpgckhlaa
open Go.RowKit Go.Sy
def few3F (xs : List D) : Nat → Nat → Bool
  | 0, _ => true
  | m + 1, i => if (strAt xs (i * 2)).size ≤ 100 ∧ (strAt xs (i * 2 + 1)).size ≤ 200 then few3F xs m (i + 1) else false
def few3B (n : Nat) (xs : List D) : Bool := if n ≤ 30 then few3F xs n 0 else false
theorem few3_run (n : Nat) (xs : List D) (hs : Strs xs) (hl : xs.length = n * 2) (hn : n ≤ 30) (b : Bool) (w : World) (ρ0 : Ren) (own fz0 : Nat → Prop) : ∀ (m i : Nat), n = i + m → b = few3F xs m i →
    Run Try.prog (J68 n xs b w ρ0 own fz0).C 68 (J68 n xs b w ρ0 own fz0).R (few3At n xs i)
  | 0, i, hm, hb => by
    refine few3_body n xs b i w ρ0 own fz0 ⟨fun h => ?_, fun _ => ⟨⟨rfl, trivial⟩, hb.symm⟩⟩
    simp at h; omega
  | m + 1, i, hm, hb => by
    have e0 := (hs (i * 2) (by omega)).1
    have e1 := (hs (i * 2 + 1) (by omega)).1
    unfold few3F at hb
    have hi : (0 : Int) ≤ (i : Int) ∧ (i : Int) < (n : Int) := by omega
    refine few3_body n xs b i w ρ0 own fz0 ⟨fun _ => ⟨hi, _, by simpa using e0, fun h0 => ⟨hi, _, by simpa using e1, fun h1 => ⟨⟨rfl, trivial⟩, ?_⟩, fun h1 => ⟨⟨by simp, by simp⟩, ?_⟩⟩, fun h0 => ⟨⟨rfl, trivial⟩, ?_⟩⟩, fun h => ?_⟩
    · simp at h1; rw [hb, if_neg (by omega)]
    · rw [wrap_nat (by omega)]
      refine few3_run n xs hs hl hn b w ρ0 own fz0 m (i + 1) (by omega) ?_
      simp at h0 h1
      rw [hb, if_pos (by omega)]
    · simp at h0; rw [hb, if_neg (by omega)]
    · simp at h; omega
theorem few3_claim (n : Nat) (xs : List D) (hs : Strs xs) (hl : xs.length = n * 2) : LawOk Try.prog 68 (slC n xs) (slA xs (vB (few3B n xs))) := by
  refine claim_run cb68 fun w ρ0 own fz0 => few3_in n xs (few3B n xs) w ρ0 own fz0 ⟨fun h => ?_, fun h => ⟨by simp, ?_⟩⟩
  · simp at h
    exact ⟨⟨rfl, trivial⟩, by simp [few3B]; omega⟩
  · simp at h
    have h : n ≤ 30 := by omega
    exact few3_run n xs hs hl h _ w ρ0 own fz0 n 0 (by omega) (by simp [few3B, h])
theorem plain_seen {xs : List D} {v : SV} {q : Nat × List D} {a : Alt} (ha : a ∈ [slA xs v]) (hx : xs = q.2) : Plains (slC q.1 q.2) a := fun k p hp hi => by
  subst hx
  simp at ha; subst ha
  cases k with
  | zero => have := hi (.ice q.2) rfl; simp [iceB] at this
  | succ k => simp at hp
def few3Law : CLaw Try.prog where
  g := 68
  Q := Nat × List D
  find := seenOf 2
  can := fun q => slC q.1 q.2
  alts := fun q => [slA q.2 (vB (few3B q.1 q.2))]
  dom := fun q => Strs q.2 ∧ q.2.length = q.1 * 2
  plain := fun _ q _ a ha _ => plain_seen ha rfl
  ex := fun q _ => ⟨_, List.mem_singleton.2 rfl, trivial⟩
  ok := fun q hd a ha _ => by simp at ha; subst ha; exact few3_claim q.1 q.2 hd.1 hd.2
noncomputable def of3At (n : Nat) (xs ys : List D) (l : Nat) (i : Int) : St := ⟨[{ fn := 66, tmps := slots 26 [(0, .c (.s 0 0 n (.hid 0))), (3, .c (.s 1 0 l (.hid 0))), (4, vI i)], todo := loopTodo Try.f66 0 }], [some (.ice xs), some (.row ys 161 (.hid 2))]⟩
noncomputable abbrev J66 (n : Nat) (xs : List D) (w : World) (ρ0 : Ren) (own fz0 : Nat → Prop) : Job Try.prog := canJob (slC n xs) (slO n xs 161 2) [] false [⟨66, 3, fun s => of3At n xs (rowO s (nmO (slotT s 3))) (lenT s 3) (intT s 4), fun s => [some 0, nmO (slotT s 3)]⟩] (fun _ v => [some 0, nmO v]) 66 w ρ0 own fz0
set_option maxRecDepth 100000 in
theorem of3_in (n : Nat) (xs : List D) (w : World) (ρ0 : Ren) (own fz0 : Nat → Prop) (h : (((xs = xs ∧ ([] : List D) = [] ∧ True) ∧
          loopTodo Try.f66 (0 : Nat) = loopTodo Try.f66 (0 : Nat) ∧
            (((0 : Nat) = (0 : Nat) ∧ n = n ∧ Cap.hid (0 : Nat) = Cap.hid (0 : Nat)) ∧
                (0 : Nat) = (0 : Nat) ∧ (0 : Int) = (0 : Int) ∧ True) ∧
              True) ∧
        Run Try.prog (J66 n xs w ρ0 own fz0).C (J66 n xs w ρ0 own fz0).f (J66 n xs w ρ0 own fz0).R
          (of3At n xs [] (0 : Nat) (0 : Int)))) :
    Run Try.prog (J66 n xs w ρ0 own fz0).C 66 (J66 n xs w ρ0 own fz0).R ⟨[enterS 66 Try.f66 [.c (.s 0 0 n (.hid 0))]], [some (.ice xs)]⟩ := by
  refine run_chk (J := J66 n xs w ρ0 own fz0) 400 ?_
  refine chk h ?_
  kernel_rfl
set_option maxRecDepth 100000 in
theorem of3_body (n : Nat) (xs ys : List D) (l : Nat) (i : Nat) (w : World) (ρ0 : Ren) (own fz0 : Nat → Prop) (h : ((decide ((↑i : Int) < (↑n : Int)) = true →
          ((0 : Int) ≤ (↑i : Int) ∧ (↑i : Int) < (↑n : Int)) ∧
            ∃ s,
              xs[(0 : Nat) + i * (2 : Nat) + (0 : Nat)]? = some (D.v (Value.string s)) ∧
                ((0 : Int) ≤ (↑i : Int) ∧ (↑i : Int) < (↑n : Int)) ∧
                  ∃ s_1,
                    xs[(0 : Nat) + i * (2 : Nat) + (1 : Nat)]? = some (D.v (Value.string s_1)) ∧
                      (l + (1 : Nat) ≤ (9223372036854775807 : Nat) ∧ (l + (1 : Nat)) * (32 : Nat) ≤ (140737488355328 : Nat)) ∧
                        l * (2 : Nat) ≤ ys.length ∧
                          ((xs = xs ∧
                                (Tail.hid (2 : Nat) = Tail.hid (2 : Nat) ∧
                                    List.take (l * (2 : Nat)) ys ++ [D.v (Value.string s), D.v (Value.string s_1)] =
                                      List.take (l * (2 : Nat)) ys ++ [D.v (Value.string s), D.v (Value.string s_1)]) ∧
                                  True) ∧
                              loopTodo Try.f66 (0 : Nat) = loopTodo Try.f66 (0 : Nat) ∧
                                (((0 : Nat) = (0 : Nat) ∧ n = n ∧ Cap.hid (0 : Nat) = Cap.hid (0 : Nat)) ∧
                                    ((0 : Nat) = (0 : Nat) ∧
                                        l + (1 : Nat) = l + (1 : Nat) ∧ Cap.hid (0 : Nat) = Cap.hid (0 : Nat)) ∧
                                      IntKind.i64.wrap ((↑i : Int) + (1 : Int)) = IntKind.i64.wrap ((↑i : Int) + (1 : Int)) ∧
                                        True) ∧
                                  True) ∧
                            Run Try.prog (J66 n xs w ρ0 own fz0).C (J66 n xs w ρ0 own fz0).f (J66 n xs w ρ0 own fz0).R
                              (of3At n xs (List.take (l * (2 : Nat)) ys ++ [D.v (Value.string s), D.v (Value.string s_1)])
                                (l + (1 : Nat)) (IntKind.i64.wrap ((↑i : Int) + (1 : Int))))) ∧
        (decide ((↑i : Int) < (↑n : Int)) = false →
          (xs = xs ∧ (Tail.hid (2 : Nat) = Tail.hid (2 : Nat) ∧ ys = xs) ∧ True) ∧
            (0 : Nat) = (0 : Nat) ∧ l = n ∧ Cap.hid (0 : Nat) = Cap.hid (0 : Nat)))) :
    Run Try.prog (J66 n xs w ρ0 own fz0).C 66 (J66 n xs w ρ0 own fz0).R (of3At n xs ys l i) := by
  refine run_chk (J := J66 n xs w ρ0 own fz0) 400 ?_
  refine chk h ?_
  kernel_rfl
end Go.Proofs.Ytoeeilbpgckhlaa
