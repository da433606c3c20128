/- AlertTurns: the loop, to its end. -/
import Derived.Test.YtoeeilbpgckhlaaAl3
import Derived.Test.YtoeeilbpgckhlaaOpen
namespace Go.Proofs.Ytoeeilbpgckhlaa
open Go.RowKit Go.Sx
theorem ext0 {P : Program} {w : World} {b : Nat} : Ext ⟨P, w, 0, id⟩ b := fun k hk => absurd hk (Nat.not_lt_zero k)
theorem wrap_nat {i : Nat} (h : i < 1000) : IntKind.i64.wrap ((i : Int) + 1) = ((i + 1 : Nat) : Int) := by rw [IntKind.wrap_i64]; omega
theorem turns_run (A : Value → Prop) (hA : A (.bool true)) (w : World) (a : Addr) (n cp : Nat) (hn : n < 1000) (hs : Sights w a n) (f k : Int) : ∀ (m i : Nat) (fi : Bool) (t p s fd c : Int), n - i = m → (p = 0 ∨ p = 1 ∨ p = 2) → fi = decide (p = 2) →
    Run (J6 w A) (turns a n cp f k i fi t p s fd c) := by
  intro m
  induction m with
  | zero =>
    intro i fi t p s fd c hm hp hfi
    refine turns_body A w a n cp f k i fi t p s fd c ⟨fun hlt => ?_, fun _ _ => hA⟩
    simp only [decide_eq_true_eq] at hlt
    omega
  | succ m ih =>
    intro i fi t p s fd c hm hp hfi
    refine turns_body A w a n cp f k i fi t p s fd c ⟨fun hlt => ?_, fun _ _ => hA⟩
    simp only [decide_eq_true_eq] at hlt
    have hi : i < n := by omega
    obtain ⟨r, cl, g, h0, h1, h2, _⟩ := hs i hi
    have hb : decide (0 ≤ (i : Int) ∧ (i : Int) < (n : Int)) = true := by simp; omega
    refine Ck.mk hb ⟨a, rfl, ext0, g, h2, Ck.mk hb ⟨a, rfl, ext0, r, h0, Ck.mk hb ⟨a, rfl, ext0, cl, h1, trivial, ?_⟩⟩⟩
    generalize IntKind.i64.wrap (IntKind.i64.wrap (t + 1) + IntKind.i64.wrap g) = t'
    generalize hx : stepS f k p s fd c t' r cl = x
    obtain ⟨i1, i2, i3, i4⟩ := step_inv hx hp
    obtain ⟨⟨p', s', fd', c'⟩, ev⟩ := x
    have ih' := fun fi p s fd c => ih (i + 1) fi t' p s fd c (by omega)
    have hw := wrap_nat (i := i) (by omega)
    dsimp only at *
    repeat' (first | apply ih' _ _ _ _ _ i4 | apply And.intro | intro _)
    all_goals first | rfl | trivial | (rw [hw]; done) | (simp_all; done) | (exfalso; by_cases hp2 : p = 2 <;> simp_all; done)
theorem turns_nil (w : World) (x y : Int) : Calls Try.prog 6 #[.int .u16 x, .int .u16 y, .slice none 0 0] w fun e w' => ∃ v, e = .returned v ∧ v = .bool true ∧ Below w.heap.size w w' := by
  refine turns_nil_in (fun v => v = .bool true) w x y ?_
  simp
theorem turns_some (w : World) (x y : Int) (a : Addr) (n cp : Nat) (hs : Sights w a n) : Calls Try.prog 6 #[.int .u16 x, .int .u16 y, .slice (some a) n cp] w fun e w' => ∃ v, e = .returned v ∧ v = .bool true ∧ Below w.heap.size w w' := by
  refine turns_in (fun v => v = .bool true) w x y a n cp ⟨trivial, fun h => (by simp at h), fun _ => ⟨fun _ _ => rfl, fun hle => ⟨trivial, ?_, ?_⟩⟩⟩
  · simp
  · simp only [decide_eq_false_iff_not] at hle
    exact turns_run (fun v => v = .bool true) rfl w a n cp (by omega) hs _ _ n 0 false _ _ _ _ _ rfl (.inl rfl) rfl
theorem turns_calls (w : World) (x y : Int) (a : Option Addr) (len cap : Nat) (h : IsSights w a len cap) : Calls Try.prog 6 #[.int .u16 x, .int .u16 y, .slice a len cap] w fun e w' => ∃ v, e = .returned v ∧ v = .bool true ∧ Below w.heap.size w w' := by
  rcases h with ⟨rfl, rfl, rfl⟩ | ⟨x0, rfl, _, _, hs⟩
  · exact turns_nil w x y
  · exact turns_some w x y x0 len cap hs
end Go.Proofs.Ytoeeilbpgckhlaa
