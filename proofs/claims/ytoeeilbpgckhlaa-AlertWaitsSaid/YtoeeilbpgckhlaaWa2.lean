/- AlertWaits: the loops that look back. -/
import Derived.Test.YtoeeilbpgckhlaaWa1
import Derived.Test.YtoeeilbpgckhlaaBl10
import Derived.KernelRfl
namespace Go.Proofs.Ytoeeilbpgckhlaa
open Go.RowKit Go.Sy
theorem wrap_pred {q : Nat} (h : 0 < q) (hq : q < 1000000) : IntKind.i64.wrap ((q : Int) - 1) = ((q - 1 : Nat) : Int) := by rw [IntKind.wrap_i64]; omega
theorem wrap_small {x : Int} (h : -1000000000 ≤ x) (h' : x ≤ 1000000000) : IntKind.i64.wrap x = x := by rw [IntKind.wrap_i64]; omega
/-- What is seen, and when. -/
structure Seen (n : Nat) (xs : List D) (r cl : Nat → Bool) (on : Nat → Int) (tt : Nat → Int) : Prop where
  c0 : ∀ j, j < n → xs[(0 : Nat) + j * 3 + 0]? = some (D.v (.bool (r j)))
  c1 : ∀ j, j < n → xs[(0 : Nat) + j * 3 + 1]? = some (D.v (.bool (cl j)))
  c2 : ∀ j, j < n → xs[(0 : Nat) + j * 3 + 2]? = some (D.v (.int .u16 (on j)))
  t0 : tt 0 = 0
  ts : ∀ j, j < n → tt (j + 1) = tt j + 1 + on j
  on0 : ∀ j, j < n → 0 ≤ on j ∧ on j ≤ 65535
section
variable {n : Nat} {xs : List D} {r cl : Nat → Bool} {on tt : Nat → Int}
theorem Seen.lt (h : Seen n xs r cl on tt) {a : Nat} : ∀ {m : Nat}, a + m + 1 ≤ n → tt a < tt (a + m + 1)
  | 0, hn => by have := h.ts a (by omega); have := h.on0 a (by omega); simp; omega
  | m + 1, hn => by
    have := h.lt (a := a) (m := m) (by omega)
    have h1 := h.ts (a + m + 1) (by omega)
    have := h.on0 (a + m + 1) (by omega)
    rw [show a + (m + 1) + 1 = a + m + 1 + 1 from by omega, h1]
    omega
theorem Seen.mono (h : Seen n xs r cl on tt) {a b : Nat} (hab : a < b) (hb : b ≤ n) : tt a < tt b := by
  have := h.lt (a := a) (m := b - a - 1) (by omega)
  rwa [show a + (b - a - 1) + 1 = b from by omega] at this
theorem Seen.bound (h : Seen n xs r cl on tt) : ∀ {j : Nat}, j ≤ n → 0 ≤ tt j ∧ tt j ≤ j * 65536
  | 0, _ => by rw [h.t0]; simp
  | j + 1, hj => by
    have := h.bound (j := j) (by omega)
    have h1 := h.ts j (by omega)
    have := h.on0 j (by omega)
    rw [h1]; omega
end
abbrev TsAt (ts : List D) (l : Nat) (tt : Nat → Int) : Prop := ∀ j, j < l → ts[(0 : Nat) + j * 1]? = some (D.v (.int .i64 (tt (j + 1))))
theorem wa1_run {n : Nat} {xs : List D} {r cl : Nat → Bool} {on tt : Nat → Int} (hs : Seen n xs r cl on tt) (hn : n ≤ 100) (w : World) (wt kp f k : Int) (ts : List D) (i : Nat) (p s fd c : Int) (hts : TsAt ts (i + 1) tt) (hi : i < n) (hwt : 0 ≤ wt ∧ wt ≤ 65535)
    (a : Nat) (hs1 : s = tt (a + 1)) (hra : r a = true) (hcl : ∀ j, a < j → j ≤ i → ¬ (cl j = true ∧ r j = false)) (hlong : wt ≤ tt (i + 1) - s)
    (hnext : Run Try.prog (J5 n xs wt kp w (fun v => v = .bool true)).C 5 (J5 n xs wt kp w (fun v => v = .bool true)).R (waAt n xs wt kp f k ts (i + 1) ((i : Int) + 1) (tt (i + 1)) p s fd c)) :
    ∀ (m q : Nat), q = a + m → q ≤ i → Run Try.prog (J5 n xs wt kp w (fun v => v = .bool true)).C 5 (J5 n xs wt kp w (fun v => v = .bool true)).R (wa1At n xs wt kp f k ts (i + 1) (i : Int) (tt (i + 1)) p s fd c (q : Int)) := by
  intro m
  have ww : IntKind.i64.wrap wt = wt := wrap_small (by omega) (by omega)
  have wi : IntKind.i64.wrap ((i : Int) + 1) = (i : Int) + 1 := wrap_small (by omega) (by omega)
  have bi := hs.bound (j := i + 1) (by omega)
  induction m with
  | zero =>
    intro q hq hqi
    have hqa : q = a := by omega
    subst hqa
    subst hs1
    have hn0 : (q : Int) < (n : Int) := by omega
    have hl0 : (q : Int) < (i : Int) + 1 := by omega
    have e0 := hts q (by omega)
    have e1 := hs.c0 q (by omega)
    have bq := hs.bound (j := q + 1) (by omega)
    have wd : IntKind.i64.wrap (tt (i + 1) - tt (q + 1)) = tt (i + 1) - tt (q + 1) := wrap_small (by omega) (by omega)
    have hle : wt ≤ tt (i + 1) - tt (q + 1) := hlong
    simp only [Nat.zero_add, Nat.mul_one, Nat.add_zero] at e0 e1
    refine wa1_body (fun v => v = .bool true) n xs wt kp f k ts (i + 1) i (tt (i + 1)) p _ fd c q w ?_
    rw [wi]
    simp [e0, e1, hra, hn0, hl0, wd, ww, hle]
    exact ⟨fun _ => hnext, fun _ => hnext⟩
  | succ m ih =>
    intro q hq hqi
    have hq0 : 0 < q := by omega
    have hlt := hs.mono (a := a + 1) (b := q + 1) (by omega) (by omega)
    have hn0 : (q : Int) < (n : Int) := by omega
    have hl0 : (q : Int) < (i : Int) + 1 := by omega
    have e0 := hts q (by omega)
    have e1 := hs.c0 q (by omega)
    have e2 := hs.c1 q (by omega)
    have hc := hcl q (by omega) hqi
    have ih' := ih (q - 1) (by omega) (by omega)
    have wq := wrap_pred hq0 (by omega)
    have hne : ¬ tt (q + 1) = s := by omega
    simp only [Nat.zero_add, Nat.mul_one, Nat.add_zero] at e0 e1 e2
    refine wa1_body (fun v => v = .bool true) n xs wt kp f k ts (i + 1) i (tt (i + 1)) p s fd c q w ?_
    rw [wq]
    simp [e0, e1, e2, hn0, hl0, hne, hq0]
    cases hcq : cl q <;> cases hrq : r q
    · simpa using ih'
    · simpa using ih'
    · exact absurd ⟨hcq, hrq⟩ hc
    · simpa using ih'
end Go.Proofs.Ytoeeilbpgckhlaa
