/- AlertWaits: the loop that looks back to where it was clear. -/
import Derived.Test.YtoeeilbpgckhlaaWa2
import Derived.KernelRfl
namespace Go.Proofs.Ytoeeilbpgckhlaa
open Go.RowKit Go.Sy
theorem wa2_runA {n : Nat} {xs : List D} {r cl : Nat → Bool} {on tt : Nat → Int} (hs : Seen n xs r cl on tt) (hn : n ≤ 100) (w : World) (wt kp f k : Int) (ts : List D) (i : Nat) (p s fd c s0 f0 c0 : Int) (hts : TsAt ts (i + 1) tt) (hi : i < n) (hkp : 0 ≤ kp ∧ kp ≤ 65535)
    (d : Nat) (hd : d < i) (hc0 : c0 = tt (d + 1)) (hf0 : -1 ≤ f0 ∧ f0 < tt (d + 1)) (hcl : ∀ j, d ≤ j → j ≤ i → cl j = true) (hlong : kp ≤ tt (i + 1) - c0)
    (hnext : Run Try.prog (J5 n xs wt kp w (fun v => v = .bool true)).C 5 (J5 n xs wt kp w (fun v => v = .bool true)).R (waAt n xs wt kp f k ts (i + 1) ((i : Int) + 1) (tt (i + 1)) p s fd c)) :
    ∀ (m q : Nat), q = d + m → q ≤ i → Run Try.prog (J5 n xs wt kp w (fun v => v = .bool true)).C 5 (J5 n xs wt kp w (fun v => v = .bool true)).R (wa2At n xs wt kp f k ts (i + 1) (i : Int) (tt (i + 1)) p s fd c 2 s0 f0 c0 (q : Int)) := by
  intro m
  have ww : IntKind.i64.wrap kp = kp := wrap_small (by omega) (by omega)
  have wi : IntKind.i64.wrap ((i : Int) + 1) = (i : Int) + 1 := wrap_small (by omega) (by omega)
  have bi := hs.bound (j := i + 1) (by omega)
  have bd := hs.bound (j := d + 1) (by omega)
  have wf : IntKind.i64.wrap (f0 + 1) = f0 + 1 := wrap_small (by omega) (by omega)
  have ci := hcl i (by omega) (Nat.le_refl _)
  have e3 := hs.c1 i hi
  have hni : (i : Int) < (n : Int) := by omega
  induction m with
  | zero =>
    intro q hq hqi
    have hqd : q = d := by omega
    subst hqd
    subst hc0
    have hl0 : (q : Int) < (i : Int) + 1 := by omega
    have e0 := hts q (by omega)
    have bq := hs.bound (j := q + 1) (by omega)
    have wd : IntKind.i64.wrap (tt (i + 1) - tt (q + 1)) = tt (i + 1) - tt (q + 1) := wrap_small (by omega) (by omega)
    simp only [Nat.zero_add, Nat.mul_one] at e0 e3
    refine wa2_body (fun v => v = .bool true) n xs wt kp f k ts (i + 1) i (tt (i + 1)) p s fd c 2 s0 f0 (tt (q + 1)) q w ?_
    rw [wi]
    by_cases hq0 : 0 < q
    · have wq := wrap_pred hq0 (by omega)
      have hp : q - 1 < n := by omega
      have hp1 : q - 1 < i + 1 := by omega
      have e1 := hs.c1 (q - 1) (by omega)
      have e2 := hts (q - 1) (by omega)
      have hp2 : ((q - 1 : Nat) : Int) < (n : Int) := by omega
      have hp3 : ((q - 1 : Nat) : Int) < (i : Int) + 1 := by omega
      simp only [Nat.zero_add, Nat.mul_one] at e1 e2
      rw [wq]
      have hq1 : decide ((q : Int) > 0) = true := by simp; omega
      simp only [hq1]
      simp [e0, e1, e2, e3, ci, hni, hl0, hp2, hp3, wd, ww, hlong]
      exact ⟨fun _ => ⟨fun _ => hnext, fun _ => hnext⟩, fun _ => hnext⟩
    · have hq1 : decide ((q : Int) > 0) = false := by simp; omega
      simp only [hq1]
      simp [e0, e3, ci, hni, hl0, wd, ww, hlong]
      exact hnext
  | succ m ih =>
    intro q hq hqi
    have hq0 : 0 < q := by omega
    have hlt := hs.mono (a := d + 1) (b := q + 1) (by omega) (by omega)
    have hle : tt (d + 1) ≤ tt q := by
      rcases Nat.lt_or_ge (d + 1) q with h | h
      · exact Int.le_of_lt (hs.mono h (by omega))
      · have : d + 1 = q := by omega
        rw [this]; exact Int.le_refl _
    have hl0 : (q : Int) < (i : Int) + 1 := by omega
    have e0 := hts q (by omega)
    have e1 := hs.c1 (q - 1) (by omega)
    have e2 := hts (q - 1) (by omega)
    have c1 := hcl (q - 1) (by omega) (by omega)
    have ih' := ih (q - 1) (by omega) (by omega)
    have wq := wrap_pred hq0 (by omega)
    have hp2 : ((q - 1 : Nat) : Int) < (n : Int) := by omega
    have hp3 : ((q - 1 : Nat) : Int) < (i : Int) + 1 := by omega
    rw [show q - 1 + 1 = q from by omega] at e2
    simp only [Nat.zero_add, Nat.mul_one] at e0 e1 e2
    have g1 : f0 + 1 ≤ tt q := by omega
    have g2 : c0 < tt (q + 1) := by omega
    refine wa2_body (fun v => v = .bool true) n xs wt kp f k ts (i + 1) i (tt (i + 1)) p s fd c 2 s0 f0 c0 q w ?_
    rw [wq]
    have hq1 : decide ((q : Int) > 0) = true := by simp; omega
    simp only [hq1]
    simp [e0, e1, e2, c1, hl0, hp2, hp3, wf, g1, g2]
    exact ⟨⟨ih', fun h => absurd h (by omega)⟩, fun h => absurd h (by omega)⟩
theorem wa2_runB {n : Nat} {xs : List D} {r cl : Nat → Bool} {on tt : Nat → Int} (hs : Seen n xs r cl on tt) (hn : n ≤ 100) (w : World) (wt kp f k : Int) (ts : List D) (i : Nat) (p s fd c s0 f0 c0 : Int) (hts : TsAt ts (i + 1) tt) (hi : i < n) (hkp : kp = 0) (ci : cl i = true)
    (hnext : Run Try.prog (J5 n xs wt kp w (fun v => v = .bool true)).C 5 (J5 n xs wt kp w (fun v => v = .bool true)).R (waAt n xs wt kp f k ts (i + 1) ((i : Int) + 1) (tt (i + 1)) p s fd c)) :
    ∀ (q : Nat), q ≤ i → Run Try.prog (J5 n xs wt kp w (fun v => v = .bool true)).C 5 (J5 n xs wt kp w (fun v => v = .bool true)).R (wa2At n xs wt kp f k ts (i + 1) (i : Int) (tt (i + 1)) p s fd c 2 s0 f0 c0 (q : Int)) := by
  intro q
  have ww : IntKind.i64.wrap kp = 0 := by rw [hkp]; rfl
  have wi : IntKind.i64.wrap ((i : Int) + 1) = (i : Int) + 1 := wrap_small (by omega) (by omega)
  have bi := hs.bound (j := i + 1) (by omega)
  have e3 := hs.c1 i hi
  have hni : (i : Int) < (n : Int) := by omega
  simp only [Nat.zero_add] at e3
  have le : ∀ q, q ≤ i → 0 ≤ tt (i + 1) - tt (q + 1) ∧ IntKind.i64.wrap (tt (i + 1) - tt (q + 1)) = tt (i + 1) - tt (q + 1) := fun q hq => by
    have bq := hs.bound (j := q + 1) (by omega)
    refine ⟨?_, wrap_small (by omega) (by omega)⟩
    rcases Nat.lt_or_ge q i with h | h
    · have := hs.mono (a := q + 1) (b := i + 1) (by omega) (by omega); omega
    · rw [show q = i from by omega]; omega
  induction q with
  | zero =>
    intro hqi
    have hl0 : (0 : Int) < (i : Int) + 1 := by omega
    have e0 := hts 0 (by omega)
    obtain ⟨h0, wd⟩ := le 0 (by omega)
    simp only [Nat.zero_add, Nat.mul_one, Nat.add_zero] at e0 h0 wd
    refine wa2_body (fun v => v = .bool true) n xs wt kp f k ts (i + 1) i (tt (i + 1)) p s fd c 2 s0 f0 c0 0 w ?_
    rw [wi]
    have h0 : tt 1 ≤ tt (i + 1) := by omega
    simp [e0, e3, ci, hni, hl0, wd, ww, h0]
    exact hnext
  | succ q ih =>
    intro hqi
    have hl0 : ((q + 1 : Nat) : Int) < (i : Int) + 1 := by omega
    have e0 := hts (q + 1) (by omega)
    have e1 := hs.c1 q (by omega)
    have e2 := hts q (by omega)
    have ih' := ih (by omega)
    have wq := wrap_pred (q := q + 1) (by omega) (by omega)
    rw [show q + 1 - 1 = q from by omega] at wq
    have hp2 : (q : Int) < (n : Int) := by omega
    have hp3 : (q : Int) < (i : Int) + 1 := by omega
    obtain ⟨h0, wd⟩ := le (q + 1) hqi
    have h0 : tt (q + 1 + 1) ≤ tt (i + 1) := by omega
    simp only [Nat.zero_add, Nat.mul_one] at e0 e1 e2
    refine wa2_body (fun v => v = .bool true) n xs wt kp f k ts (i + 1) i (tt (i + 1)) p s fd c 2 s0 f0 c0 (q + 1) w ?_
    rw [wq, wi]
    have hq1 : decide (((q + 1 : Nat) : Int) > 0) = true := decide_eq_true (by omega)
    have h00 : (0 : Int) ≤ (q : Int) + 1 := by omega
    simp only [hq1]
    have hl1 : (q : Int) + 1 < (i : Int) + 1 := by omega
    simp [e0, e1, e2, e3, ci, hni, hl1, hp2, hp3, wd, ww, h0, h00]
    exact ⟨fun _ => ⟨fun _ => ⟨fun _ => ih', fun _ => hnext⟩, fun _ => hnext⟩, fun _ => hnext⟩
end Go.Proofs.Ytoeeilbpgckhlaa
