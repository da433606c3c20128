/- Matchers, labels as the document's: to their ends; the laws; a rule as the document's. -/
import Derived.Test.YtoeeilbpgckhlaaBl6
import Derived.KernelRfl
namespace Go.Proofs.Ytoeeilbpgckhlaa
open Go.RowKit Go.Sy
theorem take_more {α : Type} {xs : List α} {n k : Nat} {l : List α} (h : (xs.drop n).take k = l) : (xs.take n).take n ++ l = xs.take (n + k) := by
  subst h
  rw [List.take_take, Nat.min_self, List.take_add]
theorem take3 {xs : List D} {n : Nat} {a b c : D} (h0 : xs[n]? = some a) (h1 : xs[n + 1]? = some b) (h2 : xs[n + 2]? = some c) : (xs.drop n).take 3 = [a, b, c] := by
  have l2 := given_lt h2
  rw [List.getElem?_eq_getElem (by omega)] at h0 h1 h2
  rw [List.drop_eq_getElem_cons (by omega), List.drop_eq_getElem_cons (by omega), List.drop_eq_getElem_cons (by omega)]
  simp_all
theorem take2 {xs : List D} {n : Nat} {a b : D} (h0 : xs[n]? = some a) (h1 : xs[n + 1]? = some b) : (xs.drop n).take 2 = [a, b] := by
  have l2 := given_lt h1
  rw [List.getElem?_eq_getElem (by omega)] at h0 h1
  rw [List.drop_eq_getElem_cons (by omega), List.drop_eq_getElem_cons (by omega)]
  simp_all
theorem of5_run (n : Nat) (xs : List D) (hs : Strs xs) (hl : xs.length = n * 3) (hn : n < 1000000) (w : World) (ρ0 : Ren) (own fz0 : Nat → Prop) : ∀ (m i : Nat), n = i + m →
    Run Try.prog (J65 n xs w ρ0 own fz0).C 65 (J65 n xs w ρ0 own fz0).R (of5At n xs (xs.take (i * 3)) i i)
  | 0, i, hm => by
    refine of5_body n xs _ i i w ρ0 own fz0 ⟨fun h => ?_, fun _ => ⟨⟨rfl, ⟨rfl, ?_⟩, trivial⟩, rfl, by omega, rfl⟩⟩
    · simp at h; omega
    · rw [List.take_of_length_le (by omega)]
  | m + 1, i, hm => by
    have e0 := (hs (i * 3) (by omega)).1
    have e1 := (hs (i * 3 + 1) (by omega)).1
    have e2 := (hs (i * 3 + 2) (by omega)).1
    have hi : (0 : Int) ≤ (i : Int) ∧ (i : Int) < (n : Int) := by omega
    refine of5_body n xs _ i i w ρ0 own fz0 ⟨fun _ => ⟨hi, _, by simpa using e0, hi, _, by simpa using e1, hi, _, by simpa using e2, ⟨by omega, by omega⟩, by simp; omega, ⟨by simp, by simp⟩, ?_⟩, fun h => ?_⟩
    · rw [wrap_nat (by omega), take_more (take3 e0 e1 e2), show i * 3 + 3 = (i + 1) * 3 from by omega]
      exact of5_run n xs hs hl hn w ρ0 own fz0 m (i + 1) (by omega)
    · simp at h; omega
theorem of3_run (n : Nat) (xs : List D) (hs : Strs xs) (hl : xs.length = n * 2) (hn : n < 1000000) (w : World) (ρ0 : Ren) (own fz0 : Nat → Prop) : ∀ (m i : Nat), n = i + m →
    Run Try.prog (J66 n xs w ρ0 own fz0).C 66 (J66 n xs w ρ0 own fz0).R (of3At n xs (xs.take (i * 2)) i i)
  | 0, i, hm => by
    refine of3_body n xs _ i i w ρ0 own fz0 ⟨fun h => ?_, fun _ => ⟨⟨rfl, ⟨rfl, ?_⟩, trivial⟩, rfl, by omega, rfl⟩⟩
    · simp at h; omega
    · rw [List.take_of_length_le (by omega)]
  | m + 1, i, hm => by
    have e0 := (hs (i * 2) (by omega)).1
    have e1 := (hs (i * 2 + 1) (by omega)).1
    have hi : (0 : Int) ≤ (i : Int) ∧ (i : Int) < (n : Int) := by omega
    refine of3_body n xs _ i i w ρ0 own fz0 ⟨fun _ => ⟨hi, _, by simpa using e0, hi, _, by simpa using e1, ⟨by omega, by omega⟩, by simp; omega, ⟨by simp, by simp⟩, ?_⟩, fun h => ?_⟩
    · rw [wrap_nat (by omega), take_more (take2 e0 e1), show i * 2 + 2 = (i + 1) * 2 from by omega]
      exact of3_run n xs hs hl hn w ρ0 own fz0 m (i + 1) (by omega)
    · simp at h; omega
theorem of5_claim (n : Nat) (xs : List D) (hs : Strs xs) (hl : xs.length = n * 3) (hn : n < 1000000) : LawOk Try.prog 65 (slC n xs) (slO n xs 158 3) :=
  claim_run cb65 fun w ρ0 own fz0 => of5_in n xs w ρ0 own fz0 ⟨by simp, by have := of5_run n xs hs hl hn w ρ0 own fz0 n 0 (by omega); simp only [Nat.zero_mul, List.take_zero] at this; exact this⟩
theorem of3_claim (n : Nat) (xs : List D) (hs : Strs xs) (hl : xs.length = n * 2) (hn : n < 1000000) : LawOk Try.prog 66 (slC n xs) (slO n xs 161 2) :=
  claim_run cb66 fun w ρ0 own fz0 => of3_in n xs w ρ0 own fz0 ⟨by simp, by have := of3_run n xs hs hl hn w ρ0 own fz0 n 0 (by omega); simp only [Nat.zero_mul, List.take_zero] at this; exact this⟩
theorem plain_strs {xs : List D} (hs : Strs xs) : ∀ d ∈ xs, ∃ x, d = .v x := fun d hd => by
  obtain ⟨q, hq⟩ := List.mem_iff_getElem?.1 hd
  have := (hs q (given_lt hq)).1
  rw [hq] at this
  exact ⟨_, by simpa using this⟩
theorem plain_of {n : Nat} {xs : List D} {t : TypeId} {es : Nat} {a : Alt} (hs : Strs xs) (ha : a ∈ [slO n xs t es]) : Plains (slC n xs) a := fun k p hp hi => by
  simp at ha; subst ha
  match k with
  | 0 => have := hi (.ice xs) rfl; simp [iceB] at this
  | 1 => simp at hp; subst hp; exact plain_strs hs
  | k + 2 => simp at hp
def of5Law : CLaw Try.prog where
  g := 65
  Q := Nat × List D
  find := seenOf 3
  can := fun q => slC q.1 q.2
  alts := fun q => [slO q.1 q.2 158 3]
  dom := fun q => Strs q.2 ∧ q.2.length = q.1 * 3 ∧ q.1 < 1000000
  plain := fun _ q hd a ha _ => plain_of hd.1 ha
  ex := fun q _ => ⟨_, List.mem_singleton.2 rfl, trivial⟩
  ok := fun q hd a ha _ => by simp at ha; subst ha; exact of5_claim q.1 q.2 hd.1 hd.2.1 hd.2.2
def of3Law : CLaw Try.prog where
  g := 66
  Q := Nat × List D
  find := seenOf 2
  can := fun q => slC q.1 q.2
  alts := fun q => [slO q.1 q.2 161 2]
  dom := fun q => Strs q.2 ∧ q.2.length = q.1 * 2 ∧ q.1 < 1000000
  plain := fun _ q hd a ha _ => plain_of hd.1 ha
  ex := fun q _ => ⟨_, List.mem_singleton.2 rfl, trivial⟩
  ok := fun q hd a ha _ => by simp at ha; subst ha; exact of3_claim q.1 q.2 hd.1 hd.2.1 hd.2.2
theorem cb4 : callable Try.prog 4 = some Try.f4 := by kernel_rfl
end Go.Proofs.Ytoeeilbpgckhlaa
