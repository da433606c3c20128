/- AlertWaits: the outer loop; of any arguments. -/
import Derived.Test.YtoeeilbpgckhlaaWa3
import Derived.KernelRfl
namespace Go.Proofs.Ytoeeilbpgckhlaa
open Go.RowKit Go.Sy
/-- A state that sights come to. -/
def WaInv (r cl : Nat → Bool) (tt : Nat → Int) (i : Nat) (p s fd c : Int) : Prop :=
  (p = 0 ∧ s = -1 ∧ fd = -1 ∧ c = -1) ∨ (p = 1 ∧ fd = -1 ∧ c = -1 ∧ ∃ a, a < i ∧ s = tt (a + 1) ∧ r a = true ∧ ∀ j, a < j → j < i → ¬ (cl j = true ∧ r j = false)) ∨
    (p = 2 ∧ -1 ≤ fd ∧ fd ≤ tt i ∧ (c = -1 ∨ ∃ d, d < i ∧ c = tt (d + 1) ∧ fd < tt (d + 1) ∧ ∀ j, d ≤ j → j < i → cl j = true))
theorem wa_step {n : Nat} {xs : List D} {r cl : Nat → Bool} {on tt : Nat → Int} (hs : Seen n xs r cl on tt) (hn : n ≤ 100) {i : Nat} (hi : i < n) {f k p s fd c : Int} (hf : 0 ≤ f) (hk : 0 ≤ k) (hI : WaInv r cl tt i p s fd c)
    {x : (Int × Int × Int × Int) × Int} (hx : stepS f k p s fd c (tt (i + 1)) (r i) (cl i) = x) :
    WaInv r cl tt (i + 1) x.1.1 x.1.2.1 x.1.2.2.1 x.1.2.2.2 ∧
    (x.2 = 1 → ∃ a, a ≤ i ∧ x.1.2.1 = tt (a + 1) ∧ r a = true ∧ (∀ j, a < j → j ≤ i → ¬ (cl j = true ∧ r j = false)) ∧ f ≤ tt (i + 1) - x.1.2.1) ∧
    (x.2 = 2 → p = 2 ∧ cl i = true ∧ (k = 0 ∨ ∃ d, d < i ∧ c = tt (d + 1) ∧ -1 ≤ fd ∧ fd < tt (d + 1) ∧ (∀ j, d ≤ j → j ≤ i → cl j = true) ∧ k ≤ tt (i + 1) - c)) := by
  have bi := hs.bound (j := i + 1) (by omega)
  have b0 := hs.bound (j := i) (by omega)
  have hm := hs.mono (a := i) (b := i + 1) (by omega) (by omega)
  rcases hI with ⟨rfl, rfl, rfl, rfl⟩ | ⟨rfl, rfl, rfl, a, ha, rfl, hra, hcl⟩ | ⟨rfl, hf0, hf1, hc⟩
  · unfold stepS at hx
    simp only [if_true] at hx
    split at hx
    · subst hx
      exact ⟨.inl ⟨rfl, rfl, rfl, rfl⟩, fun h => by simp at h, fun h => by simp at h⟩
    · rename_i hr
      have hr : r i = true := by simpa using hr
      split at hx
      · subst hx
        refine ⟨.inr (.inr ⟨rfl, by dsimp only; omega, by dsimp only; omega, .inl rfl⟩), fun _ => ⟨i, Nat.le_refl _, rfl, hr, fun j h1 h2 => by omega, by dsimp only; omega⟩, fun h => by simp at h⟩
      · subst hx
        exact ⟨.inr (.inl ⟨rfl, rfl, rfl, i, by omega, rfl, hr, fun j h1 h2 => by omega⟩), fun h => by simp at h, fun h => by simp at h⟩
  · have ba := hs.bound (j := a + 1) (by omega)
    have wd : IntKind.i64.wrap (tt (i + 1) - tt (a + 1)) = tt (i + 1) - tt (a + 1) := wrap_small (by omega) (by omega)
    unfold stepS at hx
    rw [if_neg (by omega), if_pos rfl, wd] at hx
    split at hx
    · subst hx
      exact ⟨.inl ⟨rfl, rfl, rfl, rfl⟩, fun h => by simp at h, fun h => by simp at h⟩
    · rename_i hnc
      have hall : ∀ j, a < j → j ≤ i → ¬ (cl j = true ∧ r j = false) := fun j h1 h2 => by
        rcases Nat.lt_or_ge j i with h | h
        · exact hcl j h1 h
        · rw [show j = i from by omega]; exact hnc
      split at hx
      · subst hx
        refine ⟨.inr (.inr ⟨rfl, by dsimp only; omega, by dsimp only; omega, .inl rfl⟩), fun _ => ⟨a, by omega, rfl, hra, hall, by dsimp only; omega⟩, fun h => by simp at h⟩
      · subst hx
        exact ⟨.inr (.inl ⟨rfl, rfl, rfl, a, by omega, rfl, hra, fun j h1 h2 => hall j h1 (by omega)⟩), fun h => by simp at h, fun h => by simp at h⟩
  · unfold stepS at hx
    rw [if_neg (by omega), if_neg (by omega)] at hx
    split at hx
    · subst hx
      exact ⟨.inr (.inr ⟨rfl, hf0, by dsimp only; omega, .inl rfl⟩), fun h => by simp at h, fun h => by simp at h⟩
    · rename_i hci
      have hci : cl i = true := by simpa using hci
      rcases hc with rfl | ⟨d, hd, rfl, hfd, hcl⟩
      · rw [if_pos rfl] at hx
        split at hx
        · subst hx
          exact ⟨.inl ⟨rfl, rfl, rfl, rfl⟩, fun h => by simp at h, fun _ => ⟨rfl, hci, .inl (by omega)⟩⟩
        · subst hx
          refine ⟨.inr (.inr ⟨rfl, hf0, by dsimp only; omega, .inr ⟨i, by omega, rfl, by dsimp only; omega, fun j h1 h2 => ?_⟩⟩), fun h => by simp at h, fun h => by simp at h⟩
          rw [show j = i from by omega]; exact hci
      · have bd := hs.bound (j := d + 1) (by omega)
        have hd0 := hs.mono (a := 0) (b := d + 1) (by omega) (by omega)
        rw [hs.t0] at hd0
        have wd : IntKind.i64.wrap (tt (i + 1) - tt (d + 1)) = tt (i + 1) - tt (d + 1) := wrap_small (by omega) (by omega)
        rw [if_neg (by omega), wd] at hx
        have hall : ∀ j, d ≤ j → j ≤ i → cl j = true := fun j h1 h2 => by
          rcases Nat.lt_or_ge j i with h | h
          · exact hcl j h1 h
          · rw [show j = i from by omega]; exact hci
        split at hx
        · subst hx
          exact ⟨.inl ⟨rfl, rfl, rfl, rfl⟩, fun h => by simp at h, fun _ => ⟨rfl, hci, .inr ⟨d, hd, rfl, hf0, hfd, hall, by omega⟩⟩⟩
        · subst hx
          exact ⟨.inr (.inr ⟨rfl, hf0, by dsimp only; omega, .inr ⟨d, by omega, rfl, hfd, fun j h1 h2 => hall j h1 (by omega)⟩⟩), fun h => by simp at h, fun h => by simp at h⟩
def tsL (tt : Nat → Int) (i : Nat) : List D := (List.range i).map fun j => D.v (.int .i64 (tt (j + 1)))
theorem tsL_more (tt : Nat → Int) (i : Nat) : List.take (i * 1) (tsL tt i) ++ [D.v (.int .i64 (tt (i + 1)))] = tsL tt (i + 1) := by
  unfold tsL
  rw [List.take_of_length_le (by simp), List.range_succ]
  simp
theorem tsL_at (tt : Nat → Int) (i : Nat) : TsAt (tsL tt i) i tt := fun j hj => by
  simp [tsL, hj]
theorem wa_run {n : Nat} {xs : List D} {r cl : Nat → Bool} {on tt : Nat → Int} (hs : Seen n xs r cl on tt) (hn : n ≤ 100) (w : World) (wt kp : Int) (hwt : 0 ≤ wt ∧ wt ≤ 65535) (hkp : 0 ≤ kp ∧ kp ≤ 65535) :
    ∀ (m i : Nat) (p s fd c : Int), n = i + m → WaInv r cl tt i p s fd c →
    Run Try.prog (J5 n xs wt kp w (fun v => v = .bool true)).C 5 (J5 n xs wt kp w (fun v => v = .bool true)).R (waAt n xs wt kp wt kp (tsL tt i) i (i : Int) (tt i) p s fd c)
  | 0, i, p, s, fd, c, hm, hI => by
    refine wa_body (fun v => v = .bool true) n xs wt kp wt kp (tsL tt i) i i (tt i) p s fd c w ⟨fun h => ?_, fun _ => rfl⟩
    simp at h; omega
  | m + 1, i, p, s, fd, c, hm, hI => by
    have hi : i < n := by omega
    have e0 := hs.c0 i hi
    have e1 := hs.c1 i hi
    have e2 := hs.c2 i hi
    have hni : (0 : Int) ≤ (i : Int) ∧ (i : Int) < (n : Int) := by omega
    have bi := hs.bound (j := i) (by omega)
    have on0 := hs.on0 i hi
    have hT : IntKind.i64.wrap (IntKind.i64.wrap (tt i + 1) + IntKind.i64.wrap (on i)) = tt (i + 1) := by
      rw [wrap_small (x := tt i + 1) (by omega) (by omega), wrap_small (x := on i) (by omega) (by omega), wrap_small (by omega) (by omega), hs.ts i hi]
    have wi : IntKind.i64.wrap ((i : Int) + 1) = ((i : Int) + 1) := wrap_small (by omega) (by omega)
    have hlen : i * 1 ≤ (tsL tt i).length := by simp [tsL]
    have hmem : i + 1 ≤ 9223372036854775807 ∧ (i + 1) * 8 ≤ 140737488355328 := by omega
    refine wa_body (fun v => v = .bool true) n xs wt kp wt kp (tsL tt i) i i (tt i) p s fd c w ⟨fun _ => ⟨hni, _, e2, hmem, hlen, hni, _, e0, hni, _, e1, trivial, ?_⟩, fun h => ?_⟩
    · rw [hT, tsL_more, wi]
      generalize hx : stepS wt kp p s fd c (tt (i + 1)) (r i) (cl i) = x
      obtain ⟨hI', h1, h2⟩ := wa_step hs hn hi hwt.1 hkp.1 hI hx
      obtain ⟨⟨p', s', fd', c'⟩, ev⟩ := x
      have next := wa_run hs hn w wt kp hwt hkp m (i + 1) p' s' fd' c' (by omega) hI'
      rw [show ((i + 1 : Nat) : Int) = (i : Int) + 1 from by omega] at next
      dsimp only at *
      refine ⟨by simp, by simp, fun _ => ⟨fun hev => ⟨by simp, ?_⟩, fun hev => ⟨fun hev2 => ⟨by simp, ?_⟩, fun hev2 => ⟨by simp, next⟩⟩⟩, trivial⟩
      · obtain ⟨a, ha, hs1, hra, hcl, hlong⟩ := h1 (by simpa using hev)
        exact wa1_run hs hn w wt kp wt kp (tsL tt (i + 1)) i p' s' fd' c' (tsL_at tt _) hi hwt a hs1 hra hcl hlong next (i - a) i (by omega) (Nat.le_refl _)
      · obtain ⟨rfl, hci, hk⟩ := h2 (by simpa using hev2)
        rcases hk with hk | ⟨d, hd, hc0, hf0, hf1, hcl, hlong⟩
        · exact wa2_runB hs hn w wt kp wt kp (tsL tt (i + 1)) i p' s' fd' c' s fd c (tsL_at tt _) hi hk hci next i (Nat.le_refl _)
        · exact wa2_runA hs hn w wt kp wt kp (tsL tt (i + 1)) i p' s' fd' c' s fd c (tsL_at tt _) hi hkp d hd hc0 ⟨hf0, hf1⟩ hcl hlong next (i - d) i (by omega) (Nat.le_refl _)
    · simp at h; omega
end Go.Proofs.Ytoeeilbpgckhlaa
