/- AlertPlays: the loop, to its end: what a step answers is what the reference's step answers. -/
import Derived.Test.YtoeeilbpgckhlaaAl5
import Derived.Test.YtoeeilbpgckhlaaOpen
namespace Go.Proofs.Ytoeeilbpgckhlaa
open Go.RowKit Go.Sx
/-- A state that a play comes to by the time t. -/
def Good (p s fi c t : Int) : Prop :=
  (p = 0 ∧ s = -1 ∧ fi = -1 ∧ c = -1) ∨ (p = 1 ∧ 0 ≤ s ∧ s ≤ t ∧ fi = -1 ∧ c = -1) ∨ (p = 2 ∧ 0 ≤ s ∧ s ≤ fi ∧ fi ≤ t ∧ -1 ≤ c ∧ c ≤ t)
theorem good_step {f k p s fd c t t' : Int} {ra cl : Bool} {x : (Int × Int × Int × Int) × Int} (hx : stepS f k p s fd c t' ra cl = x) (hg : Good p s fd c t) (h0 : 0 ≤ t) (ht : t < t') :
    rstepS f k p s fd c t' ra cl = x ∧ Good x.1.1 x.1.2.1 x.1.2.2.1 x.1.2.2.2 t' ∧ checkS x.1.1 x.1.2.1 x.1.2.2.1 x.1.2.2.2 = 0 := by
  subst hx
  unfold Good at *
  rcases hg with ⟨rfl, rfl, rfl, rfl⟩ | ⟨rfl, h1, h2, rfl, rfl⟩ | ⟨rfl, h1, h2, h3, h4, h5⟩
  · unfold stepS rstepS checkS
    cases ra <;> cases cl <;> simp <;> split <;> simp <;> omega
  · unfold stepS rstepS checkS
    cases ra <;> cases cl <;> simp <;> (try split) <;> simp <;> omega
  · have hc : (c < 0) ↔ c = -1 := by omega
    unfold stepS rstepS checkS
    simp only [hc]
    cases cl <;> simp
    · omega
    · (repeat' split) <;> simp_all <;> omega
theorem plays_run (A : Value → Prop) (hA : A (.bool true)) (w : World) (a : Addr) (n cp : Nat) (hn : n < 1000) (hs : Sights w a n) (f k : Int) : ∀ (m i : Nat) (t p s fd c : Int), n - i = m → i ≤ n → 0 ≤ t → t ≤ i * 65536 → Good p s fd c t →
    Run (J3 w A) (plays a n cp f k i t p s fd c p s fd c) := by
  intro m
  induction m with
  | zero =>
    intro i t p s fd c hm hin h0 ht hg
    refine plays_body A w a n cp f k i t p s fd c p s fd c ⟨fun hlt => ?_, fun _ _ => hA⟩
    simp only [decide_eq_true_eq] at hlt
    omega
  | succ m ih =>
    intro i t p s fd c hm hin h0 ht hg
    refine plays_body A w a n cp f k i t p s fd c p s fd c ⟨fun hlt => ?_, fun _ _ => hA⟩
    simp only [decide_eq_true_eq] at hlt
    have hi : i < n := by omega
    obtain ⟨r, cl, g, e0, e1, e2, wg⟩ := hs i hi
    have hb : decide (0 ≤ (i : Int) ∧ (i : Int) < (n : Int)) = true := by simp; omega
    refine Ck.mk hb ⟨a, rfl, ext0, g, e2, Ck.mk hb ⟨a, rfl, ext0, r, e0, Ck.mk hb ⟨a, rfl, ext0, cl, e1, trivial, ?_⟩⟩⟩
    refine ⟨rfl, Ck.mk hb ⟨a, rfl, ext0, r, e0, Ck.mk hb ⟨a, rfl, ext0, cl, e1, trivial, ?_⟩⟩⟩
    have hgb : 0 ≤ g ∧ g ≤ 65535 := bounds_u16 wg
    have ht' : IntKind.i64.wrap (IntKind.i64.wrap (t + 1) + IntKind.i64.wrap g) = t + 1 + g := by
      simp only [IntKind.wrap_i64]
      omega
    generalize hT : IntKind.i64.wrap (IntKind.i64.wrap (t + 1) + IntKind.i64.wrap g) = t'
    rw [hT] at ht'
    generalize hx : stepS f k p s fd c t' r cl = x
    obtain ⟨i1, i2, i3⟩ := good_step hx hg h0 (by omega)
    rw [i1]
    obtain ⟨⟨p', s', fd', c'⟩, ev⟩ := x
    have ih' := ih (i + 1) t' p' s' fd' c' (by omega) (by omega) (by omega) (by omega) i2
    have hw := wrap_nat (i := i) (by omega)
    dsimp only at *
    repeat' (first | exact ih' | apply And.intro | intro _)
    all_goals first | rfl | trivial | (rw [hw]; done) | (simp_all; done)
theorem plays_calls (w : World) (x y : Int) (a : Option Addr) (len cap : Nat) (h : IsSights w a len cap) : Calls Try.prog 3 #[.int .u16 x, .int .u16 y, .slice a len cap] w fun e w' => ∃ v, e = .returned v ∧ v = .bool true ∧ Below w.heap.size w w' := by
  rcases h with ⟨rfl, rfl, rfl⟩ | ⟨x0, rfl, _, _, hs⟩
  · refine plays_nil_in (fun v => v = .bool true) w x y ?_
    simp
  · refine plays_in (fun v => v = .bool true) w x y x0 len cap ⟨trivial, fun h => (by simp at h), fun _ => ⟨fun _ _ => rfl, fun hle => ⟨trivial, trivial, ?_, ?_⟩⟩⟩
    · simp
    · simp only [decide_eq_false_iff_not] at hle
      exact plays_run (fun v => v = .bool true) rfl w x0 len cap (by omega) hs _ _ len 0 0 _ _ _ _ rfl (Nat.zero_le _) (Int.le_refl _) (by simp) (.inl ⟨rfl, rfl, rfl, rfl⟩)
end Go.Proofs.Ytoeeilbpgckhlaa
