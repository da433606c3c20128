/- AlertAny: of any arguments. -/
import Derived.Test.YtoeeilbpgckhlaaBl9
import Derived.KernelRfl
namespace Go.Proofs.Ytoeeilbpgckhlaa
open Go.RowKit Go.Sy
theorem any_step {f k p s fi c t : Int} {ra cl : Bool} (h : checkS p s fi c = 0) : rstepS f k p s fi c t ra cl = stepS f k p s fi c t ra cl := by
  unfold checkS at h
  split at h
  · subst_vars
    unfold stepS rstepS
    cases ra <;> cases cl <;> simp
  · split at h
    · subst_vars
      unfold stepS rstepS
      cases ra <;> cases cl <;> simp
    · split at h
      · split at h
        · rename_i h0 h1 h2 h3
          subst h2
          have hc : (c < 0) ↔ c = -1 := by omega
          unfold stepS rstepS
          cases cl <;> simp [hc]
        · cases h
      · cases h
theorem few5_le {n : Nat} {xs : List D} (h : few5B n xs = true) : n < 1000000 := by
  unfold few5B at h
  split at h
  · omega
  · cases h
theorem few3_le {n : Nat} {xs : List D} (h : (!few3B n xs) = false) : n < 1000000 := by
  unfold few3B at h
  split at h
  · omega
  · simp at h
theorem any_calls (w : World) (s0 : ByteArray) (i1 i2 i3 : Int) (b4 : Bool) (i5 i6 i7 i8 i9 i10 i11 i12 : Int) (a1 a2 a3 : Option Addr) (n1 c1 n2 c2 n3 c3 : Nat) (p s f c : Int) (ra cl : Bool) (t : Int)
    (h1 : SlArg w [.str, .str, .str] a1 n1 c1) (h2 : SlArg w [.str, .str, .str] a2 n2 c2) (h3 : SlArg w [.str, .str] a3 n3 c3) :
    Calls Try.prog 4 #[.agg #[.string s0, .int .i64 i1, .int .i64 i2, .int .i64 i3, .bool b4, .int .i64 i5, .int .i64 i6, .int .i64 i7, .int .i64 i8, .int .i64 i9, .int .i64 i10, .int .i64 i11, .int .i64 i12, .slice a1 n1 c1, .slice a2 n2 c2, .slice a3 n3 c3], st p s f c, .bool ra, .bool cl, .int .i64 t] w
      fun e w' => ∃ v, e = .returned v ∧ v = .bool true ∧ Below w.heap.size w w' := by
  obtain ⟨bl1, xs1, rfl, k1, k2, k3, k4, _, k5⟩ := h1
  obtain ⟨bl2, xs2, rfl, l1, l2, l3, l4, _, l5⟩ := h2
  obtain ⟨bl3, xs3, rfl, m1, m2, m3, m4, _, m5⟩ := h3
  refine ext_calls (A := fun v => v = .bool true) cb4 [knownLaw.law, stepvLaw.law, rstepvLaw.law, ofLaw.law, checkLaw.law, rcheckLaw.law, few5Law.law, few3Law.law, ruleLaw.law] false [] [(bl1, xs1), (bl2, xs2), (bl3, xs3)]
    [RuleQ.cells ⟨s0, i1, i2, i3, b4, i5, i6, i7, i8, i9, i10, i11, i12, n1, n2, n3, xs1, xs2, xs3⟩ 0, stSV p s f c, .c (.v (.bool ra)), .c (.v (.bool cl)), .c (.v (.int .i64 t))] (by simp [k3, l3, m3]) rfl
    ⟨⟨_, rfl, rfl, rfl, rfl, rfl, rfl, rfl, rfl, rfl, rfl, rfl, rfl, rfl, rfl, SlArg.R rfl k1 k2, SlArg.R rfl l1 l2, SlArg.R rfl m1 m2, trivial⟩, ⟨_, rfl, rfl, rfl, rfl, rfl, trivial⟩, rfl, rfl, rfl, trivial⟩ ?_
  have s1 : Strs xs1 := strs_of (k := 2) rfl (fun j hj => by match j, hj with | 0, _ => rfl | 1, _ => rfl | 2, _ => rfl) k5
  have s2 : Strs xs2 := strs_of (k := 2) rfl (fun j hj => by match j, hj with | 0, _ => rfl | 1, _ => rfl | 2, _ => rfl) l5
  have s3 : Strs xs3 := strs_of (k := 1) rfl (fun j hj => by match j, hj with | 0, _ => rfl | 1, _ => rfl) m5
  have k4 : xs1.length = n1 * 3 := k4
  have l4 : xs2.length = n2 * 3 := l4
  have m4 : xs3.length = n3 * 2 := m4
  refine any_in (fun v => v = .bool true) s0 i1 i2 i3 b4 i5 i6 i7 i8 i9 i10 i11 i12 n1 n2 n3 xs1 xs2 xs3 p s f c ra cl t w ?_
  clear k1 k2 k3 k5 l1 l2 l3 l5 m1 m2 m3 m5
  repeat' (first | assumption | apply And.intro | intro _)
  all_goals first
    | trivial
    | rfl
    | assumption
    | (exact few5_le (by assumption))
    | (exact few3_le (by assumption))
    | (exfalso; simp at *; done)
    | skip
  all_goals (have hc : checkS p s f c = 0 := by simp at *; assumption)
  all_goals simp [any_step hc] at *
end Go.Proofs.Ytoeeilbpgckhlaa
