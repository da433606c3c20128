/- AlertWaits: of any arguments. -/
import Derived.Test.YtoeeilbpgckhlaaWa4
import Derived.KernelRfl
namespace Go.Proofs.Ytoeeilbpgckhlaa
open Go.RowKit Go.Sy
def boolAt (xs : List D) (j : Nat) : Bool := match xs[j]? with | some (.v (.bool b)) => b | _ => false
def intAt (xs : List D) (j : Nat) : Int := match xs[j]? with | some (.v (.int _ n)) => n | _ => 0
def ttOf (xs : List D) : Nat → Int
  | 0 => 0
  | j + 1 => ttOf xs j + 1 + intAt xs (j * 3 + 2)
theorem seen_of {n : Nat} {xs : List D} (hl : xs.length = n * 3) (h : ∀ (q : Nat) (e : Sh) (d : D), [Sh.bool, Sh.bool, Sh.int .u16][q % 3]? = some e → xs[q]? = some d → WfD e d) :
    Seen n xs (fun j => boolAt xs (j * 3)) (fun j => boolAt xs (j * 3 + 1)) (fun j => intAt xs (j * 3 + 2)) (ttOf xs) := by
  have g0 : ∀ j, j < n → ∃ b, xs[j * 3]? = some (D.v (.bool b)) := fun j hj => by
    obtain ⟨b, hb⟩ := (h (j * 3) .bool xs[j * 3] (by rw [Nat.mul_mod_left]; rfl) (List.getElem?_eq_getElem (by omega))).bool_inv
    exact ⟨b, by rw [List.getElem?_eq_getElem (by omega), hb]⟩
  have g1 : ∀ j, j < n → ∃ b, xs[j * 3 + 1]? = some (D.v (.bool b)) := fun j hj => by
    obtain ⟨b, hb⟩ := (h (j * 3 + 1) .bool xs[j * 3 + 1] (by rw [show (j * 3 + 1) % 3 = 1 from by omega]; rfl) (List.getElem?_eq_getElem (by omega))).bool_inv
    exact ⟨b, by rw [List.getElem?_eq_getElem (by omega), hb]⟩
  have g2 : ∀ j, j < n → ∃ m, xs[j * 3 + 2]? = some (D.v (.int .u16 m)) ∧ (Lit.int .u16 m).wf = true := fun j hj => by
    obtain ⟨m, hm, hw⟩ := (h (j * 3 + 2) (.int .u16) xs[j * 3 + 2] (by rw [show (j * 3 + 2) % 3 = 2 from by omega]; rfl) (List.getElem?_eq_getElem (by omega))).int_inv
    exact ⟨m, by rw [List.getElem?_eq_getElem (by omega), hm], hw⟩
  refine ⟨fun j hj => ?_, fun j hj => ?_, fun j hj => ?_, rfl, fun j _ => rfl, fun j hj => ?_⟩
  · obtain ⟨b, hb⟩ := g0 j hj; simp [boolAt, hb]
  · obtain ⟨b, hb⟩ := g1 j hj; simp [boolAt, hb]
  · obtain ⟨m, hm, _⟩ := g2 j hj; simp [intAt, hm]
  · obtain ⟨m, hm, hw⟩ := g2 j hj
    have := bounds_u16 hw
    simp [intAt, hm]; omega
theorem waits_calls (w : World) (wt kp : Int) (a : Option Addr) (n cap : Nat) (hwt : (Lit.int .u16 wt).wf = true) (hkp : (Lit.int .u16 kp).wf = true) (h : SlArg w [.bool, .bool, .int .u16] a n cap) :
    Calls Try.prog 5 #[.int .u16 wt, .int .u16 kp, .slice a n cap] w fun e w' => ∃ v, e = .returned v ∧ v = .bool true ∧ Below w.heap.size w w' := by
  obtain ⟨bl, xs, rfl, k1, k2, k3, k4, _, k5⟩ := h
  have hs := seen_of k4 k5
  have b1 : 0 ≤ wt ∧ wt ≤ 65535 := bounds_u16 hwt
  have b2 : 0 ≤ kp ∧ kp ≤ 65535 := bounds_u16 hkp
  refine ext_calls (A := fun v => v = .bool true) cb5 [knownLaw.law, newLaw.law, stepvLaw.law] false [waCut n xs wt kp, waCut1 n xs wt kp, waCut2 n xs wt kp] [(bl, xs)] [vU wt, vU kp, .c (.s 0 0 n (.hid 0))] (by simp [k3]) rfl ⟨rfl, rfl, SlArg.R rfl k1 k2, trivial⟩ ?_
  refine wa_in (fun v => v = .bool true) n xs wt kp w ⟨trivial, fun _ => rfl, fun hn => ⟨trivial, by simp, ?_⟩⟩
  have hn : n ≤ 100 := by simp at hn; omega
  rw [wrap_small (x := wt) (by omega) (by omega), wrap_small (x := kp) (by omega) (by omega)]
  exact wa_run hs hn w wt kp b1 b2 n 0 0 (-1) (-1) (-1) (by omega) (.inl ⟨rfl, rfl, rfl, rfl⟩)
end Go.Proofs.Ytoeeilbpgckhlaa
