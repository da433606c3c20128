/- Arguments that are slices of structs, opened to their cells; the sights. -/
import Derived.Test.YtoeeilbpgckhlaaRows
import Derived.Test.YtoeeilbpgckhlaaAl2
import Derived.ProofKit
import Derived.OpenShut
import Derived.ChangeOld
import Derived.Below
import Derived.Deep.Slices
import Derived.Deep.Fields
import Derived.ChangeSame
namespace Go.Proofs.Ytoeeilbpgckhlaa
open Go.ChangeShapes Go.WideShapes Go.Deep Go.RowKit
theorem own : ownKnob Try.prog.godebug = none := by kernel_rfl
theorem laidOut : laidOutB Try.prog = true := by kernel_rfl
section
variable {H : Type} {enc : TypeId × Value → H} {P : Program} {w : World} {base : Nat} {spare : Nat → Bool} {held : Bool}
/-- Every cell of every element. -/
theorem cells_of_slice {t e : TypeId} {fs : Array Field} {fuel : Nat} {cs : List Value} {x : DataW H × List MemPlace} (ht : P.underlying t = some (.slice e)) (he : P.underlying e = some (.struct fs))
    (hone : oneCellFields P fs = true) (hC : P.cellsOf e = fs.size) (h : DataW.trod enc P w base spare held fuel t cs = some x) :
    cs = [.slice none 0 0] ∨
    ∃ (a : Addr) (len cap : Nat), cs = [.slice (some a) len cap] ∧ len ≤ cap ∧ cap ≤ maxLen ∧
      ∀ i, i < len → ∀ (j : Nat) (f : Field), fs[j]? = some f → ∃ (v : Value) (y : DataW H × List MemPlace) (n : Nat), w.cell? ((a.add (i * fs.size)).add j) = some v ∧ DataW.trod enc P w base spare held n f.type [v] = some y := by
  rcases open_slice ht h with h0 | ⟨a, len, cap, m, n, D, Pl, hcs, hb, hl, hm, hmm, hx, hi⟩
  · exact .inl h0.1
  · refine .inr ⟨a, len, cap, hcs, hl, hm, fun i hil j f hj => ?_⟩
    obtain ⟨cs', hc, ht'⟩ := hi i (by rw [hmm]; split <;> omega)
    rw [hC] at hc
    obtain ⟨ys, n', hn', hy, hlen, hyl, hf⟩ := DataW.trod_struct he ht'
    obtain ⟨_, hcl, hat⟩ := World.cells?_some hc
    obtain ⟨ho, hk⟩ := hone_of hone j f hj
    have hjl : j < fs.size := (Array.getElem?_eq_some_iff.1 hj).1
    have hcell := hat j hjl
    have hv : cs'[j]? = some (cs'[j]'(by omega)) := List.getElem?_eq_getElem (by omega)
    have h1 := hf j f hj
    rw [ho, hk] at h1
    have hone' : (cs'.drop j).take 1 = [cs'[j]'(by omega)] := by
      rw [List.drop_eq_getElem_cons (by omega)]
      rfl
    rw [hone'] at h1
    have hys : ys[j]? = some (ys[j]'(by omega)) := List.getElem?_eq_getElem (by omega)
    exact ⟨_, _, _, by rw [hcell, hv], h1.trans hys⟩
end
/-- What a slice of sights holds. -/
def Sights (w : World) (a : Addr) (n : Nat) : Prop :=
  ∀ i, i < n → ∃ (r c : Bool) (g : Int), w.cell? ((a.add (i * 3)).add 0) = some (.bool r) ∧ w.cell? ((a.add (i * 3)).add 1) = some (.bool c) ∧ w.cell? ((a.add (i * 3)).add 2) = some (.int .u16 g) ∧ (Lit.int .u16 g).wf = true
def IsSights (w : World) (a : Option Addr) (len cap : Nat) : Prop :=
  (a = none ∧ len = 0 ∧ cap = 0) ∨ ∃ x, a = some x ∧ len ≤ cap ∧ cap ≤ maxLen ∧ Sights w x len
theorem open_sights {H : Type} {enc : TypeId × Value → H} {w : World} {base : Nat} {spare : Nat → Bool} {held : Bool} {a : Option Addr} {len cap : Nat} {d : DataW H} {p : List MemPlace}
    (h : DataW.Trod enc Try.prog w base spare held 23 (.slice a len cap) d p) : IsSights w a len cap := by
  obtain ⟨fuel, hf⟩ := h
  rcases cells_of_slice Try.underlying23 Try.underlying38 (by kernel_rfl) (by kernel_rfl) hf with hcs | ⟨x, l, c, hcs, hl, hm, hi⟩
  · simp [Value.cells] at hcs
    obtain ⟨rfl, rfl, rfl⟩ := hcs
    exact .inl ⟨rfl, rfl, rfl⟩
  · simp [Value.cells] at hcs
    obtain ⟨rfl, rfl, rfl⟩ := hcs
    refine .inr ⟨x, rfl, hl, hm, fun i hil => ?_⟩
    obtain ⟨v0, y0, n0, hc0, ht0⟩ := hi i hil 0 _ rfl
    obtain ⟨v1, y1, n1, hc1, ht1⟩ := hi i hil 1 _ rfl
    obtain ⟨v2, y2, n2, hc2, ht2⟩ := hi i hil 2 _ rfl
    obtain ⟨b0, e0, _⟩ := DataW.trod_bool Try.underlying4 ht0
    obtain ⟨b1, e1, _⟩ := DataW.trod_bool Try.underlying4 ht1
    obtain ⟨g, e2, _, wg⟩ := DataW.trod_int Try.underlying22 ht2
    simp at e0 e1 e2
    subst e0; subst e1; subst e2
    exact ⟨b0, b1, g, hc0, hc1, hc2, wg⟩
end Go.Proofs.Ytoeeilbpgckhlaa
