/- Arguments opened: rules, states. -/
import Derived.Test.YtoeeilbpgckhlaaRows
import Derived.Test.YtoeeilbpgckhlaaSy22
import Derived.KernelRfl
namespace Go.Proofs.Ytoeeilbpgckhlaa
open Go.RowKit Go.Sy
theorem own : ownKnob Try.prog.godebug = none := by kernel_rfl
theorem laidOut : laidOutB Try.prog = true := by kernel_rfl
set_option maxRecDepth 100000 in
theorem open_t31 {H : Type} {enc : TypeId × Value → H} {W : World} {base b0 : Nat} {held : Bool} {r : Reach} {v : Value} {d : DataW H} {p : List MemPlace} (hval : Value.okWide Try.prog W r b0 31 v) (h : DataW.Trod enc Try.prog W base (fun _ => true) held 31 v d p) :
    ∃ (x0 : ByteArray) (x1 : Int) (x2 : Int) (x3 : Int) (x4 : Bool) (x5 : Int) (x6 : Int) (x7 : Int) (x8 : Int) (x9 : Int) (x10 : Int) (x11 : Int) (x12 : Int) (a13 : Option Addr) (n13 c13 : Nat) (a14 : Option Addr) (n14 c14 : Nat) (a15 : Option Addr) (n15 c15 : Nat), v = .agg #[.string x0, .int .i64 x1, .int .i64 x2, .int .i64 x3, .bool x4, .int .i64 x5, .int .i64 x6, .int .i64 x7, .int .i64 x8, .int .i64 x9, .int .i64 x10, .int .i64 x11, .int .i64 x12, .slice a13 n13 c13, .slice a14 n14 c14, .slice a15 n15 c15] ∧ x0.size ≤ maxLen ∧ (Lit.int .i64 x1).wf = true ∧ (Lit.int .i64 x2).wf = true ∧ (Lit.int .i64 x3).wf = true ∧ (Lit.int .i64 x5).wf = true ∧ (Lit.int .i64 x6).wf = true ∧ (Lit.int .i64 x7).wf = true ∧ (Lit.int .i64 x8).wf = true ∧ (Lit.int .i64 x9).wf = true ∧ (Lit.int .i64 x10).wf = true ∧ (Lit.int .i64 x11).wf = true ∧ (Lit.int .i64 x12).wf = true ∧ SlArg W [.str, .str, .str] a13 n13 c13 ∧ SlArg W [.str, .str, .str] a14 n14 c14 ∧ SlArg W [.str, .str] a15 n15 c15 := by
  obtain ⟨cs, rfl, hsz⟩ := Go.WideShapes.okWide_struct Try.underlying31 hval
  have hs : shapes Try.prog 6 31 = some [.str, .int .i64, .int .i64, .int .i64, .bool, .int .i64, .int .i64, .int .i64, .int .i64, .int .i64, .int .i64, .int .i64, .int .i64, .sl [.str, .str, .str], .sl [.str, .str, .str], .sl [.str, .str]] := by kernel_rfl
  have hc := open_cells (fun _ => rfl) hs h
  obtain ⟨cs⟩ := cs
  simp only [Value.cells] at hc
  obtain ⟨v0, r0, hcs, ⟨d0, w0, k0⟩, h0⟩ := hc.cons
  obtain ⟨x0, rfl, y0⟩ := str_open w0 k0
  obtain ⟨v1, r1, rfl, ⟨d1, w1, k1⟩, h1⟩ := h0.cons
  obtain ⟨x1, rfl, y1⟩ := int_open w1 k1
  obtain ⟨v2, r2, rfl, ⟨d2, w2, k2⟩, h2⟩ := h1.cons
  obtain ⟨x2, rfl, y2⟩ := int_open w2 k2
  obtain ⟨v3, r3, rfl, ⟨d3, w3, k3⟩, h3⟩ := h2.cons
  obtain ⟨x3, rfl, y3⟩ := int_open w3 k3
  obtain ⟨v4, r4, rfl, ⟨d4, w4, k4⟩, h4⟩ := h3.cons
  obtain ⟨x4, rfl⟩ := bool_open w4 k4
  obtain ⟨v5, r5, rfl, ⟨d5, w5, k5⟩, h5⟩ := h4.cons
  obtain ⟨x5, rfl, y5⟩ := int_open w5 k5
  obtain ⟨v6, r6, rfl, ⟨d6, w6, k6⟩, h6⟩ := h5.cons
  obtain ⟨x6, rfl, y6⟩ := int_open w6 k6
  obtain ⟨v7, r7, rfl, ⟨d7, w7, k7⟩, h7⟩ := h6.cons
  obtain ⟨x7, rfl, y7⟩ := int_open w7 k7
  obtain ⟨v8, r8, rfl, ⟨d8, w8, k8⟩, h8⟩ := h7.cons
  obtain ⟨x8, rfl, y8⟩ := int_open w8 k8
  obtain ⟨v9, r9, rfl, ⟨d9, w9, k9⟩, h9⟩ := h8.cons
  obtain ⟨x9, rfl, y9⟩ := int_open w9 k9
  obtain ⟨v10, r10, rfl, ⟨d10, w10, k10⟩, h10⟩ := h9.cons
  obtain ⟨x10, rfl, y10⟩ := int_open w10 k10
  obtain ⟨v11, r11, rfl, ⟨d11, w11, k11⟩, h11⟩ := h10.cons
  obtain ⟨x11, rfl, y11⟩ := int_open w11 k11
  obtain ⟨v12, r12, rfl, ⟨d12, w12, k12⟩, h12⟩ := h11.cons
  obtain ⟨x12, rfl, y12⟩ := int_open w12 k12
  obtain ⟨v13, r13, rfl, ⟨d13, w13, k13⟩, h13⟩ := h12.cons
  obtain ⟨a13, n13, c13, rfl, y13⟩ := sl_open w13 k13
  obtain ⟨v14, r14, rfl, ⟨d14, w14, k14⟩, h14⟩ := h13.cons
  obtain ⟨a14, n14, c14, rfl, y14⟩ := sl_open w14 k14
  obtain ⟨v15, r15, rfl, ⟨d15, w15, k15⟩, h15⟩ := h14.cons
  obtain ⟨a15, n15, c15, rfl, y15⟩ := sl_open w15 k15
  obtain rfl := h15.nil
  subst hcs
  exact ⟨x0, x1, x2, x3, x4, x5, x6, x7, x8, x9, x10, x11, x12, a13, n13, c13, a14, n14, c14, a15, n15, c15, rfl, y0, y1, y2, y3, y5, y6, y7, y8, y9, y10, y11, y12, y13, y14, y15⟩
set_option maxRecDepth 100000 in
theorem open_t33 {H : Type} {enc : TypeId × Value → H} {W : World} {base b0 : Nat} {held : Bool} {r : Reach} {v : Value} {d : DataW H} {p : List MemPlace} (hval : Value.okWide Try.prog W r b0 33 v) (h : DataW.Trod enc Try.prog W base (fun _ => true) held 33 v d p) :
    ∃ (x0 : Int) (x1 : Int) (x2 : Int) (x3 : Int), v = .agg #[.int .i64 x0, .int .i64 x1, .int .i64 x2, .int .i64 x3] ∧ (Lit.int .i64 x0).wf = true ∧ (Lit.int .i64 x1).wf = true ∧ (Lit.int .i64 x2).wf = true ∧ (Lit.int .i64 x3).wf = true := by
  obtain ⟨cs, rfl, hsz⟩ := Go.WideShapes.okWide_struct Try.underlying33 hval
  have hs : shapes Try.prog 6 33 = some [.int .i64, .int .i64, .int .i64, .int .i64] := by kernel_rfl
  have hc := open_cells (fun _ => rfl) hs h
  obtain ⟨cs⟩ := cs
  simp only [Value.cells] at hc
  obtain ⟨v0, r0, hcs, ⟨d0, w0, k0⟩, h0⟩ := hc.cons
  obtain ⟨x0, rfl, y0⟩ := int_open w0 k0
  obtain ⟨v1, r1, rfl, ⟨d1, w1, k1⟩, h1⟩ := h0.cons
  obtain ⟨x1, rfl, y1⟩ := int_open w1 k1
  obtain ⟨v2, r2, rfl, ⟨d2, w2, k2⟩, h2⟩ := h1.cons
  obtain ⟨x2, rfl, y2⟩ := int_open w2 k2
  obtain ⟨v3, r3, rfl, ⟨d3, w3, k3⟩, h3⟩ := h2.cons
  obtain ⟨x3, rfl, y3⟩ := int_open w3 k3
  obtain rfl := h3.nil
  subst hcs
  exact ⟨x0, x1, x2, x3, rfl, y0, y1, y2, y3⟩
end Go.Proofs.Ytoeeilbpgckhlaa
