/- Arguments that are slices, opened. -/
import Derived.Test.YtoeeilbpgckhlaaOpen2
import Derived.KernelRfl
namespace Go.Proofs.Ytoeeilbpgckhlaa
open Go.RowKit Go.Sy
theorem sh23 : shapes Try.prog 6 23 = some [.sl [.bool, .bool, .int .u16]] := by kernel_rfl
theorem open_t23 {H : Type} {enc : TypeId × Value → H} {W : World} {base : Nat} {held : Bool} {a : Option Addr} {n c : Nat} {d : DataW H} {p : List MemPlace} (h : DataW.Trod enc Try.prog W base (fun _ => true) held 23 (.slice a n c) d p) : SlArg W [.bool, .bool, .int .u16] a n c :=
  open_sl (fun _ => rfl) sh23 h
end Go.Proofs.Ytoeeilbpgckhlaa
