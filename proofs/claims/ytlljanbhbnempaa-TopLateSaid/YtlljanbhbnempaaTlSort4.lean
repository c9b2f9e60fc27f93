/- slices.SortFunc at no item. -/
import Derived.Test.YtlljanbhbnempaaTlSort3
namespace Go.Proofs.Ytlljanbhbnempaa
open Go.RowKit
shelf_lay_g SlLaysF0.n6 Slsf 6 at Try 22 as Try.sortInt0
theorem sort0_c (p : Option Addr) (cap : Nat) (fv : Value) (w : World) : Calls Try.prog 22 #[.slice p 0 cap, fv] w fun e w' => e = .returned (.tuple #[]) ∧ w' = w :=
  Go.Proofs.AnyF.slices_SortFunc_none Try.sortInt0 p cap fv w
end Go.Proofs.Ytlljanbhbnempaa
