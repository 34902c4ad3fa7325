/-
  The entry of nothing but zeros.
-/
import Derived.Test.YtpgeiopknjfdmaaEntGoodAll
namespace Go.Proofs.Ytpgeiopknjfdmaa
open Go.RowKit
def Ent.zero : Ent := ⟨0, 0, 0, 0, 0, 0, 0, 0, false, ⟨#[]⟩, false, ⟨#[]⟩, 0⟩
end Go.Proofs.Ytpgeiopknjfdmaa
