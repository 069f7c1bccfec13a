/- No function is shown by hand. -/
import Derived.Test.YtolfpchcmiljpaaP
namespace Go.Proofs.Ytolfpchcmiljpaa
open Go Go.RowKit

instance noPrim : Prim Try.prog := ⟨fun _ _ _ => none, fun _ _ _ _ _ h => by simp at h, fun _ g _ _ _ _ h => by cases g <;> simp [baseC] at h⟩
end Go.Proofs.Ytolfpchcmiljpaa
