/- Short words for what the printed texts say often. -/
import Derived.Test.YtadipihpgcelmaaAbsY
namespace Go.Proofs.Ytadipihpgcelmaa.Ab
open Go
abbrev xc (x : Ex) : List AV := [AV.i x.lba, AV.i x.len, AV.i x.kind, AV.i x.gen, AV.sl (List.length x.d) (List.map AV.y x.d)]
theorem kq {p : Prop} (h : p := by kernel_rfl) : p := h
end Go.Proofs.Ytadipihpgcelmaa.Ab
