/- Texts that are alike. -/
import Derived.Test.YtdflihfecfmpfaaDoorBase
import Derived.Lib.SlBytesConst
namespace Go.Proofs.YtdflihfecfmpfaaDoor
open Go.RowKit
theorem ba_ext {a b : ByteArray} (h : a.data.toList = b.data.toList) : a = b := by
  obtain ⟨a⟩ := a; obtain ⟨b⟩ := b
  congr 1
  exact Array.toList_inj.1 h
theorem str_ne {a b : ByteArray} (h : a ≠ b) : (a.toList == b.toList) = false := by
  rw [beq_eq_false_iff_ne]
  intro e
  apply h
  exact ba_ext (by rw [← Lib.toList_data, ← Lib.toList_data, e])
end Go.Proofs.YtdflihfecfmpfaaDoor
