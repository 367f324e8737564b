/- Encode, as the program has it. -/
import Derived.Test.YtdflihfecfmpfaaDoorRlpG
namespace Go.Proofs.YtdflihfecfmpfaaDoor
open Go.RowKit Go.Shelf
set_option linter.unusedVariables false
set_option linter.unusedSimpArgs false

/-- AN ITEM'S BYTES, if it is one -/
def encB (x : Itm) : List UInt8 := if checkI x = 0 then bytesF x else []
set_option maxRecDepth 100000 in
set_option maxHeartbeats 2000000 in
theorem encodeP_any (x : Itm) (W : World) (sx : Value) (hsx : SubW W x.items sx) (hwt : wtF x ≤ 1000000000) :
    Calls Tryd.prog 21 #[.agg #[.bool x.list, .string x.bytes, sx]] W fun e W' => e = .returned (.tuple #[.string ⟨(encB x).toArray⟩, .int .i64 (checkI x)]) ∧ W.grownBy W' none := by
  obtain ⟨A, c, rfl⟩ := hsx.slice
  have hG1 := only_alloc (World.grownBy.refl W none) (.cells #[.bool x.list, .string x.bytes, .slice A x.items.length c] 51)
  have hx0 := Blk.new W 51 #[.bool x.list, .string x.bytes, .slice A x.items.length c]
  have hS1 := hsx.grown hG1
  have HK := Lib.hid (checkP_any x _ _ hS1 hwt)
  have HG := Lib.hid hG1
  have HS := Lib.hid hS1
  have HX := Lib.hid hx0
  obtain ⟨E, hE⟩ : ∃ E, checkI x = E := ⟨_, rfl⟩
  rw [hE] at HK ⊢
  by_cases h0 : E = 0
  · have HB : Hid (encB x = bytesF x) := Lib.hid (if_pos (by rw [hE, h0]))
    rw [h0] at HK ⊢
    clear hG1 hx0 hS1 hsx hE h0
    go_enter Tryd.func21, Tryd.ntmps21
    go_wp2_with fail
    refine HK.out.mono ?_
    rintro e w2 ⟨rfl, hg2⟩
    have hx2 := HX.out.grown hg2 (by simp)
    have hS2 := HS.out.grown hg2
    have HG := Lib.hid (grown_self HG.out hg2 (by simp))
    have c0 := hx2.cell 0; have c1 := hx2.cell 1; have c2 := hx2.cell 2
    simp only [List.getElem?_toArray, List.getElem?_cons_zero, List.getElem?_cons_succ] at c0 c1 c2
    have HY := Lib.hid (bytes_any x _ _ hS2 hwt)
    clear hg2 hx2 hS2 HK
    go_wp2_with fail
    refine HY.out.mono ?_
    rintro e w3 ⟨rfl, hg3⟩
    have HG := Lib.hid (grown_self HG.out hg3 (by simp))
    clear hg3
    go_wp2_with fail
    go_ret2
    exact ⟨by rw [HB.out]; rfl, HG.out⟩
  · have HB : Hid (encB x = []) := Lib.hid (if_neg (by rw [hE]; exact h0))
    have e1 : (E != 0) = true := by simpa using h0
    clear hG1 hx0 hS1 hsx hE h0
    go_enter Tryd.func21, Tryd.ntmps21
    go_wp2_with fail
    refine HK.out.mono ?_
    rintro e w2 ⟨rfl, hg2⟩
    have HG := Lib.hid (grown_self HG.out hg2 (by simp))
    clear hg2 HK
    go_wp2_with fail
    go_ret2
    exact ⟨by rw [HB.out]; rfl, HG.out⟩
end Go.Proofs.YtdflihfecfmpfaaDoor
