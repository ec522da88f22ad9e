/- No store: the law, reckoned. No condition. -/
import Derived.Test.YtgokjbjbdnbcdaaS9S09N
set_option linter.unusedVariables false
set_option linter.unusedSimpArgs false
namespace Go.Proofs.Ytgokjbjbdnbcdaa
open Go.Wam
noncomputable def treeE : TT := .node 11 (.ir EvS9.F11)
  (.node 8 (.ir EvS9.F8) (.node 5 (.ir EvS9.F5) .leaf (.node 7 (.prim (shapeG Try.prog 7 isAct)) .leaf .leaf))
    (.node 9 (.ir EvS9.F9) .leaf (.node 10 (.ir EvS9.F10) .leaf .leaf)))
  (.node 17 (.ir EvS9.F17) (.node 15 (.prim (aliveG true)) (.node 14 (.ir EvS9.F14) .leaf .leaf) (.node 16 (.ir EvS9.F16) .leaf .leaf))
    (.node 21 (.ir EvS9.F21) (.node 20 (.ir EvS9.F20) .leaf .leaf) (.node 28 (.ir EvS9.F28) .leaf .leaf)))
noncomputable def TE : FuncId → Option FnDef := fun f => treeE.find f
theorem fitsE : TableOk Try.prog TE := tableOkT (t := treeE) ⟨EvS9.fits11, ⟨EvS9.fits8, ⟨EvS9.fits5, trivial, ⟨fitsTrip, trivial, trivial⟩⟩,
  ⟨EvS9.fits9, trivial, ⟨EvS9.fits10, trivial, trivial⟩⟩⟩,
  ⟨EvS9.fits17, ⟨fits15, ⟨EvS9.fits14, trivial, trivial⟩, ⟨EvS9.fits16, trivial, trivial⟩⟩,
  ⟨EvS9.fits21, ⟨EvS9.fits20, trivial, trivial⟩, ⟨EvS9.fits28, trivial, trivial⟩⟩⟩⟩
section
variable (c0 c1 c2 c6 c7 c9 c10 c11 c12 c13 c17 c18 c19 c20 : Int) (c3 c4 c5 c8 c14 : List UInt8) (c15 c16 : Bool)
def act : List AV := [.int .i64 c0, .int .i64 c1, .int .i64 c2, .str c3, .str c4, .str c5, .int .i64 c6, .int .i64 c7, .str c8, .int .i64 c9, .int .i64 c10, .int .i64 c11, .int .i64 c12, .int .i64 c13, .str c14, .bool c15, .bool c16, .int .i64 c17, .int .i64 c18, .int .i64 c19, .int .i64 c20]
theorem pre : evCX (cutP EvS9.F5.body) (evFX TE 300) 300 (enterX [.agg (act c0 c1 c2 c6 c7 c9 c10 c11 c12 c13 c17 c18 c19 c20 c3 c4 c5 c8 c14 c15 c16)] noH) =
    some (.normal, ⟨[(1, .lptr 1 0), (3, .bool (phi Try.prog 7 [.agg (act c0 c1 c2 c6 c7 c9 c10 c11 c12 c13 c17 c18 c19 c20 c3 c4 c5 c8 c14 c15 c16)]))], [(1, act c0 c1 c2 c6 c7 c9 c10 c11 c12 c13 c17 c18 c19 c20 c3 c4 c5 c8 c14 c15 c16)], ⟨.leaf, 0, 0, []⟩⟩) := by kernel_rfl
theorem rest (b : Bool) : (ob (evCX (cutR EvS9.F5.body) (evFX TE 300) 300 ⟨[(1, .lptr 1 0), (3, .bool b)], [(1, act c0 c1 c2 c6 c7 c9 c10 c11 c12 c13 c17 c18 c19 c20 c3 c4 c5 c8 c14 c15 c16)], ⟨.leaf, 0, 0, []⟩⟩) fun r => ob (leaveX (evFX TE 300) EvS9.F5 noH r) fun q => sBool q.1) = some true := by
  cases b
  · kernel_rfl
  · kernel_rfl
theorem lawAct (H : AHeap) : ATrip Try.prog 5 [.agg (act c0 c1 c2 c6 c7 c9 c10 c11 c12 c13 c17 c18 c19 c20 c3 c4 c5 c8 c14 c15 c16)] H (.bool true) H :=
  law_free mixed fitsE (F := EvS9.F5) (by decide) rfl (fun v hv => by simp only [List.mem_singleton] at hv; subst hv; simp [act, AV.one]) rfl (pre ..) (rest ..) H
end
abbrev shI : Sh := .int .i64
abbrev shStamp : Sh := .pair shI (.pair shI .unit)
abbrev shSpan : Sh := .pair .str (.pair .str .unit)
abbrev shMeta : Sh := .pair shI (.pair shI (.pair .str (.pair shStamp .unit)))
abbrev shIntent : Sh := .pair shMeta (.pair shI (.pair shStamp (.pair .str (.pair .bool .unit))))
abbrev shAct : Sh := .pair shI (.pair shI (.pair shI (.pair .str (.pair shSpan (.pair shIntent (.pair .bool (.pair (.pair shStamp (.pair shStamp .unit)) .unit)))))))
theorem lawNil : LawP Try.prog 5 [shAct] := by
  intro H ls hw hl ha
  obtain ⟨x, rfl, hx⟩ := args1 ha
  obtain ⟨c0, _, rfl, c1, _, rfl, c2, _, rfl, c3, _, rfl, c4, _, rfl, c5, _, rfl, c6, _, rfl, c7, _, rfl, c8, _, rfl, c9, _, rfl, c10, _, rfl, c11, _, rfl, c12, _, rfl, c13, _, rfl, c14, _, rfl, c15, _, rfl, c16, _, rfl, c17, _, rfl, c18, _, rfl, c19, _, rfl, c20, _, rfl, rfl⟩ := (show IsFl [.int .i64, .int .i64, .int .i64, .str, .str, .str, .int .i64, .int .i64, .str, .int .i64, .int .i64, .int .i64, .int .i64, .int .i64, .str, .bool, .bool, .int .i64, .int .i64, .int .i64, .int .i64] x from isC_flat hx)
  exact ⟨H, lawAct ..⟩
end Go.Proofs.Ytgokjbjbdnbcdaa
