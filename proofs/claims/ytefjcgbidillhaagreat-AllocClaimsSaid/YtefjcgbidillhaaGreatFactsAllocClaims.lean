/- The closed facts of the law AllocClaims. -/
import Derived.Test.YtefjcgbidillhaaGreatRows
import Derived.JoinedOf
namespace Go.Proofs.YtefjcgbidillhaaGreat.allocClaims
open Go
set_option maxRecDepth 100000
theorem band {a b : Bool} (h : a = true) (k : b = true) : (a && b) = true := by rw [h, k]; rfl
theorem fact0 : (Rows.allocClaimsRow.wf (OpenSpec.ofChange Rows.allocClaimsSpec)) = true := by kernel_rfl
theorem fact1 : (laidOutB Tryz.checked.prog) = true := by kernel_rfl
theorem fact2 : (mapsRowed Tryz.checked.prog) = true := by kernel_rfl
theorem fact3 : (Tryz.f5.params.all (Tryz.checked.prog.readableRec ·)) = true := by kernel_rfl
theorem fact4 : (namedTie Tryz.checked.prog Rows.allocClaimsRow.named Rows.allocClaimsSpec.vars) = true := by kernel_rfl
theorem fact5 : ((Rows.allocClaimsRow.stops == [])) = true := by kernel_rfl
theorem fact6 : ((Tryz.checked.prog.stops == [])) = true := by kernel_rfl
theorem fact7 : ((Rows.allocClaimsRow.knobs == [])) = true := by kernel_rfl
theorem fact8 : ((Tryz.checked.prog.stopKnobs == [])) = true := by kernel_rfl
theorem fact9 : ((Rows.allocClaimsRow.inPlace == Tryz.checked.prog.inPlace 5)) = true := by kernel_rfl
theorem fact10 : ((Rows.allocClaimsRow.unfollowed == Tryz.checked.prog.unfollowed 5)) = true := by kernel_rfl
theorem fact11 : ((Rows.allocClaimsRow.recurses == Tryz.checked.prog.recurses 5)) = true := by kernel_rfl
theorem fact12 : ((Rows.allocClaimsRow.named == Tryz.checked.prog.varsNamed 5)) = true := by kernel_rfl
theorem fact13 : ((Rows.allocClaimsRow.maps == (Tryz.f5.params.toList ++ Rows.allocClaimsSpec.plain.varTypes Tryz.checked.prog).any (Tryz.checked.prog.mapsRec ·))) = true := by kernel_rfl
theorem fact14 : ((Rows.allocClaimsRow.ifaces == (Tryz.f5.params.toList ++ Rows.allocClaimsSpec.plain.varTypes Tryz.checked.prog).any (Tryz.checked.prog.ifacesRec ·))) = true := by kernel_rfl
theorem fact15 : ((Rows.allocClaimsRow.mapsOut == Tryz.checked.prog.mapsAmong Tryz.f5.resultTypes.toList)) = true := by kernel_rfl
theorem fact16 : ((Rows.allocClaimsRow.loops == (Tryz.f5.params.toList ++ Rows.allocClaimsSpec.plain.varTypes Tryz.checked.prog).any (Tryz.checked.prog.loopsFrom ·))) = true := by kernel_rfl
theorem fact17 : ((Rows.allocClaimsRow.wideKeys == (Tryz.f5.params.toList ++ Rows.allocClaimsSpec.plain.varTypes Tryz.checked.prog ++ Tryz.f5.resultTypes.toList).any (Tryz.checked.prog.wideKeysFrom ·))) = true := by kernel_rfl
theorem fact18 : (Rows.allocClaimsSpec.vars.all (Tryz.checked.prog.varReadable ·)) = true := by kernel_rfl
theorem fact19 : (Tryz.f5.resultTypes.all (fun t => Tryz.checked.prog.readableRec t && decide (t < Tryz.checked.prog.types.size))) = true := by kernel_rfl
theorem fact20 : ((Rows.allocClaimsRow.ifacesOut == Tryz.f5.resultTypes.toList.any (Tryz.checked.prog.ifacesRec ·))) = true := by kernel_rfl
theorem fact21 : ((Rows.allocClaimsRow.loopsOut == Tryz.f5.resultTypes.toList.any (Tryz.checked.prog.loopsFrom ·))) = true := by kernel_rfl
theorem fact22 : ((Rows.allocClaimsRow.plainKeys == Tryz.checked.prog.plainKeys)) = true := by kernel_rfl
theorem fact23 : (Rows.allocClaimsRow.shortTexts.isNone) = true := by kernel_rfl
theorem fact24 : (Tryz.checked.prog.stopsHeard) = true := by kernel_rfl
theorem fact25 : (Tryz.checked.prog.mayEnter) = true := by kernel_rfl
theorem fact26 : ((Rows.allocClaimsRow.lifted == Tryz.checked.prog.liftsFinal)) = true := by kernel_rfl
theorem fact27 : ((Tryz.checked.prog.make == some Rows.allocClaimsRow.make)) = true := by kernel_rfl
theorem fact28 : ((Rows.allocClaimsRow.kinds == (if Rows.allocClaimsRow.domain.isEmpty then [] else Tryz.f5.params.toList.map fun t => match Tryz.checked.prog.underlying t with | some (.int k) => some k | _ => none))) = true := by kernel_rfl
theorem fact29 : ((Rows.allocClaimsRow.pinned == Rows.allocClaimsRow.pinnedBy)) = true := by kernel_rfl
theorem fact30 : ((Rows.allocClaimsRow.veiled == (Tryz.f5.params.toList ++ Rows.allocClaimsSpec.plain.varTypes Tryz.checked.prog ++ Tryz.f5.resultTypes.toList).any (Tryz.checked.prog.veiledRec ·))) = true := by kernel_rfl
theorem fact31 : (Rows.allocClaimsRow.veiledFits Tryz.checked.prog Tryz.f5.params.toList (Tryz.f5.params.toList ++ Rows.allocClaimsSpec.plain.varTypes Tryz.checked.prog ++ Tryz.f5.resultTypes.toList)) = true := by kernel_rfl
theorem closed : joinedFacts Tryz.checked.prog 5 Tryz.f5 Rows.allocClaimsSpec Rows.allocClaimsRow = true := (band (band (band (band (band (band (band (band (band (band (band (band (band (band (band (band (band (band (band (band (band (band (band (band (band (band (band (band (band (band (band fact0 fact1) fact2) fact3) fact4) fact5) fact6) fact7) fact8) fact9) fact10) fact11) fact12) fact13) fact14) fact15) fact16) fact17) fact18) fact19) fact20) fact21) fact22) fact23) fact24) fact25) fact26) fact27) fact28) fact29) fact30) fact31)
theorem named : Tryz.pinned.checked.prog.funcNamed Rows.allocClaimsRow.func = some 5 := by kernel_rfl
end Go.Proofs.YtefjcgbidillhaaGreat.allocClaims
