/- THE SEAT's TABLES ARE RIGHT. -/
import Derived.Test.YtefjcgbidillhaaGreatEvTC
import Derived.Test.YtefjcgbidillhaaGreatEvT
namespace Go.Proofs.YtefjcgbidillhaaGreat
open Go
namespace Ev

noncomputable def tabs : Tabs := ⟨tabL, eltL, zeroL⟩
theorem t1 : allB (tiB Tryz.prog) 0 tabL = true := by kernel_rfl
theorem t2 : allB (fun i t => noByte t && eqB Tryz.prog i t) 0 eltL = true := by kernel_rfl
theorem t3 : allB (zeroB Tryz.prog) 0 zeroL = true := by kernel_rfl
theorem t4 : (Tryz.prog.funcs.toList.all fun f => !(f.name == "runtime.NumGoroutine")) = true := by kernel_rfl
theorem tabs_ok : tabs.okB Tryz.prog = true := by
  simp only [Tabs.okB, Bool.and_eq_true]
  exact ⟨⟨⟨t1, t2⟩, t3⟩, t4⟩
end Ev
end Go.Proofs.YtefjcgbidillhaaGreat
