/- The chapter's example (law16's awake): evaluated whole. -/
import Derived.Test.YtefjcgbidillhaaGreatEvFS
namespace Go.Proofs.YtefjcgbidillhaaGreat
open Go
namespace Ev
set_option linter.unusedVariables false
set_option maxRecDepth 100000
theorem awake16_k : runA (withN E_FS 20) 30 12 [] ⟨[], []⟩ = some (.s (.v (.bool true))) := by kernel_rfl
noncomputable def F12 (l : List A) (m : List (Option (List C))) : Option (Bool × A) := match p2 lNil lNil (l, m) with
  | some x => some (true, .s (.v (.bool true)))
  | none => none
noncomputable def E_FA : Env := withG E_FS 12 (gOfM E_FS 12 [] F12)
theorem ok_FA : AllOK Tryz.prog E_FA := ok_FS.fm 30 (fun l m r e hl => by
  unfold F12 at e
  cases hD : p2 lNil lNil (l, m) with
  | none => rw [hD] at e; cases e
  | some x =>
    rw [hD] at e
    have hE := (p2_ok lNil_ok lNil_ok) _ _ hD
    have h1 : l = [] := congrArg Prod.fst hE
    have h2 : m = [] := congrArg Prod.snd hE
    subst h1 h2
    cases e
    exact ⟨20, awake16_k⟩) (by kernel_rfl)
end Ev
end Go.Proofs.YtefjcgbidillhaaGreat
