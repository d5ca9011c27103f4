/- slices.SortFunc at lists of one thing at most: nothing turns. -/
import Derived.Test.YtefjcgbidillhaaGreatEvFI
namespace Go.Proofs.YtefjcgbidillhaaGreat
open Go
namespace Ev
set_option linter.unusedVariables false
set_option maxRecDepth 100000
noncomputable def sort1 (a0 : List Entry) : Option Unit := bif Nat.ble a0.length 1 then some () else none
theorem sort1_0 : runA (withN E_FI 3) 6 104 [.s (.list .entry [] []), .s (.fn 105 [])] ⟨[], []⟩ = some (.t []) := by kernel_rfl
theorem sort1_1 (x : Entry) : runA (withN E_FI 3) 6 104 [.s (.list .entry [x] []), .s (.fn 105 [])] ⟨[], []⟩ = some (.t []) := by kernel_rfl
theorem sort1_r (a0 : List Entry) (h : (sort1 a0).isSome = true) : runA (withN E_FI 3) 6 104 [.s (.list .entry a0 []), .s (.fn 105 [])] ⟨[], []⟩ = some (.t []) := by
  match a0, h with
  | [], _ => exact sort1_0
  | [x], _ => exact sort1_1 x
  | x :: y :: l, h => exact absurd h (by simp [sort1, Nat.ble])
noncomputable def F104 (l : List A) (m : List (Option (List C))) : Option (Bool × A) := match (p2 (lCons (rS (cLst .entry)) (lCons (rS (cFn 105 [])) lNil)) lNil) (l, m) with
  | some x => some ((sort1 x.1.1).isSome, .t [])
  | none => none
noncomputable def E_FS : Env := withG E_FI 104 (gOfM E_FI 104 [169, 174] F104)
theorem ok_FS : AllOK Tryz.prog E_FS := ok_FI.fm 6 (fun l m r e hl => by
  unfold F104 at e
  cases hD : (p2 (lCons (rS (cLst .entry)) (lCons (rS (cFn 105 [])) lNil)) lNil) (l, m) with
  | none => rw [hD] at e; cases e
  | some x =>
    rw [hD] at e
    have hE := (p2_ok (lCons_ok (rS_ok (cLst_ok .entry)) (lCons_ok (rS_ok (cFn_ok 105 [])) lNil_ok)) lNil_ok) _ _ hD
    have h1 : l = [.s (.list .entry x.1.1 []), .s (.fn 105 [])] := congrArg Prod.fst hE
    have h2 : m = [] := congrArg Prod.snd hE
    subst h1 h2
    simp only [Option.some.injEq, Prod.mk.injEq] at e
    obtain ⟨hs, rfl⟩ := e
    exact ⟨3, sort1_r x.1.1 hs⟩) (by kernel_rfl)
end Ev
end Go.Proofs.YtefjcgbidillhaaGreat
