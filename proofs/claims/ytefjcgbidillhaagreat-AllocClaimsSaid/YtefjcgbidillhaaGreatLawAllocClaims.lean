/- The law AllocClaims: whatever house and whatever else comes in, it answers true; what came in reads as it did. -/
import Derived.Test.YtefjcgbidillhaaGreatRows
import Derived.Test.YtefjcgbidillhaaGreatEvOP
import Derived.Test.YtefjcgbidillhaaGreatEvAR
import Derived.Test.YtefjcgbidillhaaGreatFactsAllocClaims
import Derived.WalkKit
import Derived.ProofKit
import Derived.OpenShut
import Derived.ShutString
import Derived.ChangeOld
import Derived.Below
import Derived.SizedLaws
import Derived.Carry
namespace Go.Proofs.YtefjcgbidillhaaGreat.allocClaims
open Go.ChangeShapes Go.WideShapes Go.ChangeAt Go.RowKit
open Go.ChangeMaps (open_string shut_string)
open Go.Proofs.YtefjcgbidillhaaGreat.Ev
set_option linter.unusedVariables false
set_option maxRecDepth 100000
theorem own : ownKnob Tryz.prog.godebug = none := by kernel_rfl
theorem laidOut : laidOutB Tryz.prog = true := by kernel_rfl
theorem agg_of {P : Program} {W : World} {b : Nat} {t : TypeId} {fs : Array Field} {v : Value} (ht : P.underlying t = some (.struct fs)) (h : Value.okWide P W .any b t v) : ∃ cs : Array Value, v = .agg cs := by
  simp only [Value.okWide, ht] at h
  obtain ⟨cs, h, _⟩ := h
  exact ⟨cs, h⟩
theorem walk (W : World) (x0 : House) (c0 : Array Value) (w0 : Rs W ⟨fun _ => 0, fun _ => undef, fun _ => 0⟩ (fun _ => False) (hC x0) c0.toList) (x1 : Ty.D .claim) (c1 : Array Value) (o1 : Ty.ok .claim x1) (w1 : c1.toList = Ty.enc .claim x1) : Calls Tryz.prog 5 #[.agg c0, .agg c1] W fun e W' => e = .returned (.bool true) ∧ Below W.heap.size W W' := by
  have hr := allocClaims_run x0 x1
  have h := (runA_at (allocClaims_allok.n 0) hr).2 ⟨fun _ => 0, fun _ => undef, fun _ => 0⟩ ⟨fun _ => 0, fun _ => undef, fun _ => 0⟩ (fun _ => False) W [.agg c0, .agg c1] (fun _ h => h.elim) ⟨⟨c0.toList, by simp, w0⟩, ⟨c1.toList, by simp, ⟨c1.toList, [], by simp, ⟨w1, o1⟩, rfl⟩⟩, trivial⟩ (fun b l hb => by simp [getB] at hb)
  refine h.mono fun e W' he => ?_
  obtain ⟨v, rfl, hv, hb⟩ := he
  refine ⟨?_, hb⟩
  obtain ⟨_, hv, _⟩ := hv
  simp only [List.cons.injEq, and_true] at hv
  rw [hv]
theorem lifted (os : Os) (started : os.Started) (H : Type) (enc : TypeId × Value → H) :
    ReturnsInHanded {} Tryz.checked os 5 .any (Rows.allocClaimsSpec.pre6 enc Tryz.prog Tryz.f5 Rows.allocClaimsRow.domain false) (Rows.allocClaimsSpec.post enc Tryz.prog Tryz.f5 false true false false) := by
  refine returnsInHanded_of_change_sized (C := Tryz.checked) own started (by kernel_rfl) Tryz.func5
    (ChangeSpec.witness6 (enc := enc) (C := Tryz.checked) false ⟨#[], #[.agg #[.slice none 0 0, .slice none 0 0, .slice none 0 0, .slice none 0 0, .slice none 0 0, .slice none 0 0, .slice none 0 0, .slice none 0 0, .slice none 0 0, .slice none 0 0, .slice none 0 0, .slice none 0 0, .slice none 0 0, .slice none 0 0, .int .i64 0], .agg #[.string ByteArray.empty, .int .i64 0, .string ByteArray.empty, .string ByteArray.empty, .string ByteArray.empty, .int .i64 0, .int .i64 0, .int .i64 0]], []⟩ 8 (by kernel_rfl) (by kernel_rfl) (by kernel_rfl) (by kernel_rfl)) ?_
  intro W base args ds gs before hval0 hW hcnd hsz0 _
  have hsz : (DataW.weightsEach Tryz.prog (Tryz.f5.params.toList ++ Rows.allocClaimsSpec.plain.varTypes Tryz.prog) (ds ++ gs)).all (· ≤ reachBytes) = true := hsz0
  have hval : ∀ (j : Nat) t v, Tryz.f5.params[j]? = some t → args[j]? = some v → Value.okWide Tryz.prog W .any base t v := hval0
  have hW' := hW
  obtain ⟨p, q, hA0, hV, rfl, hfz, hnd⟩ := hW
  have hA : DataW.TrodAll enc Tryz.prog W 0 (fun _ => true) true Tryz.f5.params.toList args.toList ds p := hA0
  rw [Tryz.params5] at hA hval hsz
  obtain ⟨v0, vs0, d0, ds0, p0, q0, hargs, rfl, rfl, h0, r0⟩ := trodAll_cons hA
  obtain ⟨v1, vs1, d1, ds1, p1, q1, rfl, rfl, rfl, h1, r1⟩ := trodAll_cons r0
  obtain ⟨rfl, rfl, rfl⟩ := trodAll_nil r1
  obtain rfl : args = #[v0, v1] := by cases args; simp_all
  obtain ⟨rfl, rfl⟩ := trodVars_none hV
  have k0 := h0
  have lt0 : ∀ x ∈ p0, x.block < W.heap.size := by obtain ⟨m, hm⟩ := k0; exact DataW.trod_lt m _ _ _ hm
  obtain ⟨c0, rfl⟩ := agg_of Tryz.underlying37 (hval 0 37 v0 rfl rfl)
  obtain ⟨m0, h0⟩ := h0
  obtain ⟨x0, w0⟩ := open_house Tryz.underlying37 (by kernel_rfl) (by kernel_rfl) h0 ⟨fun _ => 0, fun _ => undef, fun _ => 0⟩
  have k1 := h1
  have lt1 : ∀ x ∈ p1, x.block < W.heap.size := by obtain ⟨m, hm⟩ := k1; exact DataW.trod_lt m _ _ _ hm
  obtain ⟨c1, rfl⟩ := agg_of Tryz.underlying49 (hval 1 49 v1 rfl rfl)
  obtain ⟨m1, h1⟩ := h1
  obtain ⟨x1, o1, w1⟩ := open_el (t := .claim) (by kernel_rfl) (by kernel_rfl) h1
  clear hA0 hval0 hsz0 hsz
  refine (walk W x0 c0 w0 x1 c1 o1 w1).mono fun e W' ⟨he, bel⟩ => ?_
  subst he
  exact ⟨_, rfl, _, _, _, [], _, [], hW', trodAll_mk1 (shut_bool Tryz.underlying4 _), (trodAll_cons_mk (Below.trod laidOut (by kernel_rfl) (of_decide_eq_true (by kernel_rfl)) k0 bel lt0) (trodAll_cons_mk (Below.trod laidOut (by kernel_rfl) (of_decide_eq_true (by kernel_rfl)) k1 bel lt1) trodAll_mk0)), rfl, bel.frame _, fun h => by cases h⟩
theorem over : Rows.allocClaimsRow.holds Tryz.pinned (OpenSpec.ofChange Rows.allocClaimsSpec) :=
  OpenClaim.holds_of_wide 5 Tryz.f5 rfl rfl rfl rfl rfl rfl rfl ⟨rfl, rfl, rfl, rfl, rfl⟩ rfl rfl rfl rfl rfl named Tryz.func5 closed
    (of_decide_eq_true (by kernel_rfl)) (by unfold Func.isWrapper; first | (rw [if_pos (by decide +kernel)]; kernel_rfl) | (rw [if_neg (by decide +kernel)]; exact ⟨rfl, rfl⟩))
    (fun os started H enc _ => lifted os started H enc)
theorem proved : Rows.AllocClaimsSaid := over
end Go.Proofs.YtefjcgbidillhaaGreat.allocClaims
namespace Go.Proofs.YtefjcgbidillhaaGreat
/-- The row, under a short name, for the claim. -/
theorem allocClaims_holds : Rows.AllocClaimsSaid := allocClaims.proved
#print axioms allocClaims_holds
end Go.Proofs.YtefjcgbidillhaaGreat

