/- WALKS of functions of the program, written by a program (g2.py): each loop a step and a partial run, each function a Lean function with its contract. -/
import Derived.Test.YtefjcgbidillhaaGreatEvFA
namespace Go.Proofs.YtefjcgbidillhaaGreat
open Go
namespace Ev
set_option linter.unusedVariables false
set_option maxRecDepth 100000
/-! ### stevedore/rows.keys -/
noncomputable def rows_keys (a0 : Key) (a1 : Key) : Int :=
  orI [cmpS (Key.bin a0) (Key.bin a1), cmpS (Key.item a0) (Key.item a1), cmpS (Key.lot a0) (Key.lot a1), cmpI (Key.status a0) (Key.status a1)]
theorem rows_keys_k (a0 : Key) (a1 : Key) : runA (withN E_FA 0) 6 127 [.g [.el .key a0], .g [.el .key a1]] ⟨[], []⟩ =
  some (.s (.v (.int .i64 (orI [cmpS (Key.bin a0) (Key.bin a1), cmpS (Key.item a0) (Key.item a1), cmpS (Key.lot a0) (Key.lot a1), cmpI (Key.status a0) (Key.status a1)])))) := by kernel_rfl
noncomputable def rows_keys_enc (r : Int) : A := .s (.v (.int .i64 r))
theorem rows_keys_r (a0 : Key) (a1 : Key) : runA (withN E_FA 0) 6 127 [.g [.el .key a0], .g [.el .key a1]] ⟨[], []⟩ = some (rows_keys_enc (rows_keys a0 a1)) :=
  (rows_keys_k a0 a1).trans (by unfold rows_keys; exact rfl)
noncomputable def rows_keys_F (l : List A) (m : List (Option (List C))) : Option (Bool × A) := match (p2 (lCons (rG (lCons (cEl .key) lNil)) (lCons (rG (lCons (cEl .key) lNil)) lNil)) lNil) (l, m) with
  | some x => some (true, rows_keys_enc (rows_keys x.1.1.1 x.1.2.1.1))
  | none => none
noncomputable def rows_keys_E : Env := withG E_FA 127 (gOfM E_FA 127 [47, 47] rows_keys_F)
theorem rows_keys_ok : AllOK Tryz.prog rows_keys_E := ok_FA.fm 6 (fun l m r e hl => by
  unfold rows_keys_F at e
  cases hD : (p2 (lCons (rG (lCons (cEl .key) lNil)) (lCons (rG (lCons (cEl .key) lNil)) lNil)) lNil) (l, m) with
  | none => rw [hD] at e; cases e
  | some x =>
    rw [hD] at e
    have hE := (p2_ok (lCons_ok (rG_ok (lCons_ok (cEl_ok .key) lNil_ok)) (lCons_ok (rG_ok (lCons_ok (cEl_ok .key) lNil_ok)) lNil_ok)) lNil_ok) _ _ hD
    have h1 : l = [.g [.el .key x.1.1.1], .g [.el .key x.1.2.1.1]] := congrArg Prod.fst hE
    have h2 : m = [] := congrArg Prod.snd hE
    subst h1 h2
    cases e
    exact ⟨0, rows_keys_r x.1.1.1 x.1.2.1.1⟩) (by kernel_rfl)
/-! ### stevedore/rows.Claims$1 -/
noncomputable def rows_Claims_c1 (a0 : Claim) (a1 : Claim) : Int :=
  orI [cmpS (Claim.order a0) (Claim.order a1), cmpI (Claim.line a0) (Claim.line a1), rows_keys (Claim.key a0) (Claim.key a1), cmpI (Claim.task a0) (Claim.task a1)]
theorem rows_Claims_c1_k (a0 : Claim) (a1 : Claim) : runA (withN rows_keys_E 0) 6 124 [.g [.el .claim a0], .g [.el .claim a1]] ⟨[], []⟩ =
  some (.s (.v (.int .i64 (orI [cmpS (Claim.order a0) (Claim.order a1), cmpI (Claim.line a0) (Claim.line a1), rows_keys (Claim.key a0) (Claim.key a1), cmpI (Claim.task a0) (Claim.task a1)])))) := by kernel_rfl
noncomputable def rows_Claims_c1_enc (r : Int) : A := .s (.v (.int .i64 r))
theorem rows_Claims_c1_r (a0 : Claim) (a1 : Claim) : runA (withN rows_keys_E 0) 6 124 [.g [.el .claim a0], .g [.el .claim a1]] ⟨[], []⟩ = some (rows_Claims_c1_enc (rows_Claims_c1 a0 a1)) :=
  (rows_Claims_c1_k a0 a1).trans (by unfold rows_Claims_c1; exact rfl)
noncomputable def rows_Claims_c1_F (l : List A) (m : List (Option (List C))) : Option (Bool × A) := match (p2 (lCons (rG (lCons (cEl .claim) lNil)) (lCons (rG (lCons (cEl .claim) lNil)) lNil)) lNil) (l, m) with
  | some x => some (true, rows_Claims_c1_enc (rows_Claims_c1 x.1.1.1 x.1.2.1.1))
  | none => none
noncomputable def rows_Claims_c1_E : Env := withG rows_keys_E 124 (gOfM rows_keys_E 124 [49, 49] rows_Claims_c1_F)
theorem rows_Claims_c1_ok : AllOK Tryz.prog rows_Claims_c1_E := rows_keys_ok.fm 6 (fun l m r e hl => by
  unfold rows_Claims_c1_F at e
  cases hD : (p2 (lCons (rG (lCons (cEl .claim) lNil)) (lCons (rG (lCons (cEl .claim) lNil)) lNil)) lNil) (l, m) with
  | none => rw [hD] at e; cases e
  | some x =>
    rw [hD] at e
    have hE := (p2_ok (lCons_ok (rG_ok (lCons_ok (cEl_ok .claim) lNil_ok)) (lCons_ok (rG_ok (lCons_ok (cEl_ok .claim) lNil_ok)) lNil_ok)) lNil_ok) _ _ hD
    have h1 : l = [.g [.el .claim x.1.1.1], .g [.el .claim x.1.2.1.1]] := congrArg Prod.fst hE
    have h2 : m = [] := congrArg Prod.snd hE
    subst h1 h2
    cases e
    exact ⟨0, rows_Claims_c1_r x.1.1.1 x.1.2.1.1⟩) (by kernel_rfl)
/-! ### stevedore/rows.Claims -/
noncomputable def rows_Claims  : Unit :=
  ()
theorem rows_Claims_k  : runA (withN rows_Claims_c1_E 0) 6 81 [] ⟨[], []⟩ =
  some (.g [.fn 124 []]) := by kernel_rfl
noncomputable def rows_Claims_enc (r : Unit) : A := .g [.fn 124 []]
theorem rows_Claims_r  : runA (withN rows_Claims_c1_E 0) 6 81 [] ⟨[], []⟩ = some (rows_Claims_enc (rows_Claims)) :=
  (rows_Claims_k ).trans (by unfold rows_Claims; exact rfl)
noncomputable def rows_Claims_F (l : List A) (m : List (Option (List C))) : Option (Bool × A) := match (p2 lNil lNil) (l, m) with
  | some x => some (true, rows_Claims_enc rows_Claims)
  | none => none
noncomputable def rows_Claims_E : Env := withG rows_Claims_c1_E 81 (gOfM rows_Claims_c1_E 81 [] rows_Claims_F)
theorem rows_Claims_ok : AllOK Tryz.prog rows_Claims_E := rows_Claims_c1_ok.fm 6 (fun l m r e hl => by
  unfold rows_Claims_F at e
  cases hD : (p2 lNil lNil) (l, m) with
  | none => rw [hD] at e; cases e
  | some x =>
    rw [hD] at e
    have hE := (p2_ok lNil_ok lNil_ok) _ _ hD
    have h1 : l = [] := congrArg Prod.fst hE
    have h2 : m = [] := congrArg Prod.snd hE
    subst h1 h2
    cases e
    exact ⟨0, rows_Claims_r ⟩) (by kernel_rfl)
/-! ### slices.IndexFunc[[]stevedore/api.Claim,stevedore/api.Claim]: loop 1 -/
noncomputable def slices_IndexFunc_Claim__table_Find_Claim_c1__rows_Claims_c1_1_L : Live := ⟨19, 21, [0, 1, 7, 8], [0, 1], [], [0, 0]⟩
noncomputable def slices_IndexFunc_Claim__table_Find_Claim_c1__rows_Claims_c1_1_e (x : ((List Claim) × Int × Claim) × (Int)) : V := ([.s (.list .claim x.1.1 []), .s (.fn 128 [(0, 0), (1, 0)]), .s (.v (.int .i64 x.1.2.1)), .s (.v (.int .i64 x.2))], [some [.fn 124 []], some [.el .claim x.1.2.2]], [])
noncomputable def slices_IndexFunc_Claim__table_Find_Claim_c1__rows_Claims_c1_1_d : V → Option (((List Claim) × Int × Claim) × (Int)) := fun v => ((p2 (lCons (rS (cLst .claim)) (lCons (rS (cFn 128 [(0, 0), (1, 0)])) (lCons (rS cInt) (lCons (rS cInt) lNil)))) (p2 (lCons (bS (lCons (cFn 124 []) lNil)) (lCons (bS (lCons (cEl .claim) lNil)) lNil)) lNil)) v).map fun x => ((x.1.1, x.1.2.2.1, x.2.1.2.1.1), x.1.2.2.2.1)
theorem slices_IndexFunc_Claim__table_Find_Claim_c1__rows_Claims_c1_1_dk : ∀ v s, slices_IndexFunc_Claim__table_Find_Claim_c1__rows_Claims_c1_1_d v = some s → v = slices_IndexFunc_Claim__table_Find_Claim_c1__rows_Claims_c1_1_e s := map_ok (p2_ok (lCons_ok (rS_ok (cLst_ok .claim)) (lCons_ok (rS_ok (cFn_ok 128 [(0, 0), (1, 0)])) (lCons_ok (rS_ok cInt_ok) (lCons_ok (rS_ok cInt_ok) lNil_ok)))) (p2_ok (lCons_ok (bS_ok (lCons_ok (cFn_ok 124 []) lNil_ok)) (lCons_ok (bS_ok (lCons_ok (cEl_ok .claim) lNil_ok)) lNil_ok)) lNil_ok)) (fun _ => by kernel_rfl)
noncomputable def slices_IndexFunc_Claim__table_Find_Claim_c1__rows_Claims_c1_1_x1 (x : Int) : V := ([.s (.v (.int .i64 x))], [], [])
noncomputable def slices_IndexFunc_Claim__table_Find_Claim_c1__rows_Claims_c1_1_x1_d : V → Option (Int) := fun v => ((p2 (lCons (rS cInt) lNil) (p2 lNil lNil)) v).map fun x => x.1.1
theorem slices_IndexFunc_Claim__table_Find_Claim_c1__rows_Claims_c1_1_x1_dk : ∀ v s, slices_IndexFunc_Claim__table_Find_Claim_c1__rows_Claims_c1_1_x1_d v = some s → v = slices_IndexFunc_Claim__table_Find_Claim_c1__rows_Claims_c1_1_x1 s := map_ok (p2_ok (lCons_ok (rS_ok cInt_ok) lNil_ok) (p2_ok lNil_ok lNil_ok)) (fun _ => by kernel_rfl)
noncomputable def slices_IndexFunc_Claim__table_Find_Claim_c1__rows_Claims_c1_1_x2 (x : Unit) : V := ([], [], [])
noncomputable def slices_IndexFunc_Claim__table_Find_Claim_c1__rows_Claims_c1_1_x2_d : V → Option (Unit) := fun v => ((p2 lNil (p2 lNil lNil)) v).map fun x => ()
theorem slices_IndexFunc_Claim__table_Find_Claim_c1__rows_Claims_c1_1_x2_dk : ∀ v s, slices_IndexFunc_Claim__table_Find_Claim_c1__rows_Claims_c1_1_x2_d v = some s → v = slices_IndexFunc_Claim__table_Find_Claim_c1__rows_Claims_c1_1_x2 s := map_ok (p2_ok lNil_ok (p2_ok lNil_ok lNil_ok)) (fun _ => by kernel_rfl)
noncomputable def slices_IndexFunc_Claim__table_Find_Claim_c1__rows_Claims_c1_1_X (e : Ex) : Live := bif exEq e (.ret) then ⟨19, 21, [4], [], [], []⟩ else bif exEq e (.exit 0) then ⟨19, 21, [], [], [], []⟩ else slices_IndexFunc_Claim__table_Find_Claim_c1__rows_Claims_c1_1_L
noncomputable def slices_IndexFunc_Claim__table_Find_Claim_c1__rows_Claims_c1_1_dx (e : Ex) (v : V) : Option (Int ⊕ Unit) := match exEq e (.ret) with
  | true => (slices_IndexFunc_Claim__table_Find_Claim_c1__rows_Claims_c1_1_x1_d v).map fun d => .inl d
  | false => match exEq e (.exit 0) with
  | true => (slices_IndexFunc_Claim__table_Find_Claim_c1__rows_Claims_c1_1_x2_d v).map fun d => .inr d
  | false => none
noncomputable def slices_IndexFunc_Claim__table_Find_Claim_c1__rows_Claims_c1_1_ex (x : (Int ⊕ Unit)) : Ex × V := match x with
  | .inl d => (.ret, slices_IndexFunc_Claim__table_Find_Claim_c1__rows_Claims_c1_1_x1 d)
  | .inr d => (.exit 0, slices_IndexFunc_Claim__table_Find_Claim_c1__rows_Claims_c1_1_x2 d)
theorem slices_IndexFunc_Claim__table_Find_Claim_c1__rows_Claims_c1_1_dxk : ∀ e v r, slices_IndexFunc_Claim__table_Find_Claim_c1__rows_Claims_c1_1_dx e v = some r → slices_IndexFunc_Claim__table_Find_Claim_c1__rows_Claims_c1_1_ex r = (e, v) := by
  intro e v r h
  unfold slices_IndexFunc_Claim__table_Find_Claim_c1__rows_Claims_c1_1_dx at h
  split at h
  · rename_i he
    obtain ⟨d, hd, rfl⟩ := Option.map_eq_some_iff.1 h
    rw [exEq_eq he, slices_IndexFunc_Claim__table_Find_Claim_c1__rows_Claims_c1_1_x1_dk _ _ hd]
    rfl
  · split at h
    · rename_i he
      obtain ⟨d, hd, rfl⟩ := Option.map_eq_some_iff.1 h
      rw [exEq_eq he, slices_IndexFunc_Claim__table_Find_Claim_c1__rows_Claims_c1_1_x2_dk _ _ hd]
      rfl
    · cases h
noncomputable def slices_IndexFunc_Claim__table_Find_Claim_c1__rows_Claims_c1_1_s (t0 : List Claim) (t7 : Int) (b1 : Claim) (t8 : Int) : Option ((Int) ⊕ (Int ⊕ Unit)) :=
  (bif decide (t8 < t7) then (bif decide (0 ≤ t8 ∧ t8 < (↑(List.length t0) : Int)) then (bif rows_Claims_c1 (rd Ty.claim t0 (Int.toNat t8)) b1 == 0 then some (.inr (.inl t8)) else some (.inl (IntKind.wrap IntKind.i64 (t8 + 1)))) else none) else some (.inr (.inr ())))
noncomputable def slices_IndexFunc_Claim__table_Find_Claim_c1__rows_Claims_c1_1_l (t0 : List Claim) (t7 : Int) (b1 : Claim) (t8 : Int) : Option (Int ⊕ Unit) := run (fun s : Int => slices_IndexFunc_Claim__table_Find_Claim_c1__rows_Claims_c1_1_s t0 t7 b1 s) t8
noncomputable def slices_IndexFunc_Claim__table_Find_Claim_c1__rows_Claims_c1_1_lf (p : (List Claim) × Int × Claim) (r : (Int ⊕ Unit)) : (Int ⊕ Unit) := match r with
  | .inl d => .inl d
  | .inr d => .inr ()
noncomputable def slices_IndexFunc_Claim__table_Find_Claim_c1__rows_Claims_c1_1_f (x : ((List Claim) × Int × Claim) × (Int)) (k : Ex → St → Option A) : Option A :=
  bif (slices_IndexFunc_Claim__table_Find_Claim_c1__rows_Claims_c1_1_l x.1.1 x.1.2.1 x.1.2.2 x.2).isSome then (bif isL ((slices_IndexFunc_Claim__table_Find_Claim_c1__rows_Claims_c1_1_l x.1.1 x.1.2.1 x.1.2.2 x.2).getD default) then k (.ret) (build ⟨19, 21, [4], [], [], []⟩ (slices_IndexFunc_Claim__table_Find_Claim_c1__rows_Claims_c1_1_x1 (getL ((slices_IndexFunc_Claim__table_Find_Claim_c1__rows_Claims_c1_1_l x.1.1 x.1.2.1 x.1.2.2 x.2).getD default)))) else k (.exit 0) (build ⟨19, 21, [], [], [], []⟩ (slices_IndexFunc_Claim__table_Find_Claim_c1__rows_Claims_c1_1_x2 ()))) else none
theorem slices_IndexFunc_Claim__table_Find_Claim_c1__rows_Claims_c1_1_k (t0 : List Claim) (t7 : Int) (t8 : Int) (b1 : Claim) (K : (((List Claim) × Int × Claim) × (Int)) ⊕ (Int ⊕ Unit) → Option A) : ev rows_Claims_E (callA rows_Claims_E 6) 120 2 (loopAt rows_Claims_E 120 0) 0 (build slices_IndexFunc_Claim__table_Find_Claim_c1__rows_Claims_c1_1_L (slices_IndexFunc_Claim__table_Find_Claim_c1__rows_Claims_c1_1_e ((t0, t7, b1), t8))) (obs rows_Claims_E slices_IndexFunc_Claim__table_Find_Claim_c1__rows_Claims_c1_1_L slices_IndexFunc_Claim__table_Find_Claim_c1__rows_Claims_c1_1_X slices_IndexFunc_Claim__table_Find_Claim_c1__rows_Claims_c1_1_d slices_IndexFunc_Claim__table_Find_Claim_c1__rows_Claims_c1_1_dx K) =
  (bif decide (t8 < t7) then (bif decide (0 ≤ t8 ∧ t8 < (↑(List.length t0) : Int)) then (bif rows_Claims_c1 (rd Ty.claim t0 (Int.toNat t8)) b1 == 0 then K (.inr (.inl t8)) else K (.inl ((t0, t7, b1), IntKind.wrap IntKind.i64 (t8 + 1)))) else none) else K (.inr (.inr ()))) := by kernel_rfl
noncomputable def slices_IndexFunc_Claim__table_Find_Claim_c1__rows_Claims_c1_1_E : Env := withS rows_Claims_E 120 0 (sumV rows_Claims_E 120 0 2 slices_IndexFunc_Claim__table_Find_Claim_c1__rows_Claims_c1_1_L slices_IndexFunc_Claim__table_Find_Claim_c1__rows_Claims_c1_1_d slices_IndexFunc_Claim__table_Find_Claim_c1__rows_Claims_c1_1_f)
theorem slices_IndexFunc_Claim__table_Find_Claim_c1__rows_Claims_c1_1_ok : AllOK Tryz.prog slices_IndexFunc_Claim__table_Find_Claim_c1__rows_Claims_c1_1_E :=
  rows_Claims_ok.loopP 6 (step := fun p s => slices_IndexFunc_Claim__table_Find_Claim_c1__rows_Claims_c1_1_s p.1 p.2.1 p.2.2 s) (lift := slices_IndexFunc_Claim__table_Find_Claim_c1__rows_Claims_c1_1_lf) (enc := slices_IndexFunc_Claim__table_Find_Claim_c1__rows_Claims_c1_1_e) (encx := slices_IndexFunc_Claim__table_Find_Claim_c1__rows_Claims_c1_1_ex) slices_IndexFunc_Claim__table_Find_Claim_c1__rows_Claims_c1_1_dk slices_IndexFunc_Claim__table_Find_Claim_c1__rows_Claims_c1_1_dxk
    (by
      rintro ⟨t0, t7, b1⟩ t8 K
      refine (slices_IndexFunc_Claim__table_Find_Claim_c1__rows_Claims_c1_1_k t0 t7 t8 b1 K).trans ?_
      unfold slices_IndexFunc_Claim__table_Find_Claim_c1__rows_Claims_c1_1_s
      exact (bndc _ (bndc _ (bndc _ rfl rfl) rfl) rfl))
    (by
      intro p s k x e
      unfold slices_IndexFunc_Claim__table_Find_Claim_c1__rows_Claims_c1_1_f at e
      cases hr : slices_IndexFunc_Claim__table_Find_Claim_c1__rows_Claims_c1_1_l p.1 p.2.1 p.2.2 s with
      | none =>
        rw [hr] at e
        cases e
      | some r =>
      rw [hr] at e
      refine ⟨r, hr, ?_⟩
      rcases r with d | d <;> exact e) (by kernel_rfl)
/-! ### slices.IndexFunc[[]stevedore/api.Claim,stevedore/api.Claim] -/
noncomputable def slices_IndexFunc_Claim__table_Find_Claim_c1__rows_Claims_c1 (a0 : List Claim) (c1 : Claim) : Option Int :=
  (bif Option.isSome (slices_IndexFunc_Claim__table_Find_Claim_c1__rows_Claims_c1_1_l a0 (↑(List.length a0) : Int) c1 0) then (bif isL (Option.getD (slices_IndexFunc_Claim__table_Find_Claim_c1__rows_Claims_c1_1_l a0 (↑(List.length a0) : Int) c1 0) default) then some (getL (Option.getD (slices_IndexFunc_Claim__table_Find_Claim_c1__rows_Claims_c1_1_l a0 (↑(List.length a0) : Int) c1 0) default)) else some (-1)) else none)
theorem slices_IndexFunc_Claim__table_Find_Claim_c1__rows_Claims_c1_k (a0 : List Claim) (c1 : Claim) : runA (withN slices_IndexFunc_Claim__table_Find_Claim_c1__rows_Claims_c1_1_E 0) 6 120 [.s (.list .claim a0 []), .s (.fn 128 [(0, 0), (1, 0)])] ⟨[some [.fn 124 []], some [.el .claim c1]], []⟩ =
  (bif Option.isSome (slices_IndexFunc_Claim__table_Find_Claim_c1__rows_Claims_c1_1_l a0 (↑(List.length a0) : Int) c1 0) then (bif isL (Option.getD (slices_IndexFunc_Claim__table_Find_Claim_c1__rows_Claims_c1_1_l a0 (↑(List.length a0) : Int) c1 0) default) then some (.s (.v (.int .i64 (getL (Option.getD (slices_IndexFunc_Claim__table_Find_Claim_c1__rows_Claims_c1_1_l a0 (↑(List.length a0) : Int) c1 0) default))))) else some (.s (.v (.int .i64 (-1))))) else none) := by kernel_rfl
noncomputable def slices_IndexFunc_Claim__table_Find_Claim_c1__rows_Claims_c1_enc (r : Int) : A := .s (.v (.int .i64 r))
theorem slices_IndexFunc_Claim__table_Find_Claim_c1__rows_Claims_c1_r (a0 : List Claim) (c1 : Claim) : runA (withN slices_IndexFunc_Claim__table_Find_Claim_c1__rows_Claims_c1_1_E 0) 6 120 [.s (.list .claim a0 []), .s (.fn 128 [(0, 0), (1, 0)])] ⟨[some [.fn 124 []], some [.el .claim c1]], []⟩ = (slices_IndexFunc_Claim__table_Find_Claim_c1__rows_Claims_c1 a0 c1).map slices_IndexFunc_Claim__table_Find_Claim_c1__rows_Claims_c1_enc :=
  (slices_IndexFunc_Claim__table_Find_Claim_c1__rows_Claims_c1_k a0 c1).trans (by unfold slices_IndexFunc_Claim__table_Find_Claim_c1__rows_Claims_c1; exact (mapc (K := slices_IndexFunc_Claim__table_Find_Claim_c1__rows_Claims_c1_enc) _ (mapc (K := slices_IndexFunc_Claim__table_Find_Claim_c1__rows_Claims_c1_enc) _ rfl rfl) rfl))
noncomputable def slices_IndexFunc_Claim__table_Find_Claim_c1__rows_Claims_c1_F (l : List A) (m : List (Option (List C))) : Option (Bool × A) := match (p2 (lCons (rS (cLst .claim)) (lCons (rS (cFn 128 [(0, 0), (1, 0)])) lNil)) (lCons (bS (lCons (cFn 124 []) lNil)) (lCons (bS (lCons (cEl .claim) lNil)) lNil))) (l, m) with
  | some x => some ((slices_IndexFunc_Claim__table_Find_Claim_c1__rows_Claims_c1 x.1.1 x.2.2.1.1).isSome, slices_IndexFunc_Claim__table_Find_Claim_c1__rows_Claims_c1_enc ((slices_IndexFunc_Claim__table_Find_Claim_c1__rows_Claims_c1 x.1.1 x.2.2.1.1).getD default))
  | none => none
noncomputable def slices_IndexFunc_Claim__table_Find_Claim_c1__rows_Claims_c1_E : Env := withG slices_IndexFunc_Claim__table_Find_Claim_c1__rows_Claims_c1_1_E 120 (gOfM slices_IndexFunc_Claim__table_Find_Claim_c1__rows_Claims_c1_1_E 120 [30, 131] slices_IndexFunc_Claim__table_Find_Claim_c1__rows_Claims_c1_F)
theorem slices_IndexFunc_Claim__table_Find_Claim_c1__rows_Claims_c1_ok : AllOK Tryz.prog slices_IndexFunc_Claim__table_Find_Claim_c1__rows_Claims_c1_E := slices_IndexFunc_Claim__table_Find_Claim_c1__rows_Claims_c1_1_ok.fm 6 (fun l m r e hl => by
  unfold slices_IndexFunc_Claim__table_Find_Claim_c1__rows_Claims_c1_F at e
  cases hD : (p2 (lCons (rS (cLst .claim)) (lCons (rS (cFn 128 [(0, 0), (1, 0)])) lNil)) (lCons (bS (lCons (cFn 124 []) lNil)) (lCons (bS (lCons (cEl .claim) lNil)) lNil))) (l, m) with
  | none => rw [hD] at e; cases e
  | some x =>
    rw [hD] at e
    have hE := (p2_ok (lCons_ok (rS_ok (cLst_ok .claim)) (lCons_ok (rS_ok (cFn_ok 128 [(0, 0), (1, 0)])) lNil_ok)) (lCons_ok (bS_ok (lCons_ok (cFn_ok 124 []) lNil_ok)) (lCons_ok (bS_ok (lCons_ok (cEl_ok .claim) lNil_ok)) lNil_ok))) _ _ hD
    have h1 : l = [.s (.list .claim x.1.1 []), .s (.fn 128 [(0, 0), (1, 0)])] := congrArg Prod.fst hE
    have h2 : m = [some [.fn 124 []], some [.el .claim x.2.2.1.1]] := congrArg Prod.snd hE
    subst h1 h2
    simp only [Option.some.injEq, Prod.mk.injEq] at e
    obtain ⟨hs, rfl⟩ := e
    exact ⟨0, get_of (slices_IndexFunc_Claim__table_Find_Claim_c1__rows_Claims_c1_r x.1.1 x.2.2.1.1) hs⟩) (by kernel_rfl)
/-! ### (stevedore/table.Table[stevedore/api.Claim]).Find -/
noncomputable def table_Find_Claim__rows_Claims_c1 (a1 : List Claim) (a2 : Claim) : Option (Int × Bool) :=
  (bif Option.isSome (slices_IndexFunc_Claim__table_Find_Claim_c1__rows_Claims_c1 a1 a2) then (bif decide (Option.getD (slices_IndexFunc_Claim__table_Find_Claim_c1__rows_Claims_c1 a1 a2) default ≥ 0) then some (Option.getD (slices_IndexFunc_Claim__table_Find_Claim_c1__rows_Claims_c1 a1 a2) default, true) else some (0, false)) else none)
theorem table_Find_Claim__rows_Claims_c1_k (a1 : List Claim) (a2 : Claim) : runA (withN slices_IndexFunc_Claim__table_Find_Claim_c1__rows_Claims_c1_E 0) 6 82 [.g [.fn 124 []], .s (.list .claim a1 []), .g [.el .claim a2]] ⟨[], []⟩ =
  (bif Option.isSome (slices_IndexFunc_Claim__table_Find_Claim_c1__rows_Claims_c1 a1 a2) then (bif decide (Option.getD (slices_IndexFunc_Claim__table_Find_Claim_c1__rows_Claims_c1 a1 a2) default ≥ 0) then some (.t [(false, [.v (.int .i64 (Option.getD (slices_IndexFunc_Claim__table_Find_Claim_c1__rows_Claims_c1 a1 a2) default))]), (false, [.v (.bool true)])]) else some (.t [(false, [.v (.int .i64 0)]), (false, [.v (.bool false)])])) else none) := by kernel_rfl
noncomputable def table_Find_Claim__rows_Claims_c1_enc (r : Int × Bool) : A := .t [(false, [.v (.int .i64 r.1)]), (false, [.v (.bool r.2)])]
theorem table_Find_Claim__rows_Claims_c1_r (a1 : List Claim) (a2 : Claim) : runA (withN slices_IndexFunc_Claim__table_Find_Claim_c1__rows_Claims_c1_E 0) 6 82 [.g [.fn 124 []], .s (.list .claim a1 []), .g [.el .claim a2]] ⟨[], []⟩ = (table_Find_Claim__rows_Claims_c1 a1 a2).map table_Find_Claim__rows_Claims_c1_enc :=
  (table_Find_Claim__rows_Claims_c1_k a1 a2).trans (by unfold table_Find_Claim__rows_Claims_c1; exact (mapc (K := table_Find_Claim__rows_Claims_c1_enc) _ (mapc (K := table_Find_Claim__rows_Claims_c1_enc) _ rfl rfl) rfl))
noncomputable def table_Find_Claim__rows_Claims_c1_F (l : List A) (m : List (Option (List C))) : Option (Bool × A) := match (p2 (lCons (rG (lCons (cFn 124 []) lNil)) (lCons (rS (cLst .claim)) (lCons (rG (lCons (cEl .claim) lNil)) lNil))) lNil) (l, m) with
  | some x => some ((table_Find_Claim__rows_Claims_c1 x.1.2.1 x.1.2.2.1.1).isSome, table_Find_Claim__rows_Claims_c1_enc ((table_Find_Claim__rows_Claims_c1 x.1.2.1 x.1.2.2.1.1).getD default))
  | none => none
noncomputable def table_Find_Claim__rows_Claims_c1_E : Env := withG slices_IndexFunc_Claim__table_Find_Claim_c1__rows_Claims_c1_E 82 (gOfM slices_IndexFunc_Claim__table_Find_Claim_c1__rows_Claims_c1_E 82 [149, 30, 49] table_Find_Claim__rows_Claims_c1_F)
theorem table_Find_Claim__rows_Claims_c1_ok : AllOK Tryz.prog table_Find_Claim__rows_Claims_c1_E := slices_IndexFunc_Claim__table_Find_Claim_c1__rows_Claims_c1_ok.fm 6 (fun l m r e hl => by
  unfold table_Find_Claim__rows_Claims_c1_F at e
  cases hD : (p2 (lCons (rG (lCons (cFn 124 []) lNil)) (lCons (rS (cLst .claim)) (lCons (rG (lCons (cEl .claim) lNil)) lNil))) lNil) (l, m) with
  | none => rw [hD] at e; cases e
  | some x =>
    rw [hD] at e
    have hE := (p2_ok (lCons_ok (rG_ok (lCons_ok (cFn_ok 124 []) lNil_ok)) (lCons_ok (rS_ok (cLst_ok .claim)) (lCons_ok (rG_ok (lCons_ok (cEl_ok .claim) lNil_ok)) lNil_ok))) lNil_ok) _ _ hD
    have h1 : l = [.g [.fn 124 []], .s (.list .claim x.1.2.1 []), .g [.el .claim x.1.2.2.1.1]] := congrArg Prod.fst hE
    have h2 : m = [] := congrArg Prod.snd hE
    subst h1 h2
    simp only [Option.some.injEq, Prod.mk.injEq] at e
    obtain ⟨hs, rfl⟩ := e
    exact ⟨0, get_of (table_Find_Claim__rows_Claims_c1_r x.1.2.1 x.1.2.2.1.1) hs⟩) (by kernel_rfl)
/-! ### (stevedore/table.Table[stevedore/api.Claim]).Drop -/
noncomputable def table_Drop_Claim__rows_Claims_c1 (a1 : List Claim) (a2 : Claim) : Option (List Claim) :=
  (bif Nat.ble (List.length a1) 1000000 then (bif Option.isSome (table_Find_Claim__rows_Claims_c1 a1 a2) then (bif Prod.snd (Option.getD (table_Find_Claim__rows_Claims_c1 a1 a2) default) then (bif decide (0 ≤ Prod.fst (Option.getD (table_Find_Claim__rows_Claims_c1 a1 a2) default) ∧ Prod.fst (Option.getD (table_Find_Claim__rows_Claims_c1 a1 a2) default) < IntKind.wrap IntKind.i64 (Prod.fst (Option.getD (table_Find_Claim__rows_Claims_c1 a1 a2) default) + 1) ∧ IntKind.wrap IntKind.i64 (Prod.fst (Option.getD (table_Find_Claim__rows_Claims_c1 a1 a2) default) + 1) ≤ (↑(List.length a1) : Int)) then some (delA a1 (Int.toNat (Prod.fst (Option.getD (table_Find_Claim__rows_Claims_c1 a1 a2) default))) (Int.toNat (IntKind.wrap IntKind.i64 (Prod.fst (Option.getD (table_Find_Claim__rows_Claims_c1 a1 a2) default) + 1)))) else none) else some a1) else none) else none)
theorem table_Drop_Claim__rows_Claims_c1_k (a1 : List Claim) (a2 : Claim) : runA (withN table_Find_Claim__rows_Claims_c1_E 0) 6 83 [.g [.fn 124 []], .s (.list .claim a1 []), .g [.el .claim a2]] ⟨[], []⟩ =
  (bif Nat.ble (List.length a1) 1000000 then (bif Option.isSome (table_Find_Claim__rows_Claims_c1 a1 a2) then (bif Prod.snd (Option.getD (table_Find_Claim__rows_Claims_c1 a1 a2) default) then (bif decide (0 ≤ Prod.fst (Option.getD (table_Find_Claim__rows_Claims_c1 a1 a2) default) ∧ Prod.fst (Option.getD (table_Find_Claim__rows_Claims_c1 a1 a2) default) < IntKind.wrap IntKind.i64 (Prod.fst (Option.getD (table_Find_Claim__rows_Claims_c1 a1 a2) default) + 1) ∧ IntKind.wrap IntKind.i64 (Prod.fst (Option.getD (table_Find_Claim__rows_Claims_c1 a1 a2) default) + 1) ≤ (↑(List.length a1) : Int)) then some (.s (.list .claim (delA a1 (Int.toNat (Prod.fst (Option.getD (table_Find_Claim__rows_Claims_c1 a1 a2) default))) (Int.toNat (IntKind.wrap IntKind.i64 (Prod.fst (Option.getD (table_Find_Claim__rows_Claims_c1 a1 a2) default) + 1)))) [])) else none) else some (.s (.list .claim a1 []))) else none) else none) := by kernel_rfl
noncomputable def table_Drop_Claim__rows_Claims_c1_enc (r : (List Claim)) : A := .s (.list .claim r [])
theorem table_Drop_Claim__rows_Claims_c1_r (a1 : List Claim) (a2 : Claim) : runA (withN table_Find_Claim__rows_Claims_c1_E 0) 6 83 [.g [.fn 124 []], .s (.list .claim a1 []), .g [.el .claim a2]] ⟨[], []⟩ = (table_Drop_Claim__rows_Claims_c1 a1 a2).map table_Drop_Claim__rows_Claims_c1_enc :=
  (table_Drop_Claim__rows_Claims_c1_k a1 a2).trans (by unfold table_Drop_Claim__rows_Claims_c1; exact (mapc (K := table_Drop_Claim__rows_Claims_c1_enc) _ (mapc (K := table_Drop_Claim__rows_Claims_c1_enc) _ (mapc (K := table_Drop_Claim__rows_Claims_c1_enc) _ (mapc (K := table_Drop_Claim__rows_Claims_c1_enc) _ rfl rfl) rfl) rfl) rfl))
noncomputable def table_Drop_Claim__rows_Claims_c1_F (l : List A) (m : List (Option (List C))) : Option (Bool × A) := match (p2 (lCons (rG (lCons (cFn 124 []) lNil)) (lCons (rS (cLst .claim)) (lCons (rG (lCons (cEl .claim) lNil)) lNil))) lNil) (l, m) with
  | some x => some ((table_Drop_Claim__rows_Claims_c1 x.1.2.1 x.1.2.2.1.1).isSome, table_Drop_Claim__rows_Claims_c1_enc ((table_Drop_Claim__rows_Claims_c1 x.1.2.1 x.1.2.2.1.1).getD default))
  | none => none
noncomputable def table_Drop_Claim__rows_Claims_c1_E : Env := withG table_Find_Claim__rows_Claims_c1_E 83 (gOfM table_Find_Claim__rows_Claims_c1_E 83 [149, 30, 49] table_Drop_Claim__rows_Claims_c1_F)
theorem table_Drop_Claim__rows_Claims_c1_ok : AllOK Tryz.prog table_Drop_Claim__rows_Claims_c1_E := table_Find_Claim__rows_Claims_c1_ok.fm 6 (fun l m r e hl => by
  unfold table_Drop_Claim__rows_Claims_c1_F at e
  cases hD : (p2 (lCons (rG (lCons (cFn 124 []) lNil)) (lCons (rS (cLst .claim)) (lCons (rG (lCons (cEl .claim) lNil)) lNil))) lNil) (l, m) with
  | none => rw [hD] at e; cases e
  | some x =>
    rw [hD] at e
    have hE := (p2_ok (lCons_ok (rG_ok (lCons_ok (cFn_ok 124 []) lNil_ok)) (lCons_ok (rS_ok (cLst_ok .claim)) (lCons_ok (rG_ok (lCons_ok (cEl_ok .claim) lNil_ok)) lNil_ok))) lNil_ok) _ _ hD
    have h1 : l = [.g [.fn 124 []], .s (.list .claim x.1.2.1 []), .g [.el .claim x.1.2.2.1.1]] := congrArg Prod.fst hE
    have h2 : m = [] := congrArg Prod.snd hE
    subst h1 h2
    simp only [Option.some.injEq, Prod.mk.injEq] at e
    obtain ⟨hs, rfl⟩ := e
    exact ⟨0, get_of (table_Drop_Claim__rows_Claims_c1_r x.1.2.1 x.1.2.2.1.1) hs⟩) (by kernel_rfl)
/-! ### slices.IndexFunc[[]stevedore/api.Claim,stevedore/api.Claim]: loop 1 -/
noncomputable def slices_IndexFunc_Claim__table_Put_Claim_c1__rows_Claims_c1_1_L : Live := ⟨19, 21, [0, 1, 7, 8], [0, 1], [], [0, 0]⟩
noncomputable def slices_IndexFunc_Claim__table_Put_Claim_c1__rows_Claims_c1_1_e (x : ((List Claim) × Int × Claim) × (Int)) : V := ([.s (.list .claim x.1.1 []), .s (.fn 131 [(0, 0), (1, 0)]), .s (.v (.int .i64 x.1.2.1)), .s (.v (.int .i64 x.2))], [some [.fn 124 []], some [.el .claim x.1.2.2]], [])
noncomputable def slices_IndexFunc_Claim__table_Put_Claim_c1__rows_Claims_c1_1_d : V → Option (((List Claim) × Int × Claim) × (Int)) := fun v => ((p2 (lCons (rS (cLst .claim)) (lCons (rS (cFn 131 [(0, 0), (1, 0)])) (lCons (rS cInt) (lCons (rS cInt) lNil)))) (p2 (lCons (bS (lCons (cFn 124 []) lNil)) (lCons (bS (lCons (cEl .claim) lNil)) lNil)) lNil)) v).map fun x => ((x.1.1, x.1.2.2.1, x.2.1.2.1.1), x.1.2.2.2.1)
theorem slices_IndexFunc_Claim__table_Put_Claim_c1__rows_Claims_c1_1_dk : ∀ v s, slices_IndexFunc_Claim__table_Put_Claim_c1__rows_Claims_c1_1_d v = some s → v = slices_IndexFunc_Claim__table_Put_Claim_c1__rows_Claims_c1_1_e s := map_ok (p2_ok (lCons_ok (rS_ok (cLst_ok .claim)) (lCons_ok (rS_ok (cFn_ok 131 [(0, 0), (1, 0)])) (lCons_ok (rS_ok cInt_ok) (lCons_ok (rS_ok cInt_ok) lNil_ok)))) (p2_ok (lCons_ok (bS_ok (lCons_ok (cFn_ok 124 []) lNil_ok)) (lCons_ok (bS_ok (lCons_ok (cEl_ok .claim) lNil_ok)) lNil_ok)) lNil_ok)) (fun _ => by kernel_rfl)
noncomputable def slices_IndexFunc_Claim__table_Put_Claim_c1__rows_Claims_c1_1_x1 (x : Int) : V := ([.s (.v (.int .i64 x))], [], [])
noncomputable def slices_IndexFunc_Claim__table_Put_Claim_c1__rows_Claims_c1_1_x1_d : V → Option (Int) := fun v => ((p2 (lCons (rS cInt) lNil) (p2 lNil lNil)) v).map fun x => x.1.1
theorem slices_IndexFunc_Claim__table_Put_Claim_c1__rows_Claims_c1_1_x1_dk : ∀ v s, slices_IndexFunc_Claim__table_Put_Claim_c1__rows_Claims_c1_1_x1_d v = some s → v = slices_IndexFunc_Claim__table_Put_Claim_c1__rows_Claims_c1_1_x1 s := map_ok (p2_ok (lCons_ok (rS_ok cInt_ok) lNil_ok) (p2_ok lNil_ok lNil_ok)) (fun _ => by kernel_rfl)
noncomputable def slices_IndexFunc_Claim__table_Put_Claim_c1__rows_Claims_c1_1_x2 (x : Unit) : V := ([], [], [])
noncomputable def slices_IndexFunc_Claim__table_Put_Claim_c1__rows_Claims_c1_1_x2_d : V → Option (Unit) := fun v => ((p2 lNil (p2 lNil lNil)) v).map fun x => ()
theorem slices_IndexFunc_Claim__table_Put_Claim_c1__rows_Claims_c1_1_x2_dk : ∀ v s, slices_IndexFunc_Claim__table_Put_Claim_c1__rows_Claims_c1_1_x2_d v = some s → v = slices_IndexFunc_Claim__table_Put_Claim_c1__rows_Claims_c1_1_x2 s := map_ok (p2_ok lNil_ok (p2_ok lNil_ok lNil_ok)) (fun _ => by kernel_rfl)
noncomputable def slices_IndexFunc_Claim__table_Put_Claim_c1__rows_Claims_c1_1_X (e : Ex) : Live := bif exEq e (.ret) then ⟨19, 21, [4], [], [], []⟩ else bif exEq e (.exit 0) then ⟨19, 21, [], [], [], []⟩ else slices_IndexFunc_Claim__table_Put_Claim_c1__rows_Claims_c1_1_L
noncomputable def slices_IndexFunc_Claim__table_Put_Claim_c1__rows_Claims_c1_1_dx (e : Ex) (v : V) : Option (Int ⊕ Unit) := match exEq e (.ret) with
  | true => (slices_IndexFunc_Claim__table_Put_Claim_c1__rows_Claims_c1_1_x1_d v).map fun d => .inl d
  | false => match exEq e (.exit 0) with
  | true => (slices_IndexFunc_Claim__table_Put_Claim_c1__rows_Claims_c1_1_x2_d v).map fun d => .inr d
  | false => none
noncomputable def slices_IndexFunc_Claim__table_Put_Claim_c1__rows_Claims_c1_1_ex (x : (Int ⊕ Unit)) : Ex × V := match x with
  | .inl d => (.ret, slices_IndexFunc_Claim__table_Put_Claim_c1__rows_Claims_c1_1_x1 d)
  | .inr d => (.exit 0, slices_IndexFunc_Claim__table_Put_Claim_c1__rows_Claims_c1_1_x2 d)
theorem slices_IndexFunc_Claim__table_Put_Claim_c1__rows_Claims_c1_1_dxk : ∀ e v r, slices_IndexFunc_Claim__table_Put_Claim_c1__rows_Claims_c1_1_dx e v = some r → slices_IndexFunc_Claim__table_Put_Claim_c1__rows_Claims_c1_1_ex r = (e, v) := by
  intro e v r h
  unfold slices_IndexFunc_Claim__table_Put_Claim_c1__rows_Claims_c1_1_dx at h
  split at h
  · rename_i he
    obtain ⟨d, hd, rfl⟩ := Option.map_eq_some_iff.1 h
    rw [exEq_eq he, slices_IndexFunc_Claim__table_Put_Claim_c1__rows_Claims_c1_1_x1_dk _ _ hd]
    rfl
  · split at h
    · rename_i he
      obtain ⟨d, hd, rfl⟩ := Option.map_eq_some_iff.1 h
      rw [exEq_eq he, slices_IndexFunc_Claim__table_Put_Claim_c1__rows_Claims_c1_1_x2_dk _ _ hd]
      rfl
    · cases h
noncomputable def slices_IndexFunc_Claim__table_Put_Claim_c1__rows_Claims_c1_1_s (t0 : List Claim) (t7 : Int) (b1 : Claim) (t8 : Int) : Option ((Int) ⊕ (Int ⊕ Unit)) :=
  (bif decide (t8 < t7) then (bif decide (0 ≤ t8 ∧ t8 < (↑(List.length t0) : Int)) then (bif decide (rows_Claims_c1 (rd Ty.claim t0 (Int.toNat t8)) b1 > 0) then some (.inr (.inl t8)) else some (.inl (IntKind.wrap IntKind.i64 (t8 + 1)))) else none) else some (.inr (.inr ())))
noncomputable def slices_IndexFunc_Claim__table_Put_Claim_c1__rows_Claims_c1_1_l (t0 : List Claim) (t7 : Int) (b1 : Claim) (t8 : Int) : Option (Int ⊕ Unit) := run (fun s : Int => slices_IndexFunc_Claim__table_Put_Claim_c1__rows_Claims_c1_1_s t0 t7 b1 s) t8
noncomputable def slices_IndexFunc_Claim__table_Put_Claim_c1__rows_Claims_c1_1_lf (p : (List Claim) × Int × Claim) (r : (Int ⊕ Unit)) : (Int ⊕ Unit) := match r with
  | .inl d => .inl d
  | .inr d => .inr ()
noncomputable def slices_IndexFunc_Claim__table_Put_Claim_c1__rows_Claims_c1_1_f (x : ((List Claim) × Int × Claim) × (Int)) (k : Ex → St → Option A) : Option A :=
  bif (slices_IndexFunc_Claim__table_Put_Claim_c1__rows_Claims_c1_1_l x.1.1 x.1.2.1 x.1.2.2 x.2).isSome then (bif isL ((slices_IndexFunc_Claim__table_Put_Claim_c1__rows_Claims_c1_1_l x.1.1 x.1.2.1 x.1.2.2 x.2).getD default) then k (.ret) (build ⟨19, 21, [4], [], [], []⟩ (slices_IndexFunc_Claim__table_Put_Claim_c1__rows_Claims_c1_1_x1 (getL ((slices_IndexFunc_Claim__table_Put_Claim_c1__rows_Claims_c1_1_l x.1.1 x.1.2.1 x.1.2.2 x.2).getD default)))) else k (.exit 0) (build ⟨19, 21, [], [], [], []⟩ (slices_IndexFunc_Claim__table_Put_Claim_c1__rows_Claims_c1_1_x2 ()))) else none
theorem slices_IndexFunc_Claim__table_Put_Claim_c1__rows_Claims_c1_1_k (t0 : List Claim) (t7 : Int) (t8 : Int) (b1 : Claim) (K : (((List Claim) × Int × Claim) × (Int)) ⊕ (Int ⊕ Unit) → Option A) : ev table_Drop_Claim__rows_Claims_c1_E (callA table_Drop_Claim__rows_Claims_c1_E 6) 120 2 (loopAt table_Drop_Claim__rows_Claims_c1_E 120 0) 0 (build slices_IndexFunc_Claim__table_Put_Claim_c1__rows_Claims_c1_1_L (slices_IndexFunc_Claim__table_Put_Claim_c1__rows_Claims_c1_1_e ((t0, t7, b1), t8))) (obs table_Drop_Claim__rows_Claims_c1_E slices_IndexFunc_Claim__table_Put_Claim_c1__rows_Claims_c1_1_L slices_IndexFunc_Claim__table_Put_Claim_c1__rows_Claims_c1_1_X slices_IndexFunc_Claim__table_Put_Claim_c1__rows_Claims_c1_1_d slices_IndexFunc_Claim__table_Put_Claim_c1__rows_Claims_c1_1_dx K) =
  (bif decide (t8 < t7) then (bif decide (0 ≤ t8 ∧ t8 < (↑(List.length t0) : Int)) then (bif decide (rows_Claims_c1 (rd Ty.claim t0 (Int.toNat t8)) b1 > 0) then K (.inr (.inl t8)) else K (.inl ((t0, t7, b1), IntKind.wrap IntKind.i64 (t8 + 1)))) else none) else K (.inr (.inr ()))) := by kernel_rfl
noncomputable def slices_IndexFunc_Claim__table_Put_Claim_c1__rows_Claims_c1_1_E : Env := withS table_Drop_Claim__rows_Claims_c1_E 120 0 (sumV table_Drop_Claim__rows_Claims_c1_E 120 0 2 slices_IndexFunc_Claim__table_Put_Claim_c1__rows_Claims_c1_1_L slices_IndexFunc_Claim__table_Put_Claim_c1__rows_Claims_c1_1_d slices_IndexFunc_Claim__table_Put_Claim_c1__rows_Claims_c1_1_f)
theorem slices_IndexFunc_Claim__table_Put_Claim_c1__rows_Claims_c1_1_ok : AllOK Tryz.prog slices_IndexFunc_Claim__table_Put_Claim_c1__rows_Claims_c1_1_E :=
  table_Drop_Claim__rows_Claims_c1_ok.loopP 6 (step := fun p s => slices_IndexFunc_Claim__table_Put_Claim_c1__rows_Claims_c1_1_s p.1 p.2.1 p.2.2 s) (lift := slices_IndexFunc_Claim__table_Put_Claim_c1__rows_Claims_c1_1_lf) (enc := slices_IndexFunc_Claim__table_Put_Claim_c1__rows_Claims_c1_1_e) (encx := slices_IndexFunc_Claim__table_Put_Claim_c1__rows_Claims_c1_1_ex) slices_IndexFunc_Claim__table_Put_Claim_c1__rows_Claims_c1_1_dk slices_IndexFunc_Claim__table_Put_Claim_c1__rows_Claims_c1_1_dxk
    (by
      rintro ⟨t0, t7, b1⟩ t8 K
      refine (slices_IndexFunc_Claim__table_Put_Claim_c1__rows_Claims_c1_1_k t0 t7 t8 b1 K).trans ?_
      unfold slices_IndexFunc_Claim__table_Put_Claim_c1__rows_Claims_c1_1_s
      exact (bndc _ (bndc _ (bndc _ rfl rfl) rfl) rfl))
    (by
      intro p s k x e
      unfold slices_IndexFunc_Claim__table_Put_Claim_c1__rows_Claims_c1_1_f at e
      cases hr : slices_IndexFunc_Claim__table_Put_Claim_c1__rows_Claims_c1_1_l p.1 p.2.1 p.2.2 s with
      | none =>
        rw [hr] at e
        cases e
      | some r =>
      rw [hr] at e
      refine ⟨r, hr, ?_⟩
      rcases r with d | d <;> exact e) (by kernel_rfl)
/-! ### slices.IndexFunc[[]stevedore/api.Claim,stevedore/api.Claim] -/
noncomputable def slices_IndexFunc_Claim__table_Put_Claim_c1__rows_Claims_c1 (a0 : List Claim) (c1 : Claim) : Option Int :=
  (bif Option.isSome (slices_IndexFunc_Claim__table_Put_Claim_c1__rows_Claims_c1_1_l a0 (↑(List.length a0) : Int) c1 0) then (bif isL (Option.getD (slices_IndexFunc_Claim__table_Put_Claim_c1__rows_Claims_c1_1_l a0 (↑(List.length a0) : Int) c1 0) default) then some (getL (Option.getD (slices_IndexFunc_Claim__table_Put_Claim_c1__rows_Claims_c1_1_l a0 (↑(List.length a0) : Int) c1 0) default)) else some (-1)) else none)
theorem slices_IndexFunc_Claim__table_Put_Claim_c1__rows_Claims_c1_k (a0 : List Claim) (c1 : Claim) : runA (withN slices_IndexFunc_Claim__table_Put_Claim_c1__rows_Claims_c1_1_E 0) 6 120 [.s (.list .claim a0 []), .s (.fn 131 [(0, 0), (1, 0)])] ⟨[some [.fn 124 []], some [.el .claim c1]], []⟩ =
  (bif Option.isSome (slices_IndexFunc_Claim__table_Put_Claim_c1__rows_Claims_c1_1_l a0 (↑(List.length a0) : Int) c1 0) then (bif isL (Option.getD (slices_IndexFunc_Claim__table_Put_Claim_c1__rows_Claims_c1_1_l a0 (↑(List.length a0) : Int) c1 0) default) then some (.s (.v (.int .i64 (getL (Option.getD (slices_IndexFunc_Claim__table_Put_Claim_c1__rows_Claims_c1_1_l a0 (↑(List.length a0) : Int) c1 0) default))))) else some (.s (.v (.int .i64 (-1))))) else none) := by kernel_rfl
noncomputable def slices_IndexFunc_Claim__table_Put_Claim_c1__rows_Claims_c1_enc (r : Int) : A := .s (.v (.int .i64 r))
theorem slices_IndexFunc_Claim__table_Put_Claim_c1__rows_Claims_c1_r (a0 : List Claim) (c1 : Claim) : runA (withN slices_IndexFunc_Claim__table_Put_Claim_c1__rows_Claims_c1_1_E 0) 6 120 [.s (.list .claim a0 []), .s (.fn 131 [(0, 0), (1, 0)])] ⟨[some [.fn 124 []], some [.el .claim c1]], []⟩ = (slices_IndexFunc_Claim__table_Put_Claim_c1__rows_Claims_c1 a0 c1).map slices_IndexFunc_Claim__table_Put_Claim_c1__rows_Claims_c1_enc :=
  (slices_IndexFunc_Claim__table_Put_Claim_c1__rows_Claims_c1_k a0 c1).trans (by unfold slices_IndexFunc_Claim__table_Put_Claim_c1__rows_Claims_c1; exact (mapc (K := slices_IndexFunc_Claim__table_Put_Claim_c1__rows_Claims_c1_enc) _ (mapc (K := slices_IndexFunc_Claim__table_Put_Claim_c1__rows_Claims_c1_enc) _ rfl rfl) rfl))
noncomputable def slices_IndexFunc_Claim__table_Put_Claim_c1__rows_Claims_c1_F (l : List A) (m : List (Option (List C))) : Option (Bool × A) := match (p2 (lCons (rS (cLst .claim)) (lCons (rS (cFn 131 [(0, 0), (1, 0)])) lNil)) (lCons (bS (lCons (cFn 124 []) lNil)) (lCons (bS (lCons (cEl .claim) lNil)) lNil))) (l, m) with
  | some x => some ((slices_IndexFunc_Claim__table_Put_Claim_c1__rows_Claims_c1 x.1.1 x.2.2.1.1).isSome, slices_IndexFunc_Claim__table_Put_Claim_c1__rows_Claims_c1_enc ((slices_IndexFunc_Claim__table_Put_Claim_c1__rows_Claims_c1 x.1.1 x.2.2.1.1).getD default))
  | none => none
noncomputable def slices_IndexFunc_Claim__table_Put_Claim_c1__rows_Claims_c1_E : Env := withG slices_IndexFunc_Claim__table_Put_Claim_c1__rows_Claims_c1_1_E 120 (gOfM slices_IndexFunc_Claim__table_Put_Claim_c1__rows_Claims_c1_1_E 120 [30, 131] slices_IndexFunc_Claim__table_Put_Claim_c1__rows_Claims_c1_F)
theorem slices_IndexFunc_Claim__table_Put_Claim_c1__rows_Claims_c1_ok : AllOK Tryz.prog slices_IndexFunc_Claim__table_Put_Claim_c1__rows_Claims_c1_E := slices_IndexFunc_Claim__table_Put_Claim_c1__rows_Claims_c1_1_ok.fm 6 (fun l m r e hl => by
  unfold slices_IndexFunc_Claim__table_Put_Claim_c1__rows_Claims_c1_F at e
  cases hD : (p2 (lCons (rS (cLst .claim)) (lCons (rS (cFn 131 [(0, 0), (1, 0)])) lNil)) (lCons (bS (lCons (cFn 124 []) lNil)) (lCons (bS (lCons (cEl .claim) lNil)) lNil))) (l, m) with
  | none => rw [hD] at e; cases e
  | some x =>
    rw [hD] at e
    have hE := (p2_ok (lCons_ok (rS_ok (cLst_ok .claim)) (lCons_ok (rS_ok (cFn_ok 131 [(0, 0), (1, 0)])) lNil_ok)) (lCons_ok (bS_ok (lCons_ok (cFn_ok 124 []) lNil_ok)) (lCons_ok (bS_ok (lCons_ok (cEl_ok .claim) lNil_ok)) lNil_ok))) _ _ hD
    have h1 : l = [.s (.list .claim x.1.1 []), .s (.fn 131 [(0, 0), (1, 0)])] := congrArg Prod.fst hE
    have h2 : m = [some [.fn 124 []], some [.el .claim x.2.2.1.1]] := congrArg Prod.snd hE
    subst h1 h2
    simp only [Option.some.injEq, Prod.mk.injEq] at e
    obtain ⟨hs, rfl⟩ := e
    exact ⟨0, get_of (slices_IndexFunc_Claim__table_Put_Claim_c1__rows_Claims_c1_r x.1.1 x.2.2.1.1) hs⟩) (by kernel_rfl)
/-! ### (stevedore/table.Table[stevedore/api.Claim]).Put -/
noncomputable def table_Put_Claim__rows_Claims_c1 (a1 : List Claim) (a2 : Claim) : Option (List Claim) :=
  (bif Nat.ble (List.length a1) 1000000 then (bif Option.isSome (table_Find_Claim__rows_Claims_c1 a1 a2) then (bif Prod.snd (Option.getD (table_Find_Claim__rows_Claims_c1 a1 a2) default) then (bif decide (0 ≤ Prod.fst (Option.getD (table_Find_Claim__rows_Claims_c1 a1 a2) default) ∧ Prod.fst (Option.getD (table_Find_Claim__rows_Claims_c1 a1 a2) default) < (↑(List.length a1) : Int)) then some (List.set a1 (Int.toNat (Prod.fst (Option.getD (table_Find_Claim__rows_Claims_c1 a1 a2) default))) a2) else none) else (bif Option.isSome (slices_IndexFunc_Claim__table_Put_Claim_c1__rows_Claims_c1 a1 a2) then (bif decide (Option.getD (slices_IndexFunc_Claim__table_Put_Claim_c1__rows_Claims_c1 a1 a2) default < 0) then (bif decide (0 ≤ (↑(List.length a1) : Int) ∧ (↑(List.length a1) : Int) ≤ (↑(List.length a1) : Int)) && Nat.ble (List.length a1) 1000000 then some (insA a1 (List.length a1) a2) else none) else (bif decide (0 ≤ Option.getD (slices_IndexFunc_Claim__table_Put_Claim_c1__rows_Claims_c1 a1 a2) default ∧ Option.getD (slices_IndexFunc_Claim__table_Put_Claim_c1__rows_Claims_c1 a1 a2) default ≤ (↑(List.length a1) : Int)) && Nat.ble (List.length a1) 1000000 then some (insA a1 (Int.toNat (Option.getD (slices_IndexFunc_Claim__table_Put_Claim_c1__rows_Claims_c1 a1 a2) default)) a2) else none)) else none)) else none) else none)
theorem table_Put_Claim__rows_Claims_c1_k (a1 : List Claim) (a2 : Claim) : runA (withN slices_IndexFunc_Claim__table_Put_Claim_c1__rows_Claims_c1_E 0) 6 84 [.g [.fn 124 []], .s (.list .claim a1 []), .g [.el .claim a2]] ⟨[], []⟩ =
  (bif Nat.ble (List.length a1) 1000000 then (bif Option.isSome (table_Find_Claim__rows_Claims_c1 a1 a2) then (bif Prod.snd (Option.getD (table_Find_Claim__rows_Claims_c1 a1 a2) default) then (bif decide (0 ≤ Prod.fst (Option.getD (table_Find_Claim__rows_Claims_c1 a1 a2) default) ∧ Prod.fst (Option.getD (table_Find_Claim__rows_Claims_c1 a1 a2) default) < (↑(List.length a1) : Int)) then some (.s (.list .claim (List.set a1 (Int.toNat (Prod.fst (Option.getD (table_Find_Claim__rows_Claims_c1 a1 a2) default))) a2) [])) else none) else (bif Option.isSome (slices_IndexFunc_Claim__table_Put_Claim_c1__rows_Claims_c1 a1 a2) then (bif decide (Option.getD (slices_IndexFunc_Claim__table_Put_Claim_c1__rows_Claims_c1 a1 a2) default < 0) then (bif decide (0 ≤ (↑(List.length a1) : Int) ∧ (↑(List.length a1) : Int) ≤ (↑(List.length a1) : Int)) && Nat.ble (List.length a1) 1000000 then some (.s (.list .claim (insA a1 (List.length a1) a2) [])) else none) else (bif decide (0 ≤ Option.getD (slices_IndexFunc_Claim__table_Put_Claim_c1__rows_Claims_c1 a1 a2) default ∧ Option.getD (slices_IndexFunc_Claim__table_Put_Claim_c1__rows_Claims_c1 a1 a2) default ≤ (↑(List.length a1) : Int)) && Nat.ble (List.length a1) 1000000 then some (.s (.list .claim (insA a1 (Int.toNat (Option.getD (slices_IndexFunc_Claim__table_Put_Claim_c1__rows_Claims_c1 a1 a2) default)) a2) [])) else none)) else none)) else none) else none) := by kernel_rfl
noncomputable def table_Put_Claim__rows_Claims_c1_enc (r : (List Claim)) : A := .s (.list .claim r [])
theorem table_Put_Claim__rows_Claims_c1_r (a1 : List Claim) (a2 : Claim) : runA (withN slices_IndexFunc_Claim__table_Put_Claim_c1__rows_Claims_c1_E 0) 6 84 [.g [.fn 124 []], .s (.list .claim a1 []), .g [.el .claim a2]] ⟨[], []⟩ = (table_Put_Claim__rows_Claims_c1 a1 a2).map table_Put_Claim__rows_Claims_c1_enc :=
  (table_Put_Claim__rows_Claims_c1_k a1 a2).trans (by unfold table_Put_Claim__rows_Claims_c1; exact (mapc (K := table_Put_Claim__rows_Claims_c1_enc) _ (mapc (K := table_Put_Claim__rows_Claims_c1_enc) _ (mapc (K := table_Put_Claim__rows_Claims_c1_enc) _ (mapc (K := table_Put_Claim__rows_Claims_c1_enc) _ rfl rfl) (mapc (K := table_Put_Claim__rows_Claims_c1_enc) _ (mapc (K := table_Put_Claim__rows_Claims_c1_enc) _ (mapc (K := table_Put_Claim__rows_Claims_c1_enc) _ rfl rfl) (mapc (K := table_Put_Claim__rows_Claims_c1_enc) _ rfl rfl)) rfl)) rfl) rfl))
noncomputable def table_Put_Claim__rows_Claims_c1_F (l : List A) (m : List (Option (List C))) : Option (Bool × A) := match (p2 (lCons (rG (lCons (cFn 124 []) lNil)) (lCons (rS (cLst .claim)) (lCons (rG (lCons (cEl .claim) lNil)) lNil))) lNil) (l, m) with
  | some x => some ((table_Put_Claim__rows_Claims_c1 x.1.2.1 x.1.2.2.1.1).isSome, table_Put_Claim__rows_Claims_c1_enc ((table_Put_Claim__rows_Claims_c1 x.1.2.1 x.1.2.2.1.1).getD default))
  | none => none
noncomputable def table_Put_Claim__rows_Claims_c1_E : Env := withG slices_IndexFunc_Claim__table_Put_Claim_c1__rows_Claims_c1_E 84 (gOfM slices_IndexFunc_Claim__table_Put_Claim_c1__rows_Claims_c1_E 84 [149, 30, 49] table_Put_Claim__rows_Claims_c1_F)
theorem table_Put_Claim__rows_Claims_c1_ok : AllOK Tryz.prog table_Put_Claim__rows_Claims_c1_E := slices_IndexFunc_Claim__table_Put_Claim_c1__rows_Claims_c1_ok.fm 6 (fun l m r e hl => by
  unfold table_Put_Claim__rows_Claims_c1_F at e
  cases hD : (p2 (lCons (rG (lCons (cFn 124 []) lNil)) (lCons (rS (cLst .claim)) (lCons (rG (lCons (cEl .claim) lNil)) lNil))) lNil) (l, m) with
  | none => rw [hD] at e; cases e
  | some x =>
    rw [hD] at e
    have hE := (p2_ok (lCons_ok (rG_ok (lCons_ok (cFn_ok 124 []) lNil_ok)) (lCons_ok (rS_ok (cLst_ok .claim)) (lCons_ok (rG_ok (lCons_ok (cEl_ok .claim) lNil_ok)) lNil_ok))) lNil_ok) _ _ hD
    have h1 : l = [.g [.fn 124 []], .s (.list .claim x.1.2.1 []), .g [.el .claim x.1.2.2.1.1]] := congrArg Prod.fst hE
    have h2 : m = [] := congrArg Prod.snd hE
    subst h1 h2
    simp only [Option.some.injEq, Prod.mk.injEq] at e
    obtain ⟨hs, rfl⟩ := e
    exact ⟨0, get_of (table_Put_Claim__rows_Claims_c1_r x.1.2.1 x.1.2.2.1.1) hs⟩) (by kernel_rfl)
/-! ### stevedore/alloc.Claim -/
noncomputable def alloc_Claim (a0 : House) (a1 : Claim) : Option (House × Int) :=
  (bif Option.isSome (table_Find_Claim__rows_Claims_c1 (House.claims a0) a1) then (bif Prod.snd (Option.getD (table_Find_Claim__rows_Claims_c1 (House.claims a0) a1) default) then (bif decide (0 ≤ Prod.fst (Option.getD (table_Find_Claim__rows_Claims_c1 (House.claims a0) a1) default) ∧ Prod.fst (Option.getD (table_Find_Claim__rows_Claims_c1 (House.claims a0) a1) default) < (↑(List.length (House.claims a0)) : Int)) then (bif IntKind.wrap IntKind.i64 (Claim.qty a1 + Claim.qty (rd Ty.claim (House.claims a0) (Int.toNat (Prod.fst (Option.getD (table_Find_Claim__rows_Claims_c1 (House.claims a0) a1) default))))) == 0 then (bif Option.isSome (table_Drop_Claim__rows_Claims_c1 (House.claims a0) { order := Claim.order a1, line := Claim.line a1, key := Claim.key a1, qty := IntKind.wrap IntKind.i64 (Claim.qty a1 + Claim.qty (rd Ty.claim (House.claims a0) (Int.toNat (Prod.fst (Option.getD (table_Find_Claim__rows_Claims_c1 (House.claims a0) a1) default))))), task := Claim.task a1 : Claim }) then some (({ a0 with claims := Option.getD (table_Drop_Claim__rows_Claims_c1 (House.claims a0) { order := Claim.order a1, line := Claim.line a1, key := Claim.key a1, qty := IntKind.wrap IntKind.i64 (Claim.qty a1 + Claim.qty (rd Ty.claim (House.claims a0) (Int.toNat (Prod.fst (Option.getD (table_Find_Claim__rows_Claims_c1 (House.claims a0) a1) default))))), task := Claim.task a1 : Claim }) default } : House), 0) else none) else (bif Option.isSome (table_Put_Claim__rows_Claims_c1 (House.claims a0) { order := Claim.order a1, line := Claim.line a1, key := Claim.key a1, qty := IntKind.wrap IntKind.i64 (Claim.qty a1 + Claim.qty (rd Ty.claim (House.claims a0) (Int.toNat (Prod.fst (Option.getD (table_Find_Claim__rows_Claims_c1 (House.claims a0) a1) default))))), task := Claim.task a1 : Claim }) then some (({ a0 with claims := Option.getD (table_Put_Claim__rows_Claims_c1 (House.claims a0) { order := Claim.order a1, line := Claim.line a1, key := Claim.key a1, qty := IntKind.wrap IntKind.i64 (Claim.qty a1 + Claim.qty (rd Ty.claim (House.claims a0) (Int.toNat (Prod.fst (Option.getD (table_Find_Claim__rows_Claims_c1 (House.claims a0) a1) default))))), task := Claim.task a1 : Claim }) default } : House), 0) else none)) else none) else (bif Claim.qty a1 != 0 then (bif decide ((↑(List.length (House.claims a0)) : Int) ≥ 128) then some (house0, 14) else (bif Claim.qty a1 == 0 then (bif Option.isSome (table_Drop_Claim__rows_Claims_c1 (House.claims a0) a1) then some (({ a0 with claims := Option.getD (table_Drop_Claim__rows_Claims_c1 (House.claims a0) a1) default } : House), 0) else none) else (bif Option.isSome (table_Put_Claim__rows_Claims_c1 (House.claims a0) a1) then some (({ a0 with claims := Option.getD (table_Put_Claim__rows_Claims_c1 (House.claims a0) a1) default } : House), 0) else none))) else (bif Claim.qty a1 == 0 then (bif Option.isSome (table_Drop_Claim__rows_Claims_c1 (House.claims a0) a1) then some (({ a0 with claims := Option.getD (table_Drop_Claim__rows_Claims_c1 (House.claims a0) a1) default } : House), 0) else none) else (bif Option.isSome (table_Put_Claim__rows_Claims_c1 (House.claims a0) a1) then some (({ a0 with claims := Option.getD (table_Put_Claim__rows_Claims_c1 (House.claims a0) a1) default } : House), 0) else none)))) else none)
theorem alloc_Claim_k (a0 : House) (a1 : Claim) : runA (withN table_Put_Claim__rows_Claims_c1_E 0) 6 23 [.g (hC a0), .g [.el .claim a1]] ⟨[], []⟩ =
  (bif Option.isSome (table_Find_Claim__rows_Claims_c1 (House.claims a0) a1) then (bif Prod.snd (Option.getD (table_Find_Claim__rows_Claims_c1 (House.claims a0) a1) default) then (bif decide (0 ≤ Prod.fst (Option.getD (table_Find_Claim__rows_Claims_c1 (House.claims a0) a1) default) ∧ Prod.fst (Option.getD (table_Find_Claim__rows_Claims_c1 (House.claims a0) a1) default) < (↑(List.length (House.claims a0)) : Int)) then (bif IntKind.wrap IntKind.i64 (Claim.qty a1 + Claim.qty (rd Ty.claim (House.claims a0) (Int.toNat (Prod.fst (Option.getD (table_Find_Claim__rows_Claims_c1 (House.claims a0) a1) default))))) == 0 then (bif Option.isSome (table_Drop_Claim__rows_Claims_c1 (House.claims a0) { order := Claim.order a1, line := Claim.line a1, key := Claim.key a1, qty := IntKind.wrap IntKind.i64 (Claim.qty a1 + Claim.qty (rd Ty.claim (House.claims a0) (Int.toNat (Prod.fst (Option.getD (table_Find_Claim__rows_Claims_c1 (House.claims a0) a1) default))))), task := Claim.task a1 : Claim }) then some (.t [(true, hC ({ a0 with claims := Option.getD (table_Drop_Claim__rows_Claims_c1 (House.claims a0) { order := Claim.order a1, line := Claim.line a1, key := Claim.key a1, qty := IntKind.wrap IntKind.i64 (Claim.qty a1 + Claim.qty (rd Ty.claim (House.claims a0) (Int.toNat (Prod.fst (Option.getD (table_Find_Claim__rows_Claims_c1 (House.claims a0) a1) default))))), task := Claim.task a1 : Claim }) default } : House)), (false, [.v (.int .i64 0)])]) else none) else (bif Option.isSome (table_Put_Claim__rows_Claims_c1 (House.claims a0) { order := Claim.order a1, line := Claim.line a1, key := Claim.key a1, qty := IntKind.wrap IntKind.i64 (Claim.qty a1 + Claim.qty (rd Ty.claim (House.claims a0) (Int.toNat (Prod.fst (Option.getD (table_Find_Claim__rows_Claims_c1 (House.claims a0) a1) default))))), task := Claim.task a1 : Claim }) then some (.t [(true, hC ({ a0 with claims := Option.getD (table_Put_Claim__rows_Claims_c1 (House.claims a0) { order := Claim.order a1, line := Claim.line a1, key := Claim.key a1, qty := IntKind.wrap IntKind.i64 (Claim.qty a1 + Claim.qty (rd Ty.claim (House.claims a0) (Int.toNat (Prod.fst (Option.getD (table_Find_Claim__rows_Claims_c1 (House.claims a0) a1) default))))), task := Claim.task a1 : Claim }) default } : House)), (false, [.v (.int .i64 0)])]) else none)) else none) else (bif Claim.qty a1 != 0 then (bif decide ((↑(List.length (House.claims a0)) : Int) ≥ 128) then some (.t [(true, hC house0), (false, [.v (.int .i64 14)])]) else (bif Claim.qty a1 == 0 then (bif Option.isSome (table_Drop_Claim__rows_Claims_c1 (House.claims a0) a1) then some (.t [(true, hC ({ a0 with claims := Option.getD (table_Drop_Claim__rows_Claims_c1 (House.claims a0) a1) default } : House)), (false, [.v (.int .i64 0)])]) else none) else (bif Option.isSome (table_Put_Claim__rows_Claims_c1 (House.claims a0) a1) then some (.t [(true, hC ({ a0 with claims := Option.getD (table_Put_Claim__rows_Claims_c1 (House.claims a0) a1) default } : House)), (false, [.v (.int .i64 0)])]) else none))) else (bif Claim.qty a1 == 0 then (bif Option.isSome (table_Drop_Claim__rows_Claims_c1 (House.claims a0) a1) then some (.t [(true, hC ({ a0 with claims := Option.getD (table_Drop_Claim__rows_Claims_c1 (House.claims a0) a1) default } : House)), (false, [.v (.int .i64 0)])]) else none) else (bif Option.isSome (table_Put_Claim__rows_Claims_c1 (House.claims a0) a1) then some (.t [(true, hC ({ a0 with claims := Option.getD (table_Put_Claim__rows_Claims_c1 (House.claims a0) a1) default } : House)), (false, [.v (.int .i64 0)])]) else none)))) else none) := by kernel_rfl
noncomputable def alloc_Claim_enc (r : House × Int) : A := .t [(true, hC r.1), (false, [.v (.int .i64 r.2)])]
theorem alloc_Claim_r (a0 : House) (a1 : Claim) : runA (withN table_Put_Claim__rows_Claims_c1_E 0) 6 23 [.g (hC a0), .g [.el .claim a1]] ⟨[], []⟩ = (alloc_Claim a0 a1).map alloc_Claim_enc :=
  (alloc_Claim_k a0 a1).trans (by unfold alloc_Claim; exact (mapc (K := alloc_Claim_enc) _ (mapc (K := alloc_Claim_enc) _ (mapc (K := alloc_Claim_enc) _ (mapc (K := alloc_Claim_enc) _ (mapc (K := alloc_Claim_enc) _ rfl rfl) (mapc (K := alloc_Claim_enc) _ rfl rfl)) rfl) (mapc (K := alloc_Claim_enc) _ (mapc (K := alloc_Claim_enc) _ rfl (mapc (K := alloc_Claim_enc) _ (mapc (K := alloc_Claim_enc) _ rfl rfl) (mapc (K := alloc_Claim_enc) _ rfl rfl))) (mapc (K := alloc_Claim_enc) _ (mapc (K := alloc_Claim_enc) _ rfl rfl) (mapc (K := alloc_Claim_enc) _ rfl rfl)))) rfl))
noncomputable def alloc_Claim_F (l : List A) (m : List (Option (List C))) : Option (Bool × A) := match (p2 (lCons (rG cH) (lCons (rG (lCons (cEl .claim) lNil)) lNil)) lNil) (l, m) with
  | some x => some ((alloc_Claim x.1.1 x.1.2.1.1).isSome, alloc_Claim_enc ((alloc_Claim x.1.1 x.1.2.1.1).getD default))
  | none => none
noncomputable def alloc_Claim_E : Env := withG table_Put_Claim__rows_Claims_c1_E 23 (gOfM table_Put_Claim__rows_Claims_c1_E 23 [37, 49] alloc_Claim_F)
theorem alloc_Claim_ok : AllOK Tryz.prog alloc_Claim_E := table_Put_Claim__rows_Claims_c1_ok.fm 6 (fun l m r e hl => by
  unfold alloc_Claim_F at e
  cases hD : (p2 (lCons (rG cH) (lCons (rG (lCons (cEl .claim) lNil)) lNil)) lNil) (l, m) with
  | none => rw [hD] at e; cases e
  | some x =>
    rw [hD] at e
    have hE := (p2_ok (lCons_ok (rG_ok cH_ok) (lCons_ok (rG_ok (lCons_ok (cEl_ok .claim) lNil_ok)) lNil_ok)) lNil_ok) _ _ hD
    have h1 : l = [.g (hC x.1.1), .g [.el .claim x.1.2.1.1]] := congrArg Prod.fst hE
    have h2 : m = [] := congrArg Prod.snd hE
    subst h1 h2
    simp only [Option.some.injEq, Prod.mk.injEq] at e
    obtain ⟨hs, rfl⟩ := e
    exact ⟨0, get_of (alloc_Claim_r x.1.1 x.1.2.1.1) hs⟩) (by kernel_rfl)
/-! ### stevedore/stevedorerows.Texts: loop 1 -/
noncomputable def rows_Texts_1_L : Live := ⟨30, 30, [0, 1, 5], [], [], []⟩
noncomputable def rows_Texts_1_e (x : ((List Str) × (List Str)) × (Int)) : V := ([.s (.list .str x.1.1 []), .s (.list .str x.1.2 []), .s (.v (.int .i64 x.2))], [], [])
noncomputable def rows_Texts_1_d : V → Option (((List Str) × (List Str)) × (Int)) := fun v => ((p2 (lCons (rS (cLst .str)) (lCons (rS (cLst .str)) (lCons (rS cInt) lNil))) (p2 lNil lNil)) v).map fun x => ((x.1.1, x.1.2.1), x.1.2.2.1)
theorem rows_Texts_1_dk : ∀ v s, rows_Texts_1_d v = some s → v = rows_Texts_1_e s := map_ok (p2_ok (lCons_ok (rS_ok (cLst_ok .str)) (lCons_ok (rS_ok (cLst_ok .str)) (lCons_ok (rS_ok cInt_ok) lNil_ok))) (p2_ok lNil_ok lNil_ok)) (fun _ => by kernel_rfl)
noncomputable def rows_Texts_1_x1 (x : Int) : V := ([.s (.v (.int .i64 x))], [], [])
noncomputable def rows_Texts_1_x1_d : V → Option (Int) := fun v => ((p2 (lCons (rS cInt) lNil) (p2 lNil lNil)) v).map fun x => x.1.1
theorem rows_Texts_1_x1_dk : ∀ v s, rows_Texts_1_x1_d v = some s → v = rows_Texts_1_x1 s := map_ok (p2_ok (lCons_ok (rS_ok cInt_ok) lNil_ok) (p2_ok lNil_ok lNil_ok)) (fun _ => by kernel_rfl)
noncomputable def rows_Texts_1_x2 (x : Unit) : V := ([], [], [])
noncomputable def rows_Texts_1_x2_d : V → Option (Unit) := fun v => ((p2 lNil (p2 lNil lNil)) v).map fun x => ()
theorem rows_Texts_1_x2_dk : ∀ v s, rows_Texts_1_x2_d v = some s → v = rows_Texts_1_x2 s := map_ok (p2_ok lNil_ok (p2_ok lNil_ok lNil_ok)) (fun _ => by kernel_rfl)
noncomputable def rows_Texts_1_X (e : Ex) : Live := bif exEq e (.ret) then ⟨30, 30, [4], [], [], []⟩ else bif exEq e (.exit 0) then ⟨30, 30, [], [], [], []⟩ else rows_Texts_1_L
noncomputable def rows_Texts_1_dx (e : Ex) (v : V) : Option (Int ⊕ Unit) := match exEq e (.ret) with
  | true => (rows_Texts_1_x1_d v).map fun d => .inl d
  | false => match exEq e (.exit 0) with
  | true => (rows_Texts_1_x2_d v).map fun d => .inr d
  | false => none
noncomputable def rows_Texts_1_ex (x : (Int ⊕ Unit)) : Ex × V := match x with
  | .inl d => (.ret, rows_Texts_1_x1 d)
  | .inr d => (.exit 0, rows_Texts_1_x2 d)
theorem rows_Texts_1_dxk : ∀ e v r, rows_Texts_1_dx e v = some r → rows_Texts_1_ex r = (e, v) := by
  intro e v r h
  unfold rows_Texts_1_dx at h
  split at h
  · rename_i he
    obtain ⟨d, hd, rfl⟩ := Option.map_eq_some_iff.1 h
    rw [exEq_eq he, rows_Texts_1_x1_dk _ _ hd]
    rfl
  · split at h
    · rename_i he
      obtain ⟨d, hd, rfl⟩ := Option.map_eq_some_iff.1 h
      rw [exEq_eq he, rows_Texts_1_x2_dk _ _ hd]
      rfl
    · cases h
noncomputable def rows_Texts_1_s (t0 : List Str) (t1 : List Str) (t5 : Int) : Option ((Int) ⊕ (Int ⊕ Unit)) :=
  (bif decide (t5 < (↑(List.length t0) : Int)) then (bif decide (0 ≤ t5 ∧ t5 < (↑(List.length t0) : Int)) then (bif decide (0 ≤ t5 ∧ t5 < (↑(List.length t1) : Int)) then (bif Op.bytesLess (ByteArray.toList (rd Ty.str t0 (Int.toNat t5))) (ByteArray.toList (rd Ty.str t1 (Int.toNat t5))) then some (.inr (.inl (-1))) else (bif decide (0 ≤ t5 ∧ t5 < (↑(List.length t0) : Int)) then (bif decide (0 ≤ t5 ∧ t5 < (↑(List.length t1) : Int)) then (bif !(Op.bytesLess (ByteArray.toList (rd Ty.str t0 (Int.toNat t5))) (ByteArray.toList (rd Ty.str t1 (Int.toNat t5))) || ByteArray.toList (rd Ty.str t0 (Int.toNat t5)) == ByteArray.toList (rd Ty.str t1 (Int.toNat t5))) then some (.inr (.inl 1)) else some (.inl (IntKind.wrap IntKind.i64 (t5 + 1)))) else none) else none)) else none) else none) else some (.inr (.inr ())))
noncomputable def rows_Texts_1_l (t0 : List Str) (t1 : List Str) (t5 : Int) : Option (Int ⊕ Unit) := run (fun s : Int => rows_Texts_1_s t0 t1 s) t5
noncomputable def rows_Texts_1_lf (p : (List Str) × (List Str)) (r : (Int ⊕ Unit)) : (Int ⊕ Unit) := match r with
  | .inl d => .inl d
  | .inr d => .inr ()
noncomputable def rows_Texts_1_f (x : ((List Str) × (List Str)) × (Int)) (k : Ex → St → Option A) : Option A :=
  bif (rows_Texts_1_l x.1.1 x.1.2 x.2).isSome then (bif isL ((rows_Texts_1_l x.1.1 x.1.2 x.2).getD default) then k (.ret) (build ⟨30, 30, [4], [], [], []⟩ (rows_Texts_1_x1 (getL ((rows_Texts_1_l x.1.1 x.1.2 x.2).getD default)))) else k (.exit 0) (build ⟨30, 30, [], [], [], []⟩ (rows_Texts_1_x2 ()))) else none
theorem rows_Texts_1_k (t0 : List Str) (t1 : List Str) (t5 : Int) (K : (((List Str) × (List Str)) × (Int)) ⊕ (Int ⊕ Unit) → Option A) : ev alloc_Claim_E (callA alloc_Claim_E 6) 171 0 (loopAt alloc_Claim_E 171 0) 0 (build rows_Texts_1_L (rows_Texts_1_e ((t0, t1), t5))) (obs alloc_Claim_E rows_Texts_1_L rows_Texts_1_X rows_Texts_1_d rows_Texts_1_dx K) =
  (bif decide (t5 < (↑(List.length t0) : Int)) then (bif decide (0 ≤ t5 ∧ t5 < (↑(List.length t0) : Int)) then (bif decide (0 ≤ t5 ∧ t5 < (↑(List.length t1) : Int)) then (bif Op.bytesLess (ByteArray.toList (rd Ty.str t0 (Int.toNat t5))) (ByteArray.toList (rd Ty.str t1 (Int.toNat t5))) then K (.inr (.inl (-1))) else (bif decide (0 ≤ t5 ∧ t5 < (↑(List.length t0) : Int)) then (bif decide (0 ≤ t5 ∧ t5 < (↑(List.length t1) : Int)) then (bif !(Op.bytesLess (ByteArray.toList (rd Ty.str t0 (Int.toNat t5))) (ByteArray.toList (rd Ty.str t1 (Int.toNat t5))) || ByteArray.toList (rd Ty.str t0 (Int.toNat t5)) == ByteArray.toList (rd Ty.str t1 (Int.toNat t5))) then K (.inr (.inl 1)) else K (.inl ((t0, t1), IntKind.wrap IntKind.i64 (t5 + 1)))) else none) else none)) else none) else none) else K (.inr (.inr ()))) := by kernel_rfl
noncomputable def rows_Texts_1_E : Env := withS alloc_Claim_E 171 0 (sumV alloc_Claim_E 171 0 0 rows_Texts_1_L rows_Texts_1_d rows_Texts_1_f)
theorem rows_Texts_1_ok : AllOK Tryz.prog rows_Texts_1_E :=
  alloc_Claim_ok.loopP 6 (step := fun p s => rows_Texts_1_s p.1 p.2 s) (lift := rows_Texts_1_lf) (enc := rows_Texts_1_e) (encx := rows_Texts_1_ex) rows_Texts_1_dk rows_Texts_1_dxk
    (by
      rintro ⟨t0, t1⟩ t5 K
      refine (rows_Texts_1_k t0 t1 t5 K).trans ?_
      unfold rows_Texts_1_s
      exact (bndc _ (bndc _ (bndc _ (bndc _ rfl (bndc _ (bndc _ (bndc _ rfl rfl) rfl) rfl)) rfl) rfl) rfl))
    (by
      intro p s k x e
      unfold rows_Texts_1_f at e
      cases hr : rows_Texts_1_l p.1 p.2 s with
      | none =>
        rw [hr] at e
        cases e
      | some r =>
      rw [hr] at e
      refine ⟨r, hr, ?_⟩
      rcases r with d | d <;> exact e) (by kernel_rfl)
/-! ### stevedore/stevedorerows.Texts -/
noncomputable def rows_Texts (a0 : List Str) (a1 : List Str) : Option Int :=
  (bif Option.isSome (rows_Texts_1_l a0 a1 0) then (bif isL (Option.getD (rows_Texts_1_l a0 a1 0) default) then some (getL (Option.getD (rows_Texts_1_l a0 a1 0) default)) else some 0) else none)
theorem rows_Texts_k (a0 : List Str) (a1 : List Str) : runA (withN rows_Texts_1_E 0) 6 171 [.s (.list .str a0 []), .s (.list .str a1 [])] ⟨[], []⟩ =
  (bif Option.isSome (rows_Texts_1_l a0 a1 0) then (bif isL (Option.getD (rows_Texts_1_l a0 a1 0) default) then some (.s (.v (.int .i64 (getL (Option.getD (rows_Texts_1_l a0 a1 0) default))))) else some (.s (.v (.int .i64 0)))) else none) := by kernel_rfl
noncomputable def rows_Texts_enc (r : Int) : A := .s (.v (.int .i64 r))
theorem rows_Texts_r (a0 : List Str) (a1 : List Str) : runA (withN rows_Texts_1_E 0) 6 171 [.s (.list .str a0 []), .s (.list .str a1 [])] ⟨[], []⟩ = (rows_Texts a0 a1).map rows_Texts_enc :=
  (rows_Texts_k a0 a1).trans (by unfold rows_Texts; exact (mapc (K := rows_Texts_enc) _ (mapc (K := rows_Texts_enc) _ rfl rfl) rfl))
noncomputable def rows_Texts_F (l : List A) (m : List (Option (List C))) : Option (Bool × A) := match (p2 (lCons (rS (cLst .str)) (lCons (rS (cLst .str)) lNil)) lNil) (l, m) with
  | some x => some ((rows_Texts x.1.1 x.1.2.1).isSome, rows_Texts_enc ((rows_Texts x.1.1 x.1.2.1).getD default))
  | none => none
noncomputable def rows_Texts_E : Env := withG rows_Texts_1_E 171 (gOfM rows_Texts_1_E 171 [64, 64] rows_Texts_F)
theorem rows_Texts_ok : AllOK Tryz.prog rows_Texts_E := rows_Texts_1_ok.fm 6 (fun l m r e hl => by
  unfold rows_Texts_F at e
  cases hD : (p2 (lCons (rS (cLst .str)) (lCons (rS (cLst .str)) lNil)) lNil) (l, m) with
  | none => rw [hD] at e; cases e
  | some x =>
    rw [hD] at e
    have hE := (p2_ok (lCons_ok (rS_ok (cLst_ok .str)) (lCons_ok (rS_ok (cLst_ok .str)) lNil_ok)) lNil_ok) _ _ hD
    have h1 : l = [.s (.list .str x.1.1 []), .s (.list .str x.1.2.1 [])] := congrArg Prod.fst hE
    have h2 : m = [] := congrArg Prod.snd hE
    subst h1 h2
    simp only [Option.some.injEq, Prod.mk.injEq] at e
    obtain ⟨hs, rfl⟩ := e
    exact ⟨0, get_of (rows_Texts_r x.1.1 x.1.2.1) hs⟩) (by kernel_rfl)
/-! ### stevedore/stevedorerows.numbers -/
noncomputable def rows_numbers (a0 : Int) (a1 : Int) : Int :=
  (bif decide (a0 < a1) then -1 else (bif decide (a0 > a1) then 1 else 0))
theorem rows_numbers_k (a0 : Int) (a1 : Int) : runA (withN rows_Texts_E 0) 6 179 [.s (.v (.int .i64 a0)), .s (.v (.int .i64 a1))] ⟨[], []⟩ =
  (bif decide (a0 < a1) then some (.s (.v (.int .i64 (-1)))) else (bif decide (a0 > a1) then some (.s (.v (.int .i64 1))) else some (.s (.v (.int .i64 0))))) := by kernel_rfl
noncomputable def rows_numbers_enc (r : Int) : A := .s (.v (.int .i64 r))
theorem rows_numbers_r (a0 : Int) (a1 : Int) : runA (withN rows_Texts_E 0) 6 179 [.s (.v (.int .i64 a0)), .s (.v (.int .i64 a1))] ⟨[], []⟩ = some (rows_numbers_enc (rows_numbers a0 a1)) :=
  (rows_numbers_k a0 a1).trans (by unfold rows_numbers; exact (somc (K := rows_numbers_enc) _ rfl (somc (K := rows_numbers_enc) _ rfl rfl)))
noncomputable def rows_numbers_F (l : List A) (m : List (Option (List C))) : Option (Bool × A) := match (p2 (lCons (rS cInt) (lCons (rS cInt) lNil)) lNil) (l, m) with
  | some x => some (true, rows_numbers_enc (rows_numbers x.1.1 x.1.2.1))
  | none => none
noncomputable def rows_numbers_E : Env := withG rows_Texts_E 179 (gOfM rows_Texts_E 179 [3, 3] rows_numbers_F)
theorem rows_numbers_ok : AllOK Tryz.prog rows_numbers_E := rows_Texts_ok.fm 6 (fun l m r e hl => by
  unfold rows_numbers_F at e
  cases hD : (p2 (lCons (rS cInt) (lCons (rS cInt) lNil)) lNil) (l, m) with
  | none => rw [hD] at e; cases e
  | some x =>
    rw [hD] at e
    have hE := (p2_ok (lCons_ok (rS_ok cInt_ok) (lCons_ok (rS_ok cInt_ok) lNil_ok)) lNil_ok) _ _ hD
    have h1 : l = [.s (.v (.int .i64 x.1.1)), .s (.v (.int .i64 x.1.2.1))] := congrArg Prod.fst hE
    have h2 : m = [] := congrArg Prod.snd hE
    subst h1 h2
    cases e
    exact ⟨0, rows_numbers_r x.1.1 x.1.2.1⟩) (by kernel_rfl)
/-! ### stevedore/stevedorerows.Keys -/
noncomputable def rows_Keys (a0 : Key) (a1 : Key) : Option Int :=
  (bif Option.isSome (rows_Texts [Key.bin a0, Key.item a0, Key.lot a0] [Key.bin a1, Key.item a1, Key.lot a1]) then (bif Option.getD (rows_Texts [Key.bin a0, Key.item a0, Key.lot a0] [Key.bin a1, Key.item a1, Key.lot a1]) default != 0 then some (Option.getD (rows_Texts [Key.bin a0, Key.item a0, Key.lot a0] [Key.bin a1, Key.item a1, Key.lot a1]) default) else (bif decide (Key.status a0 < Key.status a1) then some (-1) else (bif decide (Key.status a0 > Key.status a1) then some 1 else some 0))) else none)
theorem rows_Keys_k (a0 : Key) (a1 : Key) : runA (withN rows_numbers_E 0) 6 180 [.g [.el .key a0], .g [.el .key a1]] ⟨[], []⟩ =
  (bif Option.isSome (rows_Texts [Key.bin a0, Key.item a0, Key.lot a0] [Key.bin a1, Key.item a1, Key.lot a1]) then (bif Option.getD (rows_Texts [Key.bin a0, Key.item a0, Key.lot a0] [Key.bin a1, Key.item a1, Key.lot a1]) default != 0 then some (.s (.v (.int .i64 (Option.getD (rows_Texts [Key.bin a0, Key.item a0, Key.lot a0] [Key.bin a1, Key.item a1, Key.lot a1]) default)))) else (bif decide (Key.status a0 < Key.status a1) then some (.s (.v (.int .i64 (-1)))) else (bif decide (Key.status a0 > Key.status a1) then some (.s (.v (.int .i64 1))) else some (.s (.v (.int .i64 0)))))) else none) := by kernel_rfl
noncomputable def rows_Keys_enc (r : Int) : A := .s (.v (.int .i64 r))
theorem rows_Keys_r (a0 : Key) (a1 : Key) : runA (withN rows_numbers_E 0) 6 180 [.g [.el .key a0], .g [.el .key a1]] ⟨[], []⟩ = (rows_Keys a0 a1).map rows_Keys_enc :=
  (rows_Keys_k a0 a1).trans (by unfold rows_Keys; exact (mapc (K := rows_Keys_enc) _ (mapc (K := rows_Keys_enc) _ rfl (mapc (K := rows_Keys_enc) _ rfl (mapc (K := rows_Keys_enc) _ rfl rfl))) rfl))
noncomputable def rows_Keys_F (l : List A) (m : List (Option (List C))) : Option (Bool × A) := match (p2 (lCons (rG (lCons (cEl .key) lNil)) (lCons (rG (lCons (cEl .key) lNil)) lNil)) lNil) (l, m) with
  | some x => some ((rows_Keys x.1.1.1 x.1.2.1.1).isSome, rows_Keys_enc ((rows_Keys x.1.1.1 x.1.2.1.1).getD default))
  | none => none
noncomputable def rows_Keys_E : Env := withG rows_numbers_E 180 (gOfM rows_numbers_E 180 [47, 47] rows_Keys_F)
theorem rows_Keys_ok : AllOK Tryz.prog rows_Keys_E := rows_numbers_ok.fm 6 (fun l m r e hl => by
  unfold rows_Keys_F at e
  cases hD : (p2 (lCons (rG (lCons (cEl .key) lNil)) (lCons (rG (lCons (cEl .key) lNil)) lNil)) lNil) (l, m) with
  | none => rw [hD] at e; cases e
  | some x =>
    rw [hD] at e
    have hE := (p2_ok (lCons_ok (rG_ok (lCons_ok (cEl_ok .key) lNil_ok)) (lCons_ok (rG_ok (lCons_ok (cEl_ok .key) lNil_ok)) lNil_ok)) lNil_ok) _ _ hD
    have h1 : l = [.g [.el .key x.1.1.1], .g [.el .key x.1.2.1.1]] := congrArg Prod.fst hE
    have h2 : m = [] := congrArg Prod.snd hE
    subst h1 h2
    simp only [Option.some.injEq, Prod.mk.injEq] at e
    obtain ⟨hs, rfl⟩ := e
    exact ⟨0, get_of (rows_Keys_r x.1.1.1 x.1.2.1.1) hs⟩) (by kernel_rfl)
/-! ### stevedore/stevedorerows.claims -/
noncomputable def rows_claims (a0 : Claim) (a1 : Claim) : Option Int :=
  (bif Option.isSome (rows_Texts [Claim.order a0] [Claim.order a1]) then (bif Option.getD (rows_Texts [Claim.order a0] [Claim.order a1]) default == 0 then (bif rows_numbers (Claim.line a0) (Claim.line a1) == 0 then (bif Option.isSome (rows_Keys (Claim.key a0) (Claim.key a1)) then (bif Option.getD (rows_Keys (Claim.key a0) (Claim.key a1)) default == 0 then some (rows_numbers (Claim.task a0) (Claim.task a1)) else some (Option.getD (rows_Keys (Claim.key a0) (Claim.key a1)) default)) else none) else (bif rows_numbers (Claim.line a0) (Claim.line a1) == 0 then some (rows_numbers (Claim.task a0) (Claim.task a1)) else some (rows_numbers (Claim.line a0) (Claim.line a1)))) else (bif Option.getD (rows_Texts [Claim.order a0] [Claim.order a1]) default == 0 then (bif Option.isSome (rows_Keys (Claim.key a0) (Claim.key a1)) then (bif Option.getD (rows_Keys (Claim.key a0) (Claim.key a1)) default == 0 then some (rows_numbers (Claim.task a0) (Claim.task a1)) else some (Option.getD (rows_Keys (Claim.key a0) (Claim.key a1)) default)) else none) else (bif Option.getD (rows_Texts [Claim.order a0] [Claim.order a1]) default == 0 then some (rows_numbers (Claim.task a0) (Claim.task a1)) else some (Option.getD (rows_Texts [Claim.order a0] [Claim.order a1]) default)))) else none)
theorem rows_claims_k (a0 : Claim) (a1 : Claim) : runA (withN rows_Keys_E 0) 6 134 [.g [.el .claim a0], .g [.el .claim a1]] ⟨[], []⟩ =
  (bif Option.isSome (rows_Texts [Claim.order a0] [Claim.order a1]) then (bif Option.getD (rows_Texts [Claim.order a0] [Claim.order a1]) default == 0 then (bif rows_numbers (Claim.line a0) (Claim.line a1) == 0 then (bif Option.isSome (rows_Keys (Claim.key a0) (Claim.key a1)) then (bif Option.getD (rows_Keys (Claim.key a0) (Claim.key a1)) default == 0 then some (.s (.v (.int .i64 (rows_numbers (Claim.task a0) (Claim.task a1))))) else some (.s (.v (.int .i64 (Option.getD (rows_Keys (Claim.key a0) (Claim.key a1)) default))))) else none) else (bif rows_numbers (Claim.line a0) (Claim.line a1) == 0 then some (.s (.v (.int .i64 (rows_numbers (Claim.task a0) (Claim.task a1))))) else some (.s (.v (.int .i64 (rows_numbers (Claim.line a0) (Claim.line a1))))))) else (bif Option.getD (rows_Texts [Claim.order a0] [Claim.order a1]) default == 0 then (bif Option.isSome (rows_Keys (Claim.key a0) (Claim.key a1)) then (bif Option.getD (rows_Keys (Claim.key a0) (Claim.key a1)) default == 0 then some (.s (.v (.int .i64 (rows_numbers (Claim.task a0) (Claim.task a1))))) else some (.s (.v (.int .i64 (Option.getD (rows_Keys (Claim.key a0) (Claim.key a1)) default))))) else none) else (bif Option.getD (rows_Texts [Claim.order a0] [Claim.order a1]) default == 0 then some (.s (.v (.int .i64 (rows_numbers (Claim.task a0) (Claim.task a1))))) else some (.s (.v (.int .i64 (Option.getD (rows_Texts [Claim.order a0] [Claim.order a1]) default))))))) else none) := by kernel_rfl
noncomputable def rows_claims_enc (r : Int) : A := .s (.v (.int .i64 r))
theorem rows_claims_r (a0 : Claim) (a1 : Claim) : runA (withN rows_Keys_E 0) 6 134 [.g [.el .claim a0], .g [.el .claim a1]] ⟨[], []⟩ = (rows_claims a0 a1).map rows_claims_enc :=
  (rows_claims_k a0 a1).trans (by unfold rows_claims; exact (mapc (K := rows_claims_enc) _ (mapc (K := rows_claims_enc) _ (mapc (K := rows_claims_enc) _ (mapc (K := rows_claims_enc) _ (mapc (K := rows_claims_enc) _ rfl rfl) rfl) (mapc (K := rows_claims_enc) _ rfl rfl)) (mapc (K := rows_claims_enc) _ (mapc (K := rows_claims_enc) _ (mapc (K := rows_claims_enc) _ rfl rfl) rfl) (mapc (K := rows_claims_enc) _ rfl rfl))) rfl))
noncomputable def rows_claims_F (l : List A) (m : List (Option (List C))) : Option (Bool × A) := match (p2 (lCons (rG (lCons (cEl .claim) lNil)) (lCons (rG (lCons (cEl .claim) lNil)) lNil)) lNil) (l, m) with
  | some x => some ((rows_claims x.1.1.1 x.1.2.1.1).isSome, rows_claims_enc ((rows_claims x.1.1.1 x.1.2.1.1).getD default))
  | none => none
noncomputable def rows_claims_E : Env := withG rows_Keys_E 134 (gOfM rows_Keys_E 134 [49, 49] rows_claims_F)
theorem rows_claims_ok : AllOK Tryz.prog rows_claims_E := rows_Keys_ok.fm 6 (fun l m r e hl => by
  unfold rows_claims_F at e
  cases hD : (p2 (lCons (rG (lCons (cEl .claim) lNil)) (lCons (rG (lCons (cEl .claim) lNil)) lNil)) lNil) (l, m) with
  | none => rw [hD] at e; cases e
  | some x =>
    rw [hD] at e
    have hE := (p2_ok (lCons_ok (rG_ok (lCons_ok (cEl_ok .claim) lNil_ok)) (lCons_ok (rG_ok (lCons_ok (cEl_ok .claim) lNil_ok)) lNil_ok)) lNil_ok) _ _ hD
    have h1 : l = [.g [.el .claim x.1.1.1], .g [.el .claim x.1.2.1.1]] := congrArg Prod.fst hE
    have h2 : m = [] := congrArg Prod.snd hE
    subst h1 h2
    simp only [Option.some.injEq, Prod.mk.injEq] at e
    obtain ⟨hs, rfl⟩ := e
    exact ⟨0, get_of (rows_claims_r x.1.1.1 x.1.2.1.1) hs⟩) (by kernel_rfl)
/-! ### stevedore/stevedorerows.drop[stevedore/api.Claim]: loop 1 -/
noncomputable def rows_drop_Claim__rows_claims_1_L : Live := ⟨36, 36, [0, 2, 4, 7, 8, 9], [4], [7], [49]⟩
noncomputable def rows_drop_Claim__rows_claims_1_e (x : ((List Claim) × Claim) × (Bool × Int × (List Claim))) : V := ([.s (.list .claim x.1.1 []), .s (.fn 134 []), .s (.ptr 4 0), .s (.own 7), .s (.v (.bool x.2.1)), .s (.v (.int .i64 x.2.2.1))], [some [.el .claim x.1.2]], [some ⟨49, .claim, x.2.2.2⟩])
noncomputable def rows_drop_Claim__rows_claims_1_d : V → Option (((List Claim) × Claim) × (Bool × Int × (List Claim))) := fun v => ((p2 (lCons (rS (cLst .claim)) (lCons (rS (cFn 134 [])) (lCons (rS (cPtr 4 0)) (lCons (rS (cOwn 7)) (lCons (rS cBool) (lCons (rS cInt) lNil)))))) (p2 (lCons (bS (lCons (cEl .claim) lNil)) lNil) (lCons (oS 49 .claim) lNil))) v).map fun x => ((x.1.1, x.2.1.1.1), (x.1.2.2.2.2.1, x.1.2.2.2.2.2.1, x.2.2.1))
theorem rows_drop_Claim__rows_claims_1_dk : ∀ v s, rows_drop_Claim__rows_claims_1_d v = some s → v = rows_drop_Claim__rows_claims_1_e s := map_ok (p2_ok (lCons_ok (rS_ok (cLst_ok .claim)) (lCons_ok (rS_ok (cFn_ok 134 [])) (lCons_ok (rS_ok (cPtr_ok 4 0)) (lCons_ok (rS_ok (cOwn_ok 7)) (lCons_ok (rS_ok cBool_ok) (lCons_ok (rS_ok cInt_ok) lNil_ok)))))) (p2_ok (lCons_ok (bS_ok (lCons_ok (cEl_ok .claim) lNil_ok)) lNil_ok) (lCons_ok (oS_ok 49 .claim) lNil_ok))) (fun _ => by kernel_rfl)
noncomputable def rows_drop_Claim__rows_claims_1_x1 (x : (List Claim)) : V := ([.s (.own 7)], [], [some ⟨49, .claim, x⟩])
noncomputable def rows_drop_Claim__rows_claims_1_x1_d : V → Option ((List Claim)) := fun v => ((p2 (lCons (rS (cOwn 7)) lNil) (p2 lNil (lCons (oS 49 .claim) lNil))) v).map fun x => x.2.2.1
theorem rows_drop_Claim__rows_claims_1_x1_dk : ∀ v s, rows_drop_Claim__rows_claims_1_x1_d v = some s → v = rows_drop_Claim__rows_claims_1_x1 s := map_ok (p2_ok (lCons_ok (rS_ok (cOwn_ok 7)) lNil_ok) (p2_ok lNil_ok (lCons_ok (oS_ok 49 .claim) lNil_ok))) (fun _ => by kernel_rfl)
noncomputable def rows_drop_Claim__rows_claims_1_X (e : Ex) : Live := bif exEq e (.exit 0) then ⟨36, 36, [7], [], [7], []⟩ else rows_drop_Claim__rows_claims_1_L
noncomputable def rows_drop_Claim__rows_claims_1_dx (e : Ex) (v : V) : Option (List Claim) := match exEq e (.exit 0) with
  | true => (rows_drop_Claim__rows_claims_1_x1_d v).map fun d => d
  | false => none
noncomputable def rows_drop_Claim__rows_claims_1_ex (x : (List Claim)) : Ex × V := (.exit 0, rows_drop_Claim__rows_claims_1_x1 x)
theorem rows_drop_Claim__rows_claims_1_dxk : ∀ e v r, rows_drop_Claim__rows_claims_1_dx e v = some r → rows_drop_Claim__rows_claims_1_ex r = (e, v) := by
  intro e v r h
  unfold rows_drop_Claim__rows_claims_1_dx at h
  split at h
  · rename_i he
    obtain ⟨d, hd, rfl⟩ := Option.map_eq_some_iff.1 h
    rw [exEq_eq he, rows_drop_Claim__rows_claims_1_x1_dk _ _ hd]
    rfl
  · cases h
noncomputable def rows_drop_Claim__rows_claims_1_s (t0 : List Claim) (b4 : Claim) (t8 : Bool) (t9 : Int) (o7 : List Claim) : Option ((Bool × Int × (List Claim)) ⊕ (List Claim)) :=
  (bif decide (t9 < (↑(List.length t0) : Int)) then (bif !t8 then (bif decide (0 ≤ t9 ∧ t9 < (↑(List.length t0) : Int)) then (bif Option.isSome (rows_claims (rd Ty.claim t0 (Int.toNat t9)) b4) then (bif Option.getD (rows_claims (rd Ty.claim t0 (Int.toNat t9)) b4) default == 0 then some (.inl (true, IntKind.wrap IntKind.i64 (t9 + 1), o7)) else (bif decide (0 ≤ t9 ∧ t9 < (↑(List.length t0) : Int)) then (bif Nat.ble (List.length o7 + List.length [rd Ty.claim t0 (Int.toNat t9)]) big then some (.inl (t8, IntKind.wrap IntKind.i64 (t9 + 1), o7 ++ [rd Ty.claim t0 (Int.toNat t9)])) else none) else none)) else none) else none) else (bif decide (0 ≤ t9 ∧ t9 < (↑(List.length t0) : Int)) then (bif Nat.ble (List.length o7 + List.length [rd Ty.claim t0 (Int.toNat t9)]) big then some (.inl (t8, IntKind.wrap IntKind.i64 (t9 + 1), o7 ++ [rd Ty.claim t0 (Int.toNat t9)])) else none) else none)) else some (.inr o7))
noncomputable def rows_drop_Claim__rows_claims_1_l (t0 : List Claim) (b4 : Claim) (t8 : Bool) (t9 : Int) (o7 : List Claim) : Option (List Claim) := run (fun s : Bool × Int × (List Claim) => rows_drop_Claim__rows_claims_1_s t0 b4 s.1 s.2.1 s.2.2) (t8, t9, o7)
noncomputable def rows_drop_Claim__rows_claims_1_lf (p : (List Claim) × Claim) (r : (List Claim)) : (List Claim) := r
noncomputable def rows_drop_Claim__rows_claims_1_f (x : ((List Claim) × Claim) × (Bool × Int × (List Claim))) (k : Ex → St → Option A) : Option A :=
  bif (rows_drop_Claim__rows_claims_1_l x.1.1 x.1.2 x.2.1 x.2.2.1 x.2.2.2).isSome then (k (.exit 0) (build ⟨36, 36, [7], [], [7], []⟩ (rows_drop_Claim__rows_claims_1_x1 ((rows_drop_Claim__rows_claims_1_l x.1.1 x.1.2 x.2.1 x.2.2.1 x.2.2.2).getD default)))) else none
theorem rows_drop_Claim__rows_claims_1_k (t0 : List Claim) (t8 : Bool) (t9 : Int) (b4 : Claim) (o7 : List Claim) (K : (((List Claim) × Claim) × (Bool × Int × (List Claim))) ⊕ (List Claim) → Option A) : ev rows_claims_E (callA rows_claims_E 6) 133 0 (loopAt rows_claims_E 133 0) 0 (build rows_drop_Claim__rows_claims_1_L (rows_drop_Claim__rows_claims_1_e ((t0, b4), (t8, t9, o7)))) (obs rows_claims_E rows_drop_Claim__rows_claims_1_L rows_drop_Claim__rows_claims_1_X rows_drop_Claim__rows_claims_1_d rows_drop_Claim__rows_claims_1_dx K) =
  (bif decide (t9 < (↑(List.length t0) : Int)) then (bif !t8 then (bif decide (0 ≤ t9 ∧ t9 < (↑(List.length t0) : Int)) then (bif Option.isSome (rows_claims (rd Ty.claim t0 (Int.toNat t9)) b4) then (bif Option.getD (rows_claims (rd Ty.claim t0 (Int.toNat t9)) b4) default == 0 then K (.inl ((t0, b4), (true, IntKind.wrap IntKind.i64 (t9 + 1), o7))) else (bif decide (0 ≤ t9 ∧ t9 < (↑(List.length t0) : Int)) then (bif Nat.ble (List.length o7 + List.length [rd Ty.claim t0 (Int.toNat t9)]) big then K (.inl ((t0, b4), (t8, IntKind.wrap IntKind.i64 (t9 + 1), o7 ++ [rd Ty.claim t0 (Int.toNat t9)]))) else none) else none)) else none) else none) else (bif decide (0 ≤ t9 ∧ t9 < (↑(List.length t0) : Int)) then (bif Nat.ble (List.length o7 + List.length [rd Ty.claim t0 (Int.toNat t9)]) big then K (.inl ((t0, b4), (t8, IntKind.wrap IntKind.i64 (t9 + 1), o7 ++ [rd Ty.claim t0 (Int.toNat t9)]))) else none) else none)) else K (.inr o7)) := by kernel_rfl
noncomputable def rows_drop_Claim__rows_claims_1_E : Env := withS rows_claims_E 133 0 (sumV rows_claims_E 133 0 0 rows_drop_Claim__rows_claims_1_L rows_drop_Claim__rows_claims_1_d rows_drop_Claim__rows_claims_1_f)
theorem rows_drop_Claim__rows_claims_1_ok : AllOK Tryz.prog rows_drop_Claim__rows_claims_1_E :=
  rows_claims_ok.loopP 6 (step := fun p s => rows_drop_Claim__rows_claims_1_s p.1 p.2 s.1 s.2.1 s.2.2) (lift := rows_drop_Claim__rows_claims_1_lf) (enc := rows_drop_Claim__rows_claims_1_e) (encx := rows_drop_Claim__rows_claims_1_ex) rows_drop_Claim__rows_claims_1_dk rows_drop_Claim__rows_claims_1_dxk
    (by
      rintro ⟨t0, b4⟩ ⟨t8, t9, o7⟩ K
      refine (rows_drop_Claim__rows_claims_1_k t0 t8 t9 b4 o7 K).trans ?_
      unfold rows_drop_Claim__rows_claims_1_s
      exact (bndc _ (bndc _ (bndc _ (bndc _ (bndc _ rfl (bndc _ (bndc _ rfl rfl) rfl)) rfl) rfl) (bndc _ (bndc _ rfl rfl) rfl)) rfl))
    (by
      intro p s k x e
      unfold rows_drop_Claim__rows_claims_1_f at e
      cases hr : rows_drop_Claim__rows_claims_1_l p.1 p.2 s.1 s.2.1 s.2.2 with
      | none =>
        rw [hr] at e
        cases e
      | some r =>
      rw [hr] at e
      refine ⟨r, hr, ?_⟩
      exact e) (by kernel_rfl)
/-! ### stevedore/stevedorerows.drop[stevedore/api.Claim] -/
noncomputable def rows_drop_Claim__rows_claims (a0 : List Claim) (a1 : Claim) : Option (List Claim) :=
  (bif Option.isSome (rows_drop_Claim__rows_claims_1_l a0 a1 false 0 []) then some (Option.getD (rows_drop_Claim__rows_claims_1_l a0 a1 false 0 []) default) else none)
theorem rows_drop_Claim__rows_claims_k (a0 : List Claim) (a1 : Claim) : runA (withN rows_drop_Claim__rows_claims_1_E 0) 6 133 [.s (.list .claim a0 []), .g [.el .claim a1], .s (.fn 134 [])] ⟨[], []⟩ =
  (bif Option.isSome (rows_drop_Claim__rows_claims_1_l a0 a1 false 0 []) then some (.s (.list .claim (Option.getD (rows_drop_Claim__rows_claims_1_l a0 a1 false 0 []) default) [])) else none) := by kernel_rfl
noncomputable def rows_drop_Claim__rows_claims_enc (r : (List Claim)) : A := .s (.list .claim r [])
theorem rows_drop_Claim__rows_claims_r (a0 : List Claim) (a1 : Claim) : runA (withN rows_drop_Claim__rows_claims_1_E 0) 6 133 [.s (.list .claim a0 []), .g [.el .claim a1], .s (.fn 134 [])] ⟨[], []⟩ = (rows_drop_Claim__rows_claims a0 a1).map rows_drop_Claim__rows_claims_enc :=
  (rows_drop_Claim__rows_claims_k a0 a1).trans (by unfold rows_drop_Claim__rows_claims; exact (mapc (K := rows_drop_Claim__rows_claims_enc) _ rfl rfl))
noncomputable def rows_drop_Claim__rows_claims_F (l : List A) (m : List (Option (List C))) : Option (Bool × A) := match (p2 (lCons (rS (cLst .claim)) (lCons (rG (lCons (cEl .claim) lNil)) (lCons (rS (cFn 134 [])) lNil))) lNil) (l, m) with
  | some x => some ((rows_drop_Claim__rows_claims x.1.1 x.1.2.1.1).isSome, rows_drop_Claim__rows_claims_enc ((rows_drop_Claim__rows_claims x.1.1 x.1.2.1.1).getD default))
  | none => none
noncomputable def rows_drop_Claim__rows_claims_E : Env := withG rows_drop_Claim__rows_claims_1_E 133 (gOfM rows_drop_Claim__rows_claims_1_E 133 [30, 49, 147] rows_drop_Claim__rows_claims_F)
theorem rows_drop_Claim__rows_claims_ok : AllOK Tryz.prog rows_drop_Claim__rows_claims_E := rows_drop_Claim__rows_claims_1_ok.fm 6 (fun l m r e hl => by
  unfold rows_drop_Claim__rows_claims_F at e
  cases hD : (p2 (lCons (rS (cLst .claim)) (lCons (rG (lCons (cEl .claim) lNil)) (lCons (rS (cFn 134 [])) lNil))) lNil) (l, m) with
  | none => rw [hD] at e; cases e
  | some x =>
    rw [hD] at e
    have hE := (p2_ok (lCons_ok (rS_ok (cLst_ok .claim)) (lCons_ok (rG_ok (lCons_ok (cEl_ok .claim) lNil_ok)) (lCons_ok (rS_ok (cFn_ok 134 [])) lNil_ok))) lNil_ok) _ _ hD
    have h1 : l = [.s (.list .claim x.1.1 []), .g [.el .claim x.1.2.1.1], .s (.fn 134 [])] := congrArg Prod.fst hE
    have h2 : m = [] := congrArg Prod.snd hE
    subst h1 h2
    simp only [Option.some.injEq, Prod.mk.injEq] at e
    obtain ⟨hs, rfl⟩ := e
    exact ⟨0, get_of (rows_drop_Claim__rows_claims_r x.1.1 x.1.2.1.1) hs⟩) (by kernel_rfl)
/-! ### stevedore/stevedorerows.put[stevedore/api.Claim]: loop 1 -/
noncomputable def rows_put_Claim__rows_claims_1_L : Live := ⟨69, 69, [0, 2, 4, 7, 8], [4], [7], [49]⟩
noncomputable def rows_put_Claim__rows_claims_1_e (x : ((List Claim) × Claim × (List Claim)) × (Int)) : V := ([.s (.list .claim x.1.1 []), .s (.fn 134 []), .s (.ptr 4 0), .s (.own 7), .s (.v (.int .i64 x.2))], [some [.el .claim x.1.2.1]], [some ⟨49, .claim, x.1.2.2⟩])
noncomputable def rows_put_Claim__rows_claims_1_d : V → Option (((List Claim) × Claim × (List Claim)) × (Int)) := fun v => ((p2 (lCons (rS (cLst .claim)) (lCons (rS (cFn 134 [])) (lCons (rS (cPtr 4 0)) (lCons (rS (cOwn 7)) (lCons (rS cInt) lNil))))) (p2 (lCons (bS (lCons (cEl .claim) lNil)) lNil) (lCons (oS 49 .claim) lNil))) v).map fun x => ((x.1.1, x.2.1.1.1, x.2.2.1), x.1.2.2.2.2.1)
theorem rows_put_Claim__rows_claims_1_dk : ∀ v s, rows_put_Claim__rows_claims_1_d v = some s → v = rows_put_Claim__rows_claims_1_e s := map_ok (p2_ok (lCons_ok (rS_ok (cLst_ok .claim)) (lCons_ok (rS_ok (cFn_ok 134 [])) (lCons_ok (rS_ok (cPtr_ok 4 0)) (lCons_ok (rS_ok (cOwn_ok 7)) (lCons_ok (rS_ok cInt_ok) lNil_ok))))) (p2_ok (lCons_ok (bS_ok (lCons_ok (cEl_ok .claim) lNil_ok)) lNil_ok) (lCons_ok (oS_ok 49 .claim) lNil_ok))) (fun _ => by kernel_rfl)
noncomputable def rows_put_Claim__rows_claims_1_x1 (x : (List Claim)) : V := ([.s (.own 7)], [], [some ⟨49, .claim, x⟩])
noncomputable def rows_put_Claim__rows_claims_1_x1_d : V → Option ((List Claim)) := fun v => ((p2 (lCons (rS (cOwn 7)) lNil) (p2 lNil (lCons (oS 49 .claim) lNil))) v).map fun x => x.2.2.1
theorem rows_put_Claim__rows_claims_1_x1_dk : ∀ v s, rows_put_Claim__rows_claims_1_x1_d v = some s → v = rows_put_Claim__rows_claims_1_x1 s := map_ok (p2_ok (lCons_ok (rS_ok (cOwn_ok 7)) lNil_ok) (p2_ok lNil_ok (lCons_ok (oS_ok 49 .claim) lNil_ok))) (fun _ => by kernel_rfl)
noncomputable def rows_put_Claim__rows_claims_1_x2 (x : (List Claim) × Claim × (List Claim)) : V := ([.s (.list .claim x.1 []), .s (.fn 134 []), .s (.ptr 4 0), .s (.own 7)], [some [.el .claim x.2.1]], [some ⟨49, .claim, x.2.2⟩])
noncomputable def rows_put_Claim__rows_claims_1_x2_d : V → Option ((List Claim) × Claim × (List Claim)) := fun v => ((p2 (lCons (rS (cLst .claim)) (lCons (rS (cFn 134 [])) (lCons (rS (cPtr 4 0)) (lCons (rS (cOwn 7)) lNil)))) (p2 (lCons (bS (lCons (cEl .claim) lNil)) lNil) (lCons (oS 49 .claim) lNil))) v).map fun x => (x.1.1, x.2.1.1.1, x.2.2.1)
theorem rows_put_Claim__rows_claims_1_x2_dk : ∀ v s, rows_put_Claim__rows_claims_1_x2_d v = some s → v = rows_put_Claim__rows_claims_1_x2 s := map_ok (p2_ok (lCons_ok (rS_ok (cLst_ok .claim)) (lCons_ok (rS_ok (cFn_ok 134 [])) (lCons_ok (rS_ok (cPtr_ok 4 0)) (lCons_ok (rS_ok (cOwn_ok 7)) lNil_ok)))) (p2_ok (lCons_ok (bS_ok (lCons_ok (cEl_ok .claim) lNil_ok)) lNil_ok) (lCons_ok (oS_ok 49 .claim) lNil_ok))) (fun _ => by kernel_rfl)
noncomputable def rows_put_Claim__rows_claims_1_X (e : Ex) : Live := bif exEq e (.ret) then ⟨69, 69, [6], [], [7], []⟩ else bif exEq e (.exit 0) then ⟨69, 69, [0, 2, 4, 7], [4], [7], [49]⟩ else rows_put_Claim__rows_claims_1_L
noncomputable def rows_put_Claim__rows_claims_1_dx (e : Ex) (v : V) : Option ((List Claim) ⊕ ((List Claim) × Claim × (List Claim))) := match exEq e (.ret) with
  | true => (rows_put_Claim__rows_claims_1_x1_d v).map fun d => .inl d
  | false => match exEq e (.exit 0) with
  | true => (rows_put_Claim__rows_claims_1_x2_d v).map fun d => .inr d
  | false => none
noncomputable def rows_put_Claim__rows_claims_1_ex (x : ((List Claim) ⊕ ((List Claim) × Claim × (List Claim)))) : Ex × V := match x with
  | .inl d => (.ret, rows_put_Claim__rows_claims_1_x1 d)
  | .inr d => (.exit 0, rows_put_Claim__rows_claims_1_x2 d)
theorem rows_put_Claim__rows_claims_1_dxk : ∀ e v r, rows_put_Claim__rows_claims_1_dx e v = some r → rows_put_Claim__rows_claims_1_ex r = (e, v) := by
  intro e v r h
  unfold rows_put_Claim__rows_claims_1_dx at h
  split at h
  · rename_i he
    obtain ⟨d, hd, rfl⟩ := Option.map_eq_some_iff.1 h
    rw [exEq_eq he, rows_put_Claim__rows_claims_1_x1_dk _ _ hd]
    rfl
  · split at h
    · rename_i he
      obtain ⟨d, hd, rfl⟩ := Option.map_eq_some_iff.1 h
      rw [exEq_eq he, rows_put_Claim__rows_claims_1_x2_dk _ _ hd]
      rfl
    · cases h
noncomputable def rows_put_Claim__rows_claims_1_s (t0 : List Claim) (b4 : Claim) (o7 : List Claim) (t8 : Int) : Option ((Int) ⊕ ((List Claim) ⊕ Unit)) :=
  (bif decide (t8 < (↑(List.length t0) : Int)) then (bif decide (0 ≤ t8 ∧ t8 < (↑(List.length t0) : Int)) then (bif Option.isSome (rows_claims (rd Ty.claim t0 (Int.toNat t8)) b4) then (bif Option.getD (rows_claims (rd Ty.claim t0 (Int.toNat t8)) b4) default == 0 then (bif Nat.ble (List.length o7 + List.length t0) big then (bif decide (0 ≤ t8 ∧ t8 < (↑(List.length (o7 ++ t0)) : Int)) then some (.inr (.inl (List.set (o7 ++ t0) (Int.toNat t8) b4))) else none) else none) else some (.inl (IntKind.wrap IntKind.i64 (t8 + 1)))) else none) else none) else some (.inr (.inr ())))
noncomputable def rows_put_Claim__rows_claims_1_l (t0 : List Claim) (b4 : Claim) (o7 : List Claim) (t8 : Int) : Option ((List Claim) ⊕ Unit) := run (fun s : Int => rows_put_Claim__rows_claims_1_s t0 b4 o7 s) t8
noncomputable def rows_put_Claim__rows_claims_1_lf (p : (List Claim) × Claim × (List Claim)) (r : ((List Claim) ⊕ Unit)) : ((List Claim) ⊕ ((List Claim) × Claim × (List Claim))) := match r with
  | .inl d => .inl d
  | .inr d => .inr (p.1, p.2.1, p.2.2)
noncomputable def rows_put_Claim__rows_claims_1_f (x : ((List Claim) × Claim × (List Claim)) × (Int)) (k : Ex → St → Option A) : Option A :=
  bif (rows_put_Claim__rows_claims_1_l x.1.1 x.1.2.1 x.1.2.2 x.2).isSome then (bif isL ((rows_put_Claim__rows_claims_1_l x.1.1 x.1.2.1 x.1.2.2 x.2).getD default) then k (.ret) (build ⟨69, 69, [6], [], [7], []⟩ (rows_put_Claim__rows_claims_1_x1 (getL ((rows_put_Claim__rows_claims_1_l x.1.1 x.1.2.1 x.1.2.2 x.2).getD default)))) else k (.exit 0) (build ⟨69, 69, [0, 2, 4, 7], [4], [7], [49]⟩ (rows_put_Claim__rows_claims_1_x2 (x.1.1, x.1.2.1, x.1.2.2)))) else none
theorem rows_put_Claim__rows_claims_1_k (t0 : List Claim) (t8 : Int) (b4 : Claim) (o7 : List Claim) (K : (((List Claim) × Claim × (List Claim)) × (Int)) ⊕ ((List Claim) ⊕ ((List Claim) × Claim × (List Claim))) → Option A) : ev rows_drop_Claim__rows_claims_E (callA rows_drop_Claim__rows_claims_E 6) 135 0 (loopAt rows_drop_Claim__rows_claims_E 135 0) 0 (build rows_put_Claim__rows_claims_1_L (rows_put_Claim__rows_claims_1_e ((t0, b4, o7), t8))) (obs rows_drop_Claim__rows_claims_E rows_put_Claim__rows_claims_1_L rows_put_Claim__rows_claims_1_X rows_put_Claim__rows_claims_1_d rows_put_Claim__rows_claims_1_dx K) =
  (bif decide (t8 < (↑(List.length t0) : Int)) then (bif decide (0 ≤ t8 ∧ t8 < (↑(List.length t0) : Int)) then (bif Option.isSome (rows_claims (rd Ty.claim t0 (Int.toNat t8)) b4) then (bif Option.getD (rows_claims (rd Ty.claim t0 (Int.toNat t8)) b4) default == 0 then (bif Nat.ble (List.length o7 + List.length t0) big then (bif decide (0 ≤ t8 ∧ t8 < (↑(List.length (o7 ++ t0)) : Int)) then K (.inr (.inl (List.set (o7 ++ t0) (Int.toNat t8) b4))) else none) else none) else K (.inl ((t0, b4, o7), IntKind.wrap IntKind.i64 (t8 + 1)))) else none) else none) else K (.inr (.inr (t0, b4, o7)))) := by kernel_rfl
noncomputable def rows_put_Claim__rows_claims_1_E : Env := withS rows_drop_Claim__rows_claims_E 135 0 (sumV rows_drop_Claim__rows_claims_E 135 0 0 rows_put_Claim__rows_claims_1_L rows_put_Claim__rows_claims_1_d rows_put_Claim__rows_claims_1_f)
theorem rows_put_Claim__rows_claims_1_ok : AllOK Tryz.prog rows_put_Claim__rows_claims_1_E :=
  rows_drop_Claim__rows_claims_ok.loopP 6 (step := fun p s => rows_put_Claim__rows_claims_1_s p.1 p.2.1 p.2.2 s) (lift := rows_put_Claim__rows_claims_1_lf) (enc := rows_put_Claim__rows_claims_1_e) (encx := rows_put_Claim__rows_claims_1_ex) rows_put_Claim__rows_claims_1_dk rows_put_Claim__rows_claims_1_dxk
    (by
      rintro ⟨t0, b4, o7⟩ t8 K
      refine (rows_put_Claim__rows_claims_1_k t0 t8 b4 o7 K).trans ?_
      unfold rows_put_Claim__rows_claims_1_s
      exact (bndc _ (bndc _ (bndc _ (bndc _ (bndc _ (bndc _ rfl rfl) rfl) rfl) rfl) rfl) rfl))
    (by
      intro p s k x e
      unfold rows_put_Claim__rows_claims_1_f at e
      cases hr : rows_put_Claim__rows_claims_1_l p.1 p.2.1 p.2.2 s with
      | none =>
        rw [hr] at e
        cases e
      | some r =>
      rw [hr] at e
      refine ⟨r, hr, ?_⟩
      rcases r with d | d <;> exact e) (by kernel_rfl)
/-! ### stevedore/stevedorerows.put[stevedore/api.Claim]: loop 2 -/
noncomputable def rows_put_Claim__rows_claims_2_L : Live := ⟨69, 69, [0, 2, 4, 7, 9, 10], [4], [7], [49]⟩
noncomputable def rows_put_Claim__rows_claims_2_e (x : ((List Claim) × Claim) × (Bool × Int × (List Claim))) : V := ([.s (.list .claim x.1.1 []), .s (.fn 134 []), .s (.ptr 4 0), .s (.own 7), .s (.v (.bool x.2.1)), .s (.v (.int .i64 x.2.2.1))], [some [.el .claim x.1.2]], [some ⟨49, .claim, x.2.2.2⟩])
noncomputable def rows_put_Claim__rows_claims_2_d : V → Option (((List Claim) × Claim) × (Bool × Int × (List Claim))) := fun v => ((p2 (lCons (rS (cLst .claim)) (lCons (rS (cFn 134 [])) (lCons (rS (cPtr 4 0)) (lCons (rS (cOwn 7)) (lCons (rS cBool) (lCons (rS cInt) lNil)))))) (p2 (lCons (bS (lCons (cEl .claim) lNil)) lNil) (lCons (oS 49 .claim) lNil))) v).map fun x => ((x.1.1, x.2.1.1.1), (x.1.2.2.2.2.1, x.1.2.2.2.2.2.1, x.2.2.1))
theorem rows_put_Claim__rows_claims_2_dk : ∀ v s, rows_put_Claim__rows_claims_2_d v = some s → v = rows_put_Claim__rows_claims_2_e s := map_ok (p2_ok (lCons_ok (rS_ok (cLst_ok .claim)) (lCons_ok (rS_ok (cFn_ok 134 [])) (lCons_ok (rS_ok (cPtr_ok 4 0)) (lCons_ok (rS_ok (cOwn_ok 7)) (lCons_ok (rS_ok cBool_ok) (lCons_ok (rS_ok cInt_ok) lNil_ok)))))) (p2_ok (lCons_ok (bS_ok (lCons_ok (cEl_ok .claim) lNil_ok)) lNil_ok) (lCons_ok (oS_ok 49 .claim) lNil_ok))) (fun _ => by kernel_rfl)
noncomputable def rows_put_Claim__rows_claims_2_x1 (x : Bool × Claim × (List Claim)) : V := ([.s (.ptr 4 0), .s (.own 7), .s (.v (.bool x.1))], [some [.el .claim x.2.1]], [some ⟨49, .claim, x.2.2⟩])
noncomputable def rows_put_Claim__rows_claims_2_x1_d : V → Option (Bool × Claim × (List Claim)) := fun v => ((p2 (lCons (rS (cPtr 4 0)) (lCons (rS (cOwn 7)) (lCons (rS cBool) lNil))) (p2 (lCons (bS (lCons (cEl .claim) lNil)) lNil) (lCons (oS 49 .claim) lNil))) v).map fun x => (x.1.2.2.1, x.2.1.1.1, x.2.2.1)
theorem rows_put_Claim__rows_claims_2_x1_dk : ∀ v s, rows_put_Claim__rows_claims_2_x1_d v = some s → v = rows_put_Claim__rows_claims_2_x1 s := map_ok (p2_ok (lCons_ok (rS_ok (cPtr_ok 4 0)) (lCons_ok (rS_ok (cOwn_ok 7)) (lCons_ok (rS_ok cBool_ok) lNil_ok))) (p2_ok (lCons_ok (bS_ok (lCons_ok (cEl_ok .claim) lNil_ok)) lNil_ok) (lCons_ok (oS_ok 49 .claim) lNil_ok))) (fun _ => by kernel_rfl)
noncomputable def rows_put_Claim__rows_claims_2_X (e : Ex) : Live := bif exEq e (.exit 2) then ⟨69, 69, [4, 7, 9], [4], [7], [49]⟩ else rows_put_Claim__rows_claims_2_L
noncomputable def rows_put_Claim__rows_claims_2_dx (e : Ex) (v : V) : Option (Bool × Claim × (List Claim)) := match exEq e (.exit 2) with
  | true => (rows_put_Claim__rows_claims_2_x1_d v).map fun d => d
  | false => none
noncomputable def rows_put_Claim__rows_claims_2_ex (x : (Bool × Claim × (List Claim))) : Ex × V := (.exit 2, rows_put_Claim__rows_claims_2_x1 x)
theorem rows_put_Claim__rows_claims_2_dxk : ∀ e v r, rows_put_Claim__rows_claims_2_dx e v = some r → rows_put_Claim__rows_claims_2_ex r = (e, v) := by
  intro e v r h
  unfold rows_put_Claim__rows_claims_2_dx at h
  split at h
  · rename_i he
    obtain ⟨d, hd, rfl⟩ := Option.map_eq_some_iff.1 h
    rw [exEq_eq he, rows_put_Claim__rows_claims_2_x1_dk _ _ hd]
    rfl
  · cases h
noncomputable def rows_put_Claim__rows_claims_2_s (t0 : List Claim) (b4 : Claim) (t9 : Bool) (t10 : Int) (o7 : List Claim) : Option ((Bool × Int × (List Claim)) ⊕ (Bool × (List Claim))) :=
  (bif decide (t10 < (↑(List.length t0) : Int)) then (bif !t9 then (bif decide (0 ≤ t10 ∧ t10 < (↑(List.length t0) : Int)) then (bif Option.isSome (rows_claims (rd Ty.claim t0 (Int.toNat t10)) b4) then (bif decide (Option.getD (rows_claims (rd Ty.claim t0 (Int.toNat t10)) b4) default > 0) then (bif Nat.ble (List.length o7 + List.length [b4]) big then (bif decide (0 ≤ t10 ∧ t10 < (↑(List.length t0) : Int)) then (bif Nat.ble (List.length (o7 ++ [b4]) + List.length [rd Ty.claim t0 (Int.toNat t10)]) big then some (.inl (true, IntKind.wrap IntKind.i64 (t10 + 1), o7 ++ [b4] ++ [rd Ty.claim t0 (Int.toNat t10)])) else none) else none) else none) else (bif decide (0 ≤ t10 ∧ t10 < (↑(List.length t0) : Int)) then (bif Nat.ble (List.length o7 + List.length [rd Ty.claim t0 (Int.toNat t10)]) big then some (.inl (t9, IntKind.wrap IntKind.i64 (t10 + 1), o7 ++ [rd Ty.claim t0 (Int.toNat t10)])) else none) else none)) else none) else none) else (bif decide (0 ≤ t10 ∧ t10 < (↑(List.length t0) : Int)) then (bif Nat.ble (List.length o7 + List.length [rd Ty.claim t0 (Int.toNat t10)]) big then some (.inl (t9, IntKind.wrap IntKind.i64 (t10 + 1), o7 ++ [rd Ty.claim t0 (Int.toNat t10)])) else none) else none)) else some (.inr (t9, o7)))
noncomputable def rows_put_Claim__rows_claims_2_l (t0 : List Claim) (b4 : Claim) (t9 : Bool) (t10 : Int) (o7 : List Claim) : Option (Bool × (List Claim)) := run (fun s : Bool × Int × (List Claim) => rows_put_Claim__rows_claims_2_s t0 b4 s.1 s.2.1 s.2.2) (t9, t10, o7)
noncomputable def rows_put_Claim__rows_claims_2_lf (p : (List Claim) × Claim) (r : (Bool × (List Claim))) : (Bool × Claim × (List Claim)) := (r.1, p.2, r.2)
noncomputable def rows_put_Claim__rows_claims_2_f (x : ((List Claim) × Claim) × (Bool × Int × (List Claim))) (k : Ex → St → Option A) : Option A :=
  bif (rows_put_Claim__rows_claims_2_l x.1.1 x.1.2 x.2.1 x.2.2.1 x.2.2.2).isSome then (k (.exit 2) (build ⟨69, 69, [4, 7, 9], [4], [7], [49]⟩ (rows_put_Claim__rows_claims_2_x1 (((rows_put_Claim__rows_claims_2_l x.1.1 x.1.2 x.2.1 x.2.2.1 x.2.2.2).getD default).1, x.1.2, ((rows_put_Claim__rows_claims_2_l x.1.1 x.1.2 x.2.1 x.2.2.1 x.2.2.2).getD default).2)))) else none
theorem rows_put_Claim__rows_claims_2_k (t0 : List Claim) (t9 : Bool) (t10 : Int) (b4 : Claim) (o7 : List Claim) (K : (((List Claim) × Claim) × (Bool × Int × (List Claim))) ⊕ (Bool × Claim × (List Claim)) → Option A) : ev rows_put_Claim__rows_claims_1_E (callA rows_put_Claim__rows_claims_1_E 6) 135 0 (loopAt rows_put_Claim__rows_claims_1_E 135 2) 2 (build rows_put_Claim__rows_claims_2_L (rows_put_Claim__rows_claims_2_e ((t0, b4), (t9, t10, o7)))) (obs rows_put_Claim__rows_claims_1_E rows_put_Claim__rows_claims_2_L rows_put_Claim__rows_claims_2_X rows_put_Claim__rows_claims_2_d rows_put_Claim__rows_claims_2_dx K) =
  (bif decide (t10 < (↑(List.length t0) : Int)) then (bif !t9 then (bif decide (0 ≤ t10 ∧ t10 < (↑(List.length t0) : Int)) then (bif Option.isSome (rows_claims (rd Ty.claim t0 (Int.toNat t10)) b4) then (bif decide (Option.getD (rows_claims (rd Ty.claim t0 (Int.toNat t10)) b4) default > 0) then (bif Nat.ble (List.length o7 + List.length [b4]) big then (bif decide (0 ≤ t10 ∧ t10 < (↑(List.length t0) : Int)) then (bif Nat.ble (List.length (o7 ++ [b4]) + List.length [rd Ty.claim t0 (Int.toNat t10)]) big then K (.inl ((t0, b4), (true, IntKind.wrap IntKind.i64 (t10 + 1), o7 ++ [b4] ++ [rd Ty.claim t0 (Int.toNat t10)]))) else none) else none) else none) else (bif decide (0 ≤ t10 ∧ t10 < (↑(List.length t0) : Int)) then (bif Nat.ble (List.length o7 + List.length [rd Ty.claim t0 (Int.toNat t10)]) big then K (.inl ((t0, b4), (t9, IntKind.wrap IntKind.i64 (t10 + 1), o7 ++ [rd Ty.claim t0 (Int.toNat t10)]))) else none) else none)) else none) else none) else (bif decide (0 ≤ t10 ∧ t10 < (↑(List.length t0) : Int)) then (bif Nat.ble (List.length o7 + List.length [rd Ty.claim t0 (Int.toNat t10)]) big then K (.inl ((t0, b4), (t9, IntKind.wrap IntKind.i64 (t10 + 1), o7 ++ [rd Ty.claim t0 (Int.toNat t10)]))) else none) else none)) else K (.inr (t9, b4, o7))) := by kernel_rfl
noncomputable def rows_put_Claim__rows_claims_2_E : Env := withS rows_put_Claim__rows_claims_1_E 135 2 (sumV rows_put_Claim__rows_claims_1_E 135 2 0 rows_put_Claim__rows_claims_2_L rows_put_Claim__rows_claims_2_d rows_put_Claim__rows_claims_2_f)
theorem rows_put_Claim__rows_claims_2_ok : AllOK Tryz.prog rows_put_Claim__rows_claims_2_E :=
  rows_put_Claim__rows_claims_1_ok.loopP 6 (step := fun p s => rows_put_Claim__rows_claims_2_s p.1 p.2 s.1 s.2.1 s.2.2) (lift := rows_put_Claim__rows_claims_2_lf) (enc := rows_put_Claim__rows_claims_2_e) (encx := rows_put_Claim__rows_claims_2_ex) rows_put_Claim__rows_claims_2_dk rows_put_Claim__rows_claims_2_dxk
    (by
      rintro ⟨t0, b4⟩ ⟨t9, t10, o7⟩ K
      refine (rows_put_Claim__rows_claims_2_k t0 t9 t10 b4 o7 K).trans ?_
      unfold rows_put_Claim__rows_claims_2_s
      exact (bndc _ (bndc _ (bndc _ (bndc _ (bndc _ (bndc _ (bndc _ (bndc _ rfl rfl) rfl) rfl) (bndc _ (bndc _ rfl rfl) rfl)) rfl) rfl) (bndc _ (bndc _ rfl rfl) rfl)) rfl))
    (by
      intro p s k x e
      unfold rows_put_Claim__rows_claims_2_f at e
      cases hr : rows_put_Claim__rows_claims_2_l p.1 p.2 s.1 s.2.1 s.2.2 with
      | none =>
        rw [hr] at e
        cases e
      | some r =>
      rw [hr] at e
      refine ⟨r, hr, ?_⟩
      exact e) (by kernel_rfl)
/-! ### stevedore/stevedorerows.put[stevedore/api.Claim] -/
noncomputable def rows_put_Claim__rows_claims (a0 : List Claim) (a1 : Claim) : Option (List Claim) :=
  (bif Option.isSome (rows_put_Claim__rows_claims_1_l a0 a1 [] 0) then (bif isL (Option.getD (rows_put_Claim__rows_claims_1_l a0 a1 [] 0) default) then some (getL (Option.getD (rows_put_Claim__rows_claims_1_l a0 a1 [] 0) default)) else (bif Option.isSome (rows_put_Claim__rows_claims_2_l a0 a1 false 0 []) then (bif !Prod.fst (Option.getD (rows_put_Claim__rows_claims_2_l a0 a1 false 0 []) default) then (bif Nat.ble (List.length (Prod.snd (Option.getD (rows_put_Claim__rows_claims_2_l a0 a1 false 0 []) default)) + List.length [a1]) big then some (Prod.snd (Option.getD (rows_put_Claim__rows_claims_2_l a0 a1 false 0 []) default) ++ [a1]) else none) else some (Prod.snd (Option.getD (rows_put_Claim__rows_claims_2_l a0 a1 false 0 []) default))) else none)) else none)
theorem rows_put_Claim__rows_claims_k (a0 : List Claim) (a1 : Claim) : runA (withN rows_put_Claim__rows_claims_2_E 0) 6 135 [.s (.list .claim a0 []), .g [.el .claim a1], .s (.fn 134 [])] ⟨[], []⟩ =
  (bif Option.isSome (rows_put_Claim__rows_claims_1_l a0 a1 [] 0) then (bif isL (Option.getD (rows_put_Claim__rows_claims_1_l a0 a1 [] 0) default) then some (.s (.list .claim (getL (Option.getD (rows_put_Claim__rows_claims_1_l a0 a1 [] 0) default)) [])) else (bif Option.isSome (rows_put_Claim__rows_claims_2_l a0 a1 false 0 []) then (bif !Prod.fst (Option.getD (rows_put_Claim__rows_claims_2_l a0 a1 false 0 []) default) then (bif Nat.ble (List.length (Prod.snd (Option.getD (rows_put_Claim__rows_claims_2_l a0 a1 false 0 []) default)) + List.length [a1]) big then some (.s (.list .claim (Prod.snd (Option.getD (rows_put_Claim__rows_claims_2_l a0 a1 false 0 []) default) ++ [a1]) [])) else none) else some (.s (.list .claim (Prod.snd (Option.getD (rows_put_Claim__rows_claims_2_l a0 a1 false 0 []) default)) []))) else none)) else none) := by kernel_rfl
noncomputable def rows_put_Claim__rows_claims_enc (r : (List Claim)) : A := .s (.list .claim r [])
theorem rows_put_Claim__rows_claims_r (a0 : List Claim) (a1 : Claim) : runA (withN rows_put_Claim__rows_claims_2_E 0) 6 135 [.s (.list .claim a0 []), .g [.el .claim a1], .s (.fn 134 [])] ⟨[], []⟩ = (rows_put_Claim__rows_claims a0 a1).map rows_put_Claim__rows_claims_enc :=
  (rows_put_Claim__rows_claims_k a0 a1).trans (by unfold rows_put_Claim__rows_claims; exact (mapc (K := rows_put_Claim__rows_claims_enc) _ (mapc (K := rows_put_Claim__rows_claims_enc) _ rfl (mapc (K := rows_put_Claim__rows_claims_enc) _ (mapc (K := rows_put_Claim__rows_claims_enc) _ (mapc (K := rows_put_Claim__rows_claims_enc) _ rfl rfl) rfl) rfl)) rfl))
noncomputable def rows_put_Claim__rows_claims_F (l : List A) (m : List (Option (List C))) : Option (Bool × A) := match (p2 (lCons (rS (cLst .claim)) (lCons (rG (lCons (cEl .claim) lNil)) (lCons (rS (cFn 134 [])) lNil))) lNil) (l, m) with
  | some x => some ((rows_put_Claim__rows_claims x.1.1 x.1.2.1.1).isSome, rows_put_Claim__rows_claims_enc ((rows_put_Claim__rows_claims x.1.1 x.1.2.1.1).getD default))
  | none => none
noncomputable def rows_put_Claim__rows_claims_E : Env := withG rows_put_Claim__rows_claims_2_E 135 (gOfM rows_put_Claim__rows_claims_2_E 135 [30, 49, 147] rows_put_Claim__rows_claims_F)
theorem rows_put_Claim__rows_claims_ok : AllOK Tryz.prog rows_put_Claim__rows_claims_E := rows_put_Claim__rows_claims_2_ok.fm 6 (fun l m r e hl => by
  unfold rows_put_Claim__rows_claims_F at e
  cases hD : (p2 (lCons (rS (cLst .claim)) (lCons (rG (lCons (cEl .claim) lNil)) (lCons (rS (cFn 134 [])) lNil))) lNil) (l, m) with
  | none => rw [hD] at e; cases e
  | some x =>
    rw [hD] at e
    have hE := (p2_ok (lCons_ok (rS_ok (cLst_ok .claim)) (lCons_ok (rG_ok (lCons_ok (cEl_ok .claim) lNil_ok)) (lCons_ok (rS_ok (cFn_ok 134 [])) lNil_ok))) lNil_ok) _ _ hD
    have h1 : l = [.s (.list .claim x.1.1 []), .g [.el .claim x.1.2.1.1], .s (.fn 134 [])] := congrArg Prod.fst hE
    have h2 : m = [] := congrArg Prod.snd hE
    subst h1 h2
    simp only [Option.some.injEq, Prod.mk.injEq] at e
    obtain ⟨hs, rfl⟩ := e
    exact ⟨0, get_of (rows_put_Claim__rows_claims_r x.1.1 x.1.2.1.1) hs⟩) (by kernel_rfl)
/-! ### stevedore/stevedorerows.Claim -/
noncomputable def rows_Claim (a0 : House) (a1 : Claim) : Option House :=
  (bif Claim.qty a1 == 0 then (bif Option.isSome (rows_drop_Claim__rows_claims (House.claims a0) a1) then some ({ a0 with claims := Option.getD (rows_drop_Claim__rows_claims (House.claims a0) a1) default } : House) else none) else (bif Option.isSome (rows_put_Claim__rows_claims (House.claims a0) a1) then some ({ a0 with claims := Option.getD (rows_put_Claim__rows_claims (House.claims a0) a1) default } : House) else none))
theorem rows_Claim_k (a0 : House) (a1 : Claim) : runA (withN rows_put_Claim__rows_claims_E 0) 6 85 [.g (hC a0), .g [.el .claim a1]] ⟨[], []⟩ =
  (bif Claim.qty a1 == 0 then (bif Option.isSome (rows_drop_Claim__rows_claims (House.claims a0) a1) then some (.g (hC ({ a0 with claims := Option.getD (rows_drop_Claim__rows_claims (House.claims a0) a1) default } : House))) else none) else (bif Option.isSome (rows_put_Claim__rows_claims (House.claims a0) a1) then some (.g (hC ({ a0 with claims := Option.getD (rows_put_Claim__rows_claims (House.claims a0) a1) default } : House))) else none)) := by kernel_rfl
noncomputable def rows_Claim_enc (r : House) : A := .g (hC r)
theorem rows_Claim_r (a0 : House) (a1 : Claim) : runA (withN rows_put_Claim__rows_claims_E 0) 6 85 [.g (hC a0), .g [.el .claim a1]] ⟨[], []⟩ = (rows_Claim a0 a1).map rows_Claim_enc :=
  (rows_Claim_k a0 a1).trans (by unfold rows_Claim; exact (mapc (K := rows_Claim_enc) _ (mapc (K := rows_Claim_enc) _ rfl rfl) (mapc (K := rows_Claim_enc) _ rfl rfl)))
noncomputable def rows_Claim_F (l : List A) (m : List (Option (List C))) : Option (Bool × A) := match (p2 (lCons (rG cH) (lCons (rG (lCons (cEl .claim) lNil)) lNil)) lNil) (l, m) with
  | some x => some ((rows_Claim x.1.1 x.1.2.1.1).isSome, rows_Claim_enc ((rows_Claim x.1.1 x.1.2.1.1).getD default))
  | none => none
noncomputable def rows_Claim_E : Env := withG rows_put_Claim__rows_claims_E 85 (gOfM rows_put_Claim__rows_claims_E 85 [37, 49] rows_Claim_F)
theorem rows_Claim_ok : AllOK Tryz.prog rows_Claim_E := rows_put_Claim__rows_claims_ok.fm 6 (fun l m r e hl => by
  unfold rows_Claim_F at e
  cases hD : (p2 (lCons (rG cH) (lCons (rG (lCons (cEl .claim) lNil)) lNil)) lNil) (l, m) with
  | none => rw [hD] at e; cases e
  | some x =>
    rw [hD] at e
    have hE := (p2_ok (lCons_ok (rG_ok cH_ok) (lCons_ok (rG_ok (lCons_ok (cEl_ok .claim) lNil_ok)) lNil_ok)) lNil_ok) _ _ hD
    have h1 : l = [.g (hC x.1.1), .g [.el .claim x.1.2.1.1]] := congrArg Prod.fst hE
    have h2 : m = [] := congrArg Prod.snd hE
    subst h1 h2
    simp only [Option.some.injEq, Prod.mk.injEq] at e
    obtain ⟨hs, rfl⟩ := e
    exact ⟨0, get_of (rows_Claim_r x.1.1 x.1.2.1.1) hs⟩) (by kernel_rfl)
/-! ### stevedore/stevedoreref16.Claim: loop 1 -/
noncomputable def ref16_Claim_1_L : Live := ⟨67, 67, [2, 3, 4, 6], [2, 3, 4], [], [37, 49, 37]⟩
noncomputable def ref16_Claim_1_e (x : (House × Claim × House) × (Int)) : V := ([.s (.ptr 2 0), .s (.ptr 3 0), .s (.ptr 4 0), .s (.v (.int .i64 x.2))], [some (hC x.1.1), some [.el .claim x.1.2.1], some (hC x.1.2.2)], [])
noncomputable def ref16_Claim_1_d : V → Option ((House × Claim × House) × (Int)) := fun v => ((p2 (lCons (rS (cPtr 2 0)) (lCons (rS (cPtr 3 0)) (lCons (rS (cPtr 4 0)) (lCons (rS cInt) lNil)))) (p2 (lCons (bS cH) (lCons (bS (lCons (cEl .claim) lNil)) (lCons (bS cH) lNil))) lNil)) v).map fun x => ((x.2.1.1, x.2.1.2.1.1, x.2.1.2.2.1), x.1.2.2.2.1)
theorem ref16_Claim_1_dk : ∀ v s, ref16_Claim_1_d v = some s → v = ref16_Claim_1_e s := map_ok (p2_ok (lCons_ok (rS_ok (cPtr_ok 2 0)) (lCons_ok (rS_ok (cPtr_ok 3 0)) (lCons_ok (rS_ok (cPtr_ok 4 0)) (lCons_ok (rS_ok cInt_ok) lNil_ok)))) (p2_ok (lCons_ok (bS_ok cH_ok) (lCons_ok (bS_ok (lCons_ok (cEl_ok .claim) lNil_ok)) (lCons_ok (bS_ok cH_ok) lNil_ok))) lNil_ok)) (fun _ => by kernel_rfl)
noncomputable def ref16_Claim_1_x1 (x : Int × House) : V := ([.s (.ptr 4 0), .s (.v (.int .i64 x.1))], [some (hC x.2)], [])
noncomputable def ref16_Claim_1_x1_d : V → Option (Int × House) := fun v => ((p2 (lCons (rS (cPtr 4 0)) (lCons (rS cInt) lNil)) (p2 (lCons (bS cH) lNil) lNil)) v).map fun x => (x.1.2.1, x.2.1.1)
theorem ref16_Claim_1_x1_dk : ∀ v s, ref16_Claim_1_x1_d v = some s → v = ref16_Claim_1_x1 s := map_ok (p2_ok (lCons_ok (rS_ok (cPtr_ok 4 0)) (lCons_ok (rS_ok cInt_ok) lNil_ok)) (p2_ok (lCons_ok (bS_ok cH_ok) lNil_ok) lNil_ok)) (fun _ => by kernel_rfl)
noncomputable def ref16_Claim_1_x2 (x : House × Claim × House) : V := ([.s (.ptr 2 0), .s (.ptr 3 0), .s (.ptr 4 0)], [some (hC x.1), some [.el .claim x.2.1], some (hC x.2.2)], [])
noncomputable def ref16_Claim_1_x2_d : V → Option (House × Claim × House) := fun v => ((p2 (lCons (rS (cPtr 2 0)) (lCons (rS (cPtr 3 0)) (lCons (rS (cPtr 4 0)) lNil))) (p2 (lCons (bS cH) (lCons (bS (lCons (cEl .claim) lNil)) (lCons (bS cH) lNil))) lNil)) v).map fun x => (x.2.1.1, x.2.1.2.1.1, x.2.1.2.2.1)
theorem ref16_Claim_1_x2_dk : ∀ v s, ref16_Claim_1_x2_d v = some s → v = ref16_Claim_1_x2 s := map_ok (p2_ok (lCons_ok (rS_ok (cPtr_ok 2 0)) (lCons_ok (rS_ok (cPtr_ok 3 0)) (lCons_ok (rS_ok (cPtr_ok 4 0)) lNil_ok))) (p2_ok (lCons_ok (bS_ok cH_ok) (lCons_ok (bS_ok (lCons_ok (cEl_ok .claim) lNil_ok)) (lCons_ok (bS_ok cH_ok) lNil_ok))) lNil_ok)) (fun _ => by kernel_rfl)
noncomputable def ref16_Claim_1_X (e : Ex) : Live := bif exEq e (.ret) then ⟨67, 67, [4, 5], [4], [], [37]⟩ else bif exEq e (.exit 0) then ⟨67, 67, [2, 3, 4], [2, 3, 4], [], [37, 49, 37]⟩ else ref16_Claim_1_L
noncomputable def ref16_Claim_1_dx (e : Ex) (v : V) : Option ((Int × House) ⊕ (House × Claim × House)) := match exEq e (.ret) with
  | true => (ref16_Claim_1_x1_d v).map fun d => .inl d
  | false => match exEq e (.exit 0) with
  | true => (ref16_Claim_1_x2_d v).map fun d => .inr d
  | false => none
noncomputable def ref16_Claim_1_ex (x : ((Int × House) ⊕ (House × Claim × House))) : Ex × V := match x with
  | .inl d => (.ret, ref16_Claim_1_x1 d)
  | .inr d => (.exit 0, ref16_Claim_1_x2 d)
theorem ref16_Claim_1_dxk : ∀ e v r, ref16_Claim_1_dx e v = some r → ref16_Claim_1_ex r = (e, v) := by
  intro e v r h
  unfold ref16_Claim_1_dx at h
  split at h
  · rename_i he
    obtain ⟨d, hd, rfl⟩ := Option.map_eq_some_iff.1 h
    rw [exEq_eq he, ref16_Claim_1_x1_dk _ _ hd]
    rfl
  · split at h
    · rename_i he
      obtain ⟨d, hd, rfl⟩ := Option.map_eq_some_iff.1 h
      rw [exEq_eq he, ref16_Claim_1_x2_dk _ _ hd]
      rfl
    · cases h
noncomputable def ref16_Claim_1_s (b2 : House) (b3 : Claim) (b4 : House) (t6 : Int) : Option ((Int) ⊕ (House ⊕ Unit)) :=
  (bif decide (t6 < (↑(List.length (House.claims b2)) : Int)) then (bif decide (0 ≤ t6 ∧ t6 < (↑(List.length (House.claims b2)) : Int)) then (bif ByteArray.toList (Claim.order (rd Ty.claim (House.claims b2) (Int.toNat t6))) == ByteArray.toList (Claim.order b3) then (bif Claim.line (rd Ty.claim (House.claims b2) (Int.toNat t6)) == Claim.line b3 then (bif decide (Claim.key (rd Ty.claim (House.claims b2) (Int.toNat t6)) = Claim.key b3) then (bif Claim.task (rd Ty.claim (House.claims b2) (Int.toNat t6)) == Claim.task b3 then (bif Option.isSome (rows_Claim b2 { order := Claim.order (rd Ty.claim (House.claims b2) (Int.toNat t6)), line := Claim.line (rd Ty.claim (House.claims b2) (Int.toNat t6)), key := Claim.key (rd Ty.claim (House.claims b2) (Int.toNat t6)), qty := IntKind.wrap IntKind.i64 (Claim.qty (rd Ty.claim (House.claims b2) (Int.toNat t6)) + Claim.qty b3), task := Claim.task (rd Ty.claim (House.claims b2) (Int.toNat t6)) : Claim }) then some (.inr (.inl (Option.getD (rows_Claim b2 { order := Claim.order (rd Ty.claim (House.claims b2) (Int.toNat t6)), line := Claim.line (rd Ty.claim (House.claims b2) (Int.toNat t6)), key := Claim.key (rd Ty.claim (House.claims b2) (Int.toNat t6)), qty := IntKind.wrap IntKind.i64 (Claim.qty (rd Ty.claim (House.claims b2) (Int.toNat t6)) + Claim.qty b3), task := Claim.task (rd Ty.claim (House.claims b2) (Int.toNat t6)) : Claim }) default))) else none) else some (.inl (IntKind.wrap IntKind.i64 (t6 + 1)))) else some (.inl (IntKind.wrap IntKind.i64 (t6 + 1)))) else some (.inl (IntKind.wrap IntKind.i64 (t6 + 1)))) else some (.inl (IntKind.wrap IntKind.i64 (t6 + 1)))) else none) else some (.inr (.inr ())))
noncomputable def ref16_Claim_1_l (b2 : House) (b3 : Claim) (b4 : House) (t6 : Int) : Option (House ⊕ Unit) := run (fun s : Int => ref16_Claim_1_s b2 b3 b4 s) t6
noncomputable def ref16_Claim_1_lf (p : House × Claim × House) (r : (House ⊕ Unit)) : ((Int × House) ⊕ (House × Claim × House)) := match r with
  | .inl d => .inl (0, d)
  | .inr d => .inr (p.1, p.2.1, p.2.2)
noncomputable def ref16_Claim_1_f (x : (House × Claim × House) × (Int)) (k : Ex → St → Option A) : Option A :=
  bif (ref16_Claim_1_l x.1.1 x.1.2.1 x.1.2.2 x.2).isSome then (bif isL ((ref16_Claim_1_l x.1.1 x.1.2.1 x.1.2.2 x.2).getD default) then k (.ret) (build ⟨67, 67, [4, 5], [4], [], [37]⟩ (ref16_Claim_1_x1 (0, (getL ((ref16_Claim_1_l x.1.1 x.1.2.1 x.1.2.2 x.2).getD default))))) else k (.exit 0) (build ⟨67, 67, [2, 3, 4], [2, 3, 4], [], [37, 49, 37]⟩ (ref16_Claim_1_x2 (x.1.1, x.1.2.1, x.1.2.2)))) else none
theorem ref16_Claim_1_k (t6 : Int) (b2 : House) (b3 : Claim) (b4 : House) (K : ((House × Claim × House) × (Int)) ⊕ ((Int × House) ⊕ (House × Claim × House)) → Option A) : ev rows_Claim_E (callA rows_Claim_E 6) 24 0 (loopAt rows_Claim_E 24 0) 0 (build ref16_Claim_1_L (ref16_Claim_1_e ((b2, b3, b4), t6))) (obs rows_Claim_E ref16_Claim_1_L ref16_Claim_1_X ref16_Claim_1_d ref16_Claim_1_dx K) =
  (bif decide (t6 < (↑(List.length (House.claims b2)) : Int)) then (bif decide (0 ≤ t6 ∧ t6 < (↑(List.length (House.claims b2)) : Int)) then (bif ByteArray.toList (Claim.order (rd Ty.claim (House.claims b2) (Int.toNat t6))) == ByteArray.toList (Claim.order b3) then (bif Claim.line (rd Ty.claim (House.claims b2) (Int.toNat t6)) == Claim.line b3 then (bif decide (Claim.key (rd Ty.claim (House.claims b2) (Int.toNat t6)) = Claim.key b3) then (bif Claim.task (rd Ty.claim (House.claims b2) (Int.toNat t6)) == Claim.task b3 then (bif Option.isSome (rows_Claim b2 { order := Claim.order (rd Ty.claim (House.claims b2) (Int.toNat t6)), line := Claim.line (rd Ty.claim (House.claims b2) (Int.toNat t6)), key := Claim.key (rd Ty.claim (House.claims b2) (Int.toNat t6)), qty := IntKind.wrap IntKind.i64 (Claim.qty (rd Ty.claim (House.claims b2) (Int.toNat t6)) + Claim.qty b3), task := Claim.task (rd Ty.claim (House.claims b2) (Int.toNat t6)) : Claim }) then K (.inr (.inl (0, (Option.getD (rows_Claim b2 { order := Claim.order (rd Ty.claim (House.claims b2) (Int.toNat t6)), line := Claim.line (rd Ty.claim (House.claims b2) (Int.toNat t6)), key := Claim.key (rd Ty.claim (House.claims b2) (Int.toNat t6)), qty := IntKind.wrap IntKind.i64 (Claim.qty (rd Ty.claim (House.claims b2) (Int.toNat t6)) + Claim.qty b3), task := Claim.task (rd Ty.claim (House.claims b2) (Int.toNat t6)) : Claim }) default)))) else none) else K (.inl ((b2, b3, b4), IntKind.wrap IntKind.i64 (t6 + 1)))) else K (.inl ((b2, b3, b4), IntKind.wrap IntKind.i64 (t6 + 1)))) else K (.inl ((b2, b3, b4), IntKind.wrap IntKind.i64 (t6 + 1)))) else K (.inl ((b2, b3, b4), IntKind.wrap IntKind.i64 (t6 + 1)))) else none) else K (.inr (.inr (b2, b3, b4)))) := by kernel_rfl
noncomputable def ref16_Claim_1_E : Env := withS rows_Claim_E 24 0 (sumV rows_Claim_E 24 0 0 ref16_Claim_1_L ref16_Claim_1_d ref16_Claim_1_f)
theorem ref16_Claim_1_ok : AllOK Tryz.prog ref16_Claim_1_E :=
  rows_Claim_ok.loopP 6 (step := fun p s => ref16_Claim_1_s p.1 p.2.1 p.2.2 s) (lift := ref16_Claim_1_lf) (enc := ref16_Claim_1_e) (encx := ref16_Claim_1_ex) ref16_Claim_1_dk ref16_Claim_1_dxk
    (by
      rintro ⟨b2, b3, b4⟩ t6 K
      refine (ref16_Claim_1_k t6 b2 b3 b4 K).trans ?_
      unfold ref16_Claim_1_s
      exact (bndc _ (bndc _ (bndc _ (bndc _ (bndc _ (bndc _ (bndc _ rfl rfl) rfl) rfl) rfl) rfl) rfl) rfl))
    (by
      intro p s k x e
      unfold ref16_Claim_1_f at e
      cases hr : ref16_Claim_1_l p.1 p.2.1 p.2.2 s with
      | none =>
        rw [hr] at e
        cases e
      | some r =>
      rw [hr] at e
      refine ⟨r, hr, ?_⟩
      rcases r with d | d <;> exact e) (by kernel_rfl)
/-! ### stevedore/stevedoreref16.Claim -/
noncomputable def ref16_Claim (a0 : House) (a1 : Claim) : Option (House × Int) :=
  (bif Option.isSome (ref16_Claim_1_l a0 a1 house0 0) then (bif isL (Option.getD (ref16_Claim_1_l a0 a1 house0 0) default) then some ((getL (Option.getD (ref16_Claim_1_l a0 a1 house0 0) default)), 0) else (bif Claim.qty a1 == 0 then some (a0, 0) else (bif decide ((↑(List.length (House.claims a0)) : Int) ≥ 128) then some (house0, 14) else (bif Option.isSome (rows_Claim a0 a1) then some ((Option.getD (rows_Claim a0 a1) default), 0) else none)))) else none)
theorem ref16_Claim_k (a0 : House) (a1 : Claim) : runA (withN ref16_Claim_1_E 0) 6 24 [.g (hC a0), .g [.el .claim a1]] ⟨[], []⟩ =
  (bif Option.isSome (ref16_Claim_1_l a0 a1 house0 0) then (bif isL (Option.getD (ref16_Claim_1_l a0 a1 house0 0) default) then some (.t [(true, hC (getL (Option.getD (ref16_Claim_1_l a0 a1 house0 0) default))), (false, [.v (.int .i64 0)])]) else (bif Claim.qty a1 == 0 then some (.t [(true, hC a0), (false, [.v (.int .i64 0)])]) else (bif decide ((↑(List.length (House.claims a0)) : Int) ≥ 128) then some (.t [(true, hC house0), (false, [.v (.int .i64 14)])]) else (bif Option.isSome (rows_Claim a0 a1) then some (.t [(true, hC (Option.getD (rows_Claim a0 a1) default)), (false, [.v (.int .i64 0)])]) else none)))) else none) := by kernel_rfl
noncomputable def ref16_Claim_enc (r : House × Int) : A := .t [(true, hC r.1), (false, [.v (.int .i64 r.2)])]
theorem ref16_Claim_r (a0 : House) (a1 : Claim) : runA (withN ref16_Claim_1_E 0) 6 24 [.g (hC a0), .g [.el .claim a1]] ⟨[], []⟩ = (ref16_Claim a0 a1).map ref16_Claim_enc :=
  (ref16_Claim_k a0 a1).trans (by unfold ref16_Claim; exact (mapc (K := ref16_Claim_enc) _ (mapc (K := ref16_Claim_enc) _ rfl (mapc (K := ref16_Claim_enc) _ rfl (mapc (K := ref16_Claim_enc) _ rfl (mapc (K := ref16_Claim_enc) _ rfl rfl)))) rfl))
noncomputable def ref16_Claim_F (l : List A) (m : List (Option (List C))) : Option (Bool × A) := match (p2 (lCons (rG cH) (lCons (rG (lCons (cEl .claim) lNil)) lNil)) lNil) (l, m) with
  | some x => some ((ref16_Claim x.1.1 x.1.2.1.1).isSome, ref16_Claim_enc ((ref16_Claim x.1.1 x.1.2.1.1).getD default))
  | none => none
noncomputable def ref16_Claim_E : Env := withG ref16_Claim_1_E 24 (gOfM ref16_Claim_1_E 24 [37, 49] ref16_Claim_F)
theorem ref16_Claim_ok : AllOK Tryz.prog ref16_Claim_E := ref16_Claim_1_ok.fm 6 (fun l m r e hl => by
  unfold ref16_Claim_F at e
  cases hD : (p2 (lCons (rG cH) (lCons (rG (lCons (cEl .claim) lNil)) lNil)) lNil) (l, m) with
  | none => rw [hD] at e; cases e
  | some x =>
    rw [hD] at e
    have hE := (p2_ok (lCons_ok (rG_ok cH_ok) (lCons_ok (rG_ok (lCons_ok (cEl_ok .claim) lNil_ok)) lNil_ok)) lNil_ok) _ _ hD
    have h1 : l = [.g (hC x.1.1), .g [.el .claim x.1.2.1.1]] := congrArg Prod.fst hE
    have h2 : m = [] := congrArg Prod.snd hE
    subst h1 h2
    simp only [Option.some.injEq, Prod.mk.injEq] at e
    obtain ⟨hs, rfl⟩ := e
    exact ⟨0, get_of (ref16_Claim_r x.1.1 x.1.2.1.1) hs⟩) (by kernel_rfl)
/-! ### stevedore/stevedorekeep.same[stevedore/api.Item]: loop 1 -/
noncomputable def keep_same_Item_1_L : Live := ⟨26, 26, [0, 1, 5], [], [], []⟩
noncomputable def keep_same_Item_1_e (x : ((List Itm) × (List Itm)) × (Int)) : V := ([.s (.list .item x.1.1 []), .s (.list .item x.1.2 []), .s (.v (.int .i64 x.2))], [], [])
noncomputable def keep_same_Item_1_d : V → Option (((List Itm) × (List Itm)) × (Int)) := fun v => ((p2 (lCons (rS (cLst .item)) (lCons (rS (cLst .item)) (lCons (rS cInt) lNil))) (p2 lNil lNil)) v).map fun x => ((x.1.1, x.1.2.1), x.1.2.2.1)
theorem keep_same_Item_1_dk : ∀ v s, keep_same_Item_1_d v = some s → v = keep_same_Item_1_e s := map_ok (p2_ok (lCons_ok (rS_ok (cLst_ok .item)) (lCons_ok (rS_ok (cLst_ok .item)) (lCons_ok (rS_ok cInt_ok) lNil_ok))) (p2_ok lNil_ok lNil_ok)) (fun _ => by kernel_rfl)
noncomputable def keep_same_Item_1_x1 (x : Bool) : V := ([.s (.v (.bool x))], [], [])
noncomputable def keep_same_Item_1_x1_d : V → Option (Bool) := fun v => ((p2 (lCons (rS cBool) lNil) (p2 lNil lNil)) v).map fun x => x.1.1
theorem keep_same_Item_1_x1_dk : ∀ v s, keep_same_Item_1_x1_d v = some s → v = keep_same_Item_1_x1 s := map_ok (p2_ok (lCons_ok (rS_ok cBool_ok) lNil_ok) (p2_ok lNil_ok lNil_ok)) (fun _ => by kernel_rfl)
noncomputable def keep_same_Item_1_x2 (x : Unit) : V := ([], [], [])
noncomputable def keep_same_Item_1_x2_d : V → Option (Unit) := fun v => ((p2 lNil (p2 lNil lNil)) v).map fun x => ()
theorem keep_same_Item_1_x2_dk : ∀ v s, keep_same_Item_1_x2_d v = some s → v = keep_same_Item_1_x2 s := map_ok (p2_ok lNil_ok (p2_ok lNil_ok lNil_ok)) (fun _ => by kernel_rfl)
noncomputable def keep_same_Item_1_X (e : Ex) : Live := bif exEq e (.ret) then ⟨26, 26, [4], [], [], []⟩ else bif exEq e (.exit 0) then ⟨26, 26, [], [], [], []⟩ else keep_same_Item_1_L
noncomputable def keep_same_Item_1_dx (e : Ex) (v : V) : Option (Bool ⊕ Unit) := match exEq e (.ret) with
  | true => (keep_same_Item_1_x1_d v).map fun d => .inl d
  | false => match exEq e (.exit 0) with
  | true => (keep_same_Item_1_x2_d v).map fun d => .inr d
  | false => none
noncomputable def keep_same_Item_1_ex (x : (Bool ⊕ Unit)) : Ex × V := match x with
  | .inl d => (.ret, keep_same_Item_1_x1 d)
  | .inr d => (.exit 0, keep_same_Item_1_x2 d)
theorem keep_same_Item_1_dxk : ∀ e v r, keep_same_Item_1_dx e v = some r → keep_same_Item_1_ex r = (e, v) := by
  intro e v r h
  unfold keep_same_Item_1_dx at h
  split at h
  · rename_i he
    obtain ⟨d, hd, rfl⟩ := Option.map_eq_some_iff.1 h
    rw [exEq_eq he, keep_same_Item_1_x1_dk _ _ hd]
    rfl
  · split at h
    · rename_i he
      obtain ⟨d, hd, rfl⟩ := Option.map_eq_some_iff.1 h
      rw [exEq_eq he, keep_same_Item_1_x2_dk _ _ hd]
      rfl
    · cases h
noncomputable def keep_same_Item_1_s (t0 : List Itm) (t1 : List Itm) (t5 : Int) : Option ((Int) ⊕ (Unit ⊕ Unit)) :=
  (bif decide (t5 < (↑(List.length t0) : Int)) then (bif decide (0 ≤ t5 ∧ t5 < (↑(List.length t0) : Int)) then (bif decide (0 ≤ t5 ∧ t5 < (↑(List.length t1) : Int)) then (bif !decide (rd Ty.item t0 (Int.toNat t5) = rd Ty.item t1 (Int.toNat t5)) then some (.inr (.inl ())) else some (.inl (IntKind.wrap IntKind.i64 (t5 + 1)))) else none) else none) else some (.inr (.inr ())))
noncomputable def keep_same_Item_1_l (t0 : List Itm) (t1 : List Itm) (t5 : Int) : Option (Unit ⊕ Unit) := run (fun s : Int => keep_same_Item_1_s t0 t1 s) t5
noncomputable def keep_same_Item_1_lf (p : (List Itm) × (List Itm)) (r : (Unit ⊕ Unit)) : (Bool ⊕ Unit) := match r with
  | .inl d => .inl false
  | .inr d => .inr ()
noncomputable def keep_same_Item_1_f (x : ((List Itm) × (List Itm)) × (Int)) (k : Ex → St → Option A) : Option A :=
  bif (keep_same_Item_1_l x.1.1 x.1.2 x.2).isSome then (bif isL ((keep_same_Item_1_l x.1.1 x.1.2 x.2).getD default) then k (.ret) (build ⟨26, 26, [4], [], [], []⟩ (keep_same_Item_1_x1 false)) else k (.exit 0) (build ⟨26, 26, [], [], [], []⟩ (keep_same_Item_1_x2 ()))) else none
theorem keep_same_Item_1_k (t0 : List Itm) (t1 : List Itm) (t5 : Int) (K : (((List Itm) × (List Itm)) × (Int)) ⊕ (Bool ⊕ Unit) → Option A) : ev ref16_Claim_E (callA ref16_Claim_E 6) 67 0 (loopAt ref16_Claim_E 67 0) 0 (build keep_same_Item_1_L (keep_same_Item_1_e ((t0, t1), t5))) (obs ref16_Claim_E keep_same_Item_1_L keep_same_Item_1_X keep_same_Item_1_d keep_same_Item_1_dx K) =
  (bif decide (t5 < (↑(List.length t0) : Int)) then (bif decide (0 ≤ t5 ∧ t5 < (↑(List.length t0) : Int)) then (bif decide (0 ≤ t5 ∧ t5 < (↑(List.length t1) : Int)) then (bif !decide (rd Ty.item t0 (Int.toNat t5) = rd Ty.item t1 (Int.toNat t5)) then K (.inr (.inl false)) else K (.inl ((t0, t1), IntKind.wrap IntKind.i64 (t5 + 1)))) else none) else none) else K (.inr (.inr ()))) := by kernel_rfl
noncomputable def keep_same_Item_1_E : Env := withS ref16_Claim_E 67 0 (sumV ref16_Claim_E 67 0 0 keep_same_Item_1_L keep_same_Item_1_d keep_same_Item_1_f)
theorem keep_same_Item_1_ok : AllOK Tryz.prog keep_same_Item_1_E :=
  ref16_Claim_ok.loopP 6 (step := fun p s => keep_same_Item_1_s p.1 p.2 s) (lift := keep_same_Item_1_lf) (enc := keep_same_Item_1_e) (encx := keep_same_Item_1_ex) keep_same_Item_1_dk keep_same_Item_1_dxk
    (by
      rintro ⟨t0, t1⟩ t5 K
      refine (keep_same_Item_1_k t0 t1 t5 K).trans ?_
      unfold keep_same_Item_1_s
      exact (bndc _ (bndc _ (bndc _ (bndc _ rfl rfl) rfl) rfl) rfl))
    (by
      intro p s k x e
      unfold keep_same_Item_1_f at e
      cases hr : keep_same_Item_1_l p.1 p.2 s with
      | none =>
        rw [hr] at e
        cases e
      | some r =>
      rw [hr] at e
      refine ⟨r, hr, ?_⟩
      rcases r with d | d <;> exact e) (by kernel_rfl)
/-! ### stevedore/stevedorekeep.same[stevedore/api.Item] -/
noncomputable def keep_same_Item (a0 : List Itm) (a1 : List Itm) : Option Bool :=
  (bif (↑(List.length a0) : Int) != (↑(List.length a1) : Int) then some false else (bif Option.isSome (keep_same_Item_1_l a0 a1 0) then (bif isL (Option.getD (keep_same_Item_1_l a0 a1 0) default) then some false else some true) else none))
theorem keep_same_Item_k (a0 : List Itm) (a1 : List Itm) : runA (withN keep_same_Item_1_E 0) 6 67 [.s (.list .item a0 []), .s (.list .item a1 [])] ⟨[], []⟩ =
  (bif (↑(List.length a0) : Int) != (↑(List.length a1) : Int) then some (.s (.v (.bool false))) else (bif Option.isSome (keep_same_Item_1_l a0 a1 0) then (bif isL (Option.getD (keep_same_Item_1_l a0 a1 0) default) then some (.s (.v (.bool false))) else some (.s (.v (.bool true)))) else none)) := by kernel_rfl
noncomputable def keep_same_Item_enc (r : Bool) : A := .s (.v (.bool r))
theorem keep_same_Item_r (a0 : List Itm) (a1 : List Itm) : runA (withN keep_same_Item_1_E 0) 6 67 [.s (.list .item a0 []), .s (.list .item a1 [])] ⟨[], []⟩ = (keep_same_Item a0 a1).map keep_same_Item_enc :=
  (keep_same_Item_k a0 a1).trans (by unfold keep_same_Item; exact (mapc (K := keep_same_Item_enc) _ rfl (mapc (K := keep_same_Item_enc) _ (mapc (K := keep_same_Item_enc) _ rfl rfl) rfl)))
noncomputable def keep_same_Item_F (l : List A) (m : List (Option (List C))) : Option (Bool × A) := match (p2 (lCons (rS (cLst .item)) (lCons (rS (cLst .item)) lNil)) lNil) (l, m) with
  | some x => some ((keep_same_Item x.1.1 x.1.2.1).isSome, keep_same_Item_enc ((keep_same_Item x.1.1 x.1.2.1).getD default))
  | none => none
noncomputable def keep_same_Item_E : Env := withG keep_same_Item_1_E 67 (gOfM keep_same_Item_1_E 67 [22, 22] keep_same_Item_F)
theorem keep_same_Item_ok : AllOK Tryz.prog keep_same_Item_E := keep_same_Item_1_ok.fm 6 (fun l m r e hl => by
  unfold keep_same_Item_F at e
  cases hD : (p2 (lCons (rS (cLst .item)) (lCons (rS (cLst .item)) lNil)) lNil) (l, m) with
  | none => rw [hD] at e; cases e
  | some x =>
    rw [hD] at e
    have hE := (p2_ok (lCons_ok (rS_ok (cLst_ok .item)) (lCons_ok (rS_ok (cLst_ok .item)) lNil_ok)) lNil_ok) _ _ hD
    have h1 : l = [.s (.list .item x.1.1 []), .s (.list .item x.1.2.1 [])] := congrArg Prod.fst hE
    have h2 : m = [] := congrArg Prod.snd hE
    subst h1 h2
    simp only [Option.some.injEq, Prod.mk.injEq] at e
    obtain ⟨hs, rfl⟩ := e
    exact ⟨0, get_of (keep_same_Item_r x.1.1 x.1.2.1) hs⟩) (by kernel_rfl)
/-! ### stevedore/stevedorekeep.same[stevedore/api.Lot]: loop 1 -/
noncomputable def keep_same_Lot_1_L : Live := ⟨26, 26, [0, 1, 5], [], [], []⟩
noncomputable def keep_same_Lot_1_e (x : ((List Lott) × (List Lott)) × (Int)) : V := ([.s (.list .lot x.1.1 []), .s (.list .lot x.1.2 []), .s (.v (.int .i64 x.2))], [], [])
noncomputable def keep_same_Lot_1_d : V → Option (((List Lott) × (List Lott)) × (Int)) := fun v => ((p2 (lCons (rS (cLst .lot)) (lCons (rS (cLst .lot)) (lCons (rS cInt) lNil))) (p2 lNil lNil)) v).map fun x => ((x.1.1, x.1.2.1), x.1.2.2.1)
theorem keep_same_Lot_1_dk : ∀ v s, keep_same_Lot_1_d v = some s → v = keep_same_Lot_1_e s := map_ok (p2_ok (lCons_ok (rS_ok (cLst_ok .lot)) (lCons_ok (rS_ok (cLst_ok .lot)) (lCons_ok (rS_ok cInt_ok) lNil_ok))) (p2_ok lNil_ok lNil_ok)) (fun _ => by kernel_rfl)
noncomputable def keep_same_Lot_1_x1 (x : Bool) : V := ([.s (.v (.bool x))], [], [])
noncomputable def keep_same_Lot_1_x1_d : V → Option (Bool) := fun v => ((p2 (lCons (rS cBool) lNil) (p2 lNil lNil)) v).map fun x => x.1.1
theorem keep_same_Lot_1_x1_dk : ∀ v s, keep_same_Lot_1_x1_d v = some s → v = keep_same_Lot_1_x1 s := map_ok (p2_ok (lCons_ok (rS_ok cBool_ok) lNil_ok) (p2_ok lNil_ok lNil_ok)) (fun _ => by kernel_rfl)
noncomputable def keep_same_Lot_1_x2 (x : Unit) : V := ([], [], [])
noncomputable def keep_same_Lot_1_x2_d : V → Option (Unit) := fun v => ((p2 lNil (p2 lNil lNil)) v).map fun x => ()
theorem keep_same_Lot_1_x2_dk : ∀ v s, keep_same_Lot_1_x2_d v = some s → v = keep_same_Lot_1_x2 s := map_ok (p2_ok lNil_ok (p2_ok lNil_ok lNil_ok)) (fun _ => by kernel_rfl)
noncomputable def keep_same_Lot_1_X (e : Ex) : Live := bif exEq e (.ret) then ⟨26, 26, [4], [], [], []⟩ else bif exEq e (.exit 0) then ⟨26, 26, [], [], [], []⟩ else keep_same_Lot_1_L
noncomputable def keep_same_Lot_1_dx (e : Ex) (v : V) : Option (Bool ⊕ Unit) := match exEq e (.ret) with
  | true => (keep_same_Lot_1_x1_d v).map fun d => .inl d
  | false => match exEq e (.exit 0) with
  | true => (keep_same_Lot_1_x2_d v).map fun d => .inr d
  | false => none
noncomputable def keep_same_Lot_1_ex (x : (Bool ⊕ Unit)) : Ex × V := match x with
  | .inl d => (.ret, keep_same_Lot_1_x1 d)
  | .inr d => (.exit 0, keep_same_Lot_1_x2 d)
theorem keep_same_Lot_1_dxk : ∀ e v r, keep_same_Lot_1_dx e v = some r → keep_same_Lot_1_ex r = (e, v) := by
  intro e v r h
  unfold keep_same_Lot_1_dx at h
  split at h
  · rename_i he
    obtain ⟨d, hd, rfl⟩ := Option.map_eq_some_iff.1 h
    rw [exEq_eq he, keep_same_Lot_1_x1_dk _ _ hd]
    rfl
  · split at h
    · rename_i he
      obtain ⟨d, hd, rfl⟩ := Option.map_eq_some_iff.1 h
      rw [exEq_eq he, keep_same_Lot_1_x2_dk _ _ hd]
      rfl
    · cases h
noncomputable def keep_same_Lot_1_s (t0 : List Lott) (t1 : List Lott) (t5 : Int) : Option ((Int) ⊕ (Unit ⊕ Unit)) :=
  (bif decide (t5 < (↑(List.length t0) : Int)) then (bif decide (0 ≤ t5 ∧ t5 < (↑(List.length t0) : Int)) then (bif decide (0 ≤ t5 ∧ t5 < (↑(List.length t1) : Int)) then (bif !decide (rd Ty.lot t0 (Int.toNat t5) = rd Ty.lot t1 (Int.toNat t5)) then some (.inr (.inl ())) else some (.inl (IntKind.wrap IntKind.i64 (t5 + 1)))) else none) else none) else some (.inr (.inr ())))
noncomputable def keep_same_Lot_1_l (t0 : List Lott) (t1 : List Lott) (t5 : Int) : Option (Unit ⊕ Unit) := run (fun s : Int => keep_same_Lot_1_s t0 t1 s) t5
noncomputable def keep_same_Lot_1_lf (p : (List Lott) × (List Lott)) (r : (Unit ⊕ Unit)) : (Bool ⊕ Unit) := match r with
  | .inl d => .inl false
  | .inr d => .inr ()
noncomputable def keep_same_Lot_1_f (x : ((List Lott) × (List Lott)) × (Int)) (k : Ex → St → Option A) : Option A :=
  bif (keep_same_Lot_1_l x.1.1 x.1.2 x.2).isSome then (bif isL ((keep_same_Lot_1_l x.1.1 x.1.2 x.2).getD default) then k (.ret) (build ⟨26, 26, [4], [], [], []⟩ (keep_same_Lot_1_x1 false)) else k (.exit 0) (build ⟨26, 26, [], [], [], []⟩ (keep_same_Lot_1_x2 ()))) else none
theorem keep_same_Lot_1_k (t0 : List Lott) (t1 : List Lott) (t5 : Int) (K : (((List Lott) × (List Lott)) × (Int)) ⊕ (Bool ⊕ Unit) → Option A) : ev keep_same_Item_E (callA keep_same_Item_E 6) 68 0 (loopAt keep_same_Item_E 68 0) 0 (build keep_same_Lot_1_L (keep_same_Lot_1_e ((t0, t1), t5))) (obs keep_same_Item_E keep_same_Lot_1_L keep_same_Lot_1_X keep_same_Lot_1_d keep_same_Lot_1_dx K) =
  (bif decide (t5 < (↑(List.length t0) : Int)) then (bif decide (0 ≤ t5 ∧ t5 < (↑(List.length t0) : Int)) then (bif decide (0 ≤ t5 ∧ t5 < (↑(List.length t1) : Int)) then (bif !decide (rd Ty.lot t0 (Int.toNat t5) = rd Ty.lot t1 (Int.toNat t5)) then K (.inr (.inl false)) else K (.inl ((t0, t1), IntKind.wrap IntKind.i64 (t5 + 1)))) else none) else none) else K (.inr (.inr ()))) := by kernel_rfl
noncomputable def keep_same_Lot_1_E : Env := withS keep_same_Item_E 68 0 (sumV keep_same_Item_E 68 0 0 keep_same_Lot_1_L keep_same_Lot_1_d keep_same_Lot_1_f)
theorem keep_same_Lot_1_ok : AllOK Tryz.prog keep_same_Lot_1_E :=
  keep_same_Item_ok.loopP 6 (step := fun p s => keep_same_Lot_1_s p.1 p.2 s) (lift := keep_same_Lot_1_lf) (enc := keep_same_Lot_1_e) (encx := keep_same_Lot_1_ex) keep_same_Lot_1_dk keep_same_Lot_1_dxk
    (by
      rintro ⟨t0, t1⟩ t5 K
      refine (keep_same_Lot_1_k t0 t1 t5 K).trans ?_
      unfold keep_same_Lot_1_s
      exact (bndc _ (bndc _ (bndc _ (bndc _ rfl rfl) rfl) rfl) rfl))
    (by
      intro p s k x e
      unfold keep_same_Lot_1_f at e
      cases hr : keep_same_Lot_1_l p.1 p.2 s with
      | none =>
        rw [hr] at e
        cases e
      | some r =>
      rw [hr] at e
      refine ⟨r, hr, ?_⟩
      rcases r with d | d <;> exact e) (by kernel_rfl)
/-! ### stevedore/stevedorekeep.same[stevedore/api.Lot] -/
noncomputable def keep_same_Lot (a0 : List Lott) (a1 : List Lott) : Option Bool :=
  (bif (↑(List.length a0) : Int) != (↑(List.length a1) : Int) then some false else (bif Option.isSome (keep_same_Lot_1_l a0 a1 0) then (bif isL (Option.getD (keep_same_Lot_1_l a0 a1 0) default) then some false else some true) else none))
theorem keep_same_Lot_k (a0 : List Lott) (a1 : List Lott) : runA (withN keep_same_Lot_1_E 0) 6 68 [.s (.list .lot a0 []), .s (.list .lot a1 [])] ⟨[], []⟩ =
  (bif (↑(List.length a0) : Int) != (↑(List.length a1) : Int) then some (.s (.v (.bool false))) else (bif Option.isSome (keep_same_Lot_1_l a0 a1 0) then (bif isL (Option.getD (keep_same_Lot_1_l a0 a1 0) default) then some (.s (.v (.bool false))) else some (.s (.v (.bool true)))) else none)) := by kernel_rfl
noncomputable def keep_same_Lot_enc (r : Bool) : A := .s (.v (.bool r))
theorem keep_same_Lot_r (a0 : List Lott) (a1 : List Lott) : runA (withN keep_same_Lot_1_E 0) 6 68 [.s (.list .lot a0 []), .s (.list .lot a1 [])] ⟨[], []⟩ = (keep_same_Lot a0 a1).map keep_same_Lot_enc :=
  (keep_same_Lot_k a0 a1).trans (by unfold keep_same_Lot; exact (mapc (K := keep_same_Lot_enc) _ rfl (mapc (K := keep_same_Lot_enc) _ (mapc (K := keep_same_Lot_enc) _ rfl rfl) rfl)))
noncomputable def keep_same_Lot_F (l : List A) (m : List (Option (List C))) : Option (Bool × A) := match (p2 (lCons (rS (cLst .lot)) (lCons (rS (cLst .lot)) lNil)) lNil) (l, m) with
  | some x => some ((keep_same_Lot x.1.1 x.1.2.1).isSome, keep_same_Lot_enc ((keep_same_Lot x.1.1 x.1.2.1).getD default))
  | none => none
noncomputable def keep_same_Lot_E : Env := withG keep_same_Lot_1_E 68 (gOfM keep_same_Lot_1_E 68 [23, 23] keep_same_Lot_F)
theorem keep_same_Lot_ok : AllOK Tryz.prog keep_same_Lot_E := keep_same_Lot_1_ok.fm 6 (fun l m r e hl => by
  unfold keep_same_Lot_F at e
  cases hD : (p2 (lCons (rS (cLst .lot)) (lCons (rS (cLst .lot)) lNil)) lNil) (l, m) with
  | none => rw [hD] at e; cases e
  | some x =>
    rw [hD] at e
    have hE := (p2_ok (lCons_ok (rS_ok (cLst_ok .lot)) (lCons_ok (rS_ok (cLst_ok .lot)) lNil_ok)) lNil_ok) _ _ hD
    have h1 : l = [.s (.list .lot x.1.1 []), .s (.list .lot x.1.2.1 [])] := congrArg Prod.fst hE
    have h2 : m = [] := congrArg Prod.snd hE
    subst h1 h2
    simp only [Option.some.injEq, Prod.mk.injEq] at e
    obtain ⟨hs, rfl⟩ := e
    exact ⟨0, get_of (keep_same_Lot_r x.1.1 x.1.2.1) hs⟩) (by kernel_rfl)
/-! ### stevedore/stevedorekeep.same[stevedore/api.Zone]: loop 1 -/
noncomputable def keep_same_Zone_1_L : Live := ⟨26, 26, [0, 1, 5], [], [], []⟩
noncomputable def keep_same_Zone_1_e (x : ((List Zon) × (List Zon)) × (Int)) : V := ([.s (.list .zone x.1.1 []), .s (.list .zone x.1.2 []), .s (.v (.int .i64 x.2))], [], [])
noncomputable def keep_same_Zone_1_d : V → Option (((List Zon) × (List Zon)) × (Int)) := fun v => ((p2 (lCons (rS (cLst .zone)) (lCons (rS (cLst .zone)) (lCons (rS cInt) lNil))) (p2 lNil lNil)) v).map fun x => ((x.1.1, x.1.2.1), x.1.2.2.1)
theorem keep_same_Zone_1_dk : ∀ v s, keep_same_Zone_1_d v = some s → v = keep_same_Zone_1_e s := map_ok (p2_ok (lCons_ok (rS_ok (cLst_ok .zone)) (lCons_ok (rS_ok (cLst_ok .zone)) (lCons_ok (rS_ok cInt_ok) lNil_ok))) (p2_ok lNil_ok lNil_ok)) (fun _ => by kernel_rfl)
noncomputable def keep_same_Zone_1_x1 (x : Bool) : V := ([.s (.v (.bool x))], [], [])
noncomputable def keep_same_Zone_1_x1_d : V → Option (Bool) := fun v => ((p2 (lCons (rS cBool) lNil) (p2 lNil lNil)) v).map fun x => x.1.1
theorem keep_same_Zone_1_x1_dk : ∀ v s, keep_same_Zone_1_x1_d v = some s → v = keep_same_Zone_1_x1 s := map_ok (p2_ok (lCons_ok (rS_ok cBool_ok) lNil_ok) (p2_ok lNil_ok lNil_ok)) (fun _ => by kernel_rfl)
noncomputable def keep_same_Zone_1_x2 (x : Unit) : V := ([], [], [])
noncomputable def keep_same_Zone_1_x2_d : V → Option (Unit) := fun v => ((p2 lNil (p2 lNil lNil)) v).map fun x => ()
theorem keep_same_Zone_1_x2_dk : ∀ v s, keep_same_Zone_1_x2_d v = some s → v = keep_same_Zone_1_x2 s := map_ok (p2_ok lNil_ok (p2_ok lNil_ok lNil_ok)) (fun _ => by kernel_rfl)
noncomputable def keep_same_Zone_1_X (e : Ex) : Live := bif exEq e (.ret) then ⟨26, 26, [4], [], [], []⟩ else bif exEq e (.exit 0) then ⟨26, 26, [], [], [], []⟩ else keep_same_Zone_1_L
noncomputable def keep_same_Zone_1_dx (e : Ex) (v : V) : Option (Bool ⊕ Unit) := match exEq e (.ret) with
  | true => (keep_same_Zone_1_x1_d v).map fun d => .inl d
  | false => match exEq e (.exit 0) with
  | true => (keep_same_Zone_1_x2_d v).map fun d => .inr d
  | false => none
noncomputable def keep_same_Zone_1_ex (x : (Bool ⊕ Unit)) : Ex × V := match x with
  | .inl d => (.ret, keep_same_Zone_1_x1 d)
  | .inr d => (.exit 0, keep_same_Zone_1_x2 d)
theorem keep_same_Zone_1_dxk : ∀ e v r, keep_same_Zone_1_dx e v = some r → keep_same_Zone_1_ex r = (e, v) := by
  intro e v r h
  unfold keep_same_Zone_1_dx at h
  split at h
  · rename_i he
    obtain ⟨d, hd, rfl⟩ := Option.map_eq_some_iff.1 h
    rw [exEq_eq he, keep_same_Zone_1_x1_dk _ _ hd]
    rfl
  · split at h
    · rename_i he
      obtain ⟨d, hd, rfl⟩ := Option.map_eq_some_iff.1 h
      rw [exEq_eq he, keep_same_Zone_1_x2_dk _ _ hd]
      rfl
    · cases h
noncomputable def keep_same_Zone_1_s (t0 : List Zon) (t1 : List Zon) (t5 : Int) : Option ((Int) ⊕ (Unit ⊕ Unit)) :=
  (bif decide (t5 < (↑(List.length t0) : Int)) then (bif decide (0 ≤ t5 ∧ t5 < (↑(List.length t0) : Int)) then (bif decide (0 ≤ t5 ∧ t5 < (↑(List.length t1) : Int)) then (bif !decide (rd Ty.zone t0 (Int.toNat t5) = rd Ty.zone t1 (Int.toNat t5)) then some (.inr (.inl ())) else some (.inl (IntKind.wrap IntKind.i64 (t5 + 1)))) else none) else none) else some (.inr (.inr ())))
noncomputable def keep_same_Zone_1_l (t0 : List Zon) (t1 : List Zon) (t5 : Int) : Option (Unit ⊕ Unit) := run (fun s : Int => keep_same_Zone_1_s t0 t1 s) t5
noncomputable def keep_same_Zone_1_lf (p : (List Zon) × (List Zon)) (r : (Unit ⊕ Unit)) : (Bool ⊕ Unit) := match r with
  | .inl d => .inl false
  | .inr d => .inr ()
noncomputable def keep_same_Zone_1_f (x : ((List Zon) × (List Zon)) × (Int)) (k : Ex → St → Option A) : Option A :=
  bif (keep_same_Zone_1_l x.1.1 x.1.2 x.2).isSome then (bif isL ((keep_same_Zone_1_l x.1.1 x.1.2 x.2).getD default) then k (.ret) (build ⟨26, 26, [4], [], [], []⟩ (keep_same_Zone_1_x1 false)) else k (.exit 0) (build ⟨26, 26, [], [], [], []⟩ (keep_same_Zone_1_x2 ()))) else none
theorem keep_same_Zone_1_k (t0 : List Zon) (t1 : List Zon) (t5 : Int) (K : (((List Zon) × (List Zon)) × (Int)) ⊕ (Bool ⊕ Unit) → Option A) : ev keep_same_Lot_E (callA keep_same_Lot_E 6) 69 0 (loopAt keep_same_Lot_E 69 0) 0 (build keep_same_Zone_1_L (keep_same_Zone_1_e ((t0, t1), t5))) (obs keep_same_Lot_E keep_same_Zone_1_L keep_same_Zone_1_X keep_same_Zone_1_d keep_same_Zone_1_dx K) =
  (bif decide (t5 < (↑(List.length t0) : Int)) then (bif decide (0 ≤ t5 ∧ t5 < (↑(List.length t0) : Int)) then (bif decide (0 ≤ t5 ∧ t5 < (↑(List.length t1) : Int)) then (bif !decide (rd Ty.zone t0 (Int.toNat t5) = rd Ty.zone t1 (Int.toNat t5)) then K (.inr (.inl false)) else K (.inl ((t0, t1), IntKind.wrap IntKind.i64 (t5 + 1)))) else none) else none) else K (.inr (.inr ()))) := by kernel_rfl
noncomputable def keep_same_Zone_1_E : Env := withS keep_same_Lot_E 69 0 (sumV keep_same_Lot_E 69 0 0 keep_same_Zone_1_L keep_same_Zone_1_d keep_same_Zone_1_f)
theorem keep_same_Zone_1_ok : AllOK Tryz.prog keep_same_Zone_1_E :=
  keep_same_Lot_ok.loopP 6 (step := fun p s => keep_same_Zone_1_s p.1 p.2 s) (lift := keep_same_Zone_1_lf) (enc := keep_same_Zone_1_e) (encx := keep_same_Zone_1_ex) keep_same_Zone_1_dk keep_same_Zone_1_dxk
    (by
      rintro ⟨t0, t1⟩ t5 K
      refine (keep_same_Zone_1_k t0 t1 t5 K).trans ?_
      unfold keep_same_Zone_1_s
      exact (bndc _ (bndc _ (bndc _ (bndc _ rfl rfl) rfl) rfl) rfl))
    (by
      intro p s k x e
      unfold keep_same_Zone_1_f at e
      cases hr : keep_same_Zone_1_l p.1 p.2 s with
      | none =>
        rw [hr] at e
        cases e
      | some r =>
      rw [hr] at e
      refine ⟨r, hr, ?_⟩
      rcases r with d | d <;> exact e) (by kernel_rfl)
/-! ### stevedore/stevedorekeep.same[stevedore/api.Zone] -/
noncomputable def keep_same_Zone (a0 : List Zon) (a1 : List Zon) : Option Bool :=
  (bif (↑(List.length a0) : Int) != (↑(List.length a1) : Int) then some false else (bif Option.isSome (keep_same_Zone_1_l a0 a1 0) then (bif isL (Option.getD (keep_same_Zone_1_l a0 a1 0) default) then some false else some true) else none))
theorem keep_same_Zone_k (a0 : List Zon) (a1 : List Zon) : runA (withN keep_same_Zone_1_E 0) 6 69 [.s (.list .zone a0 []), .s (.list .zone a1 [])] ⟨[], []⟩ =
  (bif (↑(List.length a0) : Int) != (↑(List.length a1) : Int) then some (.s (.v (.bool false))) else (bif Option.isSome (keep_same_Zone_1_l a0 a1 0) then (bif isL (Option.getD (keep_same_Zone_1_l a0 a1 0) default) then some (.s (.v (.bool false))) else some (.s (.v (.bool true)))) else none)) := by kernel_rfl
noncomputable def keep_same_Zone_enc (r : Bool) : A := .s (.v (.bool r))
theorem keep_same_Zone_r (a0 : List Zon) (a1 : List Zon) : runA (withN keep_same_Zone_1_E 0) 6 69 [.s (.list .zone a0 []), .s (.list .zone a1 [])] ⟨[], []⟩ = (keep_same_Zone a0 a1).map keep_same_Zone_enc :=
  (keep_same_Zone_k a0 a1).trans (by unfold keep_same_Zone; exact (mapc (K := keep_same_Zone_enc) _ rfl (mapc (K := keep_same_Zone_enc) _ (mapc (K := keep_same_Zone_enc) _ rfl rfl) rfl)))
noncomputable def keep_same_Zone_F (l : List A) (m : List (Option (List C))) : Option (Bool × A) := match (p2 (lCons (rS (cLst .zone)) (lCons (rS (cLst .zone)) lNil)) lNil) (l, m) with
  | some x => some ((keep_same_Zone x.1.1 x.1.2.1).isSome, keep_same_Zone_enc ((keep_same_Zone x.1.1 x.1.2.1).getD default))
  | none => none
noncomputable def keep_same_Zone_E : Env := withG keep_same_Zone_1_E 69 (gOfM keep_same_Zone_1_E 69 [24, 24] keep_same_Zone_F)
theorem keep_same_Zone_ok : AllOK Tryz.prog keep_same_Zone_E := keep_same_Zone_1_ok.fm 6 (fun l m r e hl => by
  unfold keep_same_Zone_F at e
  cases hD : (p2 (lCons (rS (cLst .zone)) (lCons (rS (cLst .zone)) lNil)) lNil) (l, m) with
  | none => rw [hD] at e; cases e
  | some x =>
    rw [hD] at e
    have hE := (p2_ok (lCons_ok (rS_ok (cLst_ok .zone)) (lCons_ok (rS_ok (cLst_ok .zone)) lNil_ok)) lNil_ok) _ _ hD
    have h1 : l = [.s (.list .zone x.1.1 []), .s (.list .zone x.1.2.1 [])] := congrArg Prod.fst hE
    have h2 : m = [] := congrArg Prod.snd hE
    subst h1 h2
    simp only [Option.some.injEq, Prod.mk.injEq] at e
    obtain ⟨hs, rfl⟩ := e
    exact ⟨0, get_of (keep_same_Zone_r x.1.1 x.1.2.1) hs⟩) (by kernel_rfl)
/-! ### stevedore/stevedorekeep.same[stevedore/api.Bin]: loop 1 -/
noncomputable def keep_same_Bin_1_L : Live := ⟨26, 26, [0, 1, 5], [], [], []⟩
noncomputable def keep_same_Bin_1_e (x : ((List Binn) × (List Binn)) × (Int)) : V := ([.s (.list .bin x.1.1 []), .s (.list .bin x.1.2 []), .s (.v (.int .i64 x.2))], [], [])
noncomputable def keep_same_Bin_1_d : V → Option (((List Binn) × (List Binn)) × (Int)) := fun v => ((p2 (lCons (rS (cLst .bin)) (lCons (rS (cLst .bin)) (lCons (rS cInt) lNil))) (p2 lNil lNil)) v).map fun x => ((x.1.1, x.1.2.1), x.1.2.2.1)
theorem keep_same_Bin_1_dk : ∀ v s, keep_same_Bin_1_d v = some s → v = keep_same_Bin_1_e s := map_ok (p2_ok (lCons_ok (rS_ok (cLst_ok .bin)) (lCons_ok (rS_ok (cLst_ok .bin)) (lCons_ok (rS_ok cInt_ok) lNil_ok))) (p2_ok lNil_ok lNil_ok)) (fun _ => by kernel_rfl)
noncomputable def keep_same_Bin_1_x1 (x : Bool) : V := ([.s (.v (.bool x))], [], [])
noncomputable def keep_same_Bin_1_x1_d : V → Option (Bool) := fun v => ((p2 (lCons (rS cBool) lNil) (p2 lNil lNil)) v).map fun x => x.1.1
theorem keep_same_Bin_1_x1_dk : ∀ v s, keep_same_Bin_1_x1_d v = some s → v = keep_same_Bin_1_x1 s := map_ok (p2_ok (lCons_ok (rS_ok cBool_ok) lNil_ok) (p2_ok lNil_ok lNil_ok)) (fun _ => by kernel_rfl)
noncomputable def keep_same_Bin_1_x2 (x : Unit) : V := ([], [], [])
noncomputable def keep_same_Bin_1_x2_d : V → Option (Unit) := fun v => ((p2 lNil (p2 lNil lNil)) v).map fun x => ()
theorem keep_same_Bin_1_x2_dk : ∀ v s, keep_same_Bin_1_x2_d v = some s → v = keep_same_Bin_1_x2 s := map_ok (p2_ok lNil_ok (p2_ok lNil_ok lNil_ok)) (fun _ => by kernel_rfl)
noncomputable def keep_same_Bin_1_X (e : Ex) : Live := bif exEq e (.ret) then ⟨26, 26, [4], [], [], []⟩ else bif exEq e (.exit 0) then ⟨26, 26, [], [], [], []⟩ else keep_same_Bin_1_L
noncomputable def keep_same_Bin_1_dx (e : Ex) (v : V) : Option (Bool ⊕ Unit) := match exEq e (.ret) with
  | true => (keep_same_Bin_1_x1_d v).map fun d => .inl d
  | false => match exEq e (.exit 0) with
  | true => (keep_same_Bin_1_x2_d v).map fun d => .inr d
  | false => none
noncomputable def keep_same_Bin_1_ex (x : (Bool ⊕ Unit)) : Ex × V := match x with
  | .inl d => (.ret, keep_same_Bin_1_x1 d)
  | .inr d => (.exit 0, keep_same_Bin_1_x2 d)
theorem keep_same_Bin_1_dxk : ∀ e v r, keep_same_Bin_1_dx e v = some r → keep_same_Bin_1_ex r = (e, v) := by
  intro e v r h
  unfold keep_same_Bin_1_dx at h
  split at h
  · rename_i he
    obtain ⟨d, hd, rfl⟩ := Option.map_eq_some_iff.1 h
    rw [exEq_eq he, keep_same_Bin_1_x1_dk _ _ hd]
    rfl
  · split at h
    · rename_i he
      obtain ⟨d, hd, rfl⟩ := Option.map_eq_some_iff.1 h
      rw [exEq_eq he, keep_same_Bin_1_x2_dk _ _ hd]
      rfl
    · cases h
noncomputable def keep_same_Bin_1_s (t0 : List Binn) (t1 : List Binn) (t5 : Int) : Option ((Int) ⊕ (Unit ⊕ Unit)) :=
  (bif decide (t5 < (↑(List.length t0) : Int)) then (bif decide (0 ≤ t5 ∧ t5 < (↑(List.length t0) : Int)) then (bif decide (0 ≤ t5 ∧ t5 < (↑(List.length t1) : Int)) then (bif !decide (rd Ty.bin t0 (Int.toNat t5) = rd Ty.bin t1 (Int.toNat t5)) then some (.inr (.inl ())) else some (.inl (IntKind.wrap IntKind.i64 (t5 + 1)))) else none) else none) else some (.inr (.inr ())))
noncomputable def keep_same_Bin_1_l (t0 : List Binn) (t1 : List Binn) (t5 : Int) : Option (Unit ⊕ Unit) := run (fun s : Int => keep_same_Bin_1_s t0 t1 s) t5
noncomputable def keep_same_Bin_1_lf (p : (List Binn) × (List Binn)) (r : (Unit ⊕ Unit)) : (Bool ⊕ Unit) := match r with
  | .inl d => .inl false
  | .inr d => .inr ()
noncomputable def keep_same_Bin_1_f (x : ((List Binn) × (List Binn)) × (Int)) (k : Ex → St → Option A) : Option A :=
  bif (keep_same_Bin_1_l x.1.1 x.1.2 x.2).isSome then (bif isL ((keep_same_Bin_1_l x.1.1 x.1.2 x.2).getD default) then k (.ret) (build ⟨26, 26, [4], [], [], []⟩ (keep_same_Bin_1_x1 false)) else k (.exit 0) (build ⟨26, 26, [], [], [], []⟩ (keep_same_Bin_1_x2 ()))) else none
theorem keep_same_Bin_1_k (t0 : List Binn) (t1 : List Binn) (t5 : Int) (K : (((List Binn) × (List Binn)) × (Int)) ⊕ (Bool ⊕ Unit) → Option A) : ev keep_same_Zone_E (callA keep_same_Zone_E 6) 70 0 (loopAt keep_same_Zone_E 70 0) 0 (build keep_same_Bin_1_L (keep_same_Bin_1_e ((t0, t1), t5))) (obs keep_same_Zone_E keep_same_Bin_1_L keep_same_Bin_1_X keep_same_Bin_1_d keep_same_Bin_1_dx K) =
  (bif decide (t5 < (↑(List.length t0) : Int)) then (bif decide (0 ≤ t5 ∧ t5 < (↑(List.length t0) : Int)) then (bif decide (0 ≤ t5 ∧ t5 < (↑(List.length t1) : Int)) then (bif !decide (rd Ty.bin t0 (Int.toNat t5) = rd Ty.bin t1 (Int.toNat t5)) then K (.inr (.inl false)) else K (.inl ((t0, t1), IntKind.wrap IntKind.i64 (t5 + 1)))) else none) else none) else K (.inr (.inr ()))) := by kernel_rfl
noncomputable def keep_same_Bin_1_E : Env := withS keep_same_Zone_E 70 0 (sumV keep_same_Zone_E 70 0 0 keep_same_Bin_1_L keep_same_Bin_1_d keep_same_Bin_1_f)
theorem keep_same_Bin_1_ok : AllOK Tryz.prog keep_same_Bin_1_E :=
  keep_same_Zone_ok.loopP 6 (step := fun p s => keep_same_Bin_1_s p.1 p.2 s) (lift := keep_same_Bin_1_lf) (enc := keep_same_Bin_1_e) (encx := keep_same_Bin_1_ex) keep_same_Bin_1_dk keep_same_Bin_1_dxk
    (by
      rintro ⟨t0, t1⟩ t5 K
      refine (keep_same_Bin_1_k t0 t1 t5 K).trans ?_
      unfold keep_same_Bin_1_s
      exact (bndc _ (bndc _ (bndc _ (bndc _ rfl rfl) rfl) rfl) rfl))
    (by
      intro p s k x e
      unfold keep_same_Bin_1_f at e
      cases hr : keep_same_Bin_1_l p.1 p.2 s with
      | none =>
        rw [hr] at e
        cases e
      | some r =>
      rw [hr] at e
      refine ⟨r, hr, ?_⟩
      rcases r with d | d <;> exact e) (by kernel_rfl)
/-! ### stevedore/stevedorekeep.same[stevedore/api.Bin] -/
noncomputable def keep_same_Bin (a0 : List Binn) (a1 : List Binn) : Option Bool :=
  (bif (↑(List.length a0) : Int) != (↑(List.length a1) : Int) then some false else (bif Option.isSome (keep_same_Bin_1_l a0 a1 0) then (bif isL (Option.getD (keep_same_Bin_1_l a0 a1 0) default) then some false else some true) else none))
theorem keep_same_Bin_k (a0 : List Binn) (a1 : List Binn) : runA (withN keep_same_Bin_1_E 0) 6 70 [.s (.list .bin a0 []), .s (.list .bin a1 [])] ⟨[], []⟩ =
  (bif (↑(List.length a0) : Int) != (↑(List.length a1) : Int) then some (.s (.v (.bool false))) else (bif Option.isSome (keep_same_Bin_1_l a0 a1 0) then (bif isL (Option.getD (keep_same_Bin_1_l a0 a1 0) default) then some (.s (.v (.bool false))) else some (.s (.v (.bool true)))) else none)) := by kernel_rfl
noncomputable def keep_same_Bin_enc (r : Bool) : A := .s (.v (.bool r))
theorem keep_same_Bin_r (a0 : List Binn) (a1 : List Binn) : runA (withN keep_same_Bin_1_E 0) 6 70 [.s (.list .bin a0 []), .s (.list .bin a1 [])] ⟨[], []⟩ = (keep_same_Bin a0 a1).map keep_same_Bin_enc :=
  (keep_same_Bin_k a0 a1).trans (by unfold keep_same_Bin; exact (mapc (K := keep_same_Bin_enc) _ rfl (mapc (K := keep_same_Bin_enc) _ (mapc (K := keep_same_Bin_enc) _ rfl rfl) rfl)))
noncomputable def keep_same_Bin_F (l : List A) (m : List (Option (List C))) : Option (Bool × A) := match (p2 (lCons (rS (cLst .bin)) (lCons (rS (cLst .bin)) lNil)) lNil) (l, m) with
  | some x => some ((keep_same_Bin x.1.1 x.1.2.1).isSome, keep_same_Bin_enc ((keep_same_Bin x.1.1 x.1.2.1).getD default))
  | none => none
noncomputable def keep_same_Bin_E : Env := withG keep_same_Bin_1_E 70 (gOfM keep_same_Bin_1_E 70 [25, 25] keep_same_Bin_F)
theorem keep_same_Bin_ok : AllOK Tryz.prog keep_same_Bin_E := keep_same_Bin_1_ok.fm 6 (fun l m r e hl => by
  unfold keep_same_Bin_F at e
  cases hD : (p2 (lCons (rS (cLst .bin)) (lCons (rS (cLst .bin)) lNil)) lNil) (l, m) with
  | none => rw [hD] at e; cases e
  | some x =>
    rw [hD] at e
    have hE := (p2_ok (lCons_ok (rS_ok (cLst_ok .bin)) (lCons_ok (rS_ok (cLst_ok .bin)) lNil_ok)) lNil_ok) _ _ hD
    have h1 : l = [.s (.list .bin x.1.1 []), .s (.list .bin x.1.2.1 [])] := congrArg Prod.fst hE
    have h2 : m = [] := congrArg Prod.snd hE
    subst h1 h2
    simp only [Option.some.injEq, Prod.mk.injEq] at e
    obtain ⟨hs, rfl⟩ := e
    exact ⟨0, get_of (keep_same_Bin_r x.1.1 x.1.2.1) hs⟩) (by kernel_rfl)
/-! ### stevedore/stevedorekeep.same[stevedore/api.Quant]: loop 1 -/
noncomputable def keep_same_Quant_1_L : Live := ⟨26, 26, [0, 1, 5], [], [], []⟩
noncomputable def keep_same_Quant_1_e (x : ((List Quant) × (List Quant)) × (Int)) : V := ([.s (.list .quant x.1.1 []), .s (.list .quant x.1.2 []), .s (.v (.int .i64 x.2))], [], [])
noncomputable def keep_same_Quant_1_d : V → Option (((List Quant) × (List Quant)) × (Int)) := fun v => ((p2 (lCons (rS (cLst .quant)) (lCons (rS (cLst .quant)) (lCons (rS cInt) lNil))) (p2 lNil lNil)) v).map fun x => ((x.1.1, x.1.2.1), x.1.2.2.1)
theorem keep_same_Quant_1_dk : ∀ v s, keep_same_Quant_1_d v = some s → v = keep_same_Quant_1_e s := map_ok (p2_ok (lCons_ok (rS_ok (cLst_ok .quant)) (lCons_ok (rS_ok (cLst_ok .quant)) (lCons_ok (rS_ok cInt_ok) lNil_ok))) (p2_ok lNil_ok lNil_ok)) (fun _ => by kernel_rfl)
noncomputable def keep_same_Quant_1_x1 (x : Bool) : V := ([.s (.v (.bool x))], [], [])
noncomputable def keep_same_Quant_1_x1_d : V → Option (Bool) := fun v => ((p2 (lCons (rS cBool) lNil) (p2 lNil lNil)) v).map fun x => x.1.1
theorem keep_same_Quant_1_x1_dk : ∀ v s, keep_same_Quant_1_x1_d v = some s → v = keep_same_Quant_1_x1 s := map_ok (p2_ok (lCons_ok (rS_ok cBool_ok) lNil_ok) (p2_ok lNil_ok lNil_ok)) (fun _ => by kernel_rfl)
noncomputable def keep_same_Quant_1_x2 (x : Unit) : V := ([], [], [])
noncomputable def keep_same_Quant_1_x2_d : V → Option (Unit) := fun v => ((p2 lNil (p2 lNil lNil)) v).map fun x => ()
theorem keep_same_Quant_1_x2_dk : ∀ v s, keep_same_Quant_1_x2_d v = some s → v = keep_same_Quant_1_x2 s := map_ok (p2_ok lNil_ok (p2_ok lNil_ok lNil_ok)) (fun _ => by kernel_rfl)
noncomputable def keep_same_Quant_1_X (e : Ex) : Live := bif exEq e (.ret) then ⟨26, 26, [4], [], [], []⟩ else bif exEq e (.exit 0) then ⟨26, 26, [], [], [], []⟩ else keep_same_Quant_1_L
noncomputable def keep_same_Quant_1_dx (e : Ex) (v : V) : Option (Bool ⊕ Unit) := match exEq e (.ret) with
  | true => (keep_same_Quant_1_x1_d v).map fun d => .inl d
  | false => match exEq e (.exit 0) with
  | true => (keep_same_Quant_1_x2_d v).map fun d => .inr d
  | false => none
noncomputable def keep_same_Quant_1_ex (x : (Bool ⊕ Unit)) : Ex × V := match x with
  | .inl d => (.ret, keep_same_Quant_1_x1 d)
  | .inr d => (.exit 0, keep_same_Quant_1_x2 d)
theorem keep_same_Quant_1_dxk : ∀ e v r, keep_same_Quant_1_dx e v = some r → keep_same_Quant_1_ex r = (e, v) := by
  intro e v r h
  unfold keep_same_Quant_1_dx at h
  split at h
  · rename_i he
    obtain ⟨d, hd, rfl⟩ := Option.map_eq_some_iff.1 h
    rw [exEq_eq he, keep_same_Quant_1_x1_dk _ _ hd]
    rfl
  · split at h
    · rename_i he
      obtain ⟨d, hd, rfl⟩ := Option.map_eq_some_iff.1 h
      rw [exEq_eq he, keep_same_Quant_1_x2_dk _ _ hd]
      rfl
    · cases h
noncomputable def keep_same_Quant_1_s (t0 : List Quant) (t1 : List Quant) (t5 : Int) : Option ((Int) ⊕ (Unit ⊕ Unit)) :=
  (bif decide (t5 < (↑(List.length t0) : Int)) then (bif decide (0 ≤ t5 ∧ t5 < (↑(List.length t0) : Int)) then (bif decide (0 ≤ t5 ∧ t5 < (↑(List.length t1) : Int)) then (bif !decide (rd Ty.quant t0 (Int.toNat t5) = rd Ty.quant t1 (Int.toNat t5)) then some (.inr (.inl ())) else some (.inl (IntKind.wrap IntKind.i64 (t5 + 1)))) else none) else none) else some (.inr (.inr ())))
noncomputable def keep_same_Quant_1_l (t0 : List Quant) (t1 : List Quant) (t5 : Int) : Option (Unit ⊕ Unit) := run (fun s : Int => keep_same_Quant_1_s t0 t1 s) t5
noncomputable def keep_same_Quant_1_lf (p : (List Quant) × (List Quant)) (r : (Unit ⊕ Unit)) : (Bool ⊕ Unit) := match r with
  | .inl d => .inl false
  | .inr d => .inr ()
noncomputable def keep_same_Quant_1_f (x : ((List Quant) × (List Quant)) × (Int)) (k : Ex → St → Option A) : Option A :=
  bif (keep_same_Quant_1_l x.1.1 x.1.2 x.2).isSome then (bif isL ((keep_same_Quant_1_l x.1.1 x.1.2 x.2).getD default) then k (.ret) (build ⟨26, 26, [4], [], [], []⟩ (keep_same_Quant_1_x1 false)) else k (.exit 0) (build ⟨26, 26, [], [], [], []⟩ (keep_same_Quant_1_x2 ()))) else none
theorem keep_same_Quant_1_k (t0 : List Quant) (t1 : List Quant) (t5 : Int) (K : (((List Quant) × (List Quant)) × (Int)) ⊕ (Bool ⊕ Unit) → Option A) : ev keep_same_Bin_E (callA keep_same_Bin_E 6) 71 0 (loopAt keep_same_Bin_E 71 0) 0 (build keep_same_Quant_1_L (keep_same_Quant_1_e ((t0, t1), t5))) (obs keep_same_Bin_E keep_same_Quant_1_L keep_same_Quant_1_X keep_same_Quant_1_d keep_same_Quant_1_dx K) =
  (bif decide (t5 < (↑(List.length t0) : Int)) then (bif decide (0 ≤ t5 ∧ t5 < (↑(List.length t0) : Int)) then (bif decide (0 ≤ t5 ∧ t5 < (↑(List.length t1) : Int)) then (bif !decide (rd Ty.quant t0 (Int.toNat t5) = rd Ty.quant t1 (Int.toNat t5)) then K (.inr (.inl false)) else K (.inl ((t0, t1), IntKind.wrap IntKind.i64 (t5 + 1)))) else none) else none) else K (.inr (.inr ()))) := by kernel_rfl
noncomputable def keep_same_Quant_1_E : Env := withS keep_same_Bin_E 71 0 (sumV keep_same_Bin_E 71 0 0 keep_same_Quant_1_L keep_same_Quant_1_d keep_same_Quant_1_f)
theorem keep_same_Quant_1_ok : AllOK Tryz.prog keep_same_Quant_1_E :=
  keep_same_Bin_ok.loopP 6 (step := fun p s => keep_same_Quant_1_s p.1 p.2 s) (lift := keep_same_Quant_1_lf) (enc := keep_same_Quant_1_e) (encx := keep_same_Quant_1_ex) keep_same_Quant_1_dk keep_same_Quant_1_dxk
    (by
      rintro ⟨t0, t1⟩ t5 K
      refine (keep_same_Quant_1_k t0 t1 t5 K).trans ?_
      unfold keep_same_Quant_1_s
      exact (bndc _ (bndc _ (bndc _ (bndc _ rfl rfl) rfl) rfl) rfl))
    (by
      intro p s k x e
      unfold keep_same_Quant_1_f at e
      cases hr : keep_same_Quant_1_l p.1 p.2 s with
      | none =>
        rw [hr] at e
        cases e
      | some r =>
      rw [hr] at e
      refine ⟨r, hr, ?_⟩
      rcases r with d | d <;> exact e) (by kernel_rfl)
/-! ### stevedore/stevedorekeep.same[stevedore/api.Quant] -/
noncomputable def keep_same_Quant (a0 : List Quant) (a1 : List Quant) : Option Bool :=
  (bif (↑(List.length a0) : Int) != (↑(List.length a1) : Int) then some false else (bif Option.isSome (keep_same_Quant_1_l a0 a1 0) then (bif isL (Option.getD (keep_same_Quant_1_l a0 a1 0) default) then some false else some true) else none))
theorem keep_same_Quant_k (a0 : List Quant) (a1 : List Quant) : runA (withN keep_same_Quant_1_E 0) 6 71 [.s (.list .quant a0 []), .s (.list .quant a1 [])] ⟨[], []⟩ =
  (bif (↑(List.length a0) : Int) != (↑(List.length a1) : Int) then some (.s (.v (.bool false))) else (bif Option.isSome (keep_same_Quant_1_l a0 a1 0) then (bif isL (Option.getD (keep_same_Quant_1_l a0 a1 0) default) then some (.s (.v (.bool false))) else some (.s (.v (.bool true)))) else none)) := by kernel_rfl
noncomputable def keep_same_Quant_enc (r : Bool) : A := .s (.v (.bool r))
theorem keep_same_Quant_r (a0 : List Quant) (a1 : List Quant) : runA (withN keep_same_Quant_1_E 0) 6 71 [.s (.list .quant a0 []), .s (.list .quant a1 [])] ⟨[], []⟩ = (keep_same_Quant a0 a1).map keep_same_Quant_enc :=
  (keep_same_Quant_k a0 a1).trans (by unfold keep_same_Quant; exact (mapc (K := keep_same_Quant_enc) _ rfl (mapc (K := keep_same_Quant_enc) _ (mapc (K := keep_same_Quant_enc) _ rfl rfl) rfl)))
noncomputable def keep_same_Quant_F (l : List A) (m : List (Option (List C))) : Option (Bool × A) := match (p2 (lCons (rS (cLst .quant)) (lCons (rS (cLst .quant)) lNil)) lNil) (l, m) with
  | some x => some ((keep_same_Quant x.1.1 x.1.2.1).isSome, keep_same_Quant_enc ((keep_same_Quant x.1.1 x.1.2.1).getD default))
  | none => none
noncomputable def keep_same_Quant_E : Env := withG keep_same_Quant_1_E 71 (gOfM keep_same_Quant_1_E 71 [26, 26] keep_same_Quant_F)
theorem keep_same_Quant_ok : AllOK Tryz.prog keep_same_Quant_E := keep_same_Quant_1_ok.fm 6 (fun l m r e hl => by
  unfold keep_same_Quant_F at e
  cases hD : (p2 (lCons (rS (cLst .quant)) (lCons (rS (cLst .quant)) lNil)) lNil) (l, m) with
  | none => rw [hD] at e; cases e
  | some x =>
    rw [hD] at e
    have hE := (p2_ok (lCons_ok (rS_ok (cLst_ok .quant)) (lCons_ok (rS_ok (cLst_ok .quant)) lNil_ok)) lNil_ok) _ _ hD
    have h1 : l = [.s (.list .quant x.1.1 []), .s (.list .quant x.1.2.1 [])] := congrArg Prod.fst hE
    have h2 : m = [] := congrArg Prod.snd hE
    subst h1 h2
    simp only [Option.some.injEq, Prod.mk.injEq] at e
    obtain ⟨hs, rfl⟩ := e
    exact ⟨0, get_of (keep_same_Quant_r x.1.1 x.1.2.1) hs⟩) (by kernel_rfl)
/-! ### stevedore/stevedorekeep.same[stevedore/api.Rule]: loop 1 -/
noncomputable def keep_same_Rule_1_L : Live := ⟨26, 26, [0, 1, 5], [], [], []⟩
noncomputable def keep_same_Rule_1_e (x : ((List Rul) × (List Rul)) × (Int)) : V := ([.s (.list .rule x.1.1 []), .s (.list .rule x.1.2 []), .s (.v (.int .i64 x.2))], [], [])
noncomputable def keep_same_Rule_1_d : V → Option (((List Rul) × (List Rul)) × (Int)) := fun v => ((p2 (lCons (rS (cLst .rule)) (lCons (rS (cLst .rule)) (lCons (rS cInt) lNil))) (p2 lNil lNil)) v).map fun x => ((x.1.1, x.1.2.1), x.1.2.2.1)
theorem keep_same_Rule_1_dk : ∀ v s, keep_same_Rule_1_d v = some s → v = keep_same_Rule_1_e s := map_ok (p2_ok (lCons_ok (rS_ok (cLst_ok .rule)) (lCons_ok (rS_ok (cLst_ok .rule)) (lCons_ok (rS_ok cInt_ok) lNil_ok))) (p2_ok lNil_ok lNil_ok)) (fun _ => by kernel_rfl)
noncomputable def keep_same_Rule_1_x1 (x : Bool) : V := ([.s (.v (.bool x))], [], [])
noncomputable def keep_same_Rule_1_x1_d : V → Option (Bool) := fun v => ((p2 (lCons (rS cBool) lNil) (p2 lNil lNil)) v).map fun x => x.1.1
theorem keep_same_Rule_1_x1_dk : ∀ v s, keep_same_Rule_1_x1_d v = some s → v = keep_same_Rule_1_x1 s := map_ok (p2_ok (lCons_ok (rS_ok cBool_ok) lNil_ok) (p2_ok lNil_ok lNil_ok)) (fun _ => by kernel_rfl)
noncomputable def keep_same_Rule_1_x2 (x : Unit) : V := ([], [], [])
noncomputable def keep_same_Rule_1_x2_d : V → Option (Unit) := fun v => ((p2 lNil (p2 lNil lNil)) v).map fun x => ()
theorem keep_same_Rule_1_x2_dk : ∀ v s, keep_same_Rule_1_x2_d v = some s → v = keep_same_Rule_1_x2 s := map_ok (p2_ok lNil_ok (p2_ok lNil_ok lNil_ok)) (fun _ => by kernel_rfl)
noncomputable def keep_same_Rule_1_X (e : Ex) : Live := bif exEq e (.ret) then ⟨26, 26, [4], [], [], []⟩ else bif exEq e (.exit 0) then ⟨26, 26, [], [], [], []⟩ else keep_same_Rule_1_L
noncomputable def keep_same_Rule_1_dx (e : Ex) (v : V) : Option (Bool ⊕ Unit) := match exEq e (.ret) with
  | true => (keep_same_Rule_1_x1_d v).map fun d => .inl d
  | false => match exEq e (.exit 0) with
  | true => (keep_same_Rule_1_x2_d v).map fun d => .inr d
  | false => none
noncomputable def keep_same_Rule_1_ex (x : (Bool ⊕ Unit)) : Ex × V := match x with
  | .inl d => (.ret, keep_same_Rule_1_x1 d)
  | .inr d => (.exit 0, keep_same_Rule_1_x2 d)
theorem keep_same_Rule_1_dxk : ∀ e v r, keep_same_Rule_1_dx e v = some r → keep_same_Rule_1_ex r = (e, v) := by
  intro e v r h
  unfold keep_same_Rule_1_dx at h
  split at h
  · rename_i he
    obtain ⟨d, hd, rfl⟩ := Option.map_eq_some_iff.1 h
    rw [exEq_eq he, keep_same_Rule_1_x1_dk _ _ hd]
    rfl
  · split at h
    · rename_i he
      obtain ⟨d, hd, rfl⟩ := Option.map_eq_some_iff.1 h
      rw [exEq_eq he, keep_same_Rule_1_x2_dk _ _ hd]
      rfl
    · cases h
noncomputable def keep_same_Rule_1_s (t0 : List Rul) (t1 : List Rul) (t5 : Int) : Option ((Int) ⊕ (Unit ⊕ Unit)) :=
  (bif decide (t5 < (↑(List.length t0) : Int)) then (bif decide (0 ≤ t5 ∧ t5 < (↑(List.length t0) : Int)) then (bif decide (0 ≤ t5 ∧ t5 < (↑(List.length t1) : Int)) then (bif !decide (rd Ty.rule t0 (Int.toNat t5) = rd Ty.rule t1 (Int.toNat t5)) then some (.inr (.inl ())) else some (.inl (IntKind.wrap IntKind.i64 (t5 + 1)))) else none) else none) else some (.inr (.inr ())))
noncomputable def keep_same_Rule_1_l (t0 : List Rul) (t1 : List Rul) (t5 : Int) : Option (Unit ⊕ Unit) := run (fun s : Int => keep_same_Rule_1_s t0 t1 s) t5
noncomputable def keep_same_Rule_1_lf (p : (List Rul) × (List Rul)) (r : (Unit ⊕ Unit)) : (Bool ⊕ Unit) := match r with
  | .inl d => .inl false
  | .inr d => .inr ()
noncomputable def keep_same_Rule_1_f (x : ((List Rul) × (List Rul)) × (Int)) (k : Ex → St → Option A) : Option A :=
  bif (keep_same_Rule_1_l x.1.1 x.1.2 x.2).isSome then (bif isL ((keep_same_Rule_1_l x.1.1 x.1.2 x.2).getD default) then k (.ret) (build ⟨26, 26, [4], [], [], []⟩ (keep_same_Rule_1_x1 false)) else k (.exit 0) (build ⟨26, 26, [], [], [], []⟩ (keep_same_Rule_1_x2 ()))) else none
theorem keep_same_Rule_1_k (t0 : List Rul) (t1 : List Rul) (t5 : Int) (K : (((List Rul) × (List Rul)) × (Int)) ⊕ (Bool ⊕ Unit) → Option A) : ev keep_same_Quant_E (callA keep_same_Quant_E 6) 72 0 (loopAt keep_same_Quant_E 72 0) 0 (build keep_same_Rule_1_L (keep_same_Rule_1_e ((t0, t1), t5))) (obs keep_same_Quant_E keep_same_Rule_1_L keep_same_Rule_1_X keep_same_Rule_1_d keep_same_Rule_1_dx K) =
  (bif decide (t5 < (↑(List.length t0) : Int)) then (bif decide (0 ≤ t5 ∧ t5 < (↑(List.length t0) : Int)) then (bif decide (0 ≤ t5 ∧ t5 < (↑(List.length t1) : Int)) then (bif !decide (rd Ty.rule t0 (Int.toNat t5) = rd Ty.rule t1 (Int.toNat t5)) then K (.inr (.inl false)) else K (.inl ((t0, t1), IntKind.wrap IntKind.i64 (t5 + 1)))) else none) else none) else K (.inr (.inr ()))) := by kernel_rfl
noncomputable def keep_same_Rule_1_E : Env := withS keep_same_Quant_E 72 0 (sumV keep_same_Quant_E 72 0 0 keep_same_Rule_1_L keep_same_Rule_1_d keep_same_Rule_1_f)
theorem keep_same_Rule_1_ok : AllOK Tryz.prog keep_same_Rule_1_E :=
  keep_same_Quant_ok.loopP 6 (step := fun p s => keep_same_Rule_1_s p.1 p.2 s) (lift := keep_same_Rule_1_lf) (enc := keep_same_Rule_1_e) (encx := keep_same_Rule_1_ex) keep_same_Rule_1_dk keep_same_Rule_1_dxk
    (by
      rintro ⟨t0, t1⟩ t5 K
      refine (keep_same_Rule_1_k t0 t1 t5 K).trans ?_
      unfold keep_same_Rule_1_s
      exact (bndc _ (bndc _ (bndc _ (bndc _ rfl rfl) rfl) rfl) rfl))
    (by
      intro p s k x e
      unfold keep_same_Rule_1_f at e
      cases hr : keep_same_Rule_1_l p.1 p.2 s with
      | none =>
        rw [hr] at e
        cases e
      | some r =>
      rw [hr] at e
      refine ⟨r, hr, ?_⟩
      rcases r with d | d <;> exact e) (by kernel_rfl)
/-! ### stevedore/stevedorekeep.same[stevedore/api.Rule] -/
noncomputable def keep_same_Rule (a0 : List Rul) (a1 : List Rul) : Option Bool :=
  (bif (↑(List.length a0) : Int) != (↑(List.length a1) : Int) then some false else (bif Option.isSome (keep_same_Rule_1_l a0 a1 0) then (bif isL (Option.getD (keep_same_Rule_1_l a0 a1 0) default) then some false else some true) else none))
theorem keep_same_Rule_k (a0 : List Rul) (a1 : List Rul) : runA (withN keep_same_Rule_1_E 0) 6 72 [.s (.list .rule a0 []), .s (.list .rule a1 [])] ⟨[], []⟩ =
  (bif (↑(List.length a0) : Int) != (↑(List.length a1) : Int) then some (.s (.v (.bool false))) else (bif Option.isSome (keep_same_Rule_1_l a0 a1 0) then (bif isL (Option.getD (keep_same_Rule_1_l a0 a1 0) default) then some (.s (.v (.bool false))) else some (.s (.v (.bool true)))) else none)) := by kernel_rfl
noncomputable def keep_same_Rule_enc (r : Bool) : A := .s (.v (.bool r))
theorem keep_same_Rule_r (a0 : List Rul) (a1 : List Rul) : runA (withN keep_same_Rule_1_E 0) 6 72 [.s (.list .rule a0 []), .s (.list .rule a1 [])] ⟨[], []⟩ = (keep_same_Rule a0 a1).map keep_same_Rule_enc :=
  (keep_same_Rule_k a0 a1).trans (by unfold keep_same_Rule; exact (mapc (K := keep_same_Rule_enc) _ rfl (mapc (K := keep_same_Rule_enc) _ (mapc (K := keep_same_Rule_enc) _ rfl rfl) rfl)))
noncomputable def keep_same_Rule_F (l : List A) (m : List (Option (List C))) : Option (Bool × A) := match (p2 (lCons (rS (cLst .rule)) (lCons (rS (cLst .rule)) lNil)) lNil) (l, m) with
  | some x => some ((keep_same_Rule x.1.1 x.1.2.1).isSome, keep_same_Rule_enc ((keep_same_Rule x.1.1 x.1.2.1).getD default))
  | none => none
noncomputable def keep_same_Rule_E : Env := withG keep_same_Rule_1_E 72 (gOfM keep_same_Rule_1_E 72 [27, 27] keep_same_Rule_F)
theorem keep_same_Rule_ok : AllOK Tryz.prog keep_same_Rule_E := keep_same_Rule_1_ok.fm 6 (fun l m r e hl => by
  unfold keep_same_Rule_F at e
  cases hD : (p2 (lCons (rS (cLst .rule)) (lCons (rS (cLst .rule)) lNil)) lNil) (l, m) with
  | none => rw [hD] at e; cases e
  | some x =>
    rw [hD] at e
    have hE := (p2_ok (lCons_ok (rS_ok (cLst_ok .rule)) (lCons_ok (rS_ok (cLst_ok .rule)) lNil_ok)) lNil_ok) _ _ hD
    have h1 : l = [.s (.list .rule x.1.1 []), .s (.list .rule x.1.2.1 [])] := congrArg Prod.fst hE
    have h2 : m = [] := congrArg Prod.snd hE
    subst h1 h2
    simp only [Option.some.injEq, Prod.mk.injEq] at e
    obtain ⟨hs, rfl⟩ := e
    exact ⟨0, get_of (keep_same_Rule_r x.1.1 x.1.2.1) hs⟩) (by kernel_rfl)
/-! ### stevedore/stevedorekeep.same[stevedore/api.Notice]: loop 1 -/
noncomputable def keep_same_Notice_1_L : Live := ⟨26, 26, [0, 1, 5], [], [], []⟩
noncomputable def keep_same_Notice_1_e (x : ((List Notice) × (List Notice)) × (Int)) : V := ([.s (.list .notice x.1.1 []), .s (.list .notice x.1.2 []), .s (.v (.int .i64 x.2))], [], [])
noncomputable def keep_same_Notice_1_d : V → Option (((List Notice) × (List Notice)) × (Int)) := fun v => ((p2 (lCons (rS (cLst .notice)) (lCons (rS (cLst .notice)) (lCons (rS cInt) lNil))) (p2 lNil lNil)) v).map fun x => ((x.1.1, x.1.2.1), x.1.2.2.1)
theorem keep_same_Notice_1_dk : ∀ v s, keep_same_Notice_1_d v = some s → v = keep_same_Notice_1_e s := map_ok (p2_ok (lCons_ok (rS_ok (cLst_ok .notice)) (lCons_ok (rS_ok (cLst_ok .notice)) (lCons_ok (rS_ok cInt_ok) lNil_ok))) (p2_ok lNil_ok lNil_ok)) (fun _ => by kernel_rfl)
noncomputable def keep_same_Notice_1_x1 (x : Bool) : V := ([.s (.v (.bool x))], [], [])
noncomputable def keep_same_Notice_1_x1_d : V → Option (Bool) := fun v => ((p2 (lCons (rS cBool) lNil) (p2 lNil lNil)) v).map fun x => x.1.1
theorem keep_same_Notice_1_x1_dk : ∀ v s, keep_same_Notice_1_x1_d v = some s → v = keep_same_Notice_1_x1 s := map_ok (p2_ok (lCons_ok (rS_ok cBool_ok) lNil_ok) (p2_ok lNil_ok lNil_ok)) (fun _ => by kernel_rfl)
noncomputable def keep_same_Notice_1_x2 (x : Unit) : V := ([], [], [])
noncomputable def keep_same_Notice_1_x2_d : V → Option (Unit) := fun v => ((p2 lNil (p2 lNil lNil)) v).map fun x => ()
theorem keep_same_Notice_1_x2_dk : ∀ v s, keep_same_Notice_1_x2_d v = some s → v = keep_same_Notice_1_x2 s := map_ok (p2_ok lNil_ok (p2_ok lNil_ok lNil_ok)) (fun _ => by kernel_rfl)
noncomputable def keep_same_Notice_1_X (e : Ex) : Live := bif exEq e (.ret) then ⟨26, 26, [4], [], [], []⟩ else bif exEq e (.exit 0) then ⟨26, 26, [], [], [], []⟩ else keep_same_Notice_1_L
noncomputable def keep_same_Notice_1_dx (e : Ex) (v : V) : Option (Bool ⊕ Unit) := match exEq e (.ret) with
  | true => (keep_same_Notice_1_x1_d v).map fun d => .inl d
  | false => match exEq e (.exit 0) with
  | true => (keep_same_Notice_1_x2_d v).map fun d => .inr d
  | false => none
noncomputable def keep_same_Notice_1_ex (x : (Bool ⊕ Unit)) : Ex × V := match x with
  | .inl d => (.ret, keep_same_Notice_1_x1 d)
  | .inr d => (.exit 0, keep_same_Notice_1_x2 d)
theorem keep_same_Notice_1_dxk : ∀ e v r, keep_same_Notice_1_dx e v = some r → keep_same_Notice_1_ex r = (e, v) := by
  intro e v r h
  unfold keep_same_Notice_1_dx at h
  split at h
  · rename_i he
    obtain ⟨d, hd, rfl⟩ := Option.map_eq_some_iff.1 h
    rw [exEq_eq he, keep_same_Notice_1_x1_dk _ _ hd]
    rfl
  · split at h
    · rename_i he
      obtain ⟨d, hd, rfl⟩ := Option.map_eq_some_iff.1 h
      rw [exEq_eq he, keep_same_Notice_1_x2_dk _ _ hd]
      rfl
    · cases h
noncomputable def keep_same_Notice_1_s (t0 : List Notice) (t1 : List Notice) (t5 : Int) : Option ((Int) ⊕ (Unit ⊕ Unit)) :=
  (bif decide (t5 < (↑(List.length t0) : Int)) then (bif decide (0 ≤ t5 ∧ t5 < (↑(List.length t0) : Int)) then (bif decide (0 ≤ t5 ∧ t5 < (↑(List.length t1) : Int)) then (bif !decide (rd Ty.notice t0 (Int.toNat t5) = rd Ty.notice t1 (Int.toNat t5)) then some (.inr (.inl ())) else some (.inl (IntKind.wrap IntKind.i64 (t5 + 1)))) else none) else none) else some (.inr (.inr ())))
noncomputable def keep_same_Notice_1_l (t0 : List Notice) (t1 : List Notice) (t5 : Int) : Option (Unit ⊕ Unit) := run (fun s : Int => keep_same_Notice_1_s t0 t1 s) t5
noncomputable def keep_same_Notice_1_lf (p : (List Notice) × (List Notice)) (r : (Unit ⊕ Unit)) : (Bool ⊕ Unit) := match r with
  | .inl d => .inl false
  | .inr d => .inr ()
noncomputable def keep_same_Notice_1_f (x : ((List Notice) × (List Notice)) × (Int)) (k : Ex → St → Option A) : Option A :=
  bif (keep_same_Notice_1_l x.1.1 x.1.2 x.2).isSome then (bif isL ((keep_same_Notice_1_l x.1.1 x.1.2 x.2).getD default) then k (.ret) (build ⟨26, 26, [4], [], [], []⟩ (keep_same_Notice_1_x1 false)) else k (.exit 0) (build ⟨26, 26, [], [], [], []⟩ (keep_same_Notice_1_x2 ()))) else none
theorem keep_same_Notice_1_k (t0 : List Notice) (t1 : List Notice) (t5 : Int) (K : (((List Notice) × (List Notice)) × (Int)) ⊕ (Bool ⊕ Unit) → Option A) : ev keep_same_Rule_E (callA keep_same_Rule_E 6) 73 0 (loopAt keep_same_Rule_E 73 0) 0 (build keep_same_Notice_1_L (keep_same_Notice_1_e ((t0, t1), t5))) (obs keep_same_Rule_E keep_same_Notice_1_L keep_same_Notice_1_X keep_same_Notice_1_d keep_same_Notice_1_dx K) =
  (bif decide (t5 < (↑(List.length t0) : Int)) then (bif decide (0 ≤ t5 ∧ t5 < (↑(List.length t0) : Int)) then (bif decide (0 ≤ t5 ∧ t5 < (↑(List.length t1) : Int)) then (bif !decide (rd Ty.notice t0 (Int.toNat t5) = rd Ty.notice t1 (Int.toNat t5)) then K (.inr (.inl false)) else K (.inl ((t0, t1), IntKind.wrap IntKind.i64 (t5 + 1)))) else none) else none) else K (.inr (.inr ()))) := by kernel_rfl
noncomputable def keep_same_Notice_1_E : Env := withS keep_same_Rule_E 73 0 (sumV keep_same_Rule_E 73 0 0 keep_same_Notice_1_L keep_same_Notice_1_d keep_same_Notice_1_f)
theorem keep_same_Notice_1_ok : AllOK Tryz.prog keep_same_Notice_1_E :=
  keep_same_Rule_ok.loopP 6 (step := fun p s => keep_same_Notice_1_s p.1 p.2 s) (lift := keep_same_Notice_1_lf) (enc := keep_same_Notice_1_e) (encx := keep_same_Notice_1_ex) keep_same_Notice_1_dk keep_same_Notice_1_dxk
    (by
      rintro ⟨t0, t1⟩ t5 K
      refine (keep_same_Notice_1_k t0 t1 t5 K).trans ?_
      unfold keep_same_Notice_1_s
      exact (bndc _ (bndc _ (bndc _ (bndc _ rfl rfl) rfl) rfl) rfl))
    (by
      intro p s k x e
      unfold keep_same_Notice_1_f at e
      cases hr : keep_same_Notice_1_l p.1 p.2 s with
      | none =>
        rw [hr] at e
        cases e
      | some r =>
      rw [hr] at e
      refine ⟨r, hr, ?_⟩
      rcases r with d | d <;> exact e) (by kernel_rfl)
/-! ### stevedore/stevedorekeep.same[stevedore/api.Notice] -/
noncomputable def keep_same_Notice (a0 : List Notice) (a1 : List Notice) : Option Bool :=
  (bif (↑(List.length a0) : Int) != (↑(List.length a1) : Int) then some false else (bif Option.isSome (keep_same_Notice_1_l a0 a1 0) then (bif isL (Option.getD (keep_same_Notice_1_l a0 a1 0) default) then some false else some true) else none))
theorem keep_same_Notice_k (a0 : List Notice) (a1 : List Notice) : runA (withN keep_same_Notice_1_E 0) 6 73 [.s (.list .notice a0 []), .s (.list .notice a1 [])] ⟨[], []⟩ =
  (bif (↑(List.length a0) : Int) != (↑(List.length a1) : Int) then some (.s (.v (.bool false))) else (bif Option.isSome (keep_same_Notice_1_l a0 a1 0) then (bif isL (Option.getD (keep_same_Notice_1_l a0 a1 0) default) then some (.s (.v (.bool false))) else some (.s (.v (.bool true)))) else none)) := by kernel_rfl
noncomputable def keep_same_Notice_enc (r : Bool) : A := .s (.v (.bool r))
theorem keep_same_Notice_r (a0 : List Notice) (a1 : List Notice) : runA (withN keep_same_Notice_1_E 0) 6 73 [.s (.list .notice a0 []), .s (.list .notice a1 [])] ⟨[], []⟩ = (keep_same_Notice a0 a1).map keep_same_Notice_enc :=
  (keep_same_Notice_k a0 a1).trans (by unfold keep_same_Notice; exact (mapc (K := keep_same_Notice_enc) _ rfl (mapc (K := keep_same_Notice_enc) _ (mapc (K := keep_same_Notice_enc) _ rfl rfl) rfl)))
noncomputable def keep_same_Notice_F (l : List A) (m : List (Option (List C))) : Option (Bool × A) := match (p2 (lCons (rS (cLst .notice)) (lCons (rS (cLst .notice)) lNil)) lNil) (l, m) with
  | some x => some ((keep_same_Notice x.1.1 x.1.2.1).isSome, keep_same_Notice_enc ((keep_same_Notice x.1.1 x.1.2.1).getD default))
  | none => none
noncomputable def keep_same_Notice_E : Env := withG keep_same_Notice_1_E 73 (gOfM keep_same_Notice_1_E 73 [28, 28] keep_same_Notice_F)
theorem keep_same_Notice_ok : AllOK Tryz.prog keep_same_Notice_E := keep_same_Notice_1_ok.fm 6 (fun l m r e hl => by
  unfold keep_same_Notice_F at e
  cases hD : (p2 (lCons (rS (cLst .notice)) (lCons (rS (cLst .notice)) lNil)) lNil) (l, m) with
  | none => rw [hD] at e; cases e
  | some x =>
    rw [hD] at e
    have hE := (p2_ok (lCons_ok (rS_ok (cLst_ok .notice)) (lCons_ok (rS_ok (cLst_ok .notice)) lNil_ok)) lNil_ok) _ _ hD
    have h1 : l = [.s (.list .notice x.1.1 []), .s (.list .notice x.1.2.1 [])] := congrArg Prod.fst hE
    have h2 : m = [] := congrArg Prod.snd hE
    subst h1 h2
    simp only [Option.some.injEq, Prod.mk.injEq] at e
    obtain ⟨hs, rfl⟩ := e
    exact ⟨0, get_of (keep_same_Notice_r x.1.1 x.1.2.1) hs⟩) (by kernel_rfl)
/-! ### stevedore/stevedorekeep.same[stevedore/api.Order]: loop 1 -/
noncomputable def keep_same_Order_1_L : Live := ⟨26, 26, [0, 1, 5], [], [], []⟩
noncomputable def keep_same_Order_1_e (x : ((List Order) × (List Order)) × (Int)) : V := ([.s (.list .order x.1.1 []), .s (.list .order x.1.2 []), .s (.v (.int .i64 x.2))], [], [])
noncomputable def keep_same_Order_1_d : V → Option (((List Order) × (List Order)) × (Int)) := fun v => ((p2 (lCons (rS (cLst .order)) (lCons (rS (cLst .order)) (lCons (rS cInt) lNil))) (p2 lNil lNil)) v).map fun x => ((x.1.1, x.1.2.1), x.1.2.2.1)
theorem keep_same_Order_1_dk : ∀ v s, keep_same_Order_1_d v = some s → v = keep_same_Order_1_e s := map_ok (p2_ok (lCons_ok (rS_ok (cLst_ok .order)) (lCons_ok (rS_ok (cLst_ok .order)) (lCons_ok (rS_ok cInt_ok) lNil_ok))) (p2_ok lNil_ok lNil_ok)) (fun _ => by kernel_rfl)
noncomputable def keep_same_Order_1_x1 (x : Bool) : V := ([.s (.v (.bool x))], [], [])
noncomputable def keep_same_Order_1_x1_d : V → Option (Bool) := fun v => ((p2 (lCons (rS cBool) lNil) (p2 lNil lNil)) v).map fun x => x.1.1
theorem keep_same_Order_1_x1_dk : ∀ v s, keep_same_Order_1_x1_d v = some s → v = keep_same_Order_1_x1 s := map_ok (p2_ok (lCons_ok (rS_ok cBool_ok) lNil_ok) (p2_ok lNil_ok lNil_ok)) (fun _ => by kernel_rfl)
noncomputable def keep_same_Order_1_x2 (x : Unit) : V := ([], [], [])
noncomputable def keep_same_Order_1_x2_d : V → Option (Unit) := fun v => ((p2 lNil (p2 lNil lNil)) v).map fun x => ()
theorem keep_same_Order_1_x2_dk : ∀ v s, keep_same_Order_1_x2_d v = some s → v = keep_same_Order_1_x2 s := map_ok (p2_ok lNil_ok (p2_ok lNil_ok lNil_ok)) (fun _ => by kernel_rfl)
noncomputable def keep_same_Order_1_X (e : Ex) : Live := bif exEq e (.ret) then ⟨26, 26, [4], [], [], []⟩ else bif exEq e (.exit 0) then ⟨26, 26, [], [], [], []⟩ else keep_same_Order_1_L
noncomputable def keep_same_Order_1_dx (e : Ex) (v : V) : Option (Bool ⊕ Unit) := match exEq e (.ret) with
  | true => (keep_same_Order_1_x1_d v).map fun d => .inl d
  | false => match exEq e (.exit 0) with
  | true => (keep_same_Order_1_x2_d v).map fun d => .inr d
  | false => none
noncomputable def keep_same_Order_1_ex (x : (Bool ⊕ Unit)) : Ex × V := match x with
  | .inl d => (.ret, keep_same_Order_1_x1 d)
  | .inr d => (.exit 0, keep_same_Order_1_x2 d)
theorem keep_same_Order_1_dxk : ∀ e v r, keep_same_Order_1_dx e v = some r → keep_same_Order_1_ex r = (e, v) := by
  intro e v r h
  unfold keep_same_Order_1_dx at h
  split at h
  · rename_i he
    obtain ⟨d, hd, rfl⟩ := Option.map_eq_some_iff.1 h
    rw [exEq_eq he, keep_same_Order_1_x1_dk _ _ hd]
    rfl
  · split at h
    · rename_i he
      obtain ⟨d, hd, rfl⟩ := Option.map_eq_some_iff.1 h
      rw [exEq_eq he, keep_same_Order_1_x2_dk _ _ hd]
      rfl
    · cases h
noncomputable def keep_same_Order_1_s (t0 : List Order) (t1 : List Order) (t5 : Int) : Option ((Int) ⊕ (Unit ⊕ Unit)) :=
  (bif decide (t5 < (↑(List.length t0) : Int)) then (bif decide (0 ≤ t5 ∧ t5 < (↑(List.length t0) : Int)) then (bif decide (0 ≤ t5 ∧ t5 < (↑(List.length t1) : Int)) then (bif !decide (rd Ty.order t0 (Int.toNat t5) = rd Ty.order t1 (Int.toNat t5)) then some (.inr (.inl ())) else some (.inl (IntKind.wrap IntKind.i64 (t5 + 1)))) else none) else none) else some (.inr (.inr ())))
noncomputable def keep_same_Order_1_l (t0 : List Order) (t1 : List Order) (t5 : Int) : Option (Unit ⊕ Unit) := run (fun s : Int => keep_same_Order_1_s t0 t1 s) t5
noncomputable def keep_same_Order_1_lf (p : (List Order) × (List Order)) (r : (Unit ⊕ Unit)) : (Bool ⊕ Unit) := match r with
  | .inl d => .inl false
  | .inr d => .inr ()
noncomputable def keep_same_Order_1_f (x : ((List Order) × (List Order)) × (Int)) (k : Ex → St → Option A) : Option A :=
  bif (keep_same_Order_1_l x.1.1 x.1.2 x.2).isSome then (bif isL ((keep_same_Order_1_l x.1.1 x.1.2 x.2).getD default) then k (.ret) (build ⟨26, 26, [4], [], [], []⟩ (keep_same_Order_1_x1 false)) else k (.exit 0) (build ⟨26, 26, [], [], [], []⟩ (keep_same_Order_1_x2 ()))) else none
theorem keep_same_Order_1_k (t0 : List Order) (t1 : List Order) (t5 : Int) (K : (((List Order) × (List Order)) × (Int)) ⊕ (Bool ⊕ Unit) → Option A) : ev keep_same_Notice_E (callA keep_same_Notice_E 6) 74 0 (loopAt keep_same_Notice_E 74 0) 0 (build keep_same_Order_1_L (keep_same_Order_1_e ((t0, t1), t5))) (obs keep_same_Notice_E keep_same_Order_1_L keep_same_Order_1_X keep_same_Order_1_d keep_same_Order_1_dx K) =
  (bif decide (t5 < (↑(List.length t0) : Int)) then (bif decide (0 ≤ t5 ∧ t5 < (↑(List.length t0) : Int)) then (bif decide (0 ≤ t5 ∧ t5 < (↑(List.length t1) : Int)) then (bif !decide (rd Ty.order t0 (Int.toNat t5) = rd Ty.order t1 (Int.toNat t5)) then K (.inr (.inl false)) else K (.inl ((t0, t1), IntKind.wrap IntKind.i64 (t5 + 1)))) else none) else none) else K (.inr (.inr ()))) := by kernel_rfl
noncomputable def keep_same_Order_1_E : Env := withS keep_same_Notice_E 74 0 (sumV keep_same_Notice_E 74 0 0 keep_same_Order_1_L keep_same_Order_1_d keep_same_Order_1_f)
theorem keep_same_Order_1_ok : AllOK Tryz.prog keep_same_Order_1_E :=
  keep_same_Notice_ok.loopP 6 (step := fun p s => keep_same_Order_1_s p.1 p.2 s) (lift := keep_same_Order_1_lf) (enc := keep_same_Order_1_e) (encx := keep_same_Order_1_ex) keep_same_Order_1_dk keep_same_Order_1_dxk
    (by
      rintro ⟨t0, t1⟩ t5 K
      refine (keep_same_Order_1_k t0 t1 t5 K).trans ?_
      unfold keep_same_Order_1_s
      exact (bndc _ (bndc _ (bndc _ (bndc _ rfl rfl) rfl) rfl) rfl))
    (by
      intro p s k x e
      unfold keep_same_Order_1_f at e
      cases hr : keep_same_Order_1_l p.1 p.2 s with
      | none =>
        rw [hr] at e
        cases e
      | some r =>
      rw [hr] at e
      refine ⟨r, hr, ?_⟩
      rcases r with d | d <;> exact e) (by kernel_rfl)
/-! ### stevedore/stevedorekeep.same[stevedore/api.Order] -/
noncomputable def keep_same_Order (a0 : List Order) (a1 : List Order) : Option Bool :=
  (bif (↑(List.length a0) : Int) != (↑(List.length a1) : Int) then some false else (bif Option.isSome (keep_same_Order_1_l a0 a1 0) then (bif isL (Option.getD (keep_same_Order_1_l a0 a1 0) default) then some false else some true) else none))
theorem keep_same_Order_k (a0 : List Order) (a1 : List Order) : runA (withN keep_same_Order_1_E 0) 6 74 [.s (.list .order a0 []), .s (.list .order a1 [])] ⟨[], []⟩ =
  (bif (↑(List.length a0) : Int) != (↑(List.length a1) : Int) then some (.s (.v (.bool false))) else (bif Option.isSome (keep_same_Order_1_l a0 a1 0) then (bif isL (Option.getD (keep_same_Order_1_l a0 a1 0) default) then some (.s (.v (.bool false))) else some (.s (.v (.bool true)))) else none)) := by kernel_rfl
noncomputable def keep_same_Order_enc (r : Bool) : A := .s (.v (.bool r))
theorem keep_same_Order_r (a0 : List Order) (a1 : List Order) : runA (withN keep_same_Order_1_E 0) 6 74 [.s (.list .order a0 []), .s (.list .order a1 [])] ⟨[], []⟩ = (keep_same_Order a0 a1).map keep_same_Order_enc :=
  (keep_same_Order_k a0 a1).trans (by unfold keep_same_Order; exact (mapc (K := keep_same_Order_enc) _ rfl (mapc (K := keep_same_Order_enc) _ (mapc (K := keep_same_Order_enc) _ rfl rfl) rfl)))
noncomputable def keep_same_Order_F (l : List A) (m : List (Option (List C))) : Option (Bool × A) := match (p2 (lCons (rS (cLst .order)) (lCons (rS (cLst .order)) lNil)) lNil) (l, m) with
  | some x => some ((keep_same_Order x.1.1 x.1.2.1).isSome, keep_same_Order_enc ((keep_same_Order x.1.1 x.1.2.1).getD default))
  | none => none
noncomputable def keep_same_Order_E : Env := withG keep_same_Order_1_E 74 (gOfM keep_same_Order_1_E 74 [29, 29] keep_same_Order_F)
theorem keep_same_Order_ok : AllOK Tryz.prog keep_same_Order_E := keep_same_Order_1_ok.fm 6 (fun l m r e hl => by
  unfold keep_same_Order_F at e
  cases hD : (p2 (lCons (rS (cLst .order)) (lCons (rS (cLst .order)) lNil)) lNil) (l, m) with
  | none => rw [hD] at e; cases e
  | some x =>
    rw [hD] at e
    have hE := (p2_ok (lCons_ok (rS_ok (cLst_ok .order)) (lCons_ok (rS_ok (cLst_ok .order)) lNil_ok)) lNil_ok) _ _ hD
    have h1 : l = [.s (.list .order x.1.1 []), .s (.list .order x.1.2.1 [])] := congrArg Prod.fst hE
    have h2 : m = [] := congrArg Prod.snd hE
    subst h1 h2
    simp only [Option.some.injEq, Prod.mk.injEq] at e
    obtain ⟨hs, rfl⟩ := e
    exact ⟨0, get_of (keep_same_Order_r x.1.1 x.1.2.1) hs⟩) (by kernel_rfl)
/-! ### stevedore/stevedorekeep.same[stevedore/api.Claim]: loop 1 -/
noncomputable def keep_same_Claim_1_L : Live := ⟨26, 26, [0, 1, 5], [], [], []⟩
noncomputable def keep_same_Claim_1_e (x : ((List Claim) × (List Claim)) × (Int)) : V := ([.s (.list .claim x.1.1 []), .s (.list .claim x.1.2 []), .s (.v (.int .i64 x.2))], [], [])
noncomputable def keep_same_Claim_1_d : V → Option (((List Claim) × (List Claim)) × (Int)) := fun v => ((p2 (lCons (rS (cLst .claim)) (lCons (rS (cLst .claim)) (lCons (rS cInt) lNil))) (p2 lNil lNil)) v).map fun x => ((x.1.1, x.1.2.1), x.1.2.2.1)
theorem keep_same_Claim_1_dk : ∀ v s, keep_same_Claim_1_d v = some s → v = keep_same_Claim_1_e s := map_ok (p2_ok (lCons_ok (rS_ok (cLst_ok .claim)) (lCons_ok (rS_ok (cLst_ok .claim)) (lCons_ok (rS_ok cInt_ok) lNil_ok))) (p2_ok lNil_ok lNil_ok)) (fun _ => by kernel_rfl)
noncomputable def keep_same_Claim_1_x1 (x : Bool) : V := ([.s (.v (.bool x))], [], [])
noncomputable def keep_same_Claim_1_x1_d : V → Option (Bool) := fun v => ((p2 (lCons (rS cBool) lNil) (p2 lNil lNil)) v).map fun x => x.1.1
theorem keep_same_Claim_1_x1_dk : ∀ v s, keep_same_Claim_1_x1_d v = some s → v = keep_same_Claim_1_x1 s := map_ok (p2_ok (lCons_ok (rS_ok cBool_ok) lNil_ok) (p2_ok lNil_ok lNil_ok)) (fun _ => by kernel_rfl)
noncomputable def keep_same_Claim_1_x2 (x : Unit) : V := ([], [], [])
noncomputable def keep_same_Claim_1_x2_d : V → Option (Unit) := fun v => ((p2 lNil (p2 lNil lNil)) v).map fun x => ()
theorem keep_same_Claim_1_x2_dk : ∀ v s, keep_same_Claim_1_x2_d v = some s → v = keep_same_Claim_1_x2 s := map_ok (p2_ok lNil_ok (p2_ok lNil_ok lNil_ok)) (fun _ => by kernel_rfl)
noncomputable def keep_same_Claim_1_X (e : Ex) : Live := bif exEq e (.ret) then ⟨26, 26, [4], [], [], []⟩ else bif exEq e (.exit 0) then ⟨26, 26, [], [], [], []⟩ else keep_same_Claim_1_L
noncomputable def keep_same_Claim_1_dx (e : Ex) (v : V) : Option (Bool ⊕ Unit) := match exEq e (.ret) with
  | true => (keep_same_Claim_1_x1_d v).map fun d => .inl d
  | false => match exEq e (.exit 0) with
  | true => (keep_same_Claim_1_x2_d v).map fun d => .inr d
  | false => none
noncomputable def keep_same_Claim_1_ex (x : (Bool ⊕ Unit)) : Ex × V := match x with
  | .inl d => (.ret, keep_same_Claim_1_x1 d)
  | .inr d => (.exit 0, keep_same_Claim_1_x2 d)
theorem keep_same_Claim_1_dxk : ∀ e v r, keep_same_Claim_1_dx e v = some r → keep_same_Claim_1_ex r = (e, v) := by
  intro e v r h
  unfold keep_same_Claim_1_dx at h
  split at h
  · rename_i he
    obtain ⟨d, hd, rfl⟩ := Option.map_eq_some_iff.1 h
    rw [exEq_eq he, keep_same_Claim_1_x1_dk _ _ hd]
    rfl
  · split at h
    · rename_i he
      obtain ⟨d, hd, rfl⟩ := Option.map_eq_some_iff.1 h
      rw [exEq_eq he, keep_same_Claim_1_x2_dk _ _ hd]
      rfl
    · cases h
noncomputable def keep_same_Claim_1_s (t0 : List Claim) (t1 : List Claim) (t5 : Int) : Option ((Int) ⊕ (Unit ⊕ Unit)) :=
  (bif decide (t5 < (↑(List.length t0) : Int)) then (bif decide (0 ≤ t5 ∧ t5 < (↑(List.length t0) : Int)) then (bif decide (0 ≤ t5 ∧ t5 < (↑(List.length t1) : Int)) then (bif !decide (rd Ty.claim t0 (Int.toNat t5) = rd Ty.claim t1 (Int.toNat t5)) then some (.inr (.inl ())) else some (.inl (IntKind.wrap IntKind.i64 (t5 + 1)))) else none) else none) else some (.inr (.inr ())))
noncomputable def keep_same_Claim_1_l (t0 : List Claim) (t1 : List Claim) (t5 : Int) : Option (Unit ⊕ Unit) := run (fun s : Int => keep_same_Claim_1_s t0 t1 s) t5
noncomputable def keep_same_Claim_1_lf (p : (List Claim) × (List Claim)) (r : (Unit ⊕ Unit)) : (Bool ⊕ Unit) := match r with
  | .inl d => .inl false
  | .inr d => .inr ()
noncomputable def keep_same_Claim_1_f (x : ((List Claim) × (List Claim)) × (Int)) (k : Ex → St → Option A) : Option A :=
  bif (keep_same_Claim_1_l x.1.1 x.1.2 x.2).isSome then (bif isL ((keep_same_Claim_1_l x.1.1 x.1.2 x.2).getD default) then k (.ret) (build ⟨26, 26, [4], [], [], []⟩ (keep_same_Claim_1_x1 false)) else k (.exit 0) (build ⟨26, 26, [], [], [], []⟩ (keep_same_Claim_1_x2 ()))) else none
theorem keep_same_Claim_1_k (t0 : List Claim) (t1 : List Claim) (t5 : Int) (K : (((List Claim) × (List Claim)) × (Int)) ⊕ (Bool ⊕ Unit) → Option A) : ev keep_same_Order_E (callA keep_same_Order_E 6) 75 0 (loopAt keep_same_Order_E 75 0) 0 (build keep_same_Claim_1_L (keep_same_Claim_1_e ((t0, t1), t5))) (obs keep_same_Order_E keep_same_Claim_1_L keep_same_Claim_1_X keep_same_Claim_1_d keep_same_Claim_1_dx K) =
  (bif decide (t5 < (↑(List.length t0) : Int)) then (bif decide (0 ≤ t5 ∧ t5 < (↑(List.length t0) : Int)) then (bif decide (0 ≤ t5 ∧ t5 < (↑(List.length t1) : Int)) then (bif !decide (rd Ty.claim t0 (Int.toNat t5) = rd Ty.claim t1 (Int.toNat t5)) then K (.inr (.inl false)) else K (.inl ((t0, t1), IntKind.wrap IntKind.i64 (t5 + 1)))) else none) else none) else K (.inr (.inr ()))) := by kernel_rfl
noncomputable def keep_same_Claim_1_E : Env := withS keep_same_Order_E 75 0 (sumV keep_same_Order_E 75 0 0 keep_same_Claim_1_L keep_same_Claim_1_d keep_same_Claim_1_f)
theorem keep_same_Claim_1_ok : AllOK Tryz.prog keep_same_Claim_1_E :=
  keep_same_Order_ok.loopP 6 (step := fun p s => keep_same_Claim_1_s p.1 p.2 s) (lift := keep_same_Claim_1_lf) (enc := keep_same_Claim_1_e) (encx := keep_same_Claim_1_ex) keep_same_Claim_1_dk keep_same_Claim_1_dxk
    (by
      rintro ⟨t0, t1⟩ t5 K
      refine (keep_same_Claim_1_k t0 t1 t5 K).trans ?_
      unfold keep_same_Claim_1_s
      exact (bndc _ (bndc _ (bndc _ (bndc _ rfl rfl) rfl) rfl) rfl))
    (by
      intro p s k x e
      unfold keep_same_Claim_1_f at e
      cases hr : keep_same_Claim_1_l p.1 p.2 s with
      | none =>
        rw [hr] at e
        cases e
      | some r =>
      rw [hr] at e
      refine ⟨r, hr, ?_⟩
      rcases r with d | d <;> exact e) (by kernel_rfl)
/-! ### stevedore/stevedorekeep.same[stevedore/api.Claim] -/
noncomputable def keep_same_Claim (a0 : List Claim) (a1 : List Claim) : Option Bool :=
  (bif (↑(List.length a0) : Int) != (↑(List.length a1) : Int) then some false else (bif Option.isSome (keep_same_Claim_1_l a0 a1 0) then (bif isL (Option.getD (keep_same_Claim_1_l a0 a1 0) default) then some false else some true) else none))
theorem keep_same_Claim_k (a0 : List Claim) (a1 : List Claim) : runA (withN keep_same_Claim_1_E 0) 6 75 [.s (.list .claim a0 []), .s (.list .claim a1 [])] ⟨[], []⟩ =
  (bif (↑(List.length a0) : Int) != (↑(List.length a1) : Int) then some (.s (.v (.bool false))) else (bif Option.isSome (keep_same_Claim_1_l a0 a1 0) then (bif isL (Option.getD (keep_same_Claim_1_l a0 a1 0) default) then some (.s (.v (.bool false))) else some (.s (.v (.bool true)))) else none)) := by kernel_rfl
noncomputable def keep_same_Claim_enc (r : Bool) : A := .s (.v (.bool r))
theorem keep_same_Claim_r (a0 : List Claim) (a1 : List Claim) : runA (withN keep_same_Claim_1_E 0) 6 75 [.s (.list .claim a0 []), .s (.list .claim a1 [])] ⟨[], []⟩ = (keep_same_Claim a0 a1).map keep_same_Claim_enc :=
  (keep_same_Claim_k a0 a1).trans (by unfold keep_same_Claim; exact (mapc (K := keep_same_Claim_enc) _ rfl (mapc (K := keep_same_Claim_enc) _ (mapc (K := keep_same_Claim_enc) _ rfl rfl) rfl)))
noncomputable def keep_same_Claim_F (l : List A) (m : List (Option (List C))) : Option (Bool × A) := match (p2 (lCons (rS (cLst .claim)) (lCons (rS (cLst .claim)) lNil)) lNil) (l, m) with
  | some x => some ((keep_same_Claim x.1.1 x.1.2.1).isSome, keep_same_Claim_enc ((keep_same_Claim x.1.1 x.1.2.1).getD default))
  | none => none
noncomputable def keep_same_Claim_E : Env := withG keep_same_Claim_1_E 75 (gOfM keep_same_Claim_1_E 75 [30, 30] keep_same_Claim_F)
theorem keep_same_Claim_ok : AllOK Tryz.prog keep_same_Claim_E := keep_same_Claim_1_ok.fm 6 (fun l m r e hl => by
  unfold keep_same_Claim_F at e
  cases hD : (p2 (lCons (rS (cLst .claim)) (lCons (rS (cLst .claim)) lNil)) lNil) (l, m) with
  | none => rw [hD] at e; cases e
  | some x =>
    rw [hD] at e
    have hE := (p2_ok (lCons_ok (rS_ok (cLst_ok .claim)) (lCons_ok (rS_ok (cLst_ok .claim)) lNil_ok)) lNil_ok) _ _ hD
    have h1 : l = [.s (.list .claim x.1.1 []), .s (.list .claim x.1.2.1 [])] := congrArg Prod.fst hE
    have h2 : m = [] := congrArg Prod.snd hE
    subst h1 h2
    simp only [Option.some.injEq, Prod.mk.injEq] at e
    obtain ⟨hs, rfl⟩ := e
    exact ⟨0, get_of (keep_same_Claim_r x.1.1 x.1.2.1) hs⟩) (by kernel_rfl)
/-! ### stevedore/stevedorekeep.same[stevedore/api.Task]: loop 1 -/
noncomputable def keep_same_Task_1_L : Live := ⟨26, 26, [0, 1, 5], [], [], []⟩
noncomputable def keep_same_Task_1_e (x : ((List Task) × (List Task)) × (Int)) : V := ([.s (.list .task x.1.1 []), .s (.list .task x.1.2 []), .s (.v (.int .i64 x.2))], [], [])
noncomputable def keep_same_Task_1_d : V → Option (((List Task) × (List Task)) × (Int)) := fun v => ((p2 (lCons (rS (cLst .task)) (lCons (rS (cLst .task)) (lCons (rS cInt) lNil))) (p2 lNil lNil)) v).map fun x => ((x.1.1, x.1.2.1), x.1.2.2.1)
theorem keep_same_Task_1_dk : ∀ v s, keep_same_Task_1_d v = some s → v = keep_same_Task_1_e s := map_ok (p2_ok (lCons_ok (rS_ok (cLst_ok .task)) (lCons_ok (rS_ok (cLst_ok .task)) (lCons_ok (rS_ok cInt_ok) lNil_ok))) (p2_ok lNil_ok lNil_ok)) (fun _ => by kernel_rfl)
noncomputable def keep_same_Task_1_x1 (x : Bool) : V := ([.s (.v (.bool x))], [], [])
noncomputable def keep_same_Task_1_x1_d : V → Option (Bool) := fun v => ((p2 (lCons (rS cBool) lNil) (p2 lNil lNil)) v).map fun x => x.1.1
theorem keep_same_Task_1_x1_dk : ∀ v s, keep_same_Task_1_x1_d v = some s → v = keep_same_Task_1_x1 s := map_ok (p2_ok (lCons_ok (rS_ok cBool_ok) lNil_ok) (p2_ok lNil_ok lNil_ok)) (fun _ => by kernel_rfl)
noncomputable def keep_same_Task_1_x2 (x : Unit) : V := ([], [], [])
noncomputable def keep_same_Task_1_x2_d : V → Option (Unit) := fun v => ((p2 lNil (p2 lNil lNil)) v).map fun x => ()
theorem keep_same_Task_1_x2_dk : ∀ v s, keep_same_Task_1_x2_d v = some s → v = keep_same_Task_1_x2 s := map_ok (p2_ok lNil_ok (p2_ok lNil_ok lNil_ok)) (fun _ => by kernel_rfl)
noncomputable def keep_same_Task_1_X (e : Ex) : Live := bif exEq e (.ret) then ⟨26, 26, [4], [], [], []⟩ else bif exEq e (.exit 0) then ⟨26, 26, [], [], [], []⟩ else keep_same_Task_1_L
noncomputable def keep_same_Task_1_dx (e : Ex) (v : V) : Option (Bool ⊕ Unit) := match exEq e (.ret) with
  | true => (keep_same_Task_1_x1_d v).map fun d => .inl d
  | false => match exEq e (.exit 0) with
  | true => (keep_same_Task_1_x2_d v).map fun d => .inr d
  | false => none
noncomputable def keep_same_Task_1_ex (x : (Bool ⊕ Unit)) : Ex × V := match x with
  | .inl d => (.ret, keep_same_Task_1_x1 d)
  | .inr d => (.exit 0, keep_same_Task_1_x2 d)
theorem keep_same_Task_1_dxk : ∀ e v r, keep_same_Task_1_dx e v = some r → keep_same_Task_1_ex r = (e, v) := by
  intro e v r h
  unfold keep_same_Task_1_dx at h
  split at h
  · rename_i he
    obtain ⟨d, hd, rfl⟩ := Option.map_eq_some_iff.1 h
    rw [exEq_eq he, keep_same_Task_1_x1_dk _ _ hd]
    rfl
  · split at h
    · rename_i he
      obtain ⟨d, hd, rfl⟩ := Option.map_eq_some_iff.1 h
      rw [exEq_eq he, keep_same_Task_1_x2_dk _ _ hd]
      rfl
    · cases h
noncomputable def keep_same_Task_1_s (t0 : List Task) (t1 : List Task) (t5 : Int) : Option ((Int) ⊕ (Unit ⊕ Unit)) :=
  (bif decide (t5 < (↑(List.length t0) : Int)) then (bif decide (0 ≤ t5 ∧ t5 < (↑(List.length t0) : Int)) then (bif decide (0 ≤ t5 ∧ t5 < (↑(List.length t1) : Int)) then (bif !decide (rd Ty.task t0 (Int.toNat t5) = rd Ty.task t1 (Int.toNat t5)) then some (.inr (.inl ())) else some (.inl (IntKind.wrap IntKind.i64 (t5 + 1)))) else none) else none) else some (.inr (.inr ())))
noncomputable def keep_same_Task_1_l (t0 : List Task) (t1 : List Task) (t5 : Int) : Option (Unit ⊕ Unit) := run (fun s : Int => keep_same_Task_1_s t0 t1 s) t5
noncomputable def keep_same_Task_1_lf (p : (List Task) × (List Task)) (r : (Unit ⊕ Unit)) : (Bool ⊕ Unit) := match r with
  | .inl d => .inl false
  | .inr d => .inr ()
noncomputable def keep_same_Task_1_f (x : ((List Task) × (List Task)) × (Int)) (k : Ex → St → Option A) : Option A :=
  bif (keep_same_Task_1_l x.1.1 x.1.2 x.2).isSome then (bif isL ((keep_same_Task_1_l x.1.1 x.1.2 x.2).getD default) then k (.ret) (build ⟨26, 26, [4], [], [], []⟩ (keep_same_Task_1_x1 false)) else k (.exit 0) (build ⟨26, 26, [], [], [], []⟩ (keep_same_Task_1_x2 ()))) else none
theorem keep_same_Task_1_k (t0 : List Task) (t1 : List Task) (t5 : Int) (K : (((List Task) × (List Task)) × (Int)) ⊕ (Bool ⊕ Unit) → Option A) : ev keep_same_Claim_E (callA keep_same_Claim_E 6) 76 0 (loopAt keep_same_Claim_E 76 0) 0 (build keep_same_Task_1_L (keep_same_Task_1_e ((t0, t1), t5))) (obs keep_same_Claim_E keep_same_Task_1_L keep_same_Task_1_X keep_same_Task_1_d keep_same_Task_1_dx K) =
  (bif decide (t5 < (↑(List.length t0) : Int)) then (bif decide (0 ≤ t5 ∧ t5 < (↑(List.length t0) : Int)) then (bif decide (0 ≤ t5 ∧ t5 < (↑(List.length t1) : Int)) then (bif !decide (rd Ty.task t0 (Int.toNat t5) = rd Ty.task t1 (Int.toNat t5)) then K (.inr (.inl false)) else K (.inl ((t0, t1), IntKind.wrap IntKind.i64 (t5 + 1)))) else none) else none) else K (.inr (.inr ()))) := by kernel_rfl
noncomputable def keep_same_Task_1_E : Env := withS keep_same_Claim_E 76 0 (sumV keep_same_Claim_E 76 0 0 keep_same_Task_1_L keep_same_Task_1_d keep_same_Task_1_f)
theorem keep_same_Task_1_ok : AllOK Tryz.prog keep_same_Task_1_E :=
  keep_same_Claim_ok.loopP 6 (step := fun p s => keep_same_Task_1_s p.1 p.2 s) (lift := keep_same_Task_1_lf) (enc := keep_same_Task_1_e) (encx := keep_same_Task_1_ex) keep_same_Task_1_dk keep_same_Task_1_dxk
    (by
      rintro ⟨t0, t1⟩ t5 K
      refine (keep_same_Task_1_k t0 t1 t5 K).trans ?_
      unfold keep_same_Task_1_s
      exact (bndc _ (bndc _ (bndc _ (bndc _ rfl rfl) rfl) rfl) rfl))
    (by
      intro p s k x e
      unfold keep_same_Task_1_f at e
      cases hr : keep_same_Task_1_l p.1 p.2 s with
      | none =>
        rw [hr] at e
        cases e
      | some r =>
      rw [hr] at e
      refine ⟨r, hr, ?_⟩
      rcases r with d | d <;> exact e) (by kernel_rfl)
/-! ### stevedore/stevedorekeep.same[stevedore/api.Task] -/
noncomputable def keep_same_Task (a0 : List Task) (a1 : List Task) : Option Bool :=
  (bif (↑(List.length a0) : Int) != (↑(List.length a1) : Int) then some false else (bif Option.isSome (keep_same_Task_1_l a0 a1 0) then (bif isL (Option.getD (keep_same_Task_1_l a0 a1 0) default) then some false else some true) else none))
theorem keep_same_Task_k (a0 : List Task) (a1 : List Task) : runA (withN keep_same_Task_1_E 0) 6 76 [.s (.list .task a0 []), .s (.list .task a1 [])] ⟨[], []⟩ =
  (bif (↑(List.length a0) : Int) != (↑(List.length a1) : Int) then some (.s (.v (.bool false))) else (bif Option.isSome (keep_same_Task_1_l a0 a1 0) then (bif isL (Option.getD (keep_same_Task_1_l a0 a1 0) default) then some (.s (.v (.bool false))) else some (.s (.v (.bool true)))) else none)) := by kernel_rfl
noncomputable def keep_same_Task_enc (r : Bool) : A := .s (.v (.bool r))
theorem keep_same_Task_r (a0 : List Task) (a1 : List Task) : runA (withN keep_same_Task_1_E 0) 6 76 [.s (.list .task a0 []), .s (.list .task a1 [])] ⟨[], []⟩ = (keep_same_Task a0 a1).map keep_same_Task_enc :=
  (keep_same_Task_k a0 a1).trans (by unfold keep_same_Task; exact (mapc (K := keep_same_Task_enc) _ rfl (mapc (K := keep_same_Task_enc) _ (mapc (K := keep_same_Task_enc) _ rfl rfl) rfl)))
noncomputable def keep_same_Task_F (l : List A) (m : List (Option (List C))) : Option (Bool × A) := match (p2 (lCons (rS (cLst .task)) (lCons (rS (cLst .task)) lNil)) lNil) (l, m) with
  | some x => some ((keep_same_Task x.1.1 x.1.2.1).isSome, keep_same_Task_enc ((keep_same_Task x.1.1 x.1.2.1).getD default))
  | none => none
noncomputable def keep_same_Task_E : Env := withG keep_same_Task_1_E 76 (gOfM keep_same_Task_1_E 76 [31, 31] keep_same_Task_F)
theorem keep_same_Task_ok : AllOK Tryz.prog keep_same_Task_E := keep_same_Task_1_ok.fm 6 (fun l m r e hl => by
  unfold keep_same_Task_F at e
  cases hD : (p2 (lCons (rS (cLst .task)) (lCons (rS (cLst .task)) lNil)) lNil) (l, m) with
  | none => rw [hD] at e; cases e
  | some x =>
    rw [hD] at e
    have hE := (p2_ok (lCons_ok (rS_ok (cLst_ok .task)) (lCons_ok (rS_ok (cLst_ok .task)) lNil_ok)) lNil_ok) _ _ hD
    have h1 : l = [.s (.list .task x.1.1 []), .s (.list .task x.1.2.1 [])] := congrArg Prod.fst hE
    have h2 : m = [] := congrArg Prod.snd hE
    subst h1 h2
    simp only [Option.some.injEq, Prod.mk.injEq] at e
    obtain ⟨hs, rfl⟩ := e
    exact ⟨0, get_of (keep_same_Task_r x.1.1 x.1.2.1) hs⟩) (by kernel_rfl)
/-! ### stevedore/stevedorekeep.same[stevedore/api.Parcel]: loop 1 -/
noncomputable def keep_same_Parcel_1_L : Live := ⟨26, 26, [0, 1, 5], [], [], []⟩
noncomputable def keep_same_Parcel_1_e (x : ((List Parcel) × (List Parcel)) × (Int)) : V := ([.s (.list .parcel x.1.1 []), .s (.list .parcel x.1.2 []), .s (.v (.int .i64 x.2))], [], [])
noncomputable def keep_same_Parcel_1_d : V → Option (((List Parcel) × (List Parcel)) × (Int)) := fun v => ((p2 (lCons (rS (cLst .parcel)) (lCons (rS (cLst .parcel)) (lCons (rS cInt) lNil))) (p2 lNil lNil)) v).map fun x => ((x.1.1, x.1.2.1), x.1.2.2.1)
theorem keep_same_Parcel_1_dk : ∀ v s, keep_same_Parcel_1_d v = some s → v = keep_same_Parcel_1_e s := map_ok (p2_ok (lCons_ok (rS_ok (cLst_ok .parcel)) (lCons_ok (rS_ok (cLst_ok .parcel)) (lCons_ok (rS_ok cInt_ok) lNil_ok))) (p2_ok lNil_ok lNil_ok)) (fun _ => by kernel_rfl)
noncomputable def keep_same_Parcel_1_x1 (x : Bool) : V := ([.s (.v (.bool x))], [], [])
noncomputable def keep_same_Parcel_1_x1_d : V → Option (Bool) := fun v => ((p2 (lCons (rS cBool) lNil) (p2 lNil lNil)) v).map fun x => x.1.1
theorem keep_same_Parcel_1_x1_dk : ∀ v s, keep_same_Parcel_1_x1_d v = some s → v = keep_same_Parcel_1_x1 s := map_ok (p2_ok (lCons_ok (rS_ok cBool_ok) lNil_ok) (p2_ok lNil_ok lNil_ok)) (fun _ => by kernel_rfl)
noncomputable def keep_same_Parcel_1_x2 (x : Unit) : V := ([], [], [])
noncomputable def keep_same_Parcel_1_x2_d : V → Option (Unit) := fun v => ((p2 lNil (p2 lNil lNil)) v).map fun x => ()
theorem keep_same_Parcel_1_x2_dk : ∀ v s, keep_same_Parcel_1_x2_d v = some s → v = keep_same_Parcel_1_x2 s := map_ok (p2_ok lNil_ok (p2_ok lNil_ok lNil_ok)) (fun _ => by kernel_rfl)
noncomputable def keep_same_Parcel_1_X (e : Ex) : Live := bif exEq e (.ret) then ⟨26, 26, [4], [], [], []⟩ else bif exEq e (.exit 0) then ⟨26, 26, [], [], [], []⟩ else keep_same_Parcel_1_L
noncomputable def keep_same_Parcel_1_dx (e : Ex) (v : V) : Option (Bool ⊕ Unit) := match exEq e (.ret) with
  | true => (keep_same_Parcel_1_x1_d v).map fun d => .inl d
  | false => match exEq e (.exit 0) with
  | true => (keep_same_Parcel_1_x2_d v).map fun d => .inr d
  | false => none
noncomputable def keep_same_Parcel_1_ex (x : (Bool ⊕ Unit)) : Ex × V := match x with
  | .inl d => (.ret, keep_same_Parcel_1_x1 d)
  | .inr d => (.exit 0, keep_same_Parcel_1_x2 d)
theorem keep_same_Parcel_1_dxk : ∀ e v r, keep_same_Parcel_1_dx e v = some r → keep_same_Parcel_1_ex r = (e, v) := by
  intro e v r h
  unfold keep_same_Parcel_1_dx at h
  split at h
  · rename_i he
    obtain ⟨d, hd, rfl⟩ := Option.map_eq_some_iff.1 h
    rw [exEq_eq he, keep_same_Parcel_1_x1_dk _ _ hd]
    rfl
  · split at h
    · rename_i he
      obtain ⟨d, hd, rfl⟩ := Option.map_eq_some_iff.1 h
      rw [exEq_eq he, keep_same_Parcel_1_x2_dk _ _ hd]
      rfl
    · cases h
noncomputable def keep_same_Parcel_1_s (t0 : List Parcel) (t1 : List Parcel) (t5 : Int) : Option ((Int) ⊕ (Unit ⊕ Unit)) :=
  (bif decide (t5 < (↑(List.length t0) : Int)) then (bif decide (0 ≤ t5 ∧ t5 < (↑(List.length t0) : Int)) then (bif decide (0 ≤ t5 ∧ t5 < (↑(List.length t1) : Int)) then (bif !decide (rd Ty.parcel t0 (Int.toNat t5) = rd Ty.parcel t1 (Int.toNat t5)) then some (.inr (.inl ())) else some (.inl (IntKind.wrap IntKind.i64 (t5 + 1)))) else none) else none) else some (.inr (.inr ())))
noncomputable def keep_same_Parcel_1_l (t0 : List Parcel) (t1 : List Parcel) (t5 : Int) : Option (Unit ⊕ Unit) := run (fun s : Int => keep_same_Parcel_1_s t0 t1 s) t5
noncomputable def keep_same_Parcel_1_lf (p : (List Parcel) × (List Parcel)) (r : (Unit ⊕ Unit)) : (Bool ⊕ Unit) := match r with
  | .inl d => .inl false
  | .inr d => .inr ()
noncomputable def keep_same_Parcel_1_f (x : ((List Parcel) × (List Parcel)) × (Int)) (k : Ex → St → Option A) : Option A :=
  bif (keep_same_Parcel_1_l x.1.1 x.1.2 x.2).isSome then (bif isL ((keep_same_Parcel_1_l x.1.1 x.1.2 x.2).getD default) then k (.ret) (build ⟨26, 26, [4], [], [], []⟩ (keep_same_Parcel_1_x1 false)) else k (.exit 0) (build ⟨26, 26, [], [], [], []⟩ (keep_same_Parcel_1_x2 ()))) else none
theorem keep_same_Parcel_1_k (t0 : List Parcel) (t1 : List Parcel) (t5 : Int) (K : (((List Parcel) × (List Parcel)) × (Int)) ⊕ (Bool ⊕ Unit) → Option A) : ev keep_same_Task_E (callA keep_same_Task_E 6) 77 0 (loopAt keep_same_Task_E 77 0) 0 (build keep_same_Parcel_1_L (keep_same_Parcel_1_e ((t0, t1), t5))) (obs keep_same_Task_E keep_same_Parcel_1_L keep_same_Parcel_1_X keep_same_Parcel_1_d keep_same_Parcel_1_dx K) =
  (bif decide (t5 < (↑(List.length t0) : Int)) then (bif decide (0 ≤ t5 ∧ t5 < (↑(List.length t0) : Int)) then (bif decide (0 ≤ t5 ∧ t5 < (↑(List.length t1) : Int)) then (bif !decide (rd Ty.parcel t0 (Int.toNat t5) = rd Ty.parcel t1 (Int.toNat t5)) then K (.inr (.inl false)) else K (.inl ((t0, t1), IntKind.wrap IntKind.i64 (t5 + 1)))) else none) else none) else K (.inr (.inr ()))) := by kernel_rfl
noncomputable def keep_same_Parcel_1_E : Env := withS keep_same_Task_E 77 0 (sumV keep_same_Task_E 77 0 0 keep_same_Parcel_1_L keep_same_Parcel_1_d keep_same_Parcel_1_f)
theorem keep_same_Parcel_1_ok : AllOK Tryz.prog keep_same_Parcel_1_E :=
  keep_same_Task_ok.loopP 6 (step := fun p s => keep_same_Parcel_1_s p.1 p.2 s) (lift := keep_same_Parcel_1_lf) (enc := keep_same_Parcel_1_e) (encx := keep_same_Parcel_1_ex) keep_same_Parcel_1_dk keep_same_Parcel_1_dxk
    (by
      rintro ⟨t0, t1⟩ t5 K
      refine (keep_same_Parcel_1_k t0 t1 t5 K).trans ?_
      unfold keep_same_Parcel_1_s
      exact (bndc _ (bndc _ (bndc _ (bndc _ rfl rfl) rfl) rfl) rfl))
    (by
      intro p s k x e
      unfold keep_same_Parcel_1_f at e
      cases hr : keep_same_Parcel_1_l p.1 p.2 s with
      | none =>
        rw [hr] at e
        cases e
      | some r =>
      rw [hr] at e
      refine ⟨r, hr, ?_⟩
      rcases r with d | d <;> exact e) (by kernel_rfl)
/-! ### stevedore/stevedorekeep.same[stevedore/api.Parcel] -/
noncomputable def keep_same_Parcel (a0 : List Parcel) (a1 : List Parcel) : Option Bool :=
  (bif (↑(List.length a0) : Int) != (↑(List.length a1) : Int) then some false else (bif Option.isSome (keep_same_Parcel_1_l a0 a1 0) then (bif isL (Option.getD (keep_same_Parcel_1_l a0 a1 0) default) then some false else some true) else none))
theorem keep_same_Parcel_k (a0 : List Parcel) (a1 : List Parcel) : runA (withN keep_same_Parcel_1_E 0) 6 77 [.s (.list .parcel a0 []), .s (.list .parcel a1 [])] ⟨[], []⟩ =
  (bif (↑(List.length a0) : Int) != (↑(List.length a1) : Int) then some (.s (.v (.bool false))) else (bif Option.isSome (keep_same_Parcel_1_l a0 a1 0) then (bif isL (Option.getD (keep_same_Parcel_1_l a0 a1 0) default) then some (.s (.v (.bool false))) else some (.s (.v (.bool true)))) else none)) := by kernel_rfl
noncomputable def keep_same_Parcel_enc (r : Bool) : A := .s (.v (.bool r))
theorem keep_same_Parcel_r (a0 : List Parcel) (a1 : List Parcel) : runA (withN keep_same_Parcel_1_E 0) 6 77 [.s (.list .parcel a0 []), .s (.list .parcel a1 [])] ⟨[], []⟩ = (keep_same_Parcel a0 a1).map keep_same_Parcel_enc :=
  (keep_same_Parcel_k a0 a1).trans (by unfold keep_same_Parcel; exact (mapc (K := keep_same_Parcel_enc) _ rfl (mapc (K := keep_same_Parcel_enc) _ (mapc (K := keep_same_Parcel_enc) _ rfl rfl) rfl)))
noncomputable def keep_same_Parcel_F (l : List A) (m : List (Option (List C))) : Option (Bool × A) := match (p2 (lCons (rS (cLst .parcel)) (lCons (rS (cLst .parcel)) lNil)) lNil) (l, m) with
  | some x => some ((keep_same_Parcel x.1.1 x.1.2.1).isSome, keep_same_Parcel_enc ((keep_same_Parcel x.1.1 x.1.2.1).getD default))
  | none => none
noncomputable def keep_same_Parcel_E : Env := withG keep_same_Parcel_1_E 77 (gOfM keep_same_Parcel_1_E 77 [32, 32] keep_same_Parcel_F)
theorem keep_same_Parcel_ok : AllOK Tryz.prog keep_same_Parcel_E := keep_same_Parcel_1_ok.fm 6 (fun l m r e hl => by
  unfold keep_same_Parcel_F at e
  cases hD : (p2 (lCons (rS (cLst .parcel)) (lCons (rS (cLst .parcel)) lNil)) lNil) (l, m) with
  | none => rw [hD] at e; cases e
  | some x =>
    rw [hD] at e
    have hE := (p2_ok (lCons_ok (rS_ok (cLst_ok .parcel)) (lCons_ok (rS_ok (cLst_ok .parcel)) lNil_ok)) lNil_ok) _ _ hD
    have h1 : l = [.s (.list .parcel x.1.1 []), .s (.list .parcel x.1.2.1 [])] := congrArg Prod.fst hE
    have h2 : m = [] := congrArg Prod.snd hE
    subst h1 h2
    simp only [Option.some.injEq, Prod.mk.injEq] at e
    obtain ⟨hs, rfl⟩ := e
    exact ⟨0, get_of (keep_same_Parcel_r x.1.1 x.1.2.1) hs⟩) (by kernel_rfl)
/-! ### stevedore/stevedorekeep.same[stevedore/api.Sent]: loop 1 -/
noncomputable def keep_same_Sent_1_L : Live := ⟨26, 26, [0, 1, 5], [], [], []⟩
noncomputable def keep_same_Sent_1_e (x : ((List Sent) × (List Sent)) × (Int)) : V := ([.s (.list .sent x.1.1 []), .s (.list .sent x.1.2 []), .s (.v (.int .i64 x.2))], [], [])
noncomputable def keep_same_Sent_1_d : V → Option (((List Sent) × (List Sent)) × (Int)) := fun v => ((p2 (lCons (rS (cLst .sent)) (lCons (rS (cLst .sent)) (lCons (rS cInt) lNil))) (p2 lNil lNil)) v).map fun x => ((x.1.1, x.1.2.1), x.1.2.2.1)
theorem keep_same_Sent_1_dk : ∀ v s, keep_same_Sent_1_d v = some s → v = keep_same_Sent_1_e s := map_ok (p2_ok (lCons_ok (rS_ok (cLst_ok .sent)) (lCons_ok (rS_ok (cLst_ok .sent)) (lCons_ok (rS_ok cInt_ok) lNil_ok))) (p2_ok lNil_ok lNil_ok)) (fun _ => by kernel_rfl)
noncomputable def keep_same_Sent_1_x1 (x : Bool) : V := ([.s (.v (.bool x))], [], [])
noncomputable def keep_same_Sent_1_x1_d : V → Option (Bool) := fun v => ((p2 (lCons (rS cBool) lNil) (p2 lNil lNil)) v).map fun x => x.1.1
theorem keep_same_Sent_1_x1_dk : ∀ v s, keep_same_Sent_1_x1_d v = some s → v = keep_same_Sent_1_x1 s := map_ok (p2_ok (lCons_ok (rS_ok cBool_ok) lNil_ok) (p2_ok lNil_ok lNil_ok)) (fun _ => by kernel_rfl)
noncomputable def keep_same_Sent_1_x2 (x : Unit) : V := ([], [], [])
noncomputable def keep_same_Sent_1_x2_d : V → Option (Unit) := fun v => ((p2 lNil (p2 lNil lNil)) v).map fun x => ()
theorem keep_same_Sent_1_x2_dk : ∀ v s, keep_same_Sent_1_x2_d v = some s → v = keep_same_Sent_1_x2 s := map_ok (p2_ok lNil_ok (p2_ok lNil_ok lNil_ok)) (fun _ => by kernel_rfl)
noncomputable def keep_same_Sent_1_X (e : Ex) : Live := bif exEq e (.ret) then ⟨26, 26, [4], [], [], []⟩ else bif exEq e (.exit 0) then ⟨26, 26, [], [], [], []⟩ else keep_same_Sent_1_L
noncomputable def keep_same_Sent_1_dx (e : Ex) (v : V) : Option (Bool ⊕ Unit) := match exEq e (.ret) with
  | true => (keep_same_Sent_1_x1_d v).map fun d => .inl d
  | false => match exEq e (.exit 0) with
  | true => (keep_same_Sent_1_x2_d v).map fun d => .inr d
  | false => none
noncomputable def keep_same_Sent_1_ex (x : (Bool ⊕ Unit)) : Ex × V := match x with
  | .inl d => (.ret, keep_same_Sent_1_x1 d)
  | .inr d => (.exit 0, keep_same_Sent_1_x2 d)
theorem keep_same_Sent_1_dxk : ∀ e v r, keep_same_Sent_1_dx e v = some r → keep_same_Sent_1_ex r = (e, v) := by
  intro e v r h
  unfold keep_same_Sent_1_dx at h
  split at h
  · rename_i he
    obtain ⟨d, hd, rfl⟩ := Option.map_eq_some_iff.1 h
    rw [exEq_eq he, keep_same_Sent_1_x1_dk _ _ hd]
    rfl
  · split at h
    · rename_i he
      obtain ⟨d, hd, rfl⟩ := Option.map_eq_some_iff.1 h
      rw [exEq_eq he, keep_same_Sent_1_x2_dk _ _ hd]
      rfl
    · cases h
noncomputable def keep_same_Sent_1_s (t0 : List Sent) (t1 : List Sent) (t5 : Int) : Option ((Int) ⊕ (Unit ⊕ Unit)) :=
  (bif decide (t5 < (↑(List.length t0) : Int)) then (bif decide (0 ≤ t5 ∧ t5 < (↑(List.length t0) : Int)) then (bif decide (0 ≤ t5 ∧ t5 < (↑(List.length t1) : Int)) then (bif !decide (rd Ty.sent t0 (Int.toNat t5) = rd Ty.sent t1 (Int.toNat t5)) then some (.inr (.inl ())) else some (.inl (IntKind.wrap IntKind.i64 (t5 + 1)))) else none) else none) else some (.inr (.inr ())))
noncomputable def keep_same_Sent_1_l (t0 : List Sent) (t1 : List Sent) (t5 : Int) : Option (Unit ⊕ Unit) := run (fun s : Int => keep_same_Sent_1_s t0 t1 s) t5
noncomputable def keep_same_Sent_1_lf (p : (List Sent) × (List Sent)) (r : (Unit ⊕ Unit)) : (Bool ⊕ Unit) := match r with
  | .inl d => .inl false
  | .inr d => .inr ()
noncomputable def keep_same_Sent_1_f (x : ((List Sent) × (List Sent)) × (Int)) (k : Ex → St → Option A) : Option A :=
  bif (keep_same_Sent_1_l x.1.1 x.1.2 x.2).isSome then (bif isL ((keep_same_Sent_1_l x.1.1 x.1.2 x.2).getD default) then k (.ret) (build ⟨26, 26, [4], [], [], []⟩ (keep_same_Sent_1_x1 false)) else k (.exit 0) (build ⟨26, 26, [], [], [], []⟩ (keep_same_Sent_1_x2 ()))) else none
theorem keep_same_Sent_1_k (t0 : List Sent) (t1 : List Sent) (t5 : Int) (K : (((List Sent) × (List Sent)) × (Int)) ⊕ (Bool ⊕ Unit) → Option A) : ev keep_same_Parcel_E (callA keep_same_Parcel_E 6) 78 0 (loopAt keep_same_Parcel_E 78 0) 0 (build keep_same_Sent_1_L (keep_same_Sent_1_e ((t0, t1), t5))) (obs keep_same_Parcel_E keep_same_Sent_1_L keep_same_Sent_1_X keep_same_Sent_1_d keep_same_Sent_1_dx K) =
  (bif decide (t5 < (↑(List.length t0) : Int)) then (bif decide (0 ≤ t5 ∧ t5 < (↑(List.length t0) : Int)) then (bif decide (0 ≤ t5 ∧ t5 < (↑(List.length t1) : Int)) then (bif !decide (rd Ty.sent t0 (Int.toNat t5) = rd Ty.sent t1 (Int.toNat t5)) then K (.inr (.inl false)) else K (.inl ((t0, t1), IntKind.wrap IntKind.i64 (t5 + 1)))) else none) else none) else K (.inr (.inr ()))) := by kernel_rfl
noncomputable def keep_same_Sent_1_E : Env := withS keep_same_Parcel_E 78 0 (sumV keep_same_Parcel_E 78 0 0 keep_same_Sent_1_L keep_same_Sent_1_d keep_same_Sent_1_f)
theorem keep_same_Sent_1_ok : AllOK Tryz.prog keep_same_Sent_1_E :=
  keep_same_Parcel_ok.loopP 6 (step := fun p s => keep_same_Sent_1_s p.1 p.2 s) (lift := keep_same_Sent_1_lf) (enc := keep_same_Sent_1_e) (encx := keep_same_Sent_1_ex) keep_same_Sent_1_dk keep_same_Sent_1_dxk
    (by
      rintro ⟨t0, t1⟩ t5 K
      refine (keep_same_Sent_1_k t0 t1 t5 K).trans ?_
      unfold keep_same_Sent_1_s
      exact (bndc _ (bndc _ (bndc _ (bndc _ rfl rfl) rfl) rfl) rfl))
    (by
      intro p s k x e
      unfold keep_same_Sent_1_f at e
      cases hr : keep_same_Sent_1_l p.1 p.2 s with
      | none =>
        rw [hr] at e
        cases e
      | some r =>
      rw [hr] at e
      refine ⟨r, hr, ?_⟩
      rcases r with d | d <;> exact e) (by kernel_rfl)
/-! ### stevedore/stevedorekeep.same[stevedore/api.Sent] -/
noncomputable def keep_same_Sent (a0 : List Sent) (a1 : List Sent) : Option Bool :=
  (bif (↑(List.length a0) : Int) != (↑(List.length a1) : Int) then some false else (bif Option.isSome (keep_same_Sent_1_l a0 a1 0) then (bif isL (Option.getD (keep_same_Sent_1_l a0 a1 0) default) then some false else some true) else none))
theorem keep_same_Sent_k (a0 : List Sent) (a1 : List Sent) : runA (withN keep_same_Sent_1_E 0) 6 78 [.s (.list .sent a0 []), .s (.list .sent a1 [])] ⟨[], []⟩ =
  (bif (↑(List.length a0) : Int) != (↑(List.length a1) : Int) then some (.s (.v (.bool false))) else (bif Option.isSome (keep_same_Sent_1_l a0 a1 0) then (bif isL (Option.getD (keep_same_Sent_1_l a0 a1 0) default) then some (.s (.v (.bool false))) else some (.s (.v (.bool true)))) else none)) := by kernel_rfl
noncomputable def keep_same_Sent_enc (r : Bool) : A := .s (.v (.bool r))
theorem keep_same_Sent_r (a0 : List Sent) (a1 : List Sent) : runA (withN keep_same_Sent_1_E 0) 6 78 [.s (.list .sent a0 []), .s (.list .sent a1 [])] ⟨[], []⟩ = (keep_same_Sent a0 a1).map keep_same_Sent_enc :=
  (keep_same_Sent_k a0 a1).trans (by unfold keep_same_Sent; exact (mapc (K := keep_same_Sent_enc) _ rfl (mapc (K := keep_same_Sent_enc) _ (mapc (K := keep_same_Sent_enc) _ rfl rfl) rfl)))
noncomputable def keep_same_Sent_F (l : List A) (m : List (Option (List C))) : Option (Bool × A) := match (p2 (lCons (rS (cLst .sent)) (lCons (rS (cLst .sent)) lNil)) lNil) (l, m) with
  | some x => some ((keep_same_Sent x.1.1 x.1.2.1).isSome, keep_same_Sent_enc ((keep_same_Sent x.1.1 x.1.2.1).getD default))
  | none => none
noncomputable def keep_same_Sent_E : Env := withG keep_same_Sent_1_E 78 (gOfM keep_same_Sent_1_E 78 [33, 33] keep_same_Sent_F)
theorem keep_same_Sent_ok : AllOK Tryz.prog keep_same_Sent_E := keep_same_Sent_1_ok.fm 6 (fun l m r e hl => by
  unfold keep_same_Sent_F at e
  cases hD : (p2 (lCons (rS (cLst .sent)) (lCons (rS (cLst .sent)) lNil)) lNil) (l, m) with
  | none => rw [hD] at e; cases e
  | some x =>
    rw [hD] at e
    have hE := (p2_ok (lCons_ok (rS_ok (cLst_ok .sent)) (lCons_ok (rS_ok (cLst_ok .sent)) lNil_ok)) lNil_ok) _ _ hD
    have h1 : l = [.s (.list .sent x.1.1 []), .s (.list .sent x.1.2.1 [])] := congrArg Prod.fst hE
    have h2 : m = [] := congrArg Prod.snd hE
    subst h1 h2
    simp only [Option.some.injEq, Prod.mk.injEq] at e
    obtain ⟨hs, rfl⟩ := e
    exact ⟨0, get_of (keep_same_Sent_r x.1.1 x.1.2.1) hs⟩) (by kernel_rfl)
/-! ### stevedore/stevedorekeep.same[stevedore/api.Counted]: loop 1 -/
noncomputable def keep_same_Counted_1_L : Live := ⟨26, 26, [0, 1, 5], [], [], []⟩
noncomputable def keep_same_Counted_1_e (x : ((List Counted) × (List Counted)) × (Int)) : V := ([.s (.list .counted x.1.1 []), .s (.list .counted x.1.2 []), .s (.v (.int .i64 x.2))], [], [])
noncomputable def keep_same_Counted_1_d : V → Option (((List Counted) × (List Counted)) × (Int)) := fun v => ((p2 (lCons (rS (cLst .counted)) (lCons (rS (cLst .counted)) (lCons (rS cInt) lNil))) (p2 lNil lNil)) v).map fun x => ((x.1.1, x.1.2.1), x.1.2.2.1)
theorem keep_same_Counted_1_dk : ∀ v s, keep_same_Counted_1_d v = some s → v = keep_same_Counted_1_e s := map_ok (p2_ok (lCons_ok (rS_ok (cLst_ok .counted)) (lCons_ok (rS_ok (cLst_ok .counted)) (lCons_ok (rS_ok cInt_ok) lNil_ok))) (p2_ok lNil_ok lNil_ok)) (fun _ => by kernel_rfl)
noncomputable def keep_same_Counted_1_x1 (x : Bool) : V := ([.s (.v (.bool x))], [], [])
noncomputable def keep_same_Counted_1_x1_d : V → Option (Bool) := fun v => ((p2 (lCons (rS cBool) lNil) (p2 lNil lNil)) v).map fun x => x.1.1
theorem keep_same_Counted_1_x1_dk : ∀ v s, keep_same_Counted_1_x1_d v = some s → v = keep_same_Counted_1_x1 s := map_ok (p2_ok (lCons_ok (rS_ok cBool_ok) lNil_ok) (p2_ok lNil_ok lNil_ok)) (fun _ => by kernel_rfl)
noncomputable def keep_same_Counted_1_x2 (x : Unit) : V := ([], [], [])
noncomputable def keep_same_Counted_1_x2_d : V → Option (Unit) := fun v => ((p2 lNil (p2 lNil lNil)) v).map fun x => ()
theorem keep_same_Counted_1_x2_dk : ∀ v s, keep_same_Counted_1_x2_d v = some s → v = keep_same_Counted_1_x2 s := map_ok (p2_ok lNil_ok (p2_ok lNil_ok lNil_ok)) (fun _ => by kernel_rfl)
noncomputable def keep_same_Counted_1_X (e : Ex) : Live := bif exEq e (.ret) then ⟨26, 26, [4], [], [], []⟩ else bif exEq e (.exit 0) then ⟨26, 26, [], [], [], []⟩ else keep_same_Counted_1_L
noncomputable def keep_same_Counted_1_dx (e : Ex) (v : V) : Option (Bool ⊕ Unit) := match exEq e (.ret) with
  | true => (keep_same_Counted_1_x1_d v).map fun d => .inl d
  | false => match exEq e (.exit 0) with
  | true => (keep_same_Counted_1_x2_d v).map fun d => .inr d
  | false => none
noncomputable def keep_same_Counted_1_ex (x : (Bool ⊕ Unit)) : Ex × V := match x with
  | .inl d => (.ret, keep_same_Counted_1_x1 d)
  | .inr d => (.exit 0, keep_same_Counted_1_x2 d)
theorem keep_same_Counted_1_dxk : ∀ e v r, keep_same_Counted_1_dx e v = some r → keep_same_Counted_1_ex r = (e, v) := by
  intro e v r h
  unfold keep_same_Counted_1_dx at h
  split at h
  · rename_i he
    obtain ⟨d, hd, rfl⟩ := Option.map_eq_some_iff.1 h
    rw [exEq_eq he, keep_same_Counted_1_x1_dk _ _ hd]
    rfl
  · split at h
    · rename_i he
      obtain ⟨d, hd, rfl⟩ := Option.map_eq_some_iff.1 h
      rw [exEq_eq he, keep_same_Counted_1_x2_dk _ _ hd]
      rfl
    · cases h
noncomputable def keep_same_Counted_1_s (t0 : List Counted) (t1 : List Counted) (t5 : Int) : Option ((Int) ⊕ (Unit ⊕ Unit)) :=
  (bif decide (t5 < (↑(List.length t0) : Int)) then (bif decide (0 ≤ t5 ∧ t5 < (↑(List.length t0) : Int)) then (bif decide (0 ≤ t5 ∧ t5 < (↑(List.length t1) : Int)) then (bif !decide (rd Ty.counted t0 (Int.toNat t5) = rd Ty.counted t1 (Int.toNat t5)) then some (.inr (.inl ())) else some (.inl (IntKind.wrap IntKind.i64 (t5 + 1)))) else none) else none) else some (.inr (.inr ())))
noncomputable def keep_same_Counted_1_l (t0 : List Counted) (t1 : List Counted) (t5 : Int) : Option (Unit ⊕ Unit) := run (fun s : Int => keep_same_Counted_1_s t0 t1 s) t5
noncomputable def keep_same_Counted_1_lf (p : (List Counted) × (List Counted)) (r : (Unit ⊕ Unit)) : (Bool ⊕ Unit) := match r with
  | .inl d => .inl false
  | .inr d => .inr ()
noncomputable def keep_same_Counted_1_f (x : ((List Counted) × (List Counted)) × (Int)) (k : Ex → St → Option A) : Option A :=
  bif (keep_same_Counted_1_l x.1.1 x.1.2 x.2).isSome then (bif isL ((keep_same_Counted_1_l x.1.1 x.1.2 x.2).getD default) then k (.ret) (build ⟨26, 26, [4], [], [], []⟩ (keep_same_Counted_1_x1 false)) else k (.exit 0) (build ⟨26, 26, [], [], [], []⟩ (keep_same_Counted_1_x2 ()))) else none
theorem keep_same_Counted_1_k (t0 : List Counted) (t1 : List Counted) (t5 : Int) (K : (((List Counted) × (List Counted)) × (Int)) ⊕ (Bool ⊕ Unit) → Option A) : ev keep_same_Sent_E (callA keep_same_Sent_E 6) 79 0 (loopAt keep_same_Sent_E 79 0) 0 (build keep_same_Counted_1_L (keep_same_Counted_1_e ((t0, t1), t5))) (obs keep_same_Sent_E keep_same_Counted_1_L keep_same_Counted_1_X keep_same_Counted_1_d keep_same_Counted_1_dx K) =
  (bif decide (t5 < (↑(List.length t0) : Int)) then (bif decide (0 ≤ t5 ∧ t5 < (↑(List.length t0) : Int)) then (bif decide (0 ≤ t5 ∧ t5 < (↑(List.length t1) : Int)) then (bif !decide (rd Ty.counted t0 (Int.toNat t5) = rd Ty.counted t1 (Int.toNat t5)) then K (.inr (.inl false)) else K (.inl ((t0, t1), IntKind.wrap IntKind.i64 (t5 + 1)))) else none) else none) else K (.inr (.inr ()))) := by kernel_rfl
noncomputable def keep_same_Counted_1_E : Env := withS keep_same_Sent_E 79 0 (sumV keep_same_Sent_E 79 0 0 keep_same_Counted_1_L keep_same_Counted_1_d keep_same_Counted_1_f)
theorem keep_same_Counted_1_ok : AllOK Tryz.prog keep_same_Counted_1_E :=
  keep_same_Sent_ok.loopP 6 (step := fun p s => keep_same_Counted_1_s p.1 p.2 s) (lift := keep_same_Counted_1_lf) (enc := keep_same_Counted_1_e) (encx := keep_same_Counted_1_ex) keep_same_Counted_1_dk keep_same_Counted_1_dxk
    (by
      rintro ⟨t0, t1⟩ t5 K
      refine (keep_same_Counted_1_k t0 t1 t5 K).trans ?_
      unfold keep_same_Counted_1_s
      exact (bndc _ (bndc _ (bndc _ (bndc _ rfl rfl) rfl) rfl) rfl))
    (by
      intro p s k x e
      unfold keep_same_Counted_1_f at e
      cases hr : keep_same_Counted_1_l p.1 p.2 s with
      | none =>
        rw [hr] at e
        cases e
      | some r =>
      rw [hr] at e
      refine ⟨r, hr, ?_⟩
      rcases r with d | d <;> exact e) (by kernel_rfl)
/-! ### stevedore/stevedorekeep.same[stevedore/api.Counted] -/
noncomputable def keep_same_Counted (a0 : List Counted) (a1 : List Counted) : Option Bool :=
  (bif (↑(List.length a0) : Int) != (↑(List.length a1) : Int) then some false else (bif Option.isSome (keep_same_Counted_1_l a0 a1 0) then (bif isL (Option.getD (keep_same_Counted_1_l a0 a1 0) default) then some false else some true) else none))
theorem keep_same_Counted_k (a0 : List Counted) (a1 : List Counted) : runA (withN keep_same_Counted_1_E 0) 6 79 [.s (.list .counted a0 []), .s (.list .counted a1 [])] ⟨[], []⟩ =
  (bif (↑(List.length a0) : Int) != (↑(List.length a1) : Int) then some (.s (.v (.bool false))) else (bif Option.isSome (keep_same_Counted_1_l a0 a1 0) then (bif isL (Option.getD (keep_same_Counted_1_l a0 a1 0) default) then some (.s (.v (.bool false))) else some (.s (.v (.bool true)))) else none)) := by kernel_rfl
noncomputable def keep_same_Counted_enc (r : Bool) : A := .s (.v (.bool r))
theorem keep_same_Counted_r (a0 : List Counted) (a1 : List Counted) : runA (withN keep_same_Counted_1_E 0) 6 79 [.s (.list .counted a0 []), .s (.list .counted a1 [])] ⟨[], []⟩ = (keep_same_Counted a0 a1).map keep_same_Counted_enc :=
  (keep_same_Counted_k a0 a1).trans (by unfold keep_same_Counted; exact (mapc (K := keep_same_Counted_enc) _ rfl (mapc (K := keep_same_Counted_enc) _ (mapc (K := keep_same_Counted_enc) _ rfl rfl) rfl)))
noncomputable def keep_same_Counted_F (l : List A) (m : List (Option (List C))) : Option (Bool × A) := match (p2 (lCons (rS (cLst .counted)) (lCons (rS (cLst .counted)) lNil)) lNil) (l, m) with
  | some x => some ((keep_same_Counted x.1.1 x.1.2.1).isSome, keep_same_Counted_enc ((keep_same_Counted x.1.1 x.1.2.1).getD default))
  | none => none
noncomputable def keep_same_Counted_E : Env := withG keep_same_Counted_1_E 79 (gOfM keep_same_Counted_1_E 79 [34, 34] keep_same_Counted_F)
theorem keep_same_Counted_ok : AllOK Tryz.prog keep_same_Counted_E := keep_same_Counted_1_ok.fm 6 (fun l m r e hl => by
  unfold keep_same_Counted_F at e
  cases hD : (p2 (lCons (rS (cLst .counted)) (lCons (rS (cLst .counted)) lNil)) lNil) (l, m) with
  | none => rw [hD] at e; cases e
  | some x =>
    rw [hD] at e
    have hE := (p2_ok (lCons_ok (rS_ok (cLst_ok .counted)) (lCons_ok (rS_ok (cLst_ok .counted)) lNil_ok)) lNil_ok) _ _ hD
    have h1 : l = [.s (.list .counted x.1.1 []), .s (.list .counted x.1.2.1 [])] := congrArg Prod.fst hE
    have h2 : m = [] := congrArg Prod.snd hE
    subst h1 h2
    simp only [Option.some.injEq, Prod.mk.injEq] at e
    obtain ⟨hs, rfl⟩ := e
    exact ⟨0, get_of (keep_same_Counted_r x.1.1 x.1.2.1) hs⟩) (by kernel_rfl)
/-! ### stevedore/stevedorekeep.same[stevedore/api.Total]: loop 1 -/
noncomputable def keep_same_Total_1_L : Live := ⟨26, 26, [0, 1, 5], [], [], []⟩
noncomputable def keep_same_Total_1_e (x : ((List Total) × (List Total)) × (Int)) : V := ([.s (.list .total x.1.1 []), .s (.list .total x.1.2 []), .s (.v (.int .i64 x.2))], [], [])
noncomputable def keep_same_Total_1_d : V → Option (((List Total) × (List Total)) × (Int)) := fun v => ((p2 (lCons (rS (cLst .total)) (lCons (rS (cLst .total)) (lCons (rS cInt) lNil))) (p2 lNil lNil)) v).map fun x => ((x.1.1, x.1.2.1), x.1.2.2.1)
theorem keep_same_Total_1_dk : ∀ v s, keep_same_Total_1_d v = some s → v = keep_same_Total_1_e s := map_ok (p2_ok (lCons_ok (rS_ok (cLst_ok .total)) (lCons_ok (rS_ok (cLst_ok .total)) (lCons_ok (rS_ok cInt_ok) lNil_ok))) (p2_ok lNil_ok lNil_ok)) (fun _ => by kernel_rfl)
noncomputable def keep_same_Total_1_x1 (x : Bool) : V := ([.s (.v (.bool x))], [], [])
noncomputable def keep_same_Total_1_x1_d : V → Option (Bool) := fun v => ((p2 (lCons (rS cBool) lNil) (p2 lNil lNil)) v).map fun x => x.1.1
theorem keep_same_Total_1_x1_dk : ∀ v s, keep_same_Total_1_x1_d v = some s → v = keep_same_Total_1_x1 s := map_ok (p2_ok (lCons_ok (rS_ok cBool_ok) lNil_ok) (p2_ok lNil_ok lNil_ok)) (fun _ => by kernel_rfl)
noncomputable def keep_same_Total_1_x2 (x : Unit) : V := ([], [], [])
noncomputable def keep_same_Total_1_x2_d : V → Option (Unit) := fun v => ((p2 lNil (p2 lNil lNil)) v).map fun x => ()
theorem keep_same_Total_1_x2_dk : ∀ v s, keep_same_Total_1_x2_d v = some s → v = keep_same_Total_1_x2 s := map_ok (p2_ok lNil_ok (p2_ok lNil_ok lNil_ok)) (fun _ => by kernel_rfl)
noncomputable def keep_same_Total_1_X (e : Ex) : Live := bif exEq e (.ret) then ⟨26, 26, [4], [], [], []⟩ else bif exEq e (.exit 0) then ⟨26, 26, [], [], [], []⟩ else keep_same_Total_1_L
noncomputable def keep_same_Total_1_dx (e : Ex) (v : V) : Option (Bool ⊕ Unit) := match exEq e (.ret) with
  | true => (keep_same_Total_1_x1_d v).map fun d => .inl d
  | false => match exEq e (.exit 0) with
  | true => (keep_same_Total_1_x2_d v).map fun d => .inr d
  | false => none
noncomputable def keep_same_Total_1_ex (x : (Bool ⊕ Unit)) : Ex × V := match x with
  | .inl d => (.ret, keep_same_Total_1_x1 d)
  | .inr d => (.exit 0, keep_same_Total_1_x2 d)
theorem keep_same_Total_1_dxk : ∀ e v r, keep_same_Total_1_dx e v = some r → keep_same_Total_1_ex r = (e, v) := by
  intro e v r h
  unfold keep_same_Total_1_dx at h
  split at h
  · rename_i he
    obtain ⟨d, hd, rfl⟩ := Option.map_eq_some_iff.1 h
    rw [exEq_eq he, keep_same_Total_1_x1_dk _ _ hd]
    rfl
  · split at h
    · rename_i he
      obtain ⟨d, hd, rfl⟩ := Option.map_eq_some_iff.1 h
      rw [exEq_eq he, keep_same_Total_1_x2_dk _ _ hd]
      rfl
    · cases h
noncomputable def keep_same_Total_1_s (t0 : List Total) (t1 : List Total) (t5 : Int) : Option ((Int) ⊕ (Unit ⊕ Unit)) :=
  (bif decide (t5 < (↑(List.length t0) : Int)) then (bif decide (0 ≤ t5 ∧ t5 < (↑(List.length t0) : Int)) then (bif decide (0 ≤ t5 ∧ t5 < (↑(List.length t1) : Int)) then (bif !decide (rd Ty.total t0 (Int.toNat t5) = rd Ty.total t1 (Int.toNat t5)) then some (.inr (.inl ())) else some (.inl (IntKind.wrap IntKind.i64 (t5 + 1)))) else none) else none) else some (.inr (.inr ())))
noncomputable def keep_same_Total_1_l (t0 : List Total) (t1 : List Total) (t5 : Int) : Option (Unit ⊕ Unit) := run (fun s : Int => keep_same_Total_1_s t0 t1 s) t5
noncomputable def keep_same_Total_1_lf (p : (List Total) × (List Total)) (r : (Unit ⊕ Unit)) : (Bool ⊕ Unit) := match r with
  | .inl d => .inl false
  | .inr d => .inr ()
noncomputable def keep_same_Total_1_f (x : ((List Total) × (List Total)) × (Int)) (k : Ex → St → Option A) : Option A :=
  bif (keep_same_Total_1_l x.1.1 x.1.2 x.2).isSome then (bif isL ((keep_same_Total_1_l x.1.1 x.1.2 x.2).getD default) then k (.ret) (build ⟨26, 26, [4], [], [], []⟩ (keep_same_Total_1_x1 false)) else k (.exit 0) (build ⟨26, 26, [], [], [], []⟩ (keep_same_Total_1_x2 ()))) else none
theorem keep_same_Total_1_k (t0 : List Total) (t1 : List Total) (t5 : Int) (K : (((List Total) × (List Total)) × (Int)) ⊕ (Bool ⊕ Unit) → Option A) : ev keep_same_Counted_E (callA keep_same_Counted_E 6) 80 0 (loopAt keep_same_Counted_E 80 0) 0 (build keep_same_Total_1_L (keep_same_Total_1_e ((t0, t1), t5))) (obs keep_same_Counted_E keep_same_Total_1_L keep_same_Total_1_X keep_same_Total_1_d keep_same_Total_1_dx K) =
  (bif decide (t5 < (↑(List.length t0) : Int)) then (bif decide (0 ≤ t5 ∧ t5 < (↑(List.length t0) : Int)) then (bif decide (0 ≤ t5 ∧ t5 < (↑(List.length t1) : Int)) then (bif !decide (rd Ty.total t0 (Int.toNat t5) = rd Ty.total t1 (Int.toNat t5)) then K (.inr (.inl false)) else K (.inl ((t0, t1), IntKind.wrap IntKind.i64 (t5 + 1)))) else none) else none) else K (.inr (.inr ()))) := by kernel_rfl
noncomputable def keep_same_Total_1_E : Env := withS keep_same_Counted_E 80 0 (sumV keep_same_Counted_E 80 0 0 keep_same_Total_1_L keep_same_Total_1_d keep_same_Total_1_f)
theorem keep_same_Total_1_ok : AllOK Tryz.prog keep_same_Total_1_E :=
  keep_same_Counted_ok.loopP 6 (step := fun p s => keep_same_Total_1_s p.1 p.2 s) (lift := keep_same_Total_1_lf) (enc := keep_same_Total_1_e) (encx := keep_same_Total_1_ex) keep_same_Total_1_dk keep_same_Total_1_dxk
    (by
      rintro ⟨t0, t1⟩ t5 K
      refine (keep_same_Total_1_k t0 t1 t5 K).trans ?_
      unfold keep_same_Total_1_s
      exact (bndc _ (bndc _ (bndc _ (bndc _ rfl rfl) rfl) rfl) rfl))
    (by
      intro p s k x e
      unfold keep_same_Total_1_f at e
      cases hr : keep_same_Total_1_l p.1 p.2 s with
      | none =>
        rw [hr] at e
        cases e
      | some r =>
      rw [hr] at e
      refine ⟨r, hr, ?_⟩
      rcases r with d | d <;> exact e) (by kernel_rfl)
/-! ### stevedore/stevedorekeep.same[stevedore/api.Total] -/
noncomputable def keep_same_Total (a0 : List Total) (a1 : List Total) : Option Bool :=
  (bif (↑(List.length a0) : Int) != (↑(List.length a1) : Int) then some false else (bif Option.isSome (keep_same_Total_1_l a0 a1 0) then (bif isL (Option.getD (keep_same_Total_1_l a0 a1 0) default) then some false else some true) else none))
theorem keep_same_Total_k (a0 : List Total) (a1 : List Total) : runA (withN keep_same_Total_1_E 0) 6 80 [.s (.list .total a0 []), .s (.list .total a1 [])] ⟨[], []⟩ =
  (bif (↑(List.length a0) : Int) != (↑(List.length a1) : Int) then some (.s (.v (.bool false))) else (bif Option.isSome (keep_same_Total_1_l a0 a1 0) then (bif isL (Option.getD (keep_same_Total_1_l a0 a1 0) default) then some (.s (.v (.bool false))) else some (.s (.v (.bool true)))) else none)) := by kernel_rfl
noncomputable def keep_same_Total_enc (r : Bool) : A := .s (.v (.bool r))
theorem keep_same_Total_r (a0 : List Total) (a1 : List Total) : runA (withN keep_same_Total_1_E 0) 6 80 [.s (.list .total a0 []), .s (.list .total a1 [])] ⟨[], []⟩ = (keep_same_Total a0 a1).map keep_same_Total_enc :=
  (keep_same_Total_k a0 a1).trans (by unfold keep_same_Total; exact (mapc (K := keep_same_Total_enc) _ rfl (mapc (K := keep_same_Total_enc) _ (mapc (K := keep_same_Total_enc) _ rfl rfl) rfl)))
noncomputable def keep_same_Total_F (l : List A) (m : List (Option (List C))) : Option (Bool × A) := match (p2 (lCons (rS (cLst .total)) (lCons (rS (cLst .total)) lNil)) lNil) (l, m) with
  | some x => some ((keep_same_Total x.1.1 x.1.2.1).isSome, keep_same_Total_enc ((keep_same_Total x.1.1 x.1.2.1).getD default))
  | none => none
noncomputable def keep_same_Total_E : Env := withG keep_same_Total_1_E 80 (gOfM keep_same_Total_1_E 80 [35, 35] keep_same_Total_F)
theorem keep_same_Total_ok : AllOK Tryz.prog keep_same_Total_E := keep_same_Total_1_ok.fm 6 (fun l m r e hl => by
  unfold keep_same_Total_F at e
  cases hD : (p2 (lCons (rS (cLst .total)) (lCons (rS (cLst .total)) lNil)) lNil) (l, m) with
  | none => rw [hD] at e; cases e
  | some x =>
    rw [hD] at e
    have hE := (p2_ok (lCons_ok (rS_ok (cLst_ok .total)) (lCons_ok (rS_ok (cLst_ok .total)) lNil_ok)) lNil_ok) _ _ hD
    have h1 : l = [.s (.list .total x.1.1 []), .s (.list .total x.1.2.1 [])] := congrArg Prod.fst hE
    have h2 : m = [] := congrArg Prod.snd hE
    subst h1 h2
    simp only [Option.some.injEq, Prod.mk.injEq] at e
    obtain ⟨hs, rfl⟩ := e
    exact ⟨0, get_of (keep_same_Total_r x.1.1 x.1.2.1) hs⟩) (by kernel_rfl)
/-! ### stevedore/stevedorekeep.Same -/
noncomputable def keep_Same (a0 : House) (a1 : House) : Option Bool :=
  (bif Option.isSome (keep_same_Item (House.items a0) (House.items a1)) then (bif Option.getD (keep_same_Item (House.items a0) (House.items a1)) default then (bif Option.isSome (keep_same_Lot (House.lots a0) (House.lots a1)) then (bif Option.getD (keep_same_Lot (House.lots a0) (House.lots a1)) default then (bif Option.isSome (keep_same_Zone (House.zones a0) (House.zones a1)) then (bif Option.getD (keep_same_Zone (House.zones a0) (House.zones a1)) default then (bif Option.isSome (keep_same_Bin (House.bins a0) (House.bins a1)) then (bif Option.getD (keep_same_Bin (House.bins a0) (House.bins a1)) default then (bif Option.isSome (keep_same_Quant (House.quants a0) (House.quants a1)) then (bif Option.getD (keep_same_Quant (House.quants a0) (House.quants a1)) default then (bif Option.isSome (keep_same_Rule (House.rules a0) (House.rules a1)) then (bif Option.getD (keep_same_Rule (House.rules a0) (House.rules a1)) default then (bif Option.isSome (keep_same_Notice (House.notices a0) (House.notices a1)) then (bif Option.getD (keep_same_Notice (House.notices a0) (House.notices a1)) default then (bif Option.isSome (keep_same_Order (House.orders a0) (House.orders a1)) then (bif Option.getD (keep_same_Order (House.orders a0) (House.orders a1)) default then (bif Option.isSome (keep_same_Claim (House.claims a0) (House.claims a1)) then (bif Option.getD (keep_same_Claim (House.claims a0) (House.claims a1)) default then (bif Option.isSome (keep_same_Task (House.tasks a0) (House.tasks a1)) then (bif Option.getD (keep_same_Task (House.tasks a0) (House.tasks a1)) default then (bif Option.isSome (keep_same_Parcel (House.parcels a0) (House.parcels a1)) then (bif Option.getD (keep_same_Parcel (House.parcels a0) (House.parcels a1)) default then (bif Option.isSome (keep_same_Sent (House.sent a0) (House.sent a1)) then (bif Option.getD (keep_same_Sent (House.sent a0) (House.sent a1)) default then (bif Option.isSome (keep_same_Counted (House.counted a0) (House.counted a1)) then (bif Option.getD (keep_same_Counted (House.counted a0) (House.counted a1)) default then (bif Option.isSome (keep_same_Total (House.totals a0) (House.totals a1)) then (bif Option.getD (keep_same_Total (House.totals a0) (House.totals a1)) default then some (House.last a0 == House.last a1) else some false) else none) else some false) else none) else some false) else none) else some false) else none) else some false) else none) else some false) else none) else some false) else none) else some false) else none) else some false) else none) else some false) else none) else some false) else none) else some false) else none) else some false) else none) else some false) else none)
theorem keep_Same_k (a0 : House) (a1 : House) : runA (withN keep_same_Total_E 0) 6 18 [.g (hC a0), .g (hC a1)] ⟨[], []⟩ =
  (bif Option.isSome (keep_same_Item (House.items a0) (House.items a1)) then (bif Option.getD (keep_same_Item (House.items a0) (House.items a1)) default then (bif Option.isSome (keep_same_Lot (House.lots a0) (House.lots a1)) then (bif Option.getD (keep_same_Lot (House.lots a0) (House.lots a1)) default then (bif Option.isSome (keep_same_Zone (House.zones a0) (House.zones a1)) then (bif Option.getD (keep_same_Zone (House.zones a0) (House.zones a1)) default then (bif Option.isSome (keep_same_Bin (House.bins a0) (House.bins a1)) then (bif Option.getD (keep_same_Bin (House.bins a0) (House.bins a1)) default then (bif Option.isSome (keep_same_Quant (House.quants a0) (House.quants a1)) then (bif Option.getD (keep_same_Quant (House.quants a0) (House.quants a1)) default then (bif Option.isSome (keep_same_Rule (House.rules a0) (House.rules a1)) then (bif Option.getD (keep_same_Rule (House.rules a0) (House.rules a1)) default then (bif Option.isSome (keep_same_Notice (House.notices a0) (House.notices a1)) then (bif Option.getD (keep_same_Notice (House.notices a0) (House.notices a1)) default then (bif Option.isSome (keep_same_Order (House.orders a0) (House.orders a1)) then (bif Option.getD (keep_same_Order (House.orders a0) (House.orders a1)) default then (bif Option.isSome (keep_same_Claim (House.claims a0) (House.claims a1)) then (bif Option.getD (keep_same_Claim (House.claims a0) (House.claims a1)) default then (bif Option.isSome (keep_same_Task (House.tasks a0) (House.tasks a1)) then (bif Option.getD (keep_same_Task (House.tasks a0) (House.tasks a1)) default then (bif Option.isSome (keep_same_Parcel (House.parcels a0) (House.parcels a1)) then (bif Option.getD (keep_same_Parcel (House.parcels a0) (House.parcels a1)) default then (bif Option.isSome (keep_same_Sent (House.sent a0) (House.sent a1)) then (bif Option.getD (keep_same_Sent (House.sent a0) (House.sent a1)) default then (bif Option.isSome (keep_same_Counted (House.counted a0) (House.counted a1)) then (bif Option.getD (keep_same_Counted (House.counted a0) (House.counted a1)) default then (bif Option.isSome (keep_same_Total (House.totals a0) (House.totals a1)) then (bif Option.getD (keep_same_Total (House.totals a0) (House.totals a1)) default then some (.s (.v (.bool (House.last a0 == House.last a1)))) else some (.s (.v (.bool false)))) else none) else some (.s (.v (.bool false)))) else none) else some (.s (.v (.bool false)))) else none) else some (.s (.v (.bool false)))) else none) else some (.s (.v (.bool false)))) else none) else some (.s (.v (.bool false)))) else none) else some (.s (.v (.bool false)))) else none) else some (.s (.v (.bool false)))) else none) else some (.s (.v (.bool false)))) else none) else some (.s (.v (.bool false)))) else none) else some (.s (.v (.bool false)))) else none) else some (.s (.v (.bool false)))) else none) else some (.s (.v (.bool false)))) else none) else some (.s (.v (.bool false)))) else none) := by kernel_rfl
noncomputable def keep_Same_enc (r : Bool) : A := .s (.v (.bool r))
theorem keep_Same_r (a0 : House) (a1 : House) : runA (withN keep_same_Total_E 0) 6 18 [.g (hC a0), .g (hC a1)] ⟨[], []⟩ = (keep_Same a0 a1).map keep_Same_enc :=
  (keep_Same_k a0 a1).trans (by unfold keep_Same; exact (mapc (K := keep_Same_enc) _ (mapc (K := keep_Same_enc) _ (mapc (K := keep_Same_enc) _ (mapc (K := keep_Same_enc) _ (mapc (K := keep_Same_enc) _ (mapc (K := keep_Same_enc) _ (mapc (K := keep_Same_enc) _ (mapc (K := keep_Same_enc) _ (mapc (K := keep_Same_enc) _ (mapc (K := keep_Same_enc) _ (mapc (K := keep_Same_enc) _ (mapc (K := keep_Same_enc) _ (mapc (K := keep_Same_enc) _ (mapc (K := keep_Same_enc) _ (mapc (K := keep_Same_enc) _ (mapc (K := keep_Same_enc) _ (mapc (K := keep_Same_enc) _ (mapc (K := keep_Same_enc) _ (mapc (K := keep_Same_enc) _ (mapc (K := keep_Same_enc) _ (mapc (K := keep_Same_enc) _ (mapc (K := keep_Same_enc) _ (mapc (K := keep_Same_enc) _ (mapc (K := keep_Same_enc) _ (mapc (K := keep_Same_enc) _ (mapc (K := keep_Same_enc) _ (mapc (K := keep_Same_enc) _ (mapc (K := keep_Same_enc) _ rfl rfl) rfl) rfl) rfl) rfl) rfl) rfl) rfl) rfl) rfl) rfl) rfl) rfl) rfl) rfl) rfl) rfl) rfl) rfl) rfl) rfl) rfl) rfl) rfl) rfl) rfl) rfl) rfl))
noncomputable def keep_Same_F (l : List A) (m : List (Option (List C))) : Option (Bool × A) := match (p2 (lCons (rG cH) (lCons (rG cH) lNil)) lNil) (l, m) with
  | some x => some ((keep_Same x.1.1 x.1.2.1).isSome, keep_Same_enc ((keep_Same x.1.1 x.1.2.1).getD default))
  | none => none
noncomputable def keep_Same_E : Env := withG keep_same_Total_E 18 (gOfM keep_same_Total_E 18 [37, 37] keep_Same_F)
theorem keep_Same_ok : AllOK Tryz.prog keep_Same_E := keep_same_Total_ok.fm 6 (fun l m r e hl => by
  unfold keep_Same_F at e
  cases hD : (p2 (lCons (rG cH) (lCons (rG cH) lNil)) lNil) (l, m) with
  | none => rw [hD] at e; cases e
  | some x =>
    rw [hD] at e
    have hE := (p2_ok (lCons_ok (rG_ok cH_ok) (lCons_ok (rG_ok cH_ok) lNil_ok)) lNil_ok) _ _ hD
    have h1 : l = [.g (hC x.1.1), .g (hC x.1.2.1)] := congrArg Prod.fst hE
    have h2 : m = [] := congrArg Prod.snd hE
    subst h1 h2
    simp only [Option.some.injEq, Prod.mk.injEq] at e
    obtain ⟨hs, rfl⟩ := e
    exact ⟨0, get_of (keep_Same_r x.1.1 x.1.2.1) hs⟩) (by kernel_rfl)
end Ev
end Go.Proofs.YtefjcgbidillhaaGreat
