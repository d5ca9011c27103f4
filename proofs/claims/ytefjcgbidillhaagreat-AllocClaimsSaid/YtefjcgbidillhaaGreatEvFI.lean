/- slices.Clone, Insert, Delete AT THE SEAT's TYPES. -/
import Derived.Test.YtefjcgbidillhaaGreatEvIC
import Derived.Test.YtefjcgbidillhaaGreatEvTF
namespace Go.Proofs.YtefjcgbidillhaaGreat
open Go Go.Proofs
open Go.Shelf
namespace Ev
set_option linter.unusedVariables false
set_option maxRecDepth 100000
noncomputable def rhoC_Claim : Ren := ⟨fun n => bif Nat.beq n 41 then 129 else 0, fun n => bif Nat.beq n 4 then 4 else bif Nat.beq n 22 then 30 else bif Nat.beq n 23 then 49 else bif Nat.beq n 3 then 3 else 0, fun n => n⟩
theorem layC_Claim : SlLaysE0.n41 Tryz.prog rhoC_Claim := ⟨mixed0, ⟨((Tryz.prog.funcs[129]?.map fun f => f.name).getD ""), by kernel_rfl, by kernel_rfl⟩, by kernel_rfl, fun _ => by kernel_rfl, fun _ => by kernel_rfl, fun _ => by kernel_rfl, by kernel_rfl, fun _ => by kernel_rfl, fun _ => by kernel_rfl, fun _ => by kernel_rfl⟩
noncomputable def E_clone_Claim : Env := withO E125 129 (gClone 49 .claim)
theorem ok_clone_Claim : AllOK Tryz.prog E_clone_Claim := ok125.o (own1_clone layC_Claim (callable_of ok0.env (by kernel_rfl)) ((Tryz.prog.info? 49).getD default) ((((Tryz.prog.info? 49).getD default).zero).getD default) .claim (by kernel_rfl) (by kernel_rfl) (by kernel_rfl) (Nat.le_of_ble_eq_true (by kernel_rfl)) (by kernel_rfl))
noncomputable def rhoI_Claim : Ren := ⟨fun n => bif Nat.beq n 22 then 132 else bif Nat.beq n 29 then 177 else bif Nat.beq n 30 then 178 else 0, fun n => bif Nat.beq n 4 then 4 else bif Nat.beq n 24 then 30 else bif Nat.beq n 9 then 49 else bif Nat.beq n 3 then 3 else 0, fun n => n⟩
theorem layI_Claim : InsL Tryz.prog rhoI_Claim (Ty.size .claim) ((Tryz.prog.info? 49).getD default) ((((Tryz.prog.info? 49).getD default).zero).getD default) := {
  mixed := mixed0
  f22 := ⟨((Tryz.prog.funcs[132]?.map fun f => f.name).getD ""), by kernel_rfl, by kernel_rfl⟩
  ov := fun args w => run_callFunc_extern (f := 177) (fn := Tryz.f177) (e := Extern.SlicesOverlaps.overlaps #[30, 30] #[4]) (by kernel_rfl) (by kernel_rfl) (by kernel_rfl) (by kernel_rfl) (by kernel_rfl) args w
  t0 := by kernel_rfl
  a0 := fun _ => by kernel_rfl
  z0 := fun _ => by kernel_rfl
  v0 := fun _ => by kernel_rfl
  t3 := by kernel_rfl
  a3 := fun _ => by kernel_rfl
  z3 := fun _ => by kernel_rfl
  v3 := fun _ => by kernel_rfl
  t4 := by kernel_rfl
  a4 := fun _ => by kernel_rfl
  z4 := fun _ => by kernel_rfl
  v4 := fun _ => by kernel_rfl
  t24 := by kernel_rfl
  a24 := fun _ => by kernel_rfl
  z24 := fun _ => by kernel_rfl
  v24 := fun _ => by kernel_rfl
  z9 := fun _ => by kernel_rfl
  info := by kernel_rfl
  zero := by kernel_rfl
  size := by kernel_rfl
  zsize := by kernel_rfl
  bytes := Nat.le_of_ble_eq_true (by kernel_rfl)
  pos := by decide }
noncomputable def E_insert_Claim : Env := withE E_clone_Claim 132 (gInsert 49 .claim)
theorem ok_insert_Claim : AllOK Tryz.prog E_insert_Claim := ok_clone_Claim.e (eat_insert layI_Claim (callable_of ok0.env (by kernel_rfl)) .claim rfl)
noncomputable def rhoD_Claim : Ren := ⟨fun n => bif Nat.beq n 45 then 130 else 0, fun n => bif Nat.beq n 4 then 4 else bif Nat.beq n 22 then 30 else bif Nat.beq n 23 then 49 else bif Nat.beq n 3 then 3 else 0, fun n => n⟩
theorem layD_Claim : DelL Tryz.prog rhoD_Claim (Ty.size .claim) ((Tryz.prog.info? 49).getD default) (.agg (((((Tryz.prog.info? 49).getD default).zero).getD default).cells)) := {
  mixed := mixed0
  f45 := ⟨((Tryz.prog.funcs[130]?.map fun f => f.name).getD ""), by kernel_rfl, by kernel_rfl⟩
  t0 := by kernel_rfl
  a0 := fun _ => by kernel_rfl
  z0 := fun _ => by kernel_rfl
  v0 := fun _ => by kernel_rfl
  t3 := by kernel_rfl
  a3 := fun _ => by kernel_rfl
  z3 := fun _ => by kernel_rfl
  v3 := fun _ => by kernel_rfl
  t4 := by kernel_rfl
  a4 := fun _ => by kernel_rfl
  z4 := fun _ => by kernel_rfl
  v4 := fun _ => by kernel_rfl
  t22 := by kernel_rfl
  a22 := fun _ => by kernel_rfl
  z22 := fun _ => by kernel_rfl
  v22 := fun _ => by kernel_rfl
  z23 := fun _ => by kernel_rfl
  v23 := fun _ => by kernel_rfl
  info := by kernel_rfl
  zero := by kernel_rfl
  size := by kernel_rfl
  zsize := by kernel_rfl
  zone := List.all_eq_true.1 (by kernel_rfl)
  pos := by decide }
noncomputable def E_delete_Claim : Env := withE E_insert_Claim 130 (gDelete 49 .claim)
theorem ok_delete_Claim : AllOK Tryz.prog E_delete_Claim := ok_insert_Claim.e (eat_delete layD_Claim (callable_of ok0.env (by kernel_rfl)) .claim rfl)
noncomputable def rhoC_Order : Ren := ⟨fun n => bif Nat.beq n 41 then 109 else 0, fun n => bif Nat.beq n 4 then 4 else bif Nat.beq n 22 then 29 else bif Nat.beq n 23 then 54 else bif Nat.beq n 3 then 3 else 0, fun n => n⟩
theorem layC_Order : SlLaysE0.n41 Tryz.prog rhoC_Order := ⟨mixed0, ⟨((Tryz.prog.funcs[109]?.map fun f => f.name).getD ""), by kernel_rfl, by kernel_rfl⟩, by kernel_rfl, fun _ => by kernel_rfl, fun _ => by kernel_rfl, fun _ => by kernel_rfl, by kernel_rfl, fun _ => by kernel_rfl, fun _ => by kernel_rfl, fun _ => by kernel_rfl⟩
noncomputable def E_clone_Order : Env := withO E_delete_Claim 109 (gClone 54 .order)
theorem ok_clone_Order : AllOK Tryz.prog E_clone_Order := ok_delete_Claim.o (own1_clone layC_Order (callable_of ok0.env (by kernel_rfl)) ((Tryz.prog.info? 54).getD default) ((((Tryz.prog.info? 54).getD default).zero).getD default) .order (by kernel_rfl) (by kernel_rfl) (by kernel_rfl) (Nat.le_of_ble_eq_true (by kernel_rfl)) (by kernel_rfl))
noncomputable def rhoI_Order : Ren := ⟨fun n => bif Nat.beq n 22 then 112 else bif Nat.beq n 29 then 165 else bif Nat.beq n 30 then 166 else 0, fun n => bif Nat.beq n 4 then 4 else bif Nat.beq n 24 then 29 else bif Nat.beq n 9 then 54 else bif Nat.beq n 3 then 3 else 0, fun n => n⟩
theorem layI_Order : InsL Tryz.prog rhoI_Order (Ty.size .order) ((Tryz.prog.info? 54).getD default) ((((Tryz.prog.info? 54).getD default).zero).getD default) := {
  mixed := mixed0
  f22 := ⟨((Tryz.prog.funcs[112]?.map fun f => f.name).getD ""), by kernel_rfl, by kernel_rfl⟩
  ov := fun args w => run_callFunc_extern (f := 165) (fn := Tryz.f165) (e := Extern.SlicesOverlaps.overlaps #[29, 29] #[4]) (by kernel_rfl) (by kernel_rfl) (by kernel_rfl) (by kernel_rfl) (by kernel_rfl) args w
  t0 := by kernel_rfl
  a0 := fun _ => by kernel_rfl
  z0 := fun _ => by kernel_rfl
  v0 := fun _ => by kernel_rfl
  t3 := by kernel_rfl
  a3 := fun _ => by kernel_rfl
  z3 := fun _ => by kernel_rfl
  v3 := fun _ => by kernel_rfl
  t4 := by kernel_rfl
  a4 := fun _ => by kernel_rfl
  z4 := fun _ => by kernel_rfl
  v4 := fun _ => by kernel_rfl
  t24 := by kernel_rfl
  a24 := fun _ => by kernel_rfl
  z24 := fun _ => by kernel_rfl
  v24 := fun _ => by kernel_rfl
  z9 := fun _ => by kernel_rfl
  info := by kernel_rfl
  zero := by kernel_rfl
  size := by kernel_rfl
  zsize := by kernel_rfl
  bytes := Nat.le_of_ble_eq_true (by kernel_rfl)
  pos := by decide }
noncomputable def E_insert_Order : Env := withE E_clone_Order 112 (gInsert 54 .order)
theorem ok_insert_Order : AllOK Tryz.prog E_insert_Order := ok_clone_Order.e (eat_insert layI_Order (callable_of ok0.env (by kernel_rfl)) .order rfl)
noncomputable def rhoD_Order : Ren := ⟨fun n => bif Nat.beq n 45 then 123 else 0, fun n => bif Nat.beq n 4 then 4 else bif Nat.beq n 22 then 29 else bif Nat.beq n 23 then 54 else bif Nat.beq n 3 then 3 else 0, fun n => n⟩
theorem layD_Order : DelL Tryz.prog rhoD_Order (Ty.size .order) ((Tryz.prog.info? 54).getD default) (.agg (((((Tryz.prog.info? 54).getD default).zero).getD default).cells)) := {
  mixed := mixed0
  f45 := ⟨((Tryz.prog.funcs[123]?.map fun f => f.name).getD ""), by kernel_rfl, by kernel_rfl⟩
  t0 := by kernel_rfl
  a0 := fun _ => by kernel_rfl
  z0 := fun _ => by kernel_rfl
  v0 := fun _ => by kernel_rfl
  t3 := by kernel_rfl
  a3 := fun _ => by kernel_rfl
  z3 := fun _ => by kernel_rfl
  v3 := fun _ => by kernel_rfl
  t4 := by kernel_rfl
  a4 := fun _ => by kernel_rfl
  z4 := fun _ => by kernel_rfl
  v4 := fun _ => by kernel_rfl
  t22 := by kernel_rfl
  a22 := fun _ => by kernel_rfl
  z22 := fun _ => by kernel_rfl
  v22 := fun _ => by kernel_rfl
  z23 := fun _ => by kernel_rfl
  v23 := fun _ => by kernel_rfl
  info := by kernel_rfl
  zero := by kernel_rfl
  size := by kernel_rfl
  zsize := by kernel_rfl
  zone := List.all_eq_true.1 (by kernel_rfl)
  pos := by decide }
noncomputable def E_delete_Order : Env := withE E_insert_Order 123 (gDelete 54 .order)
theorem ok_delete_Order : AllOK Tryz.prog E_delete_Order := ok_insert_Order.e (eat_delete layD_Order (callable_of ok0.env (by kernel_rfl)) .order rfl)
noncomputable def rhoC_Quant : Ren := ⟨fun n => bif Nat.beq n 41 then 210 else 0, fun n => bif Nat.beq n 4 then 4 else bif Nat.beq n 22 then 26 else bif Nat.beq n 23 then 58 else bif Nat.beq n 3 then 3 else 0, fun n => n⟩
theorem layC_Quant : SlLaysE0.n41 Tryz.prog rhoC_Quant := ⟨mixed0, ⟨((Tryz.prog.funcs[210]?.map fun f => f.name).getD ""), by kernel_rfl, by kernel_rfl⟩, by kernel_rfl, fun _ => by kernel_rfl, fun _ => by kernel_rfl, fun _ => by kernel_rfl, by kernel_rfl, fun _ => by kernel_rfl, fun _ => by kernel_rfl, fun _ => by kernel_rfl⟩
noncomputable def E_clone_Quant : Env := withO E_delete_Order 210 (gClone 58 .quant)
theorem ok_clone_Quant : AllOK Tryz.prog E_clone_Quant := ok_delete_Order.o (own1_clone layC_Quant (callable_of ok0.env (by kernel_rfl)) ((Tryz.prog.info? 58).getD default) ((((Tryz.prog.info? 58).getD default).zero).getD default) .quant (by kernel_rfl) (by kernel_rfl) (by kernel_rfl) (Nat.le_of_ble_eq_true (by kernel_rfl)) (by kernel_rfl))
noncomputable def rhoI_Quant : Ren := ⟨fun n => bif Nat.beq n 22 then 213 else bif Nat.beq n 29 then 234 else bif Nat.beq n 30 then 235 else 0, fun n => bif Nat.beq n 4 then 4 else bif Nat.beq n 24 then 26 else bif Nat.beq n 9 then 58 else bif Nat.beq n 3 then 3 else 0, fun n => n⟩
theorem layI_Quant : InsL Tryz.prog rhoI_Quant (Ty.size .quant) ((Tryz.prog.info? 58).getD default) ((((Tryz.prog.info? 58).getD default).zero).getD default) := {
  mixed := mixed0
  f22 := ⟨((Tryz.prog.funcs[213]?.map fun f => f.name).getD ""), by kernel_rfl, by kernel_rfl⟩
  ov := fun args w => run_callFunc_extern (f := 234) (fn := Tryz.f234) (e := Extern.SlicesOverlaps.overlaps #[26, 26] #[4]) (by kernel_rfl) (by kernel_rfl) (by kernel_rfl) (by kernel_rfl) (by kernel_rfl) args w
  t0 := by kernel_rfl
  a0 := fun _ => by kernel_rfl
  z0 := fun _ => by kernel_rfl
  v0 := fun _ => by kernel_rfl
  t3 := by kernel_rfl
  a3 := fun _ => by kernel_rfl
  z3 := fun _ => by kernel_rfl
  v3 := fun _ => by kernel_rfl
  t4 := by kernel_rfl
  a4 := fun _ => by kernel_rfl
  z4 := fun _ => by kernel_rfl
  v4 := fun _ => by kernel_rfl
  t24 := by kernel_rfl
  a24 := fun _ => by kernel_rfl
  z24 := fun _ => by kernel_rfl
  v24 := fun _ => by kernel_rfl
  z9 := fun _ => by kernel_rfl
  info := by kernel_rfl
  zero := by kernel_rfl
  size := by kernel_rfl
  zsize := by kernel_rfl
  bytes := Nat.le_of_ble_eq_true (by kernel_rfl)
  pos := by decide }
noncomputable def E_insert_Quant : Env := withE E_clone_Quant 213 (gInsert 58 .quant)
theorem ok_insert_Quant : AllOK Tryz.prog E_insert_Quant := ok_clone_Quant.e (eat_insert layI_Quant (callable_of ok0.env (by kernel_rfl)) .quant rfl)
noncomputable def rhoD_Quant : Ren := ⟨fun n => bif Nat.beq n 45 then 211 else 0, fun n => bif Nat.beq n 4 then 4 else bif Nat.beq n 22 then 26 else bif Nat.beq n 23 then 58 else bif Nat.beq n 3 then 3 else 0, fun n => n⟩
theorem layD_Quant : DelL Tryz.prog rhoD_Quant (Ty.size .quant) ((Tryz.prog.info? 58).getD default) (.agg (((((Tryz.prog.info? 58).getD default).zero).getD default).cells)) := {
  mixed := mixed0
  f45 := ⟨((Tryz.prog.funcs[211]?.map fun f => f.name).getD ""), by kernel_rfl, by kernel_rfl⟩
  t0 := by kernel_rfl
  a0 := fun _ => by kernel_rfl
  z0 := fun _ => by kernel_rfl
  v0 := fun _ => by kernel_rfl
  t3 := by kernel_rfl
  a3 := fun _ => by kernel_rfl
  z3 := fun _ => by kernel_rfl
  v3 := fun _ => by kernel_rfl
  t4 := by kernel_rfl
  a4 := fun _ => by kernel_rfl
  z4 := fun _ => by kernel_rfl
  v4 := fun _ => by kernel_rfl
  t22 := by kernel_rfl
  a22 := fun _ => by kernel_rfl
  z22 := fun _ => by kernel_rfl
  v22 := fun _ => by kernel_rfl
  z23 := fun _ => by kernel_rfl
  v23 := fun _ => by kernel_rfl
  info := by kernel_rfl
  zero := by kernel_rfl
  size := by kernel_rfl
  zsize := by kernel_rfl
  zone := List.all_eq_true.1 (by kernel_rfl)
  pos := by decide }
noncomputable def E_delete_Quant : Env := withE E_insert_Quant 211 (gDelete 58 .quant)
theorem ok_delete_Quant : AllOK Tryz.prog E_delete_Quant := ok_insert_Quant.e (eat_delete layD_Quant (callable_of ok0.env (by kernel_rfl)) .quant rfl)
noncomputable def rhoC_Task : Ren := ⟨fun n => bif Nat.beq n 41 then 150 else 0, fun n => bif Nat.beq n 4 then 4 else bif Nat.beq n 22 then 31 else bif Nat.beq n 23 then 74 else bif Nat.beq n 3 then 3 else 0, fun n => n⟩
theorem layC_Task : SlLaysE0.n41 Tryz.prog rhoC_Task := ⟨mixed0, ⟨((Tryz.prog.funcs[150]?.map fun f => f.name).getD ""), by kernel_rfl, by kernel_rfl⟩, by kernel_rfl, fun _ => by kernel_rfl, fun _ => by kernel_rfl, fun _ => by kernel_rfl, by kernel_rfl, fun _ => by kernel_rfl, fun _ => by kernel_rfl, fun _ => by kernel_rfl⟩
noncomputable def E_clone_Task : Env := withO E_delete_Quant 150 (gClone 74 .task)
theorem ok_clone_Task : AllOK Tryz.prog E_clone_Task := ok_delete_Quant.o (own1_clone layC_Task (callable_of ok0.env (by kernel_rfl)) ((Tryz.prog.info? 74).getD default) ((((Tryz.prog.info? 74).getD default).zero).getD default) .task (by kernel_rfl) (by kernel_rfl) (by kernel_rfl) (Nat.le_of_ble_eq_true (by kernel_rfl)) (by kernel_rfl))
noncomputable def rhoI_Task : Ren := ⟨fun n => bif Nat.beq n 22 then 154 else bif Nat.beq n 29 then 190 else bif Nat.beq n 30 then 191 else 0, fun n => bif Nat.beq n 4 then 4 else bif Nat.beq n 24 then 31 else bif Nat.beq n 9 then 74 else bif Nat.beq n 3 then 3 else 0, fun n => n⟩
theorem layI_Task : InsL Tryz.prog rhoI_Task (Ty.size .task) ((Tryz.prog.info? 74).getD default) ((((Tryz.prog.info? 74).getD default).zero).getD default) := {
  mixed := mixed0
  f22 := ⟨((Tryz.prog.funcs[154]?.map fun f => f.name).getD ""), by kernel_rfl, by kernel_rfl⟩
  ov := fun args w => run_callFunc_extern (f := 190) (fn := Tryz.f190) (e := Extern.SlicesOverlaps.overlaps #[31, 31] #[4]) (by kernel_rfl) (by kernel_rfl) (by kernel_rfl) (by kernel_rfl) (by kernel_rfl) args w
  t0 := by kernel_rfl
  a0 := fun _ => by kernel_rfl
  z0 := fun _ => by kernel_rfl
  v0 := fun _ => by kernel_rfl
  t3 := by kernel_rfl
  a3 := fun _ => by kernel_rfl
  z3 := fun _ => by kernel_rfl
  v3 := fun _ => by kernel_rfl
  t4 := by kernel_rfl
  a4 := fun _ => by kernel_rfl
  z4 := fun _ => by kernel_rfl
  v4 := fun _ => by kernel_rfl
  t24 := by kernel_rfl
  a24 := fun _ => by kernel_rfl
  z24 := fun _ => by kernel_rfl
  v24 := fun _ => by kernel_rfl
  z9 := fun _ => by kernel_rfl
  info := by kernel_rfl
  zero := by kernel_rfl
  size := by kernel_rfl
  zsize := by kernel_rfl
  bytes := Nat.le_of_ble_eq_true (by kernel_rfl)
  pos := by decide }
noncomputable def E_insert_Task : Env := withE E_clone_Task 154 (gInsert 74 .task)
theorem ok_insert_Task : AllOK Tryz.prog E_insert_Task := ok_clone_Task.e (eat_insert layI_Task (callable_of ok0.env (by kernel_rfl)) .task rfl)
noncomputable def E_FI : Env := E_insert_Task
theorem ok_FI : AllOK Tryz.prog E_FI := ok_insert_Task
end Ev
end Go.Proofs.YtefjcgbidillhaaGreat
