/- slices.Insert AT ELEMENTS OF WHATEVER SIZE: the library's own text, walked (turned from the shelf's contracts at one cell). -/
import Derived.Test.YtefjcgbidillhaaGreatEvTE
import Derived.Shelf.SlGeneric
import Derived.Shelf.Bodies2
import Derived.Shelf.RegionOpenPlain
import Derived.WalkKit
import Derived.Lib.Walk
import Derived.Lib.SliceRun
import Derived.Lib.AppendZerosOnto
import Derived.Lib.Overlaps
import Derived.Laws.Externs
import Derived.Laws.IdiomCopy
import Derived.Laws.NewBlocks
import Derived.Shelf.Spec.SlicesInsertGrow
set_option linter.unusedVariables false
set_option linter.unusedSimpArgs false
namespace Go.Proofs.YtefjcgbidillhaaGreat
open Go Go.Proofs
open Go.Shelf Go.RowKit Go.Lib
namespace Ev
variable {P : Program} {ρ : Ren}

theorem size_zeroCells' (a : Array Value) (n : Nat) : (Builtin.zeroCells a n).size = n * a.size := by
  unfold Builtin.zeroCells
  simp

/-- What is asked of a program that bears slices.Insert at an element type of k cells. -/
structure InsL (P : Program) (ρ : Ren) (k : Nat) (i0 : TypeInfo) (z : Value) : Prop where
  mixed : P.follows .mixedOrders = true
  f22 : Bears P (ρ.f 22) (Body2.n22 ρ)
  ov : ∀ args w, (callFunc (ρ.f 29) args).run P w = ((Extern.SlicesOverlaps.overlaps #[(ρ.t 24), (ρ.t 24)] #[(ρ.t 4)] args).run P w).andThen fun v w => .ok (.value v) w
  t0 : P.underlying (ρ.t 0) = some (TypeDesc.tuple #[])
  a0 : ∀ w, (isAgg (ρ.t 0)).run P w = .ok false w
  z0 : ∀ w, (Go.sizeOf (ρ.t 0)).run P w = .ok 1 w
  v0 : ∀ w, (zeroValue (ρ.t 0)).run P w = .ok (Value.tuple #[]) w
  t3 : P.underlying (ρ.t 3) = some (TypeDesc.int IntKind.i64)
  a3 : ∀ w, (isAgg (ρ.t 3)).run P w = .ok false w
  z3 : ∀ w, (Go.sizeOf (ρ.t 3)).run P w = .ok 1 w
  v3 : ∀ w, (zeroValue (ρ.t 3)).run P w = .ok (Value.int IntKind.i64 0) w
  t4 : P.underlying (ρ.t 4) = some (TypeDesc.bool)
  a4 : ∀ w, (isAgg (ρ.t 4)).run P w = .ok false w
  z4 : ∀ w, (Go.sizeOf (ρ.t 4)).run P w = .ok 1 w
  v4 : ∀ w, (zeroValue (ρ.t 4)).run P w = .ok (Value.bool false) w
  t24 : P.underlying (ρ.t 24) = some (TypeDesc.slice (ρ.t 9))
  a24 : ∀ w, (isAgg (ρ.t 24)).run P w = .ok false w
  z24 : ∀ w, (Go.sizeOf (ρ.t 24)).run P w = .ok 1 w
  v24 : ∀ w, (zeroValue (ρ.t 24)).run P w = .ok (Value.slice none 0 0) w
  z9 : ∀ w, (Go.sizeOf (ρ.t 9)).run P w = .ok k w
  info : P.info? (ρ.t 9) = some i0
  zero : i0.zero = some z
  size : i0.size = k
  zsize : z.cells.size = k
  bytes : i0.bytes ≤ 1000
  pos : 0 < k

theorem run_copy_cellsK (w : World) (dT sT ty elem : TypeId) (k b o dLen dCap : Nat) (a : Addr) (sLen sCap : Nat) (cs : List Value)
    (hu : P.underlying dT = some (.slice elem)) (hs : (P.info? elem).map (·.size) = some k) (hn : cs.length = Nat.min sLen dLen * k)
    (hsrc : ∀ j v, cs[j]? = some v → w.cell? (a.add j) = some v) (hc : ∀ j, j < cs.length → (w.cell? ⟨b, o + j, none⟩).isSome = true) (hf : ∀ j, j < cs.length → w.frozen? ⟨b, o + j, none⟩ = false) (h1 : ∀ v ∈ cs, v.oneCell' = true) :
    (Builtin.copy_ #[dT, sT] ty #[.slice (some ⟨b, o, none⟩) dLen dCap, .slice (some a) sLen sCap]).run P w = .ok (goInt (Nat.min sLen dLen)) (w.setCells b o cs) := by
  have hl := run_loadCells_list (P := P) w a cs hsrc
  have hst := run_storeCells_cells (P := P) b o cs 0 w (by simpa using hc) (by simpa using hf) h1
  cases hq : P.info? elem with
  | none => simp [hq] at hs
  | some i =>
    have hi : i.size = k := by simpa [hq] using hs
    simp [Builtin.copy_, run_underlying hu, Builtin.lenOf, Builtin.firstCells, sizeOf, typeInfo, hq, hi, ← hn, hl, hst]

/-- A slice that came in and a row of the call's own lie apart. -/
theorem run_overlaps_own {P : Program} (w : World) (tS tR e : TypeId) (ht : P.underlying tS = some (.slice e)) (size : Nat) (hz : ∀ w, (Go.sizeOf e).run P w = .ok size w)
    (a b : Addr) (la ca lb cb : Nat) (hne : a.block ≠ b.block) (tA tB : TypeId) (kA kB : Nat)
    (hsa : w.shape? a.block = some (tA, kA)) (hsb : w.shape? b.block = some (tB, kB)) (hkA : kA ≠ 0) (hkB : kB ≠ 0)
    (hfb : ∀ o, w.frozen? ⟨b.block, o, none⟩ = false) (hbs : b.spot = none) :
    (Extern.SlicesOverlaps.overlaps #[tS, tS] #[tR] #[.slice (some a) la ca, .slice (some b) lb cb]).run P w = .ok (.bool false) w := by
  have hnb : (a.block != b.block) = true := by simpa using hne
  have hnb' : (a.block == b.block) = false := by simpa using hne
  have hfb1 : w.frozen? b = false := by
    have := hfb b.off
    cases b
    simp only at hbs
    subst hbs
    exact this
  have hfb2 : w.frozen? { block := b.block, off := kB } = false := hfb kB
  change Sem.run P (α := Value) (do
    let some t := (#[tS, tS] : Array TypeId)[0]? | stuck "slices.overlaps: no parameter types"
    let .slice elem ← underlying t | stuck "slices.overlaps: slice type expected"
    let size ← sizeOf elem
    match (some a : Option Addr), (some b : Option Addr) with
    | some a, some b =>
      if la = 0 ∨ lb = 0 ∨ size = 0 then pure (Value.bool false)
      else if a.block != b.block && (← frozen a) && (← frozen b) then unsupported .addressObserved
      else do
        if a.block != b.block then do
          noView a; noView b
          if ← mayBeOne a b then return Value.bool ((← choose (.extern "sameAddr.stringBytes" 2)) == 1)
        pure (Value.bool (a.block == b.block && a.off < b.off + lb * size && b.off < a.off + la * size))
    | _, _ => pure (Value.bool false)) w = _
  by_cases h0 : la = 0 ∨ lb = 0 ∨ size = 0
  · simp [run_underlying ht, hz, h0]
  · cases kB with
    | zero => exact absurd rfl hkB
    | succ kB =>
    cases kA with
    | zero => exact absurd rfl hkA
    | succ kA =>
      cases h1 : w.frozen? a <;> cases h2 : w.frozen? { block := a.block, off := kA + 1 } <;>
        simp [run_underlying ht, hz, h0, hnb, hnb', frozen, noView, viewAt, mayBeOne, stringish, shape, Sem.run, hsa, hsb, hfb1, hfb2, h1, h2]

section
variable {k : Nat} {i0 : TypeInfo} {z : Value}

set_option maxHeartbeats 4000000 in
set_option maxRecDepth 100000 in
/-- There is room, i < len(s): in place. -/
theorem ins_shift (L : InsL P ρ k i0 z) (b n c i vb voff m vc : Nat) (cs vs : List Value) (w : World) (hi : i < n) (hm : 0 < m) (hroom : n + m ≤ c) (hc63 : c ≤ 9223372036854775807) (hvb : vb ≠ b)
    (hcl : cs.length = n * k) (hvl : vs.length = m * k)
    (hcs : ∀ j v, cs[j]? = some v → w.cell? ⟨b, j, none⟩ = some v) (hsp : ∀ j, j < (n + m) * k → (w.cell? ⟨b, j, none⟩).isSome = true) (hfz : ∀ j, j < (n + m) * k → w.frozen? ⟨b, j, none⟩ = false)
    (hvs : ∀ j v, vs[j]? = some v → w.cell? ⟨vb, voff + j, none⟩ = some v) (h1c : ∀ v ∈ cs, v.oneCell' = true) (h1v : ∀ v ∈ vs, v.oneCell' = true)
    (tA tB : TypeId) (kA kB : Nat) (hsa : w.shape? vb = some (tA, kA)) (hsb : w.shape? b = some (tB, kB)) (hkA : kA ≠ 0) (hkB : kB ≠ 0) (hfb : ∀ o, w.frozen? ⟨b, o, none⟩ = false) :
    Calls P (ρ.f 22) #[.slice (some ⟨b, 0, none⟩) n c, .int .i64 i, .slice (some ⟨vb, voff, none⟩) m vc] w fun e w' =>
      e = .returned (.slice (some ⟨b, 0, none⟩) (n + m) c) ∧ w' = (w.drew.setCells b ((i + m) * k) (cs.drop (i * k))).setCells b (i * k) vs := by
  have t0 := L.t0; have a0 := L.a0; have z0 := L.z0; have v0 := L.v0; have t3 := L.t3; have a3 := L.a3; have z3 := L.z3; have v3 := L.v3; have t4 := L.t4; have a4 := L.a4; have z4 := L.z4; have v4 := L.v4; have t24 := L.t24; have a24 := L.a24; have z24 := L.z24; have v24 := L.v24
  have z9 := L.z9
  have u0 := run_underlying L.t0; have u3 := run_underlying L.t3; have u4 := run_underlying L.t4; have u24 := run_underlying L.t24
  have hz1 : ¬ ((m : Int) = 0) := by omega
  have hz2 : ¬ ((i : Int) = (n : Int)) := by omega
  have hsz : (P.info? (ρ.t 9)).map (·.size) = some k := by rw [L.info]; simp [L.size]
  have hov : ∀ lb cb, (callFunc (ρ.f 29) #[.slice (some ⟨vb, voff, none⟩) m vc, .slice (some ⟨b, (i + m) * k, none⟩) lb cb]).run P w = .ok (.value (.bool false)) w := fun lb cb => by
    rw [L.ov,
      run_overlaps_own w (ρ.t 24) (ρ.t 4) (ρ.t 9) L.t24 k L.z9 ⟨vb, voff, none⟩ ⟨b, (i + m) * k, none⟩ m vc lb cb hvb tA tB kA kB hsa hsb hkA hkB hfb rfl]
    rfl
  have hdl : (cs.drop (i * k)).length = (n - i) * k := by rw [List.length_drop, hcl, Nat.sub_mul]
  have mixed := L.mixed
  have hw1 : IntKind.i64.wrap ((i : Int) + (m : Int)) = (i : Int) + (m : Int) := by rw [IntKind.wrap_i64]; omega
  have hb1 : (0 : Int) ≤ (i : Int) + (m : Int) := by omega
  have hin : i ≤ n := by omega
  have htn : ((i : Int) + (m : Int)).toNat = i + m := by omega
  have hb2 : ¬ (c = i + m) := by omega
  have hb3 : (i : Int) ≤ (n : Int) + (m : Int) := by omega
  have hb4 : ¬ (c = i) := by omega
  have hadd : (i + m) * k + (n - i) * k = (n + m) * k := by rw [← Nat.add_mul]; congr 1; omega
  have hadd2 : i * k + (n - i) * k = n * k := by rw [← Nat.add_mul]; congr 1; omega
  have hle2 : i * k + m * k ≤ (n + m) * k := by rw [← Nat.add_mul]; exact Nat.mul_le_mul_right _ (by omega)
  have hmin1 : Nat.min (n + m - i) (n + m - (i + m)) = n - i := by simp only [Nat.min_def]; split <;> omega
  have hmin2 : Nat.min m (n + m - i) = m := by simp only [Nat.min_def]; split <;> omega
  have hcp1 : ∀ ty dc sc, (Builtin.copy_ #[(ρ.t 24), (ρ.t 24)] ty #[.slice (some ⟨b, (i + m) * k, none⟩) (n + m - (i + m)) dc, .slice (some ⟨b, i * k, none⟩) (n + m - i) sc]).run P w.drew = .ok (goInt ((n - i : Nat) : Int)) (w.drew.setCells b ((i + m) * k) (cs.drop (i * k))) := fun ty dc sc => by
    have h := run_copy_cellsK (P := P) w.drew (ρ.t 24) (ρ.t 24) ty (ρ.t 9) k b ((i + m) * k) (n + m - (i + m)) dc ⟨b, i * k, none⟩ (n + m - i) sc (cs.drop (i * k)) L.t24 hsz (by rw [hdl, hmin1])
      (fun j v hj => by rw [Addr.add_lit]; exact hcs (i * k + j) v (by rwa [List.getElem?_drop] at hj))
      (fun j hj => by exact hsp ((i + m) * k + j) (by rw [hdl] at hj; omega)) (fun j hj => by exact hfz ((i + m) * k + j) (by rw [hdl] at hj; omega)) (fun v hv => h1c v (List.mem_of_mem_drop hv))
    rw [hmin1] at h
    exact h
  obtain ⟨W1, hW1⟩ : ∃ W1, W1 = w.drew.setCells b ((i + m) * k) (cs.drop (i * k)) := ⟨_, rfl⟩
  have hsp1 : ∀ q, q < (n + m) * k → (W1.cell? ⟨b, q, none⟩).isSome = true := fun q hq => by
    rw [hW1]
    exact isSome_setCells b _ _ w.drew (fun j hj => hsp ((i + m) * k + j) (by rw [hdl] at hj; omega)) _ (hsp q hq)
  have hcp2 : ∀ (W : World), (∀ x, W.cell? x = W1.cell? x) → (∀ x, W.frozen? x = W1.frozen? x) → ∀ ty dc, (Builtin.copy_ #[(ρ.t 24), (ρ.t 24)] ty #[.slice (some ⟨b, i * k, none⟩) (n + m - i) dc, .slice (some ⟨vb, voff, none⟩) m vc]).run P W = .ok (goInt m) (W.setCells b (i * k) vs) := fun W hWc hWf ty dc => by
    have h := run_copy_cellsK (P := P) W (ρ.t 24) (ρ.t 24) ty (ρ.t 9) k b (i * k) (n + m - i) dc ⟨vb, voff, none⟩ m vc vs L.t24 hsz (by rw [hvl, hmin2])
      (fun j v hj => by
        rw [Addr.add_lit, hWc, hW1, World.cell?_setCells_out b _ _ _ _ (fun h _ => absurd h hvb)]
        exact hvs j v hj)
      (fun j hj => by rw [hWc]; exact hsp1 _ (by omega)) (fun j hj => by rw [hWf, hW1, World.frozen?_setCells]; exact hfz _ (by omega)) h1v
    rw [hmin2] at h
    exact h
  rw [← hW1] at hcp1
  obtain ⟨_, _, FG⟩ := L.f22
  clear hadd hadd2 hle2 hmin1 hmin2
  go_enter FG, Body2.n22_ntmps ρ
  go_wp2_with (simp only [hov])
  go_region_law_o (refine step_copy_runI rfl _ _ (ρ.t 24) (ρ.t 24) rfl _ _ (by simp [Act.eval, Act.put]) (by simp [Act.eval, Act.put]) (hcp1 _ _ _) ?_)
  go_wp2_with (at_builtin; refine wpList_copy_runI _ rfl _ _ (ρ.t 24) (ρ.t 24) rfl _ _ rfl rfl (hcp2 _ (fun _ => rfl) (fun _ => rfl) _ _) ?_)
  go_ret
  first | exact ⟨rfl, rfl⟩ | exact ⟨rfl, by rw [hW1]⟩

set_option maxHeartbeats 4000000 in
set_option maxRecDepth 100000 in
/-- i < len(s), no room: a new row. -/
theorem ins_grow (L : InsL P ρ k i0 z) (b n c i vb voff m vc : Nat) (cs vs : List Value) (w : World) (hi : i < n) (hm : 0 < m) (hnc : n ≤ c) (hroom : c < n + m) (hbig : (n + m) * 1000 ≤ 140737488355328)
    (hcl : cs.length = n * k) (hvl : vs.length = m * k) (hbw : b < w.heap.size) (hvw : vb < w.heap.size)
    (hcs : ∀ j v, cs[j]? = some v → w.cell? ⟨b, j, none⟩ = some v)
    (hvs : ∀ j v, vs[j]? = some v → w.cell? ⟨vb, voff + j, none⟩ = some v) (h1c : ∀ v ∈ cs, v.oneCell' = true) (h1v : ∀ v ∈ vs, v.oneCell' = true) :
    Calls P (ρ.f 22) #[.slice (some ⟨b, 0, none⟩) n c, .int .i64 i, .slice (some ⟨vb, voff, none⟩) m vc] w fun e w' =>
      e = .returned (.slice (some ⟨w.heap.size, 0, none⟩) (n + m) (grownCap w (n + m) c (ρ.t 9))) ∧
      w' = (((w.alloc (.cells ((cs.take (i * k)).toArray ++ Builtin.zeroCells z.cells (n + m - i) ++ Builtin.zeroCells z.cells (grownCap w (n + m) c (ρ.t 9) - (n + m))) (ρ.t 9))).drew.setCells w.heap.size (i * k) vs).drew).setCells w.heap.size ((i + m) * k) (cs.drop (i * k)) := by
  have t0 := L.t0; have a0 := L.a0; have z0 := L.z0; have v0 := L.v0; have t3 := L.t3; have a3 := L.a3; have z3 := L.z3; have v3 := L.v3; have t4 := L.t4; have a4 := L.a4; have z4 := L.z4; have v4 := L.v4; have t24 := L.t24; have a24 := L.a24; have z24 := L.z24; have v24 := L.v24
  have z9 := L.z9
  have u0 := run_underlying L.t0; have u3 := run_underlying L.t3; have u4 := run_underlying L.t4; have u24 := run_underlying L.t24
  have mixed := L.mixed
  have hi0 := L.info; have hz0 := L.zero; have hzs := L.size; have hzb := L.bytes
  have hpos := L.pos
  have hz1 : ¬ ((m : Int) = 0) := by omega
  have hz2 : ¬ ((i : Int) = (n : Int)) := by omega
  have hz3 : (c : Int) < (n : Int) + (m : Int) := by omega
  have hsz : (P.info? (ρ.t 9)).map (·.size) = some k := by rw [hi0]; simp [hzs]
  have hkk : (n : Int) + (m : Int) - (i : Int) = ((n + m - i : Nat) : Int) := by omega
  have hik : i + (n + m - i) = n + m := by omega
  have hin' : i * k ≤ n * k := Nat.mul_le_mul_right _ (by omega)
  have hold : (Builtin.firstCells i0.size i (.slice (some ⟨b, 0, none⟩) i c)).run P w.drew = .ok (cs.take (i * k)).toArray w.drew := by
    rw [hzs]
    exact run_firstCells_some w.drew k i ⟨b, 0, none⟩ i c (cs.take (i * k)) (by rw [List.length_take]; omega) (fun j v hj => by
      rw [Addr.add_lit]
      rw [List.getElem?_take] at hj
      split at hj
      · rw [Nat.zero_add]; exact hcs j v hj
      · cases hj)
  have hbytes : ∀ x, x ≤ n + m → x * i0.bytes ≤ 140737488355328 := fun x hx => Nat.le_trans (Nat.mul_le_mul hx hzb) hbig
  have hfit : Builtin.nextslicecap (n + m) c * i0.bytes ≤ 281474976710656 := by
    exact growslice_fits hroom (hbytes _ (Nat.le_refl _))
  have hrz : ∀ ty, (Builtin.append_ #[(ρ.t 24), (ρ.t 3)] ty #[.slice (some ⟨b, 0, none⟩) i c, .int .i64 ((n : Int) + (m : Int) - (i : Int))]).run P w =
      .ok (.slice (some ⟨w.heap.size, 0, none⟩) (n + m) (grownCap w (n + m) c (ρ.t 9))) (w.drew.alloc (.cells ((cs.take (i * k)).toArray ++ Builtin.zeroCells z.cells (n + m - i) ++ Builtin.zeroCells z.cells (grownCap w (n + m) c (ρ.t 9) - (n + m))) (ρ.t 9))) := fun ty => by
    have h := Lib.run_append_grow_zeros w (ρ.t 24) (ρ.t 3) ty (ρ.t 9) i0 _ .i64 .i64 L.t24 L.t3 hi0 hz0 (some ⟨b, 0, none⟩) i c (cs.take (i * k)) hold (n + m - i) (by omega) (by omega) (by omega) (by omega) (by have := hbytes (n + m - i) (by omega); omega) (by rw [hik]; exact hfit)
    rw [hik] at h
    rw [hkk]
    exact h
  obtain ⟨G, hG⟩ : ∃ G, G = grownCap w (n + m) c (ρ.t 9) := ⟨_, rfl⟩
  obtain ⟨ROW, hROW⟩ : ∃ ROW : Array Value, ROW = (cs.take (i * k)).toArray ++ Builtin.zeroCells z.cells (n + m - i) ++ Builtin.zeroCells z.cells (G - (n + m)) := ⟨_, rfl⟩
  rw [← hG] at hrz ⊢
  rw [← hROW] at hrz ⊢
  have hadd : (i + m) * k + (n - i) * k = (n + m) * k := by rw [← Nat.add_mul]; congr 1; omega
  have hle2 : i * k + m * k ≤ (n + m) * k := by rw [← Nat.add_mul]; exact Nat.mul_le_mul_right _ (by omega)
  have hRl : (n + m) * k ≤ ROW.size := by
    rw [hROW]
    have h1 : (Builtin.zeroCells z.cells (n + m - i)).size = (n + m - i) * k := by rw [size_zeroCells', L.zsize]
    have h2 : (cs.take (i * k)).length = i * k := by rw [List.length_take]; omega
    have h3 : i * k + (n + m - i) * k = (n + m) * k := by rw [← Nat.add_mul]; congr 1
    simp only [Array.size_append, h1, List.size_toArray, h2]
    omega
  obtain ⟨W1, hW1⟩ : ∃ W1, W1 = w.drew.alloc (.cells ROW (ρ.t 9)) := ⟨_, rfl⟩
  rw [← hW1] at hrz
  have hN : ∀ j, j < (n + m) * k → (W1.cell? ⟨w.heap.size, j, none⟩).isSome = true := fun j hj => by
    rw [hW1, World.cell?_alloc_at (w := w.drew) ROW _ w.heap.size j rfl, Array.getElem?_eq_getElem (by omega)]; rfl
  have hNf : ∀ j, W1.frozen? ⟨w.heap.size, j, none⟩ = false := fun j => by rw [hW1]; exact World.frozen?_alloc_at (w := w.drew) ROW _ w.heap.size j rfl
  have hOb : ∀ j v, w.cell? ⟨b, j, none⟩ = some v → W1.cell? ⟨b, j, none⟩ = some v := fun j v h => by rw [hW1, World.cell?_alloc_past (w := w.drew) _ b j hbw]; exact h
  have hOv : ∀ j v, w.cell? ⟨vb, j, none⟩ = some v → W1.cell? ⟨vb, j, none⟩ = some v := fun j v h => by rw [hW1, World.cell?_alloc_past (w := w.drew) _ vb j hvw]; exact h
  have hmin2 : Nat.min m (n + m - i) = m := by simp only [Nat.min_def]; split <;> omega
  have hmin1 : Nat.min (n - i) (n + m - (i + m)) = n - i := by simp only [Nat.min_def]; split <;> omega
  have hdl : (cs.drop (i * k)).length = (n - i) * k := by rw [List.length_drop, hcl, Nat.sub_mul]
  have hcpA : ∀ (W : World), (∀ x, W.cell? x = W1.cell? x) → (∀ x, W.frozen? x = W1.frozen? x) → ∀ ty dc, (Builtin.copy_ #[(ρ.t 24), (ρ.t 24)] ty #[.slice (some ⟨w.heap.size, i * k, none⟩) (n + m - i) dc, .slice (some ⟨vb, voff, none⟩) m vc]).run P W = .ok (goInt ((m : Nat) : Int)) (W.setCells w.heap.size (i * k) vs) := fun W hWc hWf ty dc => by
    have h := run_copy_cellsK (P := P) W (ρ.t 24) (ρ.t 24) ty (ρ.t 9) k w.heap.size (i * k) (n + m - i) dc ⟨vb, voff, none⟩ m vc vs L.t24 hsz (by rw [hvl, hmin2])
      (fun j v hj => by rw [Addr.add_lit, hWc]; exact hOv _ v (hvs j v hj))
      (fun j hj => by rw [hWc]; exact hN _ (by omega)) (fun j hj => by rw [hWf]; exact hNf _) h1v
    rw [hmin2] at h
    exact h
  have hGn : n + m ≤ G := by rw [hG]; exact grownCap_ge w _ _ _
  have hG63 : G ≤ 9223372036854775807 := by
    have := grownCap_le_maxLen w (n + m) c (ρ.t 9) (by unfold maxLen; omega)
    rw [← hG] at this
    unfold maxLen at this
    omega
  have hGi : ¬ (G = i) := by omega
  have hGim : ¬ (G = i + m) := by omega
  have hci : ¬ (c = i) := by omega
  have hbN : b ≠ w.heap.size := by omega
  have hcpB : ∀ (W : World), (∀ x, W.cell? x = (W1.setCells w.heap.size (i * k) vs).cell? x) → (∀ x, W.frozen? x = (W1.setCells w.heap.size (i * k) vs).frozen? x) → ∀ ty dc sc, (Builtin.copy_ #[(ρ.t 24), (ρ.t 24)] ty #[.slice (some ⟨w.heap.size, (i + m) * k, none⟩) (n + m - (i + m)) dc, .slice (some ⟨b, i * k, none⟩) (n - i) sc]).run P W = .ok (goInt ((n - i : Nat) : Int)) (W.setCells w.heap.size ((i + m) * k) (cs.drop (i * k))) := fun W hWc hWf ty dc sc => by
    have h := run_copy_cellsK (P := P) W (ρ.t 24) (ρ.t 24) ty (ρ.t 9) k w.heap.size ((i + m) * k) (n + m - (i + m)) dc ⟨b, i * k, none⟩ (n - i) sc (cs.drop (i * k)) L.t24 hsz (by rw [hdl, hmin1])
      (fun j v hj => by
        rw [Addr.add_lit, hWc, World.cell?_setCells_out _ _ _ _ _ (fun h _ => absurd h hbN)]
        exact hOb _ v (hcs (i * k + j) v (by rwa [List.getElem?_drop] at hj)))
      (fun j hj => by rw [hWc]; exact isSome_setCells _ _ _ W1 (fun t ht => hN (i * k + t) (by rw [hvl] at ht; omega)) _ (hN ((i + m) * k + j) (by rw [hdl] at hj; omega)))
      (fun j hj => by rw [hWf, World.frozen?_setCells]; exact hNf _) (fun v hv => h1c v (List.mem_of_mem_drop hv))
    rw [hmin1] at h
    exact h
  subst hW1
  have hE1 : ∀ x, ((w.alloc (.cells ROW (ρ.t 9))).drew).cell? x = (w.drew.alloc (.cells ROW (ρ.t 9))).cell? x := fun x => rfl
  have hE2 : ∀ x, ((w.alloc (.cells ROW (ρ.t 9))).drew).frozen? x = (w.drew.alloc (.cells ROW (ρ.t 9))).frozen? x := fun x => rfl
  have hF1 : ∀ x, (((w.alloc (.cells ROW (ρ.t 9))).drew.setCells w.heap.size (i * k) vs).drew).cell? x = ((w.drew.alloc (.cells ROW (ρ.t 9))).setCells w.heap.size (i * k) vs).cell? x := fun x => rfl
  have hF2 : ∀ x, (((w.alloc (.cells ROW (ρ.t 9))).drew.setCells w.heap.size (i * k) vs).drew).frozen? x = ((w.drew.alloc (.cells ROW (ρ.t 9))).setCells w.heap.size (i * k) vs).frozen? x := fun x => rfl
  have hw1 : IntKind.i64.wrap ((i : Int) + (m : Int)) = (i : Int) + (m : Int) := by rw [IntKind.wrap_i64]; omega
  have hb1 : (0 : Int) ≤ (i : Int) + (m : Int) := by omega
  have hin : i ≤ n := by omega
  have htn : ((i : Int) + (m : Int)).toNat = i + m := by omega
  have hb3 : (i : Int) ≤ (n : Int) := by omega
  clear hkk hik hold hROW hG hRl hmin1 hmin2 hadd hle2 hbytes hfit hin'
  obtain ⟨_, _, FG⟩ := L.f22
  go_enter FG, Body2.n22_ntmps ρ
  go_wp2_with (first
    | (at_builtin; refine Lib.wpList_append_run _ rfl _ _ _ _ rfl _ _ rfl rfl _ _ (hrz _) ?_)
    | (at_builtin; refine wpList_copy_runI _ rfl _ _ (ρ.t 24) (ρ.t 24) rfl _ _ rfl rfl (hcpA _ hE1 hE2 _ _) ?_)
    | (at_builtin; refine wpList_copy_runI _ rfl _ _ (ρ.t 24) (ρ.t 24) rfl _ _ rfl rfl (hcpB _ (fun _ => rfl) (fun _ => rfl) _ _ _) ?_))
  go_region_law_o (refine step_copy_runI rfl _ _ (ρ.t 24) (ρ.t 24) rfl (.slice (some ⟨w.heap.size, (i + m) * k, none⟩) (n + m - (i + m)) (G - (i + m))) (.slice (some ⟨b, i * k, none⟩) (n - i) (c - i)) (by simp [Act.eval, Act.put]) (by simp [Act.eval, Act.put]) (hcpB _ hF1 hF2 (ρ.t 3) (G - (i + m)) (c - i)) ?_)
  go_wp2
  go_ret
  exact ⟨rfl, rfl⟩

set_option maxHeartbeats 4000000 in
set_option maxRecDepth 100000 in
/-- At the end: appended. -/
theorem ins_end (L : InsL P ρ k i0 z) (base n m : Nat) (v : Value) (cs vs : List Value) (vb voff vc : Nat) (w : World) (hm : 0 < m) (hown : w.ownsRow base (ρ.t 9) k v n cs) (hbase : base ≤ w.heap.size)
    (hbig : (n + m) * 1000 ≤ 140737488355328) (hmax : n + m ≤ maxLen) (hvl : vs.length = m * k)
    (hvs : ∀ j u, vs[j]? = some u → w.cell? ⟨vb, voff + j, none⟩ = some u) (h1v : ∀ v ∈ vs, v.oneCell' = true) (hvb : v.ownBlock ≠ some vb) :
    Calls P (ρ.f 22) #[v, .int .i64 n, .slice (some ⟨vb, voff, none⟩) m vc] w fun e w' =>
      ∃ v', e = .returned v' ∧ w'.ownsRow base (ρ.t 9) k v' (n + m) (cs ++ vs) ∧ w.grownBy w' v.ownBlock ∧ ∀ g, v'.ownBlock = some g → v.ownBlock = some g ∨ w.heap.size ≤ g := by
  have t0 := L.t0; have a0 := L.a0; have z0 := L.z0; have v0 := L.v0; have t3 := L.t3; have a3 := L.a3; have z3 := L.z3; have v3 := L.v3; have t4 := L.t4; have a4 := L.a4; have z4 := L.z4; have v4 := L.v4; have t24 := L.t24; have a24 := L.a24; have z24 := L.z24; have v24 := L.v24
  have z9 := L.z9
  have u0 := run_underlying L.t0; have u3 := run_underlying L.t3; have u4 := run_underlying L.t4; have u24 := run_underlying L.t24
  have mixed := L.mixed
  have hz1 : ¬ ((m : Int) = 0) := by omega
  obtain ⟨_, _, FG⟩ := L.f22
  obtain ⟨v', w1, g1, g2, g3, _⟩ := run_append_own (P := P) w base (ρ.t 24) (ρ.t 24) (ρ.t 9) i0 z k i0.bytes L.t24 L.info L.zero L.size rfl L.zsize L.pos v n cs hown ⟨vb, voff, none⟩ m vc vs hvl (fun j u hj => by rw [Addr.add_lit]; exact hvs j u hj) h1v hmax (Nat.le_trans (Nat.mul_le_mul_left _ L.bytes) hbig) hbase
  have g5 := append_block (P := P) (w := w) (ρ.t 24) (ρ.t 24) (ρ.t 9) i0 z k L.t24 L.info L.zero L.size v n cs hown ⟨vb, voff, none⟩ m vc vs hvl (fun j u hj => by rw [Addr.add_lit]; exact hvs j u hj) h1v hmax (Nat.le_trans (Nat.mul_le_mul_left _ L.bytes) hbig) v' w1 g1
  have hr : ∀ ty, (Builtin.append_ #[ρ.t 24, ρ.t 24] ty #[v, .slice (some ⟨vb, voff, none⟩) m vc]).run P w = .ok v' w1 := fun ty => g1
  rcases hown.2 with ⟨rfl, rfl⟩ | ⟨g, cap, cur, rfl, hg1, hg2, hg3, hg4, hg5, hg6⟩
  · go_enter FG, Body2.n22_ntmps ρ
    go_wp2_with (at_builtin; refine Lib.wpList_append_run _ rfl _ _ _ _ rfl _ _ rfl rfl _ _ (hr _) ?_)
    go_ret
    rw [Nat.zero_add] at g2
    exact ⟨v', rfl, g2, g3, g5⟩
  · go_enter FG, Body2.n22_ntmps ρ
    go_wp2_with (at_builtin; refine Lib.wpList_append_run _ rfl _ _ _ _ rfl _ _ rfl rfl _ _ (hr _) ?_)
    all_goals (go_ret; exact ⟨v', rfl, g2, g3, g5⟩)

theorem setCell_at (w : World) (b o : Nat) (v : Value) (cur : Array Value) (e : TypeId) (hb : w.heap[b]? = some (.cells cur e (0, 0))) :
    (w.setCell ⟨b, o, none⟩ v).heap[b]? = some (.cells (cur.setIfInBounds o v) e (0, 0)) ∧ (w.setCell ⟨b, o, none⟩ v).heap.size = w.heap.size ∧ (∀ g, g ≠ b → (w.setCell ⟨b, o, none⟩ v).heap[g]? = w.heap[g]?) := by
  refine ⟨?_, ?_, ?_⟩
  · simp [World.setCell, Array.getElem?_modify, hb]
  · simp [World.setCell]
  · intro g hg
    simp [World.setCell, Array.getElem?_modify, Ne.symm hg]

theorem take_setCells (b : Nat) (e : TypeId) : ∀ (xs : List Value) (cur : Array Value) (o : Nat) (w : World), w.heap[b]? = some (.cells cur e (0, 0)) → o + xs.length ≤ cur.size →
    (w.setCells b o xs).heap[b]? = some (.cells (cur.toList.take o ++ xs ++ cur.toList.drop (o + xs.length)).toArray e (0, 0)) ∧ (w.setCells b o xs).heap.size = w.heap.size ∧ (∀ g, g ≠ b → (w.setCells b o xs).heap[g]? = w.heap[g]?) ∧
    (w.setCells b o xs).os = w.os ∧ (w.setCells b o xs).tape = w.tape ∧ (w.setCells b o xs).output = w.output
  | [], cur, o, w, hb, h => by
    refine ⟨?_, rfl, fun _ _ => rfl, rfl, rfl, rfl⟩
    simp only [World.setCells, List.append_nil, List.length_nil, Nat.add_zero, List.take_append_drop]
    exact hb
  | x :: xs, cur, o, w, hb, h => by
    obtain ⟨h1, h2, h3⟩ := setCell_at w b o x cur e hb
    simp only [List.length_cons] at h
    obtain ⟨g1, g2, g3, g4, g5, g6⟩ := take_setCells b e xs (cur.setIfInBounds o x) (o + 1) (w.setCell ⟨b, o, none⟩ x) h1 (by simp; omega)
    refine ⟨?_, by rw [World.setCells, g2, h2], fun g hg => by rw [World.setCells, g3 g hg, h3 g hg], by rw [World.setCells, g4]; rfl, by rw [World.setCells, g5]; rfl, by rw [World.setCells, g6]; rfl⟩
    rw [World.setCells, g1]
    have ho : o < cur.toList.length := by simp; omega
    have e1 : (cur.setIfInBounds o x).toList = cur.toList.set o x := by simp
    have e2 : (cur.toList.set o x).take (o + 1) = cur.toList.take o ++ [x] := by
      rw [List.take_succ_eq_append_getElem (by simpa using ho), List.take_set_of_le (Nat.le_refl _)]
      simp
    have e3 : (cur.toList.set o x).drop (o + 1 + xs.length) = cur.toList.drop (o + (xs.length + 1)) := by
      rw [List.drop_set_of_lt (by omega)]
      congr 1; omega
    rw [e1, e2, e3]
    simp

/-- **slices.Insert OF ONE THING INTO A ROW OF THE CALL's OWN.** -/
theorem ins_own (L : InsL P ρ k i0 z) {base n i vc : Nat} {v : Value} {cs vs : List Value} {a : Addr} {w : World} (hown : w.ownsRow base (ρ.t 9) k v n cs) (hbase : base ≤ w.heap.size) (hi : i ≤ n) (hn : n ≤ 1000000)
    (h1c : ∀ v ∈ cs, v.oneCell' = true) (h1v : ∀ v ∈ vs, v.oneCell' = true) (hvl : vs.length = k) (hvs : ∀ j u, vs[j]? = some u → w.cell? (a.add j) = some u) (hvb : v.ownBlock ≠ some a.block) :
    Calls P (ρ.f 22) #[v, .int .i64 i, .slice (some a) 1 vc] w fun e w' =>
      ∃ v', e = .returned v' ∧ w.grownBy w' v.ownBlock ∧ w'.ownsRow base (ρ.t 9) k v' (n + 1) (cs.take (i * k) ++ vs ++ cs.drop (i * k)) ∧ ∀ g, v'.ownBlock = some g → v.ownBlock = some g ∨ w.heap.size ≤ g := by
  have hpos := L.pos
  -- where the thing lies
  have ha : ∃ vb voff tA cA fA, a = ⟨vb, voff, none⟩ ∧ w.heap[vb]? = some (.cells cA tA fA) ∧ 0 < cA.size := by
    have h0 := hvs 0 _ (List.getElem?_eq_getElem (by omega))
    rw [add0] at h0
    obtain ⟨vb, voff, sp⟩ := a
    unfold World.cell? at h0
    simp only at h0
    split at h0
    · rename_i cA tA fA hA
      split at h0
      · cases h0
      · rename_i hs
        refine ⟨vb, voff, tA, cA, fA, ?_, hA, ?_⟩
        · cases sp with
          | none => rfl
          | some x => simp at hs
        · have := (Array.getElem?_eq_some_iff.1 h0).1
          omega
    · cases h0
  obtain ⟨vb, voff, tA, cA, fA, rfl, hA, hcA⟩ := ha
  have hvw : vb < w.heap.size := (Array.getElem?_eq_some_iff.1 hA).1
  have hvs' : ∀ j u, vs[j]? = some u → w.cell? ⟨vb, voff + j, none⟩ = some u := fun j u hj => by have := hvs j u hj; rwa [Addr.add_lit] at this
  have hbig : (n + 1) * 1000 ≤ 140737488355328 := by omega
  rcases Nat.lt_or_ge i n with hlt | hge
  · rcases hown.2 with ⟨_, hn0⟩ | ⟨g, cap, cur, rfl, hg1, hg2, hg3, hg4, hg5, hg6⟩
    · omega
    · have hgw : g < w.heap.size := (Array.getElem?_eq_some_iff.1 hg2).1
      have hcl : cs.length = n * k := hown.1
      have hvb' : vb ≠ g := fun e => hvb (by rw [e]; rfl)
      have hcap : n * k ≤ cap * k := Nat.mul_le_mul_right _ hg3
      have hnk : 0 < n * k := Nat.mul_pos (by omega) hpos
      have hcur : cur.toList = cs ++ cur.toList.drop (n * k) := by rw [← hg6, List.take_append_drop]
      have hcell : ∀ j, w.cell? ⟨g, j, none⟩ = cur[j]? := fun j => by simp [World.cell?, hg2]
      have hcs : ∀ j u, cs[j]? = some u → w.cell? ⟨g, j, none⟩ = some u := fun j u hj => by
        rw [hcell, ← Array.getElem?_toList, hcur, List.getElem?_append_left (List.getElem?_eq_some_iff.1 hj).1]
        exact hj
      have hfz : ∀ o, w.frozen? ⟨g, o, none⟩ = false := fun o => by simp [World.frozen?, hg2]
      have hik : i * k ≤ n * k := Nat.mul_le_mul_right _ (by omega)
      have hik1 : (i + 1) * k ≤ n * k := Nat.mul_le_mul_right _ (by omega)
      have e1 : (i + 1) * k = i * k + k := by rw [Nat.succ_mul]
      have e2 : (n + 1) * k = n * k + k := by rw [Nat.succ_mul]
      have hlen : (cs.take (i * k) ++ vs ++ cs.drop (i * k)).length = (n + 1) * k := by simp; omega
      rcases Nat.lt_or_ge cap (n + 1) with hroom | hroom
      · -- no room
        refine (ins_grow L g n cap i vb voff 1 vc cs vs w hlt (by omega) hg3 hroom hbig hcl (by omega) hgw hvw hcs hvs' h1c h1v).mono ?_
        rintro e w' ⟨rfl, rfl⟩
        obtain ⟨G, hG⟩ : ∃ G, G = grownCap w (n + 1) cap (ρ.t 9) := ⟨_, rfl⟩
        have hGn : n + 1 ≤ G := by rw [hG]; exact grownCap_ge w _ _ _
        have hGm : G ≤ maxLen := by rw [hG]; exact grownCap_le_maxLen w (n + 1) cap (ρ.t 9) (by unfold maxLen; omega)
        rw [← hG]
        obtain ⟨ROW, hROW⟩ : ∃ ROW : Array Value, ROW = (cs.take (i * k)).toArray ++ Builtin.zeroCells z.cells (n + 1 - i) ++ Builtin.zeroCells z.cells (G - (n + 1)) := ⟨_, rfl⟩
        rw [← hROW]
        have hGk : (n + 1) * k ≤ G * k := Nat.mul_le_mul_right _ hGn
        have hRl : ROW.size = G * k := by
          rw [hROW]
          have h2 : (cs.take (i * k)).length = i * k := by rw [List.length_take]; omega
          have h3 : i * k + (n + 1 - i) * k = (n + 1) * k := by rw [← Nat.add_mul]; congr 1; omega
          have h4 : (n + 1) * k + (G - (n + 1)) * k = G * k := by rw [← Nat.add_mul]; congr 1; omega
          simp only [Array.size_append, size_zeroCells', List.size_toArray, h2, L.zsize]
          omega
        have hRt : ROW.toList.take (i * k) = cs.take (i * k) := by
          rw [hROW]
          have h2 : (cs.take (i * k)).length = i * k := by rw [List.length_take]; omega
          simp only [Array.toList_append, List.append_assoc]
          rw [List.take_append_of_le_length (by omega), List.take_of_length_le (by omega)]
        have hal : ((w.alloc (.cells ROW (ρ.t 9))).drew).heap = w.heap.push (.cells ROW (ρ.t 9) (0, 0)) := rfl
        have hb0 : ((w.alloc (.cells ROW (ρ.t 9))).drew).heap[w.heap.size]? = some (.cells ROW (ρ.t 9) (0, 0)) := by rw [hal]; exact Array.getElem?_push_size
        obtain ⟨s1, s2, s3, s4, s5, s6⟩ := take_setCells w.heap.size (ρ.t 9) vs ROW (i * k) _ hb0 (by omega)
        obtain ⟨W1, hW1⟩ : ∃ W1, W1 = ((w.alloc (.cells ROW (ρ.t 9))).drew).setCells w.heap.size (i * k) vs := ⟨_, rfl⟩
        rw [← hW1] at s1 s2 s3 s4 s5 s6 ⊢
        have hdl : (cs.drop (i * k)).length = n * k - i * k := by rw [List.length_drop, hcl]
        obtain ⟨r1, r2, r3, r4, r5, r6⟩ := take_setCells w.heap.size (ρ.t 9) (cs.drop (i * k)) _ ((i + 1) * k) W1.drew s1 (by simp; omega)
        refine ⟨_, rfl, ⟨by rw [r4]; exact s4, by rw [r5]; exact s5, by rw [r6]; exact s6, by rw [r2]; show w.heap.size ≤ W1.heap.size; rw [s2, hal, Array.size_push]; omega, fun q hq _ => ?_⟩, ⟨hlen, .inr ⟨w.heap.size, G, _, rfl, hbase, r1, hGn, hGm, ?_, ?_⟩⟩, fun q hq => ?_⟩
        · rw [r3 q (by omega)]
          show W1.heap[q]? = _
          rw [s3 q (by omega)]
          rw [hal, Array.getElem?_push, if_neg (by omega)]
        · simp; omega
        · have hl1 : (ROW.toList.take (i * k)).length = i * k := by rw [List.length_take]; simp; omega
          simp only
          rw [hRt]
          have h2 : (cs.take (i * k)).length = i * k := by rw [List.length_take]; omega
          rw [List.take_append_of_le_length (by simp; omega), List.take_of_length_le (by simp; omega)]
          congr 1
          rw [List.take_append_of_le_length (by simp; omega), List.take_of_length_le (by simp; omega)]
        · right
          simp only [Value.ownBlock, Option.some.injEq] at hq
          omega
      · -- room
        have hck : (n + 1) * k ≤ cap * k := Nat.mul_le_mul_right _ hroom
        refine (ins_shift L g n cap i vb voff 1 vc cs vs w hlt (by omega) hroom (by unfold maxLen at hg4; omega) hvb' hcl (by omega) hcs (fun j hj => by rw [hcell, Array.getElem?_eq_getElem (by omega)]; rfl) (fun j hj => hfz j) hvs' h1c h1v tA (ρ.t 9) cA.size cur.size
          (by simp [World.shape?, hA]) (by simp [World.shape?, hg2]) (by omega) (by omega) hfz).mono ?_
        rintro e w' ⟨rfl, rfl⟩
        have hdl : (cs.drop (i * k)).length = n * k - i * k := by rw [List.length_drop, hcl]
        obtain ⟨s1, s2, s3, s4, s5, s6⟩ := take_setCells g (ρ.t 9) (cs.drop (i * k)) cur ((i + 1) * k) w.drew hg2 (by omega)
        obtain ⟨W1, hW1⟩ : ∃ W1, W1 = w.drew.setCells g ((i + 1) * k) (cs.drop (i * k)) := ⟨_, rfl⟩
        rw [← hW1] at s1 s2 s3 s4 s5 s6 ⊢
        obtain ⟨r1, r2, r3, r4, r5, r6⟩ := take_setCells g (ρ.t 9) vs _ (i * k) W1 s1 (by simp only [List.size_toArray, List.length_append, List.length_take, List.length_drop, Array.length_toList]; omega)
        refine ⟨_, rfl, ⟨by rw [r4]; exact s4, by rw [r5]; exact s5, by rw [r6]; exact s6, by rw [r2, s2]; exact Nat.le_refl _, fun q hq hne => ?_⟩, ⟨hlen, .inr ⟨g, cap, _, rfl, hg1, r1, hroom, hg4, ?_, ?_⟩⟩, fun q hq => .inl hq⟩
        · have : q ≠ g := fun e => hne (by rw [e]; rfl)
          rw [r3 q this, s3 q this]; rfl
        · simp only [List.size_toArray, List.length_append, List.length_take, List.length_drop, Array.length_toList]; omega
        · have ht : cur.toList.take (i * k) = cs.take (i * k) := by
            rw [← hg6, List.take_take, Nat.min_eq_left hik]
          have hlt1 : (cur.toList.take ((i + 1) * k)).length = (i + 1) * k := by rw [List.length_take, Array.length_toList]; omega
          have hA1 : ((cur.toList.take ((i + 1) * k) ++ cs.drop (i * k) ++ cur.toList.drop ((i + 1) * k + (cs.drop (i * k)).length)).toArray.toList).take (i * k) = cs.take (i * k) := by
            simp only [List.append_assoc]
            rw [List.take_append_of_le_length (by omega), List.take_take, Nat.min_eq_left (by omega), ht]
          have hA2 : ((cur.toList.take ((i + 1) * k) ++ cs.drop (i * k) ++ cur.toList.drop ((i + 1) * k + (cs.drop (i * k)).length)).toArray.toList).drop (i * k + vs.length) = cs.drop (i * k) ++ cur.toList.drop ((i + 1) * k + (cs.drop (i * k)).length) := by
            have e3 : i * k + vs.length = (i + 1) * k := by omega
            rw [e3]
            simp only [List.append_assoc]
            rw [List.drop_append_of_le_length (by omega), List.drop_of_length_le (by omega), List.nil_append]
          simp only at hA1 hA2 ⊢
          rw [hA1, hA2]
          have h2 : (cs.take (i * k)).length = i * k := by rw [List.length_take]; omega
          rw [← List.append_assoc, List.take_append_of_le_length (by simp only [List.length_append]; omega), List.take_of_length_le (by simp only [List.length_append]; omega)]
  · have hin : i = n := by omega
    subst hin
    refine (ins_end L base i 1 v cs vs vb voff vc w (by omega) hown hbase hbig (by unfold maxLen; omega) (by omega) hvs' h1v hvb).mono ?_
    rintro e w' ⟨v', h1, h2, h3, h4⟩
    refine ⟨v', h1, h3, ?_, h4⟩
    have h5 : cs.take (i * k) = cs := List.take_of_length_le (by rw [hown.1]; exact Nat.le_refl _)
    have h6 : cs.drop (i * k) = [] := List.drop_of_length_le (by rw [hown.1]; exact Nat.le_refl _)
    rw [h5, h6, List.append_nil]
    exact h2
end
end Ev
end Go.Proofs.YtefjcgbidillhaaGreat
