/- slices.Delete AT ELEMENTS OF WHATEVER SIZE (turned from the shelf's contract at one cell); slices.Clone. -/
import Derived.Test.YtefjcgbidillhaaGreatEvIA
import Derived.Shelf.SlLaysE0
import Derived.Shelf.SlicesE.Clone
import Derived.Shelf.SlicesE.Delete
set_option linter.unusedVariables false
set_option linter.unusedSimpArgs false
namespace Go.Proofs.YtefjcgbidillhaaGreat
open Go Go.Proofs
open Go.Shelf Go.RowKit Go.Lib Go.Sort
namespace Ev
variable {P : Program} {ρ : Ren}

structure DelL (P : Program) (ρ : Ren) (k : Nat) (i0 : TypeInfo) (z : Value) : Prop where
  mixed : P.follows .mixedOrders = true
  f45 : Bears P (ρ.f 45) (SlBodyN.n45 ρ)
  t0 : P.underlying (ρ.t 0) = some (TypeDesc.tuple #[])
  a0 : ∀ w, (isAgg (ρ.t 0)).run P w = .ok false w
  z0 : ∀ w, (Go.sizeOf (ρ.t 0)).run P w = .ok 1 w
  v0 : ∀ w, (zeroValue (ρ.t 0)).run P w = .ok (Value.tuple #[]) w
  t3 : P.underlying (ρ.t 3) = some (TypeDesc.int IntKind.i64)
  a3 : ∀ w, (isAgg (ρ.t 3)).run P w = .ok false w
  z3 : ∀ w, (Go.sizeOf (ρ.t 3)).run P w = .ok 1 w
  v3 : ∀ w, (zeroValue (ρ.t 3)).run P w = .ok (Value.int IntKind.i64 0) w
  t4 : P.underlying (ρ.t 4) = some (TypeDesc.bool)
  a4 : ∀ w, (isAgg (ρ.t 4)).run P w = .ok false w
  z4 : ∀ w, (Go.sizeOf (ρ.t 4)).run P w = .ok 1 w
  v4 : ∀ w, (zeroValue (ρ.t 4)).run P w = .ok (Value.bool false) w
  t22 : P.underlying (ρ.t 22) = some (TypeDesc.slice (ρ.t 23))
  a22 : ∀ w, (isAgg (ρ.t 22)).run P w = .ok false w
  z22 : ∀ w, (Go.sizeOf (ρ.t 22)).run P w = .ok 1 w
  v22 : ∀ w, (zeroValue (ρ.t 22)).run P w = .ok (Value.slice none 0 0) w
  z23 : ∀ w, (Go.sizeOf (ρ.t 23)).run P w = .ok k w
  v23 : ∀ w, (zeroValue (ρ.t 23)).run P w = .ok z w
  info : P.info? (ρ.t 23) = some i0
  zero : i0.zero = some z
  size : i0.size = k
  zsize : z.cells.size = k
  zone : ∀ v ∈ z.cells.toList, v.oneCell' = true
  pos : 0 < k

theorem run_clear_sliceK (w : World) (t e ty : TypeId) (z : Value) (k : Nat) (ht : P.underlying t = some (.slice e)) (hv : ∀ w, (zeroValue e).run P w = .ok z w) (hz : z.cells.size = k) (h1 : ∀ v ∈ z.cells.toList, v.oneCell' = true) (b o n c : Nat) (hn : 0 < n)
    (hc : ∀ j, j < n * k → (w.cell? ⟨b, o + j, none⟩).isSome = true) (hf : ∀ j, j < n * k → w.frozen? ⟨b, o + j, none⟩ = false) (hk : 0 < k) :
    (Builtin.clear_ #[t] ty #[.slice (some ⟨b, o, none⟩) n c]).run P w = .ok (.tuple #[]) (w.setCells b o (Builtin.zeroCells z.cells n).toList) := by
  have hlen : (Builtin.zeroCells z.cells n).toList.length = n * k := by rw [Array.length_toList, size_zeroCells', hz]
  have hone : ∀ v ∈ (Builtin.zeroCells z.cells n).toList, v.oneCell' = true := by
    intro v hv'
    simp only [Builtin.zeroCells, Array.toList_map, List.mem_map] at hv'
    obtain ⟨i, hi, rfl⟩ := hv'
    have hlt : i % z.cells.size < z.cells.size := Nat.mod_lt _ (by omega)
    rw [getElem!_pos z.cells _ hlt]
    exact h1 _ (by simp)
  have hst := run_storeCells_cells (P := P) b o (Builtin.zeroCells z.cells n).toList 0 w (by rw [hlen]; simpa using hc) (by rw [hlen]; simpa using hf) hone
  simp only [Nat.add_zero] at hst
  obtain ⟨m, rfl⟩ : ∃ m, n = m + 1 := ⟨n - 1, by omega⟩
  simp [Builtin.clear_, run_underlying ht, hv, hst]

section
variable {k : Nat} {i0 : TypeInfo} {zc : Array Value}
set_option maxHeartbeats 4000000 in
set_option maxRecDepth 1000000 in
theorem del_raw (L : DelL P ρ k i0 (.agg zc)) (blk n cap i j : Nat) (cs : List Value) (w : World) (hcl : cs.length = n * k) (hcap : n ≤ cap) (hm : cap ≤ 9223372036854775807) (hij : i < j) (hj : j ≤ n)
    (hcs : ∀ j v, cs[j]? = some v → w.cell? ⟨blk, j, none⟩ = some v) (hfz : ∀ o, w.frozen? ⟨blk, o, none⟩ = false) (h1c : ∀ v ∈ cs, v.oneCell' = true) :
    Calls P (ρ.f 45) #[.slice (some ⟨blk, 0, none⟩) n cap, .int .i64 i, .int .i64 j] w fun e w' => e = .returned (.slice (some ⟨blk, 0, none⟩) (i + (n - j)) cap) ∧
      w' = (w.drew.setCells blk (i * k) (cs.drop (j * k))).setCells blk ((i + (n - j)) * k) (Builtin.zeroCells zc (n - (i + (n - j)))).toList := by
  have mixed := L.mixed; have t0 := L.t0; have a0 := L.a0; have z0 := L.z0; have v0 := L.v0; have t3 := L.t3; have a3 := L.a3; have z3 := L.z3; have v3 := L.v3; have t4 := L.t4; have a4 := L.a4; have z4 := L.z4; have v4 := L.v4; have t22 := L.t22; have a22 := L.a22; have z22 := L.z22; have v22 := L.v22; have z23 := L.z23
  have hi0 := L.info
  have hz1 := L.size
  have heq : ¬ (i = j) := by omega
  have hjn : j * k ≤ n * k := Nat.mul_le_mul_right _ hj
  have hin : i * k ≤ n * k := Nat.mul_le_mul_right _ (by omega)
  have hsub : (n - j) * k = n * k - j * k := Nat.sub_mul ..
  have hij' : i * k ≤ j * k := Nat.mul_le_mul_right _ (by omega)
  obtain ⟨news, hnews⟩ : ∃ news, news = cs.drop (j * k) := ⟨_, rfl⟩
  have hlen : news.length = (n - j) * k := by rw [hnews, List.length_drop, hcl, hsub]
  have hcell : ∀ q, q < n * k → (w.cell? ⟨blk, q, none⟩).isSome = true := fun q hq => by rw [hcs q _ (List.getElem?_eq_getElem (by omega))]; rfl
  obtain ⟨A, hA, hsrc⟩ : ∃ A : Addr, (if cap = j then some (⟨blk, 0, none⟩ : Addr) else some ⟨blk, j * k, none⟩) = some A ∧ Hid (∀ t u, news[t]? = some u → w.drew.cell? (A.add t) = some u) := by
    by_cases h : cap = j
    · refine ⟨⟨blk, 0, none⟩, by simp [h], fun t u hu => ?_⟩
      have h0 : news.length = 0 := by rw [hlen, show n - j = 0 by omega, Nat.zero_mul]
      rw [List.length_eq_zero_iff.1 h0] at hu
      simp at hu
    · refine ⟨⟨blk, j * k, none⟩, by simp [h], fun t u hu => ?_⟩
      rw [hnews, List.getElem?_drop] at hu
      rw [Addr.add_lit]
      exact hcs _ u hu
  have s1 : Hid (news.length = (n - j) * k) := hlen
  have s2 : Hid (∀ u ∈ news, u.oneCell' = true) := by
    intro u hu
    rw [hnews] at hu
    exact h1c u (List.mem_of_mem_drop hu)
  have s3 : Hid (∀ t, t < news.length → (w.drew.cell? ⟨blk, 0 + i * k + t, none⟩).isSome = true ∧ w.drew.frozen? ⟨blk, 0 + i * k + t, none⟩ = false) := by
    intro t ht
    rw [hlen, hsub] at ht
    exact ⟨hcell _ (by omega), hfz _⟩
  obtain ⟨W1, hW1⟩ : ∃ W1, W1 = w.drew.setCells blk (0 + i * k) news := ⟨_, rfl⟩
  have hmul : (i + (n - j)) * k = i * k + (n * k - j * k) := by rw [Nat.add_mul, hsub]
  have hmul2 : (n - (i + (n - j))) * k + (i + (n - j)) * k = n * k := by rw [← Nat.add_mul]; congr 1; omega
  have hcl1 : ∀ ty, (Builtin.clear_ #[ρ.t 22] ty #[.slice (some ⟨blk, (i + (n - j)) * k, none⟩) (n - (i + (n - j))) (cap - (i + (n - j)))]).run P W1 = .ok (.tuple #[]) (W1.setCells blk ((i + (n - j)) * k) (Builtin.zeroCells zc (n - (i + (n - j)))).toList) :=
    fun ty => run_clear_sliceK W1 _ _ ty _ k t22 L.v23 L.zsize L.zone blk ((i + (n - j)) * k) _ _ (by omega)
      (fun t ht => by rw [hW1]; exact isSome_setCells _ _ _ w.drew (fun q hq => hcell (0 + i * k + q) (by rw [hlen, hsub] at hq; omega)) _ (hcell ((i + (n - j)) * k + t) (by omega)))
      (fun t ht => by rw [hW1, World.frozen?_setCells]; exact hfz _) L.pos
  have hW : Hid (W1 = w.drew.setCells blk (0 + i * k) news) := hW1
  have hic : i ≤ cap := by omega
  have hjc : j ≤ cap := by omega
  have hWf : w.drew.setCells blk (i * k) (cs.drop (j * k)) = W1 := by rw [hW1, hnews, Nat.zero_add]
  rw [hWf]
  clear hW1 hnews hlen hWf hmul hmul2 hsub hjn hin hij'
  obtain ⟨_, _, FG⟩ := L.f45
  go_enter FG, SlBodyN.n45_ntmps ρ
  go_wp2_with fail
  go_region_law_o (refine step_append_room rfl (.tmp 22) (.tmp 25) (ρ.t 22) rfl (ρ.t 23) i0 k t22 hi0 hz1 blk 0 i cap (by simp [Act.eval, Act.put]) A (n - j) (cap - j) news (by simp [Act.eval, Act.put]) s1.out hsrc.out s2.out (by omega) s3.out ?_; rw [← hW.out])
  go_wp2
  go_ret
  exact ⟨rfl, rfl⟩
end
end Ev
end Go.Proofs.YtefjcgbidillhaaGreat
