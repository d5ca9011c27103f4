/- slices.Clone, slices.Insert, slices.Delete, AS THE EVALUATOR KNOWS THEM. -/
import Derived.Test.YtefjcgbidillhaaGreatEvIB
import Derived.Test.YtefjcgbidillhaaGreatEvTE
set_option linter.unusedVariables false
set_option linter.unusedSimpArgs false
namespace Go.Proofs.YtefjcgbidillhaaGreat
open Go Go.Proofs
open Go.Shelf Go.RowKit Go.Lib
namespace Ev

section
variable {P : Program} {ρ : Ren}
set_option maxHeartbeats 2000000 in
set_option maxRecDepth 100000 in
theorem cloneK (L : SlLaysE0.n41 P ρ) (i0 : TypeInfo) (z : Value) (size bytes : Nat) (hi : P.info? (ρ.t 23) = some i0) (hz0 : i0.zero = some z) (hz1 : i0.size = size) (hz2 : i0.bytes = bytes) (hzs : z.cells.size = size) (hsz : 0 < size)
    (a : Addr) (n c : Nat) (news : List Value) (w : World) (hl : news.length = n * size) (hn : n ≤ maxLen) (hbig : n * bytes ≤ 140737488355328)
    (hc : ∀ j u, news[j]? = some u → w.cell? (a.add j) = some u) (h1 : ∀ u ∈ news, u.oneCell' = true) :
    Calls P (ρ.f 41) #[.slice (some a) n c] w fun e w' => ∃ v', e = .returned v' ∧ w'.ownsRow w.heap.size (ρ.t 23) size v' n news ∧ Below w.heap.size w w' := by
  have mixed := L.mixed; have t4 := L.t4; have a4 := L.a4; have z4 := L.z4; have v4 := L.v4; have t22 := L.t22; have a22 := L.a22; have z22 := L.z22; have v22 := L.v22
  have q22 : ∀ (w : World) (a : Option Addr) (n c n' c' : Nat), (binOp .eql (ρ.t 22) (.slice a n c) (.slice none n' c')).run P w = .ok (.bool a.isNone) w := fun w a n c n' c' => Lib.run_eql_slice_nil w _ _ a n c n' c' L.t22
  have u22 : ∀ w, Sem.run P (underlying (ρ.t 22)) w = .ok (TypeDesc.slice (ρ.t 23)) w := run_underlying t22
  have z23 : ∀ w, (Go.sizeOf (ρ.t 23)).run P w = .ok size w := fun w => by rw [run_sizeOf hi, hz1]
  have A : Aside (∀ j u, news[j]? = some u → w.cell? (a.add j) = some u) := hc
  clear hc
  obtain ⟨_, _, FG⟩ := L.f41
  go_enter FG, SlBodyN.n41_ntmps ρ
  go_wp2_with (at_builtin; refine wpList_append_own _ rfl _ _ (ρ.t 22) rfl w.heap.size (ρ.t 23) i0 z size bytes t22 hi hz0 hz1 hz2 hzs hsz _ _ _ rfl (World.ownsRow_made w #[] 0 (Nat.le_refl _) (Nat.zero_le _) (by simp)) a n c news rfl ?qc1 ?qc2 ?qc3 ?qc4 ?qc5 ?qc6 ?_)
  case qc1 => exact hl
  case qc2 =>
    intro j u hj
    exact Lib.cell?_alloc_some _ (A.out j u hj)
  case qc3 => exact h1
  case qc4 => rw [Nat.zero_add]; exact hn
  case qc5 => rw [Nat.zero_add]; exact hbig
  case qc6 => simp
  intro v' w1 hown hgrow hnil
  go_wp2
  go_ret
  refine ⟨v', rfl, by simpa using hown, ?_⟩
  exact ((Below.refl _ w).alloc (Nat.le_refl _) _).grown hgrow (by simp) (by intro k hk; simp [Value.ownBlock] at hk; omega)
end

/-- A list with one thing put in at a place. -/
def insA {α : Type} (l : List α) (i : Nat) (x : α) : List α := l.take i ++ x :: l.drop i
/-- A list without what stands from 'i' to ahead of 'j'. -/
def delA {α : Type} (l : List α) (i j : Nat) : List α := l.take i ++ l.drop j

def gClone (e : TypeId) (t : Ty) : List A → Option (Bool × Own)
  | [.s (.list t' l _)] => if h : t' = t then some (Nat.ble l.length 1000000, ⟨e, t, h ▸ l⟩) else none
  | [.s .nils] => some (true, ⟨e, t, []⟩)
  | _ => none
def gInsert (e : TypeId) (t : Ty) : Own → (FuncId → List A → Option (Bool × A)) → List A → Option (Bool × Own)
  | o, _, [.s (.v (.int .i64 i)), .s (.list t' [x] _)] => if h : t' = t then if h2 : o.t = t then if Nat.beq o.e e then
      some (decide (0 ≤ i ∧ i ≤ (o.l.length : Int)) && Nat.ble o.l.length 1000000, ⟨e, t, insA (h2 ▸ o.l) i.toNat (h ▸ x)⟩) else none else none else none
  | _, _, _ => none
def gDelete (e : TypeId) (t : Ty) : Own → (FuncId → List A → Option (Bool × A)) → List A → Option (Bool × Own)
  | o, _, [.s (.v (.int .i64 i)), .s (.v (.int .i64 j))] => if h2 : o.t = t then if Nat.beq o.e e then
      some (decide (0 ≤ i ∧ i < j ∧ j ≤ (o.l.length : Int)), ⟨e, t, delA (h2 ▸ o.l) i.toNat j.toNat⟩) else none else none
  | _, _, _ => none

section
variable {P : Program} {ρ : Ren} {w : World} {σ : Wh} {M : Nat → Prop}

theorem own1_clone (L : SlLaysE0.n41 P ρ) (hC : Callable P (ρ.f 41)) (i0 : TypeInfo) (z : Value) (t : Ty) (hi : P.info? (ρ.t 23) = some i0) (hz0 : i0.zero = some z) (hz1 : i0.size = t.size) (hby : i0.bytes ≤ 1000) (hzs : z.cells.size = t.size) :
    Callable P (ρ.f 41) ∧ ∀ args o, gClone (ρ.t 23) t args = some (true, o) → ∀ (σ : Wh) (M : Nat → Prop) (w : World) (vs : List Value), (∀ g, M g → g < w.heap.size) → F2 (RA w σ M) args vs →
      Calls P (ρ.f 41) vs.toArray w fun e w' => ∃ v, e = .returned v ∧ Below w.heap.size w w' ∧ w'.ownsRow w.heap.size o.e o.t.size v o.l.length (o.l.flatMap o.t.enc) ∧ ∀ x ∈ o.l, o.t.ok x := by
  refine ⟨hC, fun args o h σ M w vs hM hargs => ?_⟩
  have nil : ∀ n c, Calls P (ρ.f 41) #[.slice none n c] w fun e w' => ∃ v, e = .returned v ∧ Below w.heap.size w w' ∧ w'.ownsRow w.heap.size (ρ.t 23) t.size v 0 [] ∧ ∀ x ∈ ([] : List t.D), t.ok x := fun n c =>
    (AnyE.slices_Clone_nil L n c w).mono (by
      rintro e w' ⟨rfl, rfl⟩
      exact ⟨_, rfl, Below.refl _ _, World.ownsRow_nil _ _ _ _, fun _ h => absurd h (by simp)⟩)
  unfold gClone at h
  split at h
  · rename_i t' l bs
    split at h
    · rename_i ht
      subst ht
      simp only [Option.some.injEq, Prod.mk.injEq] at h
      obtain ⟨hb, rfl⟩ := h
      have hb := Nat.le_of_ble_eq_true hb
      match vs, hargs with
      | [v], ⟨⟨_, s, e, hl⟩, _⟩ =>
        simp only [List.cons.injEq, and_true] at e
        subst e
        rcases hl with ⟨rfl, rfl, _⟩ | ⟨a, cap, rfl, h1, h2, h3, h4, h5⟩
        · exact nil 0 0
        · have hok : ∀ x ∈ l, t'.ok x := fun x hx => h5 x (List.mem_append_left _ hx)
          refine (cloneK L i0 z t'.size i0.bytes hi hz0 hz1 rfl hzs t'.size_pos a l.length cap (l.flatMap t'.enc) w (flat_len_ok t' l hok) (by omega) ?_ ?_ (mem_flat_one t'.enc t'.enc_one l)).mono ?_
          · have := Nat.mul_le_mul hb hby
            omega
          · intro j u hj
            refine h4 j u ?_
            rw [List.flatMap_append, List.getElem?_append_left (List.getElem?_eq_some_iff.1 hj).1]
            exact hj
          · rintro e w' ⟨v', h6, h7, h8⟩
            exact ⟨v', h6, h8, h7, hok⟩
    · cases h
  · cases h
    match vs, hargs with
    | [v], ⟨⟨_, e⟩, _⟩ =>
      simp only [R1, List.cons.injEq, and_true] at e
      subst e
      exact nil 0 0
  · cases h

theorem flat_take (t : Ty) (l : List t.D) (n : Nat) (h : ∀ x ∈ l, t.ok x) : (l.take n).flatMap t.enc = (l.flatMap t.enc).take (n * t.size) := by
  have h1 : l.flatMap t.enc = (l.take n).flatMap t.enc ++ (l.drop n).flatMap t.enc := by rw [← List.flatMap_append, List.take_append_drop]
  have h2 : ((l.take n).flatMap t.enc).length = (l.take n).length * t.size := flat_len_ok t _ fun x hx => h x (List.mem_of_mem_take hx)
  rcases Nat.le_total n l.length with hn | hn
  · rw [h1]
    exact (List.take_left' (by rw [h2, List.length_take, Nat.min_eq_left hn])).symm
  · rw [List.take_of_length_le hn, List.take_of_length_le]
    rw [flat_len_ok t l h]
    exact Nat.mul_le_mul_right _ hn

theorem flat_ins {t : Ty} {l : List t.D} {x : t.D} {i : Nat} (hok : ∀ x ∈ l, t.ok x) (hi : i ≤ l.length) : (insA l i x).flatMap t.enc = (l.flatMap t.enc).take (i * t.size) ++ t.enc x ++ (l.flatMap t.enc).drop (i * t.size) := by
  unfold insA
  rw [List.flatMap_append, List.flatMap_cons, flat_drop t l i hok, flat_take t l i hok]
  simp

theorem eat_insert {k : Nat} {i0 : TypeInfo} {z : Value} (L : InsL P ρ k i0 z) (hC : Callable P (ρ.f 22)) (t : Ty) (hk : k = t.size) :
    Callable P (ρ.f 22) ∧ ∀ (call : CallT) (m : Mem) args (o o' : Own), CallOK P call → gInsert (ρ.t 9) t o (fun f l => call f l (memFor l m)) args = some (true, o') →
    ∀ (σ : Wh) (M : Nat → Prop) (w : World) (v : Value) (vs : List Value) (base : Nat), (∀ g, M g → g < w.heap.size) → base ≤ w.heap.size → F2 (RA w σ M) args vs →
      (∀ b l, getB m b = some l → ∃ c e, w.heap[σ.rs b]? = some (.cells c e (0, 0)) ∧ Rs w σ M l c.toList) →
      w.ownsRow base o.e o.t.size v o.l.length (o.l.flatMap o.t.enc) → (∀ x ∈ o.l, o.t.ok x) → (∀ g, v.ownBlock = some g → M g) →
      Calls P (ρ.f 22) (v :: vs).toArray w fun e w' => ∃ v', e = .returned v' ∧ w.grownBy w' v.ownBlock ∧ w'.ownsRow base o'.e o'.t.size v' o'.l.length (o'.l.flatMap o'.t.enc) ∧ (∀ x ∈ o'.l, o'.t.ok x) ∧
        ∀ g, v'.ownBlock = some g → v.ownBlock = some g ∨ w.heap.size ≤ g := by
  subst hk
  refine ⟨hC, fun call m args o o' _ h σ M w v vs base hM hbase hargs hbox hown hok hMv => ?_⟩
  obtain ⟨oe, ot, ol⟩ := o
  unfold gInsert at h
  split at h
  · rename_i i t' x bs
    split at h
    · rename_i ht
      split at h
      · rename_i ht2
        have ht2' : ot = t := ht2
        subst ht2'
        have ht' : t' = ot := ht
        subst ht'
        split at h
        · rename_i he
          have he : oe = ρ.t 9 := Nat.eq_of_beq_eq_true he
          subst he
          simp only [Option.some.injEq, Prod.mk.injEq, Bool.and_eq_true, decide_eq_true_eq] at h
          obtain ⟨⟨⟨h0, h1⟩, hb⟩, rfl⟩ := h
          have hb := Nat.le_of_ble_eq_true hb
          match vs, hargs with
          | [v1, v2], ⟨⟨_, e1⟩, ⟨_, s, e2, hl⟩, _⟩ =>
            simp only [R1, List.cons.injEq, and_true] at e1
            obtain ⟨rfl, _⟩ := e1
            simp only [List.cons.injEq, and_true] at e2
            subst e2
            rcases hl with ⟨_, hx, _⟩ | ⟨a, cap, rfl, g1, g2, g3, g4, g5⟩
            · cases hx
            · have hxo : t'.ok x := g5 x (by simp)
              have hMa : ¬ M a.block := g3.resolve_left (by simp)
              have hi0 : ((i.toNat : Nat) : Int) = i := by omega
              have hq : i.toNat ≤ ol.length := by
                have : i ≤ (ol.length : Int) := h1
                omega
              have hown' : w.ownsRow base (ρ.t 9) t'.size v ol.length (ol.flatMap t'.enc) := hown
              have hok' : ∀ x ∈ ol, t'.ok x := hok
              have key := ins_own L (base := base) (n := ol.length) (i := i.toNat) (vc := cap) (v := v) (cs := ol.flatMap t'.enc) (vs := t'.enc x) (a := a) (w := w) hown' hbase hq hb (mem_flat_one t'.enc t'.enc_one ol) (t'.enc_one x) (t'.enc_len x hxo) ?_ ?_
              rotate_left
              · intro j u hj
                refine g4 j u ?_
                simp only [List.cons_append, List.nil_append, List.flatMap_cons]
                rw [List.getElem?_append_left (List.getElem?_eq_some_iff.1 hj).1]
                exact hj
              · intro e
                exact hMa (hMv _ e)
              rw [hi0] at key
              refine key.mono ?_
              rintro e w' ⟨v', h6, h7, h8, h9⟩
              refine ⟨v', h6, h7, ?_, ?_, h9⟩
              · have hlen : (insA ol i.toNat x).length = ol.length + 1 := by unfold insA; simp; omega
                show w'.ownsRow base (ρ.t 9) t'.size v' (insA ol i.toNat x).length ((insA ol i.toNat x).flatMap t'.enc)
                rw [hlen, flat_ins hok' hq]
                exact h8
              · intro y hy
                have hy : y ∈ ol.take i.toNat ++ x :: ol.drop i.toNat := hy
                rcases List.mem_append.1 hy with hy | hy
                · exact hok' y (List.mem_of_mem_take hy)
                · rcases List.mem_cons.1 hy with hyx | hy
                  · rw [hyx]; exact hxo
                  · exact hok' y (List.mem_of_mem_drop hy)
        · cases h
      · cases h
    · cases h
  · cases h

theorem del_own {k : Nat} {i0 : TypeInfo} {zc : Array Value} (L : DelL P ρ k i0 (.agg zc)) {base n i j : Nat} {v : Value} {cs : List Value} {w : World} (hown : w.ownsRow base (ρ.t 23) k v n cs) (hij : i < j) (hj : j ≤ n) (h1c : ∀ v ∈ cs, v.oneCell' = true) :
    Calls P (ρ.f 45) #[v, .int .i64 i, .int .i64 j] w fun e w' =>
      ∃ v', e = .returned v' ∧ w.grownBy w' v.ownBlock ∧ w'.ownsRow base (ρ.t 23) k v' (i + (n - j)) (cs.take (i * k) ++ cs.drop (j * k)) ∧ ∀ g, v'.ownBlock = some g → v.ownBlock = some g := by
  rcases hown.2 with ⟨_, hn0⟩ | ⟨g, cap, cur, rfl, hg1, hg2, hg3, hg4, hg5, hg6⟩
  · omega
  · have hcell : ∀ j, w.cell? ⟨g, j, none⟩ = cur[j]? := fun j => by simp [World.cell?, hg2]
    have hcur : cur.toList = cs ++ cur.toList.drop (n * k) := by rw [← hg6, List.take_append_drop]
    have hfz : ∀ o, w.frozen? ⟨g, o, none⟩ = false := fun o => by simp [World.frozen?, hg2]
    have hpq : i * k ≤ j * k := Nat.mul_le_mul_right _ (by omega)
    have hqn : j * k ≤ n * k := Nat.mul_le_mul_right _ (by omega)
    have hnc : n * k ≤ cap * k := Nat.mul_le_mul_right _ hg3
    have hfl := hown.1
    refine (del_raw L g n cap i j cs w hfl hg3 (by unfold maxLen at hg4; omega) (by omega) (by omega) (fun j u hj => by
      rw [hcell, ← Array.getElem?_toList, hcur, List.getElem?_append_left (List.getElem?_eq_some_iff.1 hj).1]
      exact hj) hfz h1c).mono ?_
    rintro e w' ⟨rfl, rfl⟩
    have hdl : (cs.drop (j * k)).length = n * k - j * k := by rw [List.length_drop, hfl]
    have hmul : (i + (n - j)) * k = i * k + (n * k - j * k) := by rw [Nat.add_mul, Nat.sub_mul]
    have hmul2 : (n - (i + (n - j))) * k + (i + (n - j)) * k = n * k := by rw [← Nat.add_mul]; congr 1; omega
    obtain ⟨s1, s2, s3, s4, s5, s6⟩ := take_setCells g (ρ.t 23) (cs.drop (j * k)) cur (i * k) w.drew hg2 (by omega)
    obtain ⟨W1, hW1⟩ : ∃ W1, W1 = w.drew.setCells g (i * k) (cs.drop (j * k)) := ⟨_, rfl⟩
    rw [← hW1] at s1 s2 s3 s4 s5 s6 ⊢
    obtain ⟨Z, hZ⟩ : ∃ Z, Z = (Builtin.zeroCells zc (n - (i + (n - j)))).toList := ⟨_, rfl⟩
    rw [← hZ]
    have hzl : Z.length = (n - (i + (n - j))) * k := by
      have := L.zsize
      simp only [Value.cells] at this
      rw [hZ, Array.length_toList, size_zeroCells', this]
    obtain ⟨R, hR⟩ : ∃ R, R = cur.toList.take (i * k) ++ cs.drop (j * k) ++ cur.toList.drop (i * k + (cs.drop (j * k)).length) := ⟨_, rfl⟩
    rw [← hR] at s1
    have hRl : R.length = cap * k := by
      rw [hR]
      simp only [List.length_append, List.length_take, hdl, List.length_drop, Array.length_toList]
      omega
    obtain ⟨r1, r2, r3, r4, r5, r6⟩ := take_setCells g (ρ.t 23) Z R.toArray ((i + (n - j)) * k) W1 s1 (by rw [List.size_toArray]; omega)
    refine ⟨_, rfl, ⟨by rw [r4]; exact s4, by rw [r5]; exact s5, by rw [r6]; exact s6, by rw [r2, s2]; exact Nat.le_refl _, fun u hu hne => ?_⟩, ⟨?_, .inr ⟨g, cap, _, rfl, hg1, r1, by omega, hg4, ?_, ?_⟩⟩, fun u hu => hu⟩
    · have : u ≠ g := fun e => hne (by rw [e]; rfl)
      rw [r3 u this, s3 u this]; rfl
    · rw [List.length_append, List.length_take, hdl]; omega
    · simp only [List.size_toArray, List.length_append, List.length_take, List.length_drop]
      omega
    · have ht : cur.toList.take (i * k) = cs.take (i * k) := by
        rw [← hg6, List.take_take, Nat.min_eq_left (by omega)]
      have hl1 : (cs.take (i * k)).length = i * k := by rw [List.length_take]; omega
      have hRt : R.take ((i + (n - j)) * k) = cs.take (i * k) ++ cs.drop (j * k) := by
        rw [hR, ht, List.take_append_of_le_length (by rw [List.length_append, hl1, hdl]; omega), List.take_of_length_le (by rw [List.length_append, hl1, hdl]; omega)]
      have hRl2 : (R.take ((i + (n - j)) * k)).length = (i + (n - j)) * k := by rw [List.length_take]; omega
      simp only [List.append_assoc]
      rw [List.take_append_of_le_length (by omega), List.take_of_length_le (by omega), hRt]

theorem eat_delete {k : Nat} {i0 : TypeInfo} {zc : Array Value} (L : DelL P ρ k i0 (.agg zc)) (hC : Callable P (ρ.f 45)) (t : Ty) (hk : k = t.size) :
    Callable P (ρ.f 45) ∧ ∀ (call : CallT) (m : Mem) args (o o' : Own), CallOK P call → gDelete (ρ.t 23) t o (fun f l => call f l (memFor l m)) args = some (true, o') →
    ∀ (σ : Wh) (M : Nat → Prop) (w : World) (v : Value) (vs : List Value) (base : Nat), (∀ g, M g → g < w.heap.size) → base ≤ w.heap.size → F2 (RA w σ M) args vs →
      (∀ b l, getB m b = some l → ∃ c e, w.heap[σ.rs b]? = some (.cells c e (0, 0)) ∧ Rs w σ M l c.toList) →
      w.ownsRow base o.e o.t.size v o.l.length (o.l.flatMap o.t.enc) → (∀ x ∈ o.l, o.t.ok x) → (∀ g, v.ownBlock = some g → M g) →
      Calls P (ρ.f 45) (v :: vs).toArray w fun e w' => ∃ v', e = .returned v' ∧ w.grownBy w' v.ownBlock ∧ w'.ownsRow base o'.e o'.t.size v' o'.l.length (o'.l.flatMap o'.t.enc) ∧ (∀ x ∈ o'.l, o'.t.ok x) ∧
        ∀ g, v'.ownBlock = some g → v.ownBlock = some g ∨ w.heap.size ≤ g := by
  subst hk
  refine ⟨hC, fun call m args o o' _ h σ M w v vs base hM hbase hargs hbox hown hok hMv => ?_⟩
  obtain ⟨oe, ot, ol⟩ := o
  unfold gDelete at h
  split at h
  · rename_i i j
    split at h
    · rename_i ht2
      have ht2' : ot = t := ht2
      subst ht2'
      split at h
      · rename_i he
        have he : oe = ρ.t 23 := Nat.eq_of_beq_eq_true he
        subst he
        simp only [Option.some.injEq, Prod.mk.injEq, decide_eq_true_eq] at h
        obtain ⟨⟨h0, h1, h2⟩, rfl⟩ := h
        match vs, hargs with
        | [v1, v2], ⟨⟨_, e1⟩, ⟨_, e2⟩, _⟩ =>
          simp only [R1, List.cons.injEq, and_true] at e1 e2
          obtain ⟨rfl, _⟩ := e1
          obtain ⟨rfl, _⟩ := e2
          have hi0 : ((i.toNat : Nat) : Int) = i := by omega
          have hj0 : ((j.toNat : Nat) : Int) = j := by omega
          have h2' : j ≤ (ol.length : Int) := h2
          obtain ⟨p, hp⟩ : ∃ p, p = i.toNat := ⟨_, rfl⟩
          obtain ⟨q, hq⟩ : ∃ q, q = j.toNat := ⟨_, rfl⟩
          rw [← hp] at hi0
          rw [← hq] at hj0
          have hown' : w.ownsRow base (ρ.t 23) ot.size v ol.length (ol.flatMap ot.enc) := hown
          have hok' : ∀ x ∈ ol, ot.ok x := hok
          have key := del_own L hown' (i := p) (j := q) (by omega) (by omega) (mem_flat_one ot.enc ot.enc_one ol)
          rw [hi0, hj0] at key
          refine key.mono ?_
          rintro e w' ⟨v', h6, h7, h8, h9⟩
          refine ⟨v', h6, h7, ?_, ?_, fun g hg => .inl (h9 g hg)⟩
          · have hlen : (delA ol p q).length = p + (ol.length - q) := by unfold delA; simp; omega
            have hflat : (delA ol p q).flatMap ot.enc = (ol.flatMap ot.enc).take (p * ot.size) ++ (ol.flatMap ot.enc).drop (q * ot.size) := by
              unfold delA
              rw [List.flatMap_append, flat_drop ot ol q hok', flat_take ot ol p hok']
            show w'.ownsRow base (ρ.t 23) ot.size v' (delA ol i.toNat j.toNat).length ((delA ol i.toNat j.toNat).flatMap ot.enc)
            rw [← hp, ← hq]
            rw [hlen, hflat]
            exact h8
          · intro y hy
            have hy : y ∈ ol.take i.toNat ++ ol.drop j.toNat := hy
            rcases List.mem_append.1 hy with hy | hy
            · exact hok' y (List.mem_of_mem_take hy)
            · exact hok' y (List.mem_of_mem_drop hy)
      · cases h
    · cases h
  · cases h
end

/-! ### environments -/
def withO (E : Env) (f : FuncId) (g : List A → Option (Bool × Own)) : Env := { E with own1 := fun x => if Nat.beq x f then some g else E.own1 x }
def withE (E : Env) (f : FuncId) (g : Own → (FuncId → List A → Option (Bool × A)) → List A → Option (Bool × Own)) : Env := { E with eat := fun x => if Nat.beq x f then some g else E.eat x }

section
variable {P : Program} {E : Env}
theorem AllOK.o (h : AllOK P E) {f : FuncId} {g : List A → Option (Bool × Own)}
    (hg : Callable P f ∧ ∀ args o, g args = some (true, o) → ∀ (σ : Wh) (M : Nat → Prop) (w : World) (vs : List Value), (∀ g, M g → g < w.heap.size) → F2 (RA w σ M) args vs →
      Calls P f vs.toArray w fun e w' => ∃ v, e = .returned v ∧ Below w.heap.size w w' ∧ w'.ownsRow w.heap.size o.e o.t.size v o.l.length (o.l.flatMap o.t.enc) ∧ ∀ x ∈ o.l, o.t.ok x) : AllOK P (withO E f g) :=
  ⟨h.env.same rfl rfl rfl rfl rfl rfl, ⟨by
    intro f' g' hg'
    simp only [withO] at hg'
    split at hg'
    · rename_i e
      have e := Nat.eq_of_beq_eq_true e
      subst e
      cases hg'
      exact hg
    · exact h.own.own1 f' g' hg', h.own.eat⟩, h.sum, h.gam⟩

theorem AllOK.e (h : AllOK P E) {f : FuncId} {g : Own → (FuncId → List A → Option (Bool × A)) → List A → Option (Bool × Own)}
    (hg : Callable P f ∧ ∀ (call : CallT) (m : Mem) args (o o' : Own), CallOK P call → g o (fun f l => call f l (memFor l m)) args = some (true, o') →
    ∀ (σ : Wh) (M : Nat → Prop) (w : World) (v : Value) (vs : List Value) (base : Nat), (∀ g, M g → g < w.heap.size) → base ≤ w.heap.size → F2 (RA w σ M) args vs →
      (∀ b l, getB m b = some l → ∃ c e, w.heap[σ.rs b]? = some (.cells c e (0, 0)) ∧ Rs w σ M l c.toList) →
      w.ownsRow base o.e o.t.size v o.l.length (o.l.flatMap o.t.enc) → (∀ x ∈ o.l, o.t.ok x) → (∀ g, v.ownBlock = some g → M g) →
      Calls P f (v :: vs).toArray w fun e w' => ∃ v', e = .returned v' ∧ w.grownBy w' v.ownBlock ∧ w'.ownsRow base o'.e o'.t.size v' o'.l.length (o'.l.flatMap o'.t.enc) ∧ (∀ x ∈ o'.l, o'.t.ok x) ∧
        ∀ g, v'.ownBlock = some g → v.ownBlock = some g ∨ w.heap.size ≤ g) : AllOK P (withE E f g) :=
  ⟨h.env.same rfl rfl rfl rfl rfl rfl, ⟨h.own.own1, by
    intro f' g' hg'
    simp only [withE] at hg'
    split at hg'
    · rename_i e
      have e := Nat.eq_of_beq_eq_true e
      subst e
      cases hg'
      exact hg
    · exact h.own.eat f' g' hg'⟩, h.sum, h.gam⟩
end
end Ev
end Go.Proofs.YtefjcgbidillhaaGreat
