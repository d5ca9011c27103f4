/- A REGION THAT DRAWS ITS ORDER: the run follows the evaluator, whatever order the tape picks. -/
import Derived.Test.YtefjcgbidillhaaGreatEvOD
namespace Go.Proofs.YtefjcgbidillhaaGreat
open Go
open Go.RowKit (Below)
namespace Ev
set_option linter.unusedVariables false

theorem pairsOK_get : ∀ (l : List Oper) (k i j : Nat) (oi oj : Oper), pairsOK k l = true → l[i]? = some oi → l[j]? = some oj → i < j → pairOK (k + i) oi oj = true
  | [], _, i, _, _, _, _, hi, _, _ => by simp at hi
  | o :: l, k, i, j, oi, oj, h, hi, hj, hij => by
    simp only [pairsOK, Bool.and_eq_true, List.all_eq_true] at h
    obtain ⟨j, rfl⟩ : ∃ j', j = j' + 1 := ⟨j - 1, by omega⟩
    cases i with
    | zero =>
      simp at hi hj; subst hi
      exact h.1 oj (List.mem_of_getElem? hj)
    | succ i =>
      have := pairsOK_get l (k + 1) i j oi oj h.2 (by simpa using hi) (by simpa using hj) (by omega)
      rwa [show k + 1 + i = k + (i + 1) by omega] at this

theorem nodupB_get {α : Type} (g : α → Option Nat) : ∀ (l : List α) (i j : Nat) (x y : α) (a b : Nat), nodupB (l.filterMap g) = true → l[i]? = some x → l[j]? = some y → g x = some a → g y = some b → i < j → a ≠ b
  | [], i, _, _, _, _, _, _, hi, _, _, _, _ => by simp at hi
  | z :: l, i, j, x, y, a, b, h, hi, hj, hx, hy, hij => by
    obtain ⟨j, rfl⟩ : ∃ j', j = j' + 1 := ⟨j - 1, by omega⟩
    cases i with
    | zero =>
      simp at hi hj; subst hi
      rw [List.filterMap_cons_some hx] at h
      simp only [nodupB, Bool.and_eq_true, Bool.not_eq_true', List.elem_eq_mem, decide_eq_false_iff_not] at h
      intro e
      subst e
      exact h.1 (List.mem_filterMap.2 ⟨y, List.mem_of_getElem? hj, hy⟩)
    | succ i =>
      refine nodupB_get g l i j x y a b ?_ (by simpa using hi) (by simpa using hj) hx hy (by omega)
      cases hz : g z with
      | none => rwa [List.filterMap_cons_none hz] at h
      | some c =>
        rw [List.filterMap_cons_some hz] at h
        simp only [nodupB, Bool.and_eq_true] at h
        exact h.2

/-- What is asked of a region. -/
structure DReg (fb : Nat) (ops : Array Oper) (ids : List Nat) (m0 : Mem) : Prop where
  pair : ∀ i j oi oj, ops[i]? = some oi → ops[j]? = some oj → i < j → pairOK i oi oj = true
  dst : ∀ (j : Nat) (o : Oper), ops[j]? = some o → makes o = true → o.dst.isSome = true
  mem : ∀ (j : Nat) (o : Oper), ops[j]? = some o → makes o = true → (fb + o.dst.getD 0) ∈ ids
  ne : ∀ (i j : Nat) (x y : Oper), ops[i]? = some x → ops[j]? = some y → makes x = true → makes y = true → i ≠ j → fb + x.dst.getD 0 ≠ fb + y.dst.getD 0
  none : ∀ id ∈ ids, getB m0 id = Option.none

structure DInv (fb : Nat) (ops : Array Oper) (m0 : Mem) (listed : Array Bool) (S : St) : Prop where
  size : listed.size = ops.size
  closed : ∀ (j : Nat) (oj : Oper), ops[j]? = some oj → listed.getD j true = true → ∀ e ∈ oj.after, Region.binds .any e = true → listed.getD e.on false = true
  mem : (∀ (j : Nat) (oj : Oper), ops[j]? = some oj → writes oj = true → listed.getD j true = false) → S.mem.owns = m0.owns ∧ S.mem.boxes.length = m0.boxes.length ∧ ∀ b l, getB m0 b = some l → getB S.mem b = some l
  fresh : ∀ (j : Nat) (oj : Oper), ops[j]? = some oj → makes oj = true → listed.getD j true = false → S.all (C.noBox (fb + oj.dst.getD 0)) = true

section
variable {P : Program} {E : Env} {N : Nat → Prop} {fb : Nat} {w0 w w' : World} {σ σ' : Wh} {S S' : St} {a : Act} {call : CallT} {ops : Array Oper} {ids : List Nat} {m0 : Mem} {listed : Array Bool}

theorem not_listed {i : Nat} (h : listed.getD i true = false) : listed.getD i false = false := by
  rcases Nat.lt_or_ge i listed.size with h' | h'
  · simp [h'] at h ⊢; exact h
  · simp [Array.getElem?_eq_none h'] at h

theorem waitsFor_spec {oj : Oper} {i : Nat} (h : waitsFor oj i = true) : ∃ e ∈ oj.after, Region.binds .any e = true ∧ e.on = i := by
  obtain ⟨e, he, hb⟩ := Array.any_eq_true'.1 h
  simp only [Bool.and_eq_true, beq_iff_eq] at hb
  exact ⟨e, he, hb.1, hb.2⟩

/-- What reads or makes comes before all that writes. -/
theorem none_written (hD : DReg fb ops ids m0) (hI : DInv fb ops m0 listed S) {i : Nat} {o : Oper} (hi : ops[i]? = some o) (hr : listed.getD i true = false) (hk : reads o = true ∨ makes o = true ∨ writes o = true) :
    ∀ (j : Nat) (oj : Oper), j ≠ i → ops[j]? = some oj → writes oj = true → (reads o = true ∨ makes o = true ∨ i < j) → listed.getD j true = false := by
  intro j oj hji hj hw hc
  cases hl : listed.getD j true with
  | false => rfl
  | true =>
    rcases Nat.lt_or_ge i j with hij | hij
    · have hp := hD.pair i j o oj hi hj hij
      simp only [pairOK, Bool.and_eq_true, Bool.or_eq_true, Bool.not_eq_true'] at hp
      rcases hp.2 with h1 | h1
      · obtain ⟨e, he, hb, hon⟩ := waitsFor_spec h1
        have := hI.closed j oj hj hl e he hb
        rw [hon, not_listed hr] at this
        cases this
      · rcases hk with hk | hk | hk <;> simp [hw, hk] at h1
    · have hp := hD.pair j i oj o hj hi (by omega)
      simp only [pairOK, Bool.and_eq_true, Bool.or_eq_true, Bool.not_eq_true'] at hp
      have h1 := hp.1
      rcases hc with hk | hk | hk
      · simp [hw, hk] at h1
      · simp [hw, hk] at h1
      · omega

theorem noBox_eval {id : Nat} (h : S.all (C.noBox id) = true) (x : Operand) : (evalA S x).all (C.noBox id) = true :=
  A.all_of_cells (evalA_all (fun _ => rfl) rfl (fun _ => rfl) h x)

theorem all_putA {p : C → Bool} (h : S.all p = true) {x : A} (hx : x.all p = true) (d : Option Tmp) : (putA d x S).all p = true := by
  cases d with
  | none => exact h
  | some d =>
    simp only [St.all, putA, Bool.and_eq_true, List.all_eq_true] at h ⊢
    refine ⟨fun y hy => ?_, h.2⟩
    rcases List.mem_or_eq_of_mem_set hy with h1 | rfl
    · exact h.1 y h1
    · exact hx

theorem all_setB {p : C → Bool} (h : S.all p = true) {l : List C} (hl : ∀ c ∈ l, p c = true) (id : Nat) : St.all p { S with mem := setB S.mem id l } = true := by
  simp only [St.all, setB, Bool.and_eq_true, List.all_eq_true] at h ⊢
  refine ⟨h.1, fun y hy => ?_⟩
  rcases List.mem_or_eq_of_mem_set hy with h1 | rfl
  · exact h.2 y h1
  · exact List.all_eq_true.2 hl

theorem effD_make (hE : EnvOK P E) {id id' : Nat} {o : Oper} {x : A} {f : Option (Mem → Option Mem)} (h : effD E call fb id m0 (evalA S) o = some (x, f)) (hm : makes o = true) (hs : S.all (C.noBox id') = true) :
    ∃ l, f = some (fun m => some (setB m id l)) ∧ x = .s (.ptr id 0) ∧ (∀ c ∈ l, C.noBox id' c = true) ∧ fb ≤ id ∧ id < m0.boxes.length ∧
      (S.all (C.noBox id) = true → S.mem.boxes.length = m0.boxes.length → opA E call fb id o S = some (true, (x, { S with mem := setB S.mem id l }))) := by
  obtain ⟨dst, op, type, pos, after, guard⟩ := o
  cases op <;> simp only [makes] at hm <;> first | (cases hm; done) | skip
  case box T y =>
    simp only [effD] at h
    split at h
    · rename_i ti l ht hl
      split at h
      · rename_i hcond
        cases h
        simp only [Bool.and_eq_true] at hcond
        refine ⟨l, rfl, rfl, ?_, Nat.le_of_ble_eq_true hcond.1, Nat.le_of_ble_eq_true hcond.2, ?_⟩
        · have := evalA_all (fun _ => rfl) rfl (fun _ => rfl) hs y
          rwa [flat_cells hl] at this
        · intro h1 h2
          simp only [opA, ht, hl, h1, h2, hcond.1, hcond.2, Bool.and_self, if_true]
      · cases h
    · cases h
  case alloc T =>
    simp only [effD] at h
    split at h
    · cases h
    · rename_i ti l ht hl hz
      split at h
      · rename_i hcond
        cases h
        simp only [Bool.and_eq_true] at hcond
        obtain ⟨inf, z, hi, hzz, _, hnb⟩ := hE.zero T _ hz
        refine ⟨_, rfl, rfl, fun c hc => hnb c hc _, Nat.le_of_ble_eq_true hcond.1, Nat.le_of_ble_eq_true hcond.2, ?_⟩
        intro h1 h2
        cases ti <;> first
          | exact absurd rfl (ht _ _)
          | simp only [opA, hl, hz, h1, h2, hcond.1, hcond.2, Bool.and_self, if_true]
      · cases h
    · cases h

theorem effD_store {id : Nat} {o : Oper} {x : A} {f : Option (Mem → Option Mem)} {m : Mem} (h : effD E call fb id m0 (evalA S) o = some (x, f)) (hw : writes o = true) (hm : memD f S.mem = some m) : opA E call fb id o S = some (true, (x, { S with mem := m })) := by
  obtain ⟨dst, op, type, pos, after, guard⟩ := o
  cases op <;> simp only [writes] at hw <;> first | (cases hw; done) | skip
  case store T ad y =>
    simp only [effD] at h
    split at h
    · rename_i ti p l ht hp hl
      cases h
      simp only [memD] at hm
      simp only [opA, ht, hp, hl, hm, Option.map_some]
    · cases h

theorem not_both {o : Oper} (h : writes o = true) : makes o = false ∧ reads o = false := by
  obtain ⟨dst, op, type, pos, after, guard⟩ := o
  cases op <;> simp only [writes] at h <;> first | (cases h; done) | exact ⟨rfl, rfl⟩

theorem draw_step (hE : EnvOK P E) (hO : OwnOK P E) (hc : CallOK P call) (h : Sim N fb w0 σ S a w) (hD : DReg fb ops ids m0) (hI : DInv fb ops m0 listed S) {i : Nat} {o : Oper} (hi : ops[i]? = some o)
    (hr : i ∈ Region.ready .any ops listed) (hg : gdA (stepD E call fb ids m0) ops o S = some S') :
    (∀ (K : Act → World → Prop) (Q : Exit → Act → World → Prop), (∀ σ' a' w', Sim N fb w0 σ' S' a' w' → K a' w') → wpOp P ops Q i K a w) ∧ DInv fb ops m0 (listed.setIfInBounds i true) S' := by
  obtain ⟨hun, o', ho', hready⟩ := mem_ready.1 hr
  rw [hi] at ho'
  cases ho'
  have hsz : i < listed.size := by rw [hI.size]; exact (Array.getElem?_eq_some_iff.1 hi).1
  have hclosed : ∀ (j : Nat) (oj : Oper), ops[j]? = some oj → (listed.setIfInBounds i true).getD j true = true → ∀ e ∈ oj.after, Region.binds .any e = true → (listed.setIfInBounds i true).getD e.on false = true := by
    intro j oj hj hl e he hb
    by_cases hij : i = j
    · subst hij
      rw [hi] at hj; cases hj
      exact getD_set_true (hready e he hb)
    · rw [getD_set_ne true hij] at hl
      exact getD_set_true (hI.closed j oj hj hl e he hb)
  have hset : ∀ j, (listed.setIfInBounds i true).getD j true = false → j ≠ i ∧ listed.getD j true = false := by
    intro j hj
    by_cases hij : i = j
    · subst hij; simp [hsz] at hj
    · rw [getD_set_ne true hij] at hj
      exact ⟨Ne.symm hij, hj⟩
  have hsize : (listed.setIfInBounds i true).size = ops.size := by simpa using hI.size
  have hnw : (∀ (j : Nat) (oj : Oper), ops[j]? = some oj → writes oj = true → (listed.setIfInBounds i true).getD j true = false) → writes o = false ∧ ∀ (j : Nat) (oj : Oper), ops[j]? = some oj → writes oj = true → listed.getD j true = false := by
    intro hn
    refine ⟨?_, fun j oj hj hw => (hset j (hn j oj hj hw)).2⟩
    cases hw : writes o with
    | false => rfl
    | true => exact absurd rfl (hset i (hn i o hi hw)).1
  simp only [gdA] at hg
  split at hg
  · cases hg
  · rename_i hw
    have hwant := wantA_ok h hw
    split at hg
    case h_2 => cases hg
    rename_i S2 hg2
    simp only [Option.some.injEq] at hg
    subst hg
    have hg := hg2
    clear hg2
    simp only [stepD] at hg
    split at hg
    · cases hg
    · rename_i x f hx
      split at hg
      · rename_i hfrom
        split at hg
        · cases hg
        · rename_i m hm
          simp only [Option.some.injEq, Prod.mk.injEq] at hg
          obtain ⟨hgd, rfl⟩ := hg
          have wpOf : Res P N fb w0 a w (execOp a.eval o) x { S with mem := m } → ∀ (K : Act → World → Prop) (Q : Exit → Act → World → Prop), (∀ σ' a' w', Sim N fb w0 σ' (putA o.dst x { S with mem := m }) a' w' → K a' w') → wpOp P ops Q i K a w := by
            intro hres K Q hK
            unfold wpOp
            simp only [hi, hwant, if_true]
            exact .inl (wp_of_res hres hK)
          -- what it is
          rcases effD_form hx with ⟨rfl, hw1, hm1, hval⟩ | hw1 | ⟨hm1, _⟩
          · simp only [memD, Option.some.injEq] at hm
            subst hm
            refine ⟨wpOf ?_, hsize, hclosed, ?_, ?_⟩
            · refine .of_yld h ?_
              cases hrd : reads o with
              | false =>
                rw [valA_noread (m0 := ⟨[], []⟩) o hrd] at hval
                exact valA_ok (base := 0) hE hc ⟨fun b l hb => by simp [getB] at hb, fun i o hb => by simp [getO] at hb⟩ h.mt_lt (evalA_ok h) hval (by rw [guardA_noread (m0 := m0) o hrd]; exact hgd)
              | true =>
                obtain ⟨q1, _, q2⟩ := hI.mem fun j oj hj hwj => by
                  refine none_written hD hI hi hun (.inl hrd) j oj ?_ hj hwj (.inl hrd)
                  intro e; subst e
                  rw [hi] at hj; cases hj
                  rw [hw1] at hwj; cases hwj
                have hmo := h.memOK
                refine valA_ok (base := w0.heap.size) hE hc ⟨fun b l hb => hmo.box b l (q2 b l hb), fun id o hb => hmo.own id o ?_⟩ h.mt_lt (evalA_ok h) hval hgd
                unfold getO at hb ⊢
                rw [q1]; exact hb
            · intro hn
              rw [putA_mem]
              exact hI.mem (hnw hn).2
            · intro j oj hj hmj hlj
              obtain ⟨hne, hlj⟩ := hset j hlj
              have hf := hI.fresh j oj hj hmj hlj
              refine all_putA hf ?_ _
              simp only [fromOps, hm1, Bool.false_or, List.all_eq_true, Bool.or_eq_true, List.any_eq_true] at hfrom
              rcases hfrom _ (hD.mem j oj hj hmj) with h1 | ⟨y, _, h1⟩
              · exact h1
              · rw [noBox_eval hf y] at h1; cases h1
          · obtain ⟨hm1, hrd⟩ := not_both hw1
            refine ⟨wpOf (opA_ok hE hO hc h (effD_store hx hw1 hm)), hsize, hclosed, ?_, ?_⟩
            · intro hn
              rw [(hnw hn).1] at hw1; cases hw1
            · intro j oj hj hmj hlj
              obtain ⟨hne, hlj⟩ := hset j hlj
              exfalso
              rcases Nat.lt_or_ge i j with hij | hij
              · have hp := hD.pair i j o oj hi hj hij
                simp [pairOK, hw1, hmj] at hp
              · have hp := hD.pair j i oj o hj hi (by omega)
                simp only [pairOK, Bool.and_eq_true, Bool.or_eq_true, Bool.not_eq_true'] at hp
                rcases hp.2 with h1 | h1
                · obtain ⟨e, he, hb, hon⟩ := waitsFor_spec h1
                  have := hready e he hb
                  rw [hon, not_listed hlj] at this
                  cases this
                · simp [hw1, hmj] at h1
          · have hfi := hI.fresh i o hi hm1 hun
            obtain ⟨q1, q2, q3⟩ := hI.mem fun j oj hj hwj => by
              refine none_written hD hI hi hun (.inr (.inl hm1)) j oj ?_ hj hwj (.inr (.inl hm1))
              intro e; subst e
              rw [hi] at hj; cases hj
              rw [(not_both hwj).1] at hm1; cases hm1
            obtain ⟨l, rfl, rfl, hnb, hlo, hlt, hop⟩ := effD_make hE hx hm1 hfi
            simp only [memD, Option.some.injEq] at hm
            subst hm
            refine ⟨wpOf (opA_ok hE hO hc h (hop hfi q2)), hsize, hclosed, ?_, ?_⟩
            · intro _
              rw [putA_mem]
              refine ⟨q1, by simpa [setB] using q2, fun b l' hb => ?_⟩
              rw [getB_setB _ _ _ _ (by rw [q2]; exact hlt)]
              have : b ≠ fb + o.dst.getD 0 := by
                intro e
                subst e
                rw [hD.none _ (hD.mem i o hi hm1)] at hb
                cases hb
              rw [if_neg this]
              exact q3 b l' hb
            · intro j oj hj hmj hlj
              obtain ⟨hne, hlj⟩ := hset j hlj
              have hf := hI.fresh j oj hj hmj hlj
              obtain ⟨l2, e2, _, hnb2, _⟩ := effD_make hE hx hm1 hf
              have hl2 : setB S.mem (fb + o.dst.getD 0) l = setB S.mem (fb + o.dst.getD 0) l2 := by
                have := congrFun (Option.some.inj e2) S.mem
                simpa using this
              rw [hl2]
              refine all_putA (all_setB hf hnb2 _) ?_ _
              have := hD.ne i j o oj hi hj hm1 hmj (Ne.symm hne)
              simp only [A.all, C.noBox, Bool.not_eq_true']
              exact Bool.eq_false_iff.2 fun he => this (Nat.eq_of_beq_eq_true he)
      · cases hg
  · rename_i hw
    have hwant := wantA_ok h hw
    simp only [Option.some.injEq] at hg
    subst hg
    refine ⟨fun K Q hK => ?_, hsize, hclosed, ?_, ?_⟩
    · unfold wpOp
      simp only [hi, hwant, Bool.false_eq_true, if_false]
      exact hK σ _ w (h.put (x := .dead) trivial o.dst)
    · intro hn
      rw [putA_mem]
      exact hI.mem (hnw hn).2
    · intro j oj hj hmj hlj
      exact all_putA (hI.fresh j oj hj hmj (hset j hlj).2) rfl _

theorem wpAny_ok (hE : EnvOK P E) (hO : OwnOK P E) (hc : CallOK P call) (hD : DReg fb ops ids m0) {Sf : St} {Q : Exit → Act → World → Prop} (hQ : ∀ σ a w, Sim N fb w0 σ Sf a w → Q .normal a w) :
    ∀ (fuel : Nat) (listed : Array Bool) (S : St) (a : Act) (w : World) (σ : Wh), Sim N fb w0 σ S a w → DInv fb ops m0 listed S → AnyA ops (stepD E call fb ids m0) Sf fuel listed S → wpAny P .any ops Q fuel listed a w
  | 0, _, S, a, w, σ, h, hI, hA => ⟨hA.1, by obtain ⟨_, rfl⟩ := hA; exact hQ σ a w h⟩
  | fuel + 1, listed, S, a, w, σ, h, hI, hA => by
    refine ⟨fun h0 => by have := hA.1 h0; subst this; exact hQ σ a w h, fun i hi => ?_⟩
    obtain ⟨o, S', ho, hg, hA'⟩ := hA.2 i hi
    obtain ⟨h1, h2⟩ := draw_step hE hO hc h hD hI ho hi hg
    exact h1 _ _ fun σ' a' w' h' => wpAny_ok hE hO hc hD hQ fuel _ S' a' w' σ' h' h2 hA'

theorem getB_erase : ∀ (ids : List Nat) (m : Mem) (b : Nat) (l : List C), getB (eraseB ids m) b = some l → getB m b = some l ∧ b ∉ ids
  | [], m, b, l, h => ⟨by simpa [eraseB, getB] using h, by simp⟩
  | id :: ids, m, b, l, h => by
    have h2 : getB (eraseB (id :: ids) m) b = if b = id then none else getB (eraseB ids m) b := by
      unfold getB eraseB
      simp only [List.foldr_cons, List.getElem?_set]
      by_cases e : id = b
      · subst e
        simp only [if_true]
        split <;> simp
      · simp [e, Ne.symm e]
    rw [h2] at h
    split at h
    · cases h
    · rename_i hne
      obtain ⟨h3, h4⟩ := getB_erase ids m b l h
      exact ⟨h3, by simp [hne, h4]⟩

theorem Sim.erase (h : Sim N fb w0 σ S a w) (ids : List Nat) : Sim N fb w0 σ { S with mem := eraseB ids S.mem } a w :=
  h.less (F2_refl_less _) (fun b l hb => (getB_erase ids S.mem b l hb).1) fun i o ho => ho

/-! ### The quick look at a region -/
theorem fastFrom_get {base dl n : Nat} : ∀ (l : List Oper) (k j : Nat) (o : Oper), fastFrom base dl n k l = true → l[j]? = some o → fastOp base dl n (k + j) o = true
  | [], _, _, _, _, h => by simp at h
  | x :: l, k, 0, o, hf, h => by
    simp only [fastFrom, Bool.and_eq_true] at hf
    simp only [List.getElem?_cons_zero, Option.some.injEq] at h
    subst h; exact hf.1
  | x :: l, k, j + 1, o, hf, h => by
    simp only [fastFrom, Bool.and_eq_true] at hf
    rw [List.getElem?_cons_succ] at h
    have := fastFrom_get l (k + 1) j o hf.2 h
    rwa [show k + 1 + j = k + (j + 1) by omega] at this

structure FastS (base dl n k : Nat) (o : Oper) : Prop where
  nw : writes o = false
  dst : ∀ d : Nat, o.dst = some d → d = base + k ∨ (k + 1 = n ∧ d = dl ∧ dl < base)
  aft : ∀ e ∈ o.after, Region.binds .any e = true → e.on < k
  look : ∀ u ∈ lookF base o, u ≠ dl ∧ (u < base ∨ (u < base + k ∧ ∃ e ∈ o.after, Region.binds .any e = true ∧ e.on = u - base))
  grd : ∀ g b, o.guard = some (g, b) → g < k

theorem fastOp_spec {base dl n k : Nat} {o : Oper} (h : fastOp base dl n k o = true) : FastS base dl n k o := by
  simp only [fastOp, Bool.and_eq_true] at h
  obtain ⟨⟨⟨⟨h1, h2⟩, h3⟩, h4⟩, h5⟩ := h
  refine ⟨by simpa using h1, fun d hd => ?_, fun e he hb => ?_, fun u hu => ?_, fun g b hg => ?_⟩
  · rw [hd] at h2
    simp only [Bool.or_eq_true, Bool.and_eq_true, Nat.beq_eq, Nat.ble_eq] at h2
    rcases h2 with h2 | ⟨⟨h2, h2'⟩, h2''⟩
    · exact .inl h2
    · exact .inr ⟨h2, h2', h2''⟩
  · have := List.all_eq_true.1 h3 e (by simpa using he)
    simp only [hb, Bool.not_true, Bool.false_or, Nat.ble_eq] at this
    exact this
  · have := List.all_eq_true.1 h4 u hu
    simp only [Bool.and_eq_true, Bool.or_eq_true, Bool.not_eq_true', Nat.ble_eq, List.any_eq_true] at this
    refine ⟨fun hc => ?_, ?_⟩
    · have h6 := this.1
      rw [hc, show Nat.beq dl dl = true from Nat.beq_refl dl] at h6
      cases h6
    · rcases this.2 with h6 | ⟨h6, e, he, hb, heq⟩
      · exact .inl h6
      · exact .inr ⟨h6, e, by simpa using he, hb, Nat.eq_of_beq_eq_true heq⟩
  · rw [hg] at h5
    exact Nat.le_of_ble_eq_true h5

theorem fast_apart {base dl n : Nat} {ops : Array Oper} (hn : n = ops.size) (hF : ∀ j o, ops[j]? = some o → FastS base dl n j o) {i j : Nat} {x y : Oper} (hi : ops[i]? = some x) (hj : ops[j]? = some y) (hij : i < j)
    (hno : ∀ e ∈ y.after, Region.binds .any e = true → e.on ≠ i) : x.apart ops y = true := by
  have hX := hF i x hi
  have hY := hF j y hj
  have hjn : j < n := by rw [hn]; exact (Array.getElem?_eq_some_iff.1 hj).1
  have hlook : ∀ (k : Nat) (o : Oper), ops[k]? = some o → ∀ u ∈ o.looksAt ops, u ∈ lookF base o := by
    intro k o ho u hu
    unfold Oper.looksAt at hu
    unfold lookF
    rw [List.mem_append] at hu ⊢
    rcases hu with hu | hu
    · exact .inl hu
    · refine .inr ?_
      split at hu
      · rename_i g b hg
        rw [hg]
        have hgk := (hF k o ho).grd g b hg
        have hkn : k < n := by rw [hn]; exact (Array.getElem?_eq_some_iff.1 ho).1
        simp only [Option.mem_toList, Option.mem_def, Option.bind_eq_some_iff] at hu
        obtain ⟨p, hp, hd⟩ := hu
        rcases (hF g p hp).dst u hd with h1 | ⟨h1, _, _⟩
        · simp [h1]
        · omega
      · cases hu
  unfold Oper.apart
  rw [Bool.and_eq_true]
  constructor
  · cases hd : x.dst with
    | none => rfl
    | some d =>
      have hdx : @Eq Nat d (base + i) := by
        rcases hX.dst d hd with h1 | ⟨h1, _, _⟩
        · exact h1
        · omega
      simp only [Bool.and_eq_true, Bool.not_eq_true', bne_iff_ne, ne_eq]
      constructor
      · rw [← Bool.not_eq_true]
        intro hc
        rw [List.contains_iff_mem] at hc
        obtain ⟨_, h2⟩ := hY.look d (hlook j y hj d hc)
        rcases h2 with h2 | ⟨_, e, he, hb, heq⟩
        · omega
        · exact hno e he hb (by omega)
      · intro hc
        rcases hY.dst d hc with h1 | ⟨_, h1, h2⟩ <;> omega
  · cases hd : y.dst with
    | none => rfl
    | some d =>
      simp only [Bool.not_eq_true']
      rw [← Bool.not_eq_true]
      intro hc
      rw [List.contains_iff_mem] at hc
      obtain ⟨h1, h2⟩ := hX.look d (hlook i x hi d hc)
      rcases hY.dst d hd with h3 | ⟨_, h3, h4⟩
      · rcases h2 with h2 | ⟨h2, _⟩ <;> omega
      · exact h1 h3

theorem fast_lex {base dl n : Nat} {ops : Array Oper} (hn : n = ops.size) (hF : ∀ j o, ops[j]? = some o → FastS base dl n j o) : ∀ (fuel k : Nat) (listed : Array Bool), fuel + k = n → listed.size = n →
    (∀ j, j < n → listed[j]? = some (decide (j < k))) → Region.lexFrom .any ops fuel k listed = true
  | 0, k, listed, h, hs, hl => by
    simp only [Region.lexFrom, List.isEmpty_iff]
    refine List.eq_nil_iff_forall_not_mem.2 fun j hj => ?_
    obtain ⟨h1, o, ho, _⟩ := mem_ready.1 hj
    have hjn : j < n := by rw [hn]; exact (Array.getElem?_eq_some_iff.1 ho).1
    have := hl j hjn
    rw [Array.getD_eq_getD_getElem?, this] at h1
    simp at h1
    omega
  | fuel + 1, k, listed, h, hs, hl => by
    have hk : k < n := by omega
    obtain ⟨o, ho⟩ : ∃ o, ops[k]? = some o := ⟨ops[k]'(by omega), Array.getElem?_eq_getElem _⟩
    simp only [Region.lexFrom, Bool.and_eq_true]
    refine ⟨⟨?_, ?_⟩, fast_lex hn hF fuel (k + 1) _ (by omega) (by simp [hs]) fun j hj => ?_⟩
    · rw [List.contains_iff_mem]
      refine mem_ready.2 ⟨by rw [Array.getD_eq_getD_getElem?, hl k hk]; simp, o, ho, fun e he hb => ?_⟩
      have := (hF k o ho).aft e he hb
      rw [Array.getD_eq_getD_getElem?, hl e.on (by omega)]
      simpa using this
    · simp only [Region.free, ho, List.all_eq_true, List.mem_range]
      intro j hj
      have hjn : j < n := by omega
      simp only [Bool.or_eq_true, beq_iff_eq]
      rcases Nat.lt_trichotomy j k with h1 | h1 | h1
      · refine .inl (.inr ?_)
        rw [Array.getD_eq_getD_getElem?, hl j hjn]
        simpa using h1
      · exact .inl (.inl h1)
      · refine .inr ?_
        have hoj : ops[j]? = some (ops[j]'hj) := Array.getElem?_eq_getElem hj
        rw [hoj]
        simp only [Bool.or_eq_true]
        by_cases hw : (ops[j]'hj).after.any (fun e => Region.binds .any e && e.on == k) = true
        · exact .inl hw
        · refine .inr (fast_apart hn hF ho hoj h1 fun e he hb heq => hw ?_)
          rw [Array.any_eq_true']
          exact ⟨e, he, by simp [hb, heq]⟩
    · rw [Array.getElem?_setIfInBounds]
      split
      · rename_i hkj
        subst hkj
        simp [hs, hk]
      · rename_i hkj
        rw [hl j hj]
        congr 1
        have hne : j ≠ k := fun h => hkj h.symm
        rw [decide_eq_decide]
        omega

theorem pairsOK_of {l : List Oper} (h : ∀ o ∈ l, writes o = false) : ∀ k, pairsOK k l = true := by
  induction l with
  | nil => intro k; rfl
  | cons x l ih =>
    intro k
    simp only [pairsOK, Bool.and_eq_true, List.all_eq_true]
    refine ⟨fun y hy => ?_, ih (fun o ho => h o (List.mem_cons_of_mem _ ho)) _⟩
    simp [pairOK, h x (List.mem_cons_self ..), h y (List.mem_cons_of_mem _ hy)]

theorem drawOK_spec {ops : Array Oper} (h : drawOK ops = true) : Region.lexFrom .any ops ops.size 0 (Array.replicate ops.size false) = true ∧ pairsOK 0 ops.toList = true := by
  unfold drawOK at h
  split at h
  · rename_i hf
    unfold fastB at hf
    split at hf
    · cases hf
    · rename_i o r hl
      split at hf
      · cases hf
      · rename_i base hb
        simp only at hf
        have hn : r.length + 1 = ops.size := by rw [← Array.length_toList, hl]; simp
        have hF := fun (j : Nat) (o' : Oper) (ho : ops[j]? = some o') => fastOp_spec (Nat.zero_add j ▸ fastFrom_get _ 0 j o' hf (by rw [← hl]; simpa using ho))
        refine ⟨fast_lex hn hF ops.size 0 _ (by omega) (by simp [hn]) (fun j hj => by rw [Array.getElem?_replicate, if_pos (by omega)]; simp), pairsOK_of (fun o' ho' => ?_) 0⟩
        obtain ⟨j, hj⟩ := List.getElem?_of_mem ho'
        exact (hF j o' (by simpa using hj)).nw
  · simp only [drawSlow, Region.lexB, Bool.and_eq_true] at h
    exact ⟨h.1.2, h.2⟩

theorem region_draw_ok {R : Type} {x : R} {k : St → Option R} (hE : EnvOK P E) (hO : OwnOK P E) (hc : CallOK P call) (h : Sim N fb w0 σ S a w) {id : Nat} {Q : Exit → Act → World → Prop} (hd : drawOK ops = true)
    (hf : freshD fb ops { S with mem := eraseB (madeD fb ops) S.mem } = true)
    (hk : evG (stepD E call fb (madeD fb ops) (eraseB (madeD fb ops) S.mem)) ops ops.toList { S with mem := eraseB (madeD fb ops) S.mem } k = some x)
    (hQ : ∀ σ' S' a' w', Sim N fb w0 σ' S' a' w' → k S' = some x → Q .normal a' w') : (Code.region id ops true).wp P Q a w := by
  obtain ⟨Sf, h1, h2⟩ := evG_fold _ _ hk
  have hd := drawOK_spec hd
  simp only [freshD, Bool.and_eq_true, List.all_eq_true, Bool.or_eq_true, Bool.not_eq_true'] at hf
  have hall : ∀ (j : Nat) (o : Oper), ops[j]? = some o → makes o = true → o.dst.isSome = true ∧ St.all (C.noBox (fb + o.dst.getD 0)) { S with mem := eraseB (madeD fb ops) S.mem } = true := by
    intro j o hj hm
    rcases hf.2 o (by simpa using Array.mem_of_getElem? hj) with h3 | h3
    · rw [hm] at h3; cases h3
    · exact h3
  have hg : ∀ (j : Nat) (o : Oper), ops[j]? = some o → makes o = true → (fun o : Oper => if makes o then o.dst.map (fb + ·) else none) o = some (fb + o.dst.getD 0) := by
    intro j o hj hm
    obtain ⟨d, hd⟩ := Option.isSome_iff_exists.1 (hall j o hj hm).1
    simp [hm, hd]
  have hD : DReg fb ops (madeD fb ops) (eraseB (madeD fb ops) S.mem) := {
    pair := fun i j oi oj hi hj hij => by simpa using pairsOK_get ops.toList 0 i j oi oj hd.2 (by simpa using hi) (by simpa using hj) hij
    dst := fun j o hj hm => (hall j o hj hm).1
    mem := fun j o hj hm => List.mem_filterMap.2 ⟨o, by simpa using Array.mem_of_getElem? hj, hg j o hj hm⟩
    ne := fun i j x y hi hj hx hy hij => by
      rcases Nat.lt_or_ge i j with h' | h'
      · exact nodupB_get _ ops.toList i j x y _ _ hf.1 (by simpa using hi) (by simpa using hj) (hg i x hi hx) (hg j y hj hy) h'
      · exact Ne.symm (nodupB_get _ ops.toList j i y x _ _ hf.1 (by simpa using hj) (by simpa using hi) (hg j y hj hy) (hg i x hi hx) (by omega))
    none := fun id hid => by
      cases hb : getB (eraseB (madeD fb ops) S.mem) id with
      | none => rfl
      | some l => exact absurd hid (getB_erase _ _ _ _ hb).2 }
  have h' := (h.erase (madeD fb ops)).grow (w' := { w with drawn := w.drawn + 1 }) ⟨rfl, rfl, rfl, Nat.le_refl _, fun _ _ => rfl⟩
  refine wp_region_any hE.mixed ?_
  have hA := anyA_lex (step := stepD E call fb (madeD fb ops) (eraseB (madeD fb ops) S.mem)) (Sf := Sf) (ops := ops) ?_ ops.toList 0 (Array.replicate ops.size false) _ (by simp) (by intro j hj; omega) (by simpa using hd.1) h1
  · refine wpAny_ok hE hO hc hD (Sf := Sf) (fun σ' a' w' hs => hQ σ' Sf a' w' hs h2) ops.size (Array.replicate ops.size false) _ a _ σ h' ?_ (by simpa using hA)
    refine ⟨by simp, ?_, fun _ => ⟨rfl, rfl, fun _ _ hb => hb⟩, fun j o hj hm _ => (hall j o hj hm).2⟩
    intro j o hj hl
    have : j < ops.size := (Array.getElem?_eq_some_iff.1 hj).1
    simp [this] at hl
  · intro i oi j oj hi hj hij hno hap
    have hp := hD.pair i j oi oj hi hj hij
    simp only [pairOK, Bool.and_eq_true, Bool.or_eq_true, Bool.not_eq_true'] at hp
    refine commS_of hap (hD.dst i oi hi) (hD.dst j oj hj) hp.1 ?_
    rcases hp.2 with h3 | h3
    · obtain ⟨e, he, hb, hon⟩ := waitsFor_spec h3
      exact absurd hon (hno e he hb)
    · exact h3

end
end Ev
end Go.Proofs.YtefjcgbidillhaaGreat
