/- THE OPERATIONS, all of them, in a state. -/
import Derived.Test.YtefjcgbidillhaaGreatEvSC
namespace Go.Proofs.YtefjcgbidillhaaGreat
open Go
open Go.RowKit (Below)
namespace Ev
set_option linter.unusedVariables false

def Res (P : Program) (N : Nat → Prop) (fb : Nat) (w0 : World) (a : Act) (w : World) (s : Sem Next) (x : A) (S' : St) : Prop :=
  (∃ v w' σ', s.run P w = .ok (.value v) w' ∧ Sim N fb w0 σ' S' a w' ∧ RA w' σ' (Mt N fb σ' S'.mem) x v) ∨
  (∃ w' σ', s.run P w = .ok .skip w' ∧ Sim N fb w0 σ' S' a w' ∧ x = .dead) ∨
  (∃ f vs, s.run P w = .ok (.enter f vs) w ∧ Calls P f vs w fun e w' => ∃ v σ', e = .returned v ∧ Sim N fb w0 σ' S' a w' ∧ RA w' σ' (Mt N fb σ' S'.mem) x v)

/-- What is asked of the functions that hand back, or turn, a slice of their own. -/
structure OwnOK (P : Program) (E : Env) : Prop where
  own1 : ∀ f g, E.own1 f = some g → Callable P f ∧ ∀ args o, g args = some (true, o) → ∀ (σ : Wh) (M : Nat → Prop) (w : World) (vs : List Value), (∀ g, M g → g < w.heap.size) → F2 (RA w σ M) args vs →
    Calls P f vs.toArray w fun e w' => ∃ v, e = .returned v ∧ Below w.heap.size w w' ∧ w'.ownsRow w.heap.size o.e o.t.size v o.l.length (o.l.flatMap o.t.enc) ∧ ∀ x ∈ o.l, o.t.ok x
  eat : ∀ f g, E.eat f = some g → Callable P f ∧ ∀ (call : CallT) (m : Mem) args (o o' : Own), CallOK P call → g o (fun f l => call f l (memFor l m)) args = some (true, o') →
    ∀ (σ : Wh) (M : Nat → Prop) (w : World) (v : Value) (vs : List Value) (base : Nat), (∀ g, M g → g < w.heap.size) → base ≤ w.heap.size → F2 (RA w σ M) args vs →
      (∀ b l, getB m b = some l → ∃ c e, w.heap[σ.rs b]? = some (.cells c e (0, 0)) ∧ Rs w σ M l c.toList) →
      w.ownsRow base o.e o.t.size v o.l.length (o.l.flatMap o.t.enc) → (∀ x ∈ o.l, o.t.ok x) → (∀ g, v.ownBlock = some g → M g) →
      Calls P f (v :: vs).toArray w fun e w' => ∃ v', e = .returned v' ∧ w.grownBy w' v.ownBlock ∧ w'.ownsRow base o'.e o'.t.size v' o'.l.length (o'.l.flatMap o'.t.enc) ∧ (∀ x ∈ o'.l, o'.t.ok x) ∧
        ∀ g, v'.ownBlock = some g → v.ownBlock = some g ∨ w.heap.size ≤ g

section
variable {P : Program} {E : Env} {N : Nat → Prop} {fb : Nat} {w0 w w' : World} {σ σ' : Wh} {S : St} {a : Act} {call : CallT}

theorem evalA_all {p : C → Bool} (hv : ∀ v, p (.v v) = true) (hn : p .nils = true) (hf : ∀ f, p (.fn f []) = true) (h : S.all p = true) (x : Operand) : ∀ c ∈ (evalA S x).cells, p c = true := by
  cases x with
  | tmp t =>
    simp only [evalA]
    cases ht : S.tmps[t]? with
    | none =>
      have : S.tmps.getD t .dead = .dead := by simp [List.getD, ht]
      rw [this]; intro c hc; simp [A.cells] at hc
    | some y =>
      have h1 : S.tmps.getD t .dead = y := by simp [List.getD, ht]
      rw [h1]
      exact St.all_tmps h y (List.mem_of_getElem? ht)
  | const v =>
    unfold evalA
    split
    · rename_i h1; cases h1
    · intro c hc; simp [A.cells] at hc; subst hc; exact hn
    · intro c hc; simp [A.cells] at hc
    · intro c hc; simp [A.cells] at hc
    · intro c hc; simp [A.cells] at hc; subst hc; exact hv _
    · rename_i h1; cases h1
    · rename_i h1; cases h1
  | func f => intro c hc; simp [evalA, A.cells] at hc; subst hc; exact hf f
  | global g => intro c hc; simp [evalA, A.cells] at hc

theorem flat_cells {x : A} {l : List C} (h : x.flat = some l) : x.cells = l := by
  cases x <;> simp [A.flat] at h <;> subst h <;> rfl

theorem kill_noOwn (id : Nat) (S : St) : (killO id S).all (·.noOwn id) = true := by
  have hc : ∀ c : C, (c.killOwn id).noOwn id = true := by
    intro c
    cases c <;> simp only [C.killOwn] <;> first | rfl | (split <;> first | rfl | (rename_i h; simp only [C.noOwn, Bool.not_eq_true']; exact Bool.eq_false_iff.2 h))
  simp only [St.all, killO, Bool.and_eq_true, List.all_eq_true]
  constructor
  · intro x hx
    obtain ⟨y, _, rfl⟩ := List.mem_map.1 hx
    refine A.all_of_cells fun c hcc => ?_
    have : ∃ c' : C, c = c'.killOwn id := by
      cases y with
      | s c' => simp [A.map, A.cells] at hcc; exact ⟨c', hcc⟩
      | g l => simp only [A.map, A.cells] at hcc; obtain ⟨c', _, rfl⟩ := List.mem_map.1 hcc; exact ⟨c', rfl⟩
      | t l =>
        simp only [A.map, A.cells] at hcc
        obtain ⟨p, hp, hcc⟩ := List.mem_flatMap.1 hcc
        obtain ⟨q, _, rfl⟩ := List.mem_map.1 hp
        obtain ⟨c', _, rfl⟩ := List.mem_map.1 hcc
        exact ⟨c', rfl⟩
      | dead => simp [A.map, A.cells] at hcc
    obtain ⟨c', rfl⟩ := this
    exact hc c'
  · intro o ho
    obtain ⟨y, _, rfl⟩ := List.mem_map.1 ho
    cases y with
    | none => rfl
    | some l =>
      simp only [Option.map_some, List.all_map]
      exact List.all_eq_true.2 fun c _ => hc c

theorem freezeAll_ok : ∀ (l : List C) {S S' : St}, Sim N fb w0 σ S a w → freezeAll l S = some S' → Sim N fb w0 σ S' a w
  | [], S, S', h, e => by simp [freezeAll] at e; subst e; exact h
  | c :: l, S, S', h, e => by
    simp only [freezeAll] at e
    split at e
    · exact freezeAll_ok l h e
    · split at e
      · rename_i o ho
        exact freezeAll_ok l (h.freeze ho) e
      · exact freezeAll_ok l h e

theorem Res.of_yld (h : Sim N fb w0 σ S a w) {s : Sem Next} {x : A} (hy : Yld P w σ (Mt N fb σ S.mem) s x) : Res P N fb w0 a w s x S := by
  rcases hy with ⟨v, w', h1, h2, h3⟩ | ⟨f, vs, h1, h2⟩
  · exact .inl ⟨v, w', σ, h1, h.grow h3, h2⟩
  · exact .inr (.inr ⟨f, vs, h1, h2.mono fun e w' ⟨v, he, hr, hb⟩ => ⟨v, σ, he, h.grow hb, hr⟩⟩)

theorem ownsRow_base {base base' n k : Nat} {e : TypeId} {v : Value} {xs : List Value} (h : w.ownsRow base e k v n xs) (hb : base' ≤ base) : w.ownsRow base' e k v n xs := by
  refine ⟨h.1, ?_⟩
  rcases h.2 with h2 | ⟨g, cap, cur, hv, hg, r⟩
  · exact .inl h2
  · exact .inr ⟨g, cap, cur, hv, Nat.le_trans hb hg, r⟩

/-- A slice of the call's own that is nil. -/
theorem Sim.nilOwn (h : Sim N fb w0 σ S a w) {id : Nat} (e : TypeId) (t : Ty) (hn : S.all (·.noOwn id) = true) (hid : id < S.mem.owns.length) (ho : getO S.mem id = none) :
    Sim N fb w0 (σ.setV id (.slice none 0 0) t.size) { S with mem := setO S.mem id ⟨e, t, []⟩ } a w ∧ RA w (σ.setV id (.slice none 0 0) t.size) (Mt N fb (σ.setV id (.slice none 0 0) t.size) (setO S.mem id ⟨e, t, []⟩)) (.s (.own id)) (.slice none 0 0) := by
  have := h.newOwn (w' := w) (o := ⟨e, t, []⟩) (v := .slice none 0 0) hn hid (by rintro g ⟨o', h1, _⟩; rw [ho] at h1; cases h1) (by rw [ho]; exact ⟨rfl, rfl, rfl, Nat.le_refl _, fun _ _ _ => rfl⟩)
    (World.ownsRow_nil w _ _ _) (by simp) (by intro g hg; simp [Value.ownBlock] at hg)
  exact this

theorem run_alloc {T : TypeId} {inf : TypeInfo} {z old : Value} (hi : P.info? T = some inf) (hz : inf.zero = some z) :
    (Instr.alloc T true old).run P w = .ok (.pointer (some ⟨w.heap.size, 0, none⟩)) (w.alloc (.cells z.cells T)) := by
  simp [Instr.alloc, zeroValue, typeInfo, hi, hz, newVar, newRow]

theorem all_setO {p : C → Bool} {S : St} (h : S.all p = true) (m : Mem) (hb : m.boxes = S.mem.boxes) : St.all p { S with mem := m } = true := by
  simpa [St.all, hb] using h

/-- Where an append has put its row: where it was, or in a new block. -/
theorem append_block {base : Nat} (t ty e : TypeId) (i : TypeInfo) (z : Value) (size : Nat) (ht : P.underlying t = some (.slice e)) (hi : P.info? e = some i) (hz : i.zero = some z) (hsize : i.size = size)
    (v : Value) (n : Nat) (xs : List Value) (hown : w.ownsRow base e size v n xs) (p : Addr) (m c : Nat) (news : List Value) (hl : news.length = m * size) (hnews : ∀ j u, news[j]? = some u → w.cell? (p.add j) = some u) (h1 : ∀ u ∈ news, u.oneCell' = true)
    (h63 : n + m ≤ maxLen) (hbytes : (n + m) * i.bytes ≤ 140737488355328) : ∀ v' w', (Builtin.append_ #[t, t] ty #[v, .slice (some p) m c]).run P w = .ok v' w' → ∀ g, v'.ownBlock = some g → v.ownBlock = some g ∨ w.heap.size ≤ g := by
  subst hsize
  intro v' w' hr g hg
  have hsmall : n + m ≤ 9223372036854775807 := by simp only [maxLen] at h63; omega
  rcases hown.2 with ⟨rfl, rfl⟩ | ⟨g', cap, cur, rfl, hbg, hgg, hnc, hcm, hcs, htake⟩
  · by_cases hm : m = 0
    · subst hm
      have hn : news = [] := List.eq_nil_of_length_eq_zero (by simpa using hl)
      subst hn
      simp [Builtin.append_, run_underlying ht, sizeOf, typeInfo, hi, Builtin.lenOf, Builtin.firstCells, loadCells, loadCellsFrom] at hr
      obtain ⟨rfl, _⟩ := hr
      simp [Value.ownBlock] at hg
    · have hr2 := run_append_nil (P := P) w t ty e i z ht hi hz p m c news hl hnews (by omega) (by omega) (by have hb := hbytes; simp only [Nat.zero_add] at hb; omega)
      rw [hr2] at hr
      simp only [Result.ok.injEq] at hr
      obtain ⟨rfl, _⟩ := hr
      simp [Value.ownBlock] at hg
      right; omega
  · by_cases hroom : n + m ≤ cap
    · have hfit : n * i.size + news.length ≤ cur.size := by rw [hl, hcs, ← Nat.add_mul]; exact Nat.mul_le_mul_right _ hroom
      have hr2 := run_append_room (P := P) w t ty e i ht hi g' n cap cur hgg p m c news hl hnews h1 hroom hfit
      rw [hr2] at hr
      simp only [Result.ok.injEq] at hr
      obtain ⟨rfl, _⟩ := hr
      exact .inl hg
    · have holds : ∀ j u, xs[j]? = some u → w.cell? ((⟨g', 0, none⟩ : Addr).add j) = some u := hown.cells (g := g') rfl
      have hr2 := run_append_grow (P := P) w t ty e i z ht hi hz ⟨g', 0, none⟩ n cap xs hown.1 holds p m c news hl hnews (by omega) (by omega) (growslice_fits (by omega) hbytes)
      rw [hr2] at hr
      simp only [Result.ok.injEq] at hr
      obtain ⟨rfl, _⟩ := hr
      simp [Value.ownBlock] at hg
      right; omega

theorem opA_ok (hE : EnvOK P E) (hO : OwnOK P E) (hc : CallOK P call) (h : Sim N fb w0 σ S a w) {o : Oper} {id : Nat} {x : A} {S' : St} (ho : opA E call fb id o S = some (true, (x, S'))) : Res P N fb w0 a w (execOp a.eval o) x S' := by
  have plain : ∀ {y}, (valA E call S.mem (evalA S) o).map (fun x => (guardA E call S.mem (evalA S) o, (x, S))) = some (true, (y, S')) → Res P N fb w0 a w (execOp a.eval o) y S' := by
    intro y hy
    obtain ⟨z, hz, e⟩ := Option.map_eq_some_iff.1 hy
    simp only [Prod.mk.injEq] at e
    obtain ⟨hb, rfl, rfl⟩ := e
    exact .of_yld h (valA_ok hE hc h.memOK h.mt_lt (evalA_ok h) hz hb)
  obtain ⟨dst, op, ty, pos, aft, gd⟩ := o
  cases op <;> simp only [opA] at ho <;> first | exact plain ho | skip
  case assign y =>
    split at ho
    · rename_i hy
      split at ho
      · rename_i e t ht
        split at ho
        · rename_i hcond
          simp only [Bool.and_eq_true] at hcond
          obtain ⟨⟨⟨h1, h2⟩, h3⟩, h4⟩ := hcond
          simp only [Option.some.injEq, Prod.mk.injEq, true_and] at ho
          obtain ⟨rfl, rfl⟩ := ho
          have hv := evalA_ok h y
          rw [hy] at hv
          obtain ⟨_, hv⟩ := hv
          simp only [R1, List.cons.injEq, and_true] at hv
          obtain ⟨g1, g2⟩ := h.nilOwn e t h1 (Nat.le_of_ble_eq_true h3) (by simpa using h4)
          exact .inl ⟨_, w, _, by simp [execOp, hv], g1, g2⟩
        · cases ho
      · cases ho
    · simp only [Option.some.injEq, Prod.mk.injEq, true_and] at ho
      obtain ⟨rfl, rfl⟩ := ho
      exact .inl ⟨a.eval y, w, σ, by simp [execOp], h, evalA_ok h y⟩
  case store T ad y =>
    split at ho
    · rename_i ti p l ht hp hl
      obtain ⟨m', hs, e⟩ := Option.map_eq_some_iff.1 ho
      cases e
      have h1 := evalA_ok h ad
      rw [hp] at h1
      obtain ⟨q, w', h2, h3, h4, h5⟩ := storeP_ok (P := P) h hs h1 (flat_ok hl (evalA_ok h y))
      obtain ⟨inf, hi, hsz, _⟩ := hE.tab T ti ht
      refine .inr (.inl ⟨w', σ, ?_, h5, rfl⟩)
      have hne : ¬ ((a.eval y).cells.size ≠ inf.size) := by rw [hsz, ← h3]; simp
      simp only [execOp, h2, Instr.storeAt, Instr.sureAddr, Sem.run_bind, Sem.run_pure, Result.andThen_ok, storeVar, run_sizeOf hi]
      rw [if_neg hne]
      simp [h4]
    · cases ho
  case box T y =>
    split at ho
    · rename_i ti l ht hl
      split at ho
      · rename_i hcond
        simp only [Bool.and_eq_true] at hcond
        obtain ⟨⟨h1, h2⟩, h3⟩ := hcond
        simp only [Option.some.injEq, Prod.mk.injEq, true_and] at ho
        obtain ⟨rfl, rfl⟩ := ho
        have hcells := evalA_all (fun _ => rfl) rfl (fun _ => rfl) h1 y
        rw [flat_cells hl] at hcells
        obtain ⟨g1, g2⟩ := h.newBox T h1 (Nat.le_of_ble_eq_true h2) (Nat.le_of_ble_eq_true h3) (flat_ok hl (evalA_ok h y)) hcells
        exact .inl ⟨_, _, _, by simp [execOp, Instr.box, newVar, newRow], g1, g2⟩
      · cases ho
    · cases ho
  case alloc T =>
    split at ho
    · rename_i z e t ht
      split at ho
      · rename_i hcond
        simp only [Bool.and_eq_true] at hcond
        obtain ⟨⟨⟨⟨⟨h1, h2⟩, h3⟩, h4⟩, h5⟩, h6⟩ := hcond
        simp only [Option.some.injEq, Prod.mk.injEq, true_and] at ho
        obtain ⟨rfl, rfl⟩ := ho
        obtain ⟨inf, hi, _, hu, hz, _⟩ := hE.tab T _ ht
        obtain ⟨g1, g2⟩ := h.nilOwn e t h2 (Nat.le_of_ble_eq_true h5) (by simpa using h6)
        obtain ⟨g3, g4⟩ := g1.newBox (id := id) (l := [.own id]) (c := #[.slice none 0 0]) T (all_setO h1 _ rfl) (Nat.le_of_ble_eq_true h3) (Nat.le_of_ble_eq_true h4)
          (Rs_single.2 g2.2) (by intro c hc; simp at hc; subst hc; rfl)
        exact .inl ⟨_, _, _, by simp only [execOp]; rw [Sem.run_bind, run_alloc hi hz]; rfl, g3, g4⟩
      · cases ho
    · rename_i ti l hne ht hz
      split at ho
      · rename_i hcond
        simp only [Bool.and_eq_true] at hcond
        obtain ⟨⟨h1, h2⟩, h3⟩ := hcond
        simp only [Option.some.injEq, Prod.mk.injEq, true_and] at ho
        obtain ⟨rfl, rfl⟩ := ho
        obtain ⟨inf, z, hi, hzz, hr, hnb⟩ := hE.zero T l hz
        obtain ⟨g1, g2⟩ := h.newBox T h1 (Nat.le_of_ble_eq_true h2) (Nat.le_of_ble_eq_true h3) (hr w σ _) (fun c hc => hnb c hc id)
        exact .inl ⟨_, _, _, by simp only [execOp]; rw [Sem.run_bind, run_alloc hi hzz]; rfl, g1, g2⟩
      · cases ho
    · cases ho
  case makeSlice T n c =>
    split at ho
    · rename_i e t n' c' ht hn hc'
      split at ho
      · rename_i hcond
        simp only [Bool.and_eq_true] at hcond
        obtain ⟨⟨⟨h1, h2⟩, h3⟩, h4⟩ := hcond
        · simp only [Option.some.injEq, Prod.mk.injEq] at ho
          obtain ⟨hb, rfl, rfl⟩ := ho
          simp only [Bool.and_eq_true, decide_eq_true_eq] at hb
          obtain ⟨inf, hi, _, hu, _, ie, z, hie, hes, hby, hez, hec⟩ := hE.tab T _ ht
          obtain ⟨k1, e1⟩ := natOf_ok hn (evalA_ok h n)
          obtain ⟨k2, e2⟩ := natOf_ok hc' (evalA_ok h c)
          have hcn : c'.toNat ≤ 1000000 := by omega
          have hbytes : (ie.bytes : Int) * c' ≤ 281474976710656 := by
            have h7 : ie.bytes * c'.toNat ≤ 1000 * 1000000 := Nat.mul_le_mul hby hcn
            have h8 : (c'.toNat : Int) = c' := by omega
            rw [← h8, ← Int.natCast_mul]
            omega
          have hrun := run_make (P := P) w T e ie z hu hie hez k1 k2 n' c' hb.1 hb.2.1 hbytes (by omega)
          have hmade := made_flat t z.cells hec c'.toNat
          have hlt : n'.toNat ≤ c'.toNat := by omega
          obtain ⟨g1, g2⟩ := h.newOwn (id := id) (o := ⟨e, t, List.replicate n'.toNat t.zero⟩) (v := .slice (some ⟨w.heap.size, 0, none⟩) n'.toNat c'.toNat) (w' := w.alloc (.cells (madeCells z.cells (c'.toNat * t.size)) e)) h1 (Nat.le_of_ble_eq_true h3)
            (by rintro g ⟨o', h9, _⟩; rw [show getO S.mem id = none by simpa using h4] at h9; cases h9)
            (by rw [show getO S.mem id = none by simpa using h4]; exact World.grownBy_alloc w _ none)
            ⟨by rw [flat_len_ok t _ (by intro x hx; rw [List.eq_of_mem_replicate hx]; exact t.zero_ok)], .inr ⟨w.heap.size, c'.toNat, _, by simp, h.below.size, heap_alloc_new w _, by simpa using hlt, by simp only [maxLen]; omega, size_madeCells _ _, by
              rw [hmade]
              have e3 : List.replicate c'.toNat t.zero = List.replicate n'.toNat t.zero ++ List.replicate (c'.toNat - n'.toNat) t.zero := by
                rw [List.replicate_append_replicate]; congr 1; omega
              rw [e3, List.flatMap_append, List.take_left']
              rw [flat_len_ok t _ (by intro x hx; rw [List.eq_of_mem_replicate hx]; exact t.zero_ok)]⟩⟩
            (by intro x hx; rw [List.eq_of_mem_replicate hx]; exact t.zero_ok)
            (by intro g hg; simp [Value.ownBlock] at hg; left; omega)
          refine .inl ⟨_, _, _, ?_, g1, g2⟩
          simp only [execOp, e1, e2]
          rw [Sem.run_bind, hrun, hes]
          rfl
      · cases ho
    · cases ho
  case call c =>
    obtain ⟨callee, args, tys⟩ := c
    simp only at ho
    split at ho
    · -- append
      split at ho
      · rename_i i y T T' hargs htys
        split at ho
        · rename_i q e t hoi ht
          split at ho
          · rename_i hcond
            simp only [Bool.and_eq_true] at hcond
            obtain ⟨⟨⟨h1, h2⟩, h3⟩, hts⟩ := hcond
            have h1 := Nat.eq_of_beq_eq_true h1
            have h2 := Nat.eq_of_beq_eq_true h2
            have hts := Nat.eq_of_beq_eq_true hts
            subst h1
            split at ho
            · rename_i l hl
              · simp only [Option.some.injEq, Prod.mk.injEq] at ho
                obtain ⟨hbig, rfl, rfl⟩ := ho
                have hbig := Nat.le_of_ble_eq_true hbig
                unfold big at hbig
                obtain ⟨inf, hi, _, hu, _, ie, z, hie, hes, hby, hez, hec⟩ := hE.tab T _ ht
                obtain ⟨al⟩ := args
                simp only [List.map_eq_cons_iff] at hargs
                obtain ⟨o1, l1, rfl, hy1, o2, l2, rfl, hy2, hl2⟩ := hargs
                simp only [List.map_eq_nil_iff] at hl2
                subst hl2
                have htys' : tys = #[T, T] := by simpa using congrArg List.toArray htys
                subst htys'
                have r1 := evalA_ok h o1
                have r2 := evalA_ok h o2
                rw [hy1] at r1
                rw [hy2] at r2
                obtain ⟨_, r1, _⟩ := r1
                simp only [List.cons.injEq, and_true] at r1
                obtain ⟨hown, hsz, hok⟩ := h.own i q hoi
                have hid := getO_lt hoi
                -- what is appended
                have key : ∃ v' w', (Builtin.append_ #[T, T] ty #[a.eval o1, a.eval o2]).run P w = .ok v' w' ∧ w'.ownsRow w0.heap.size q.e q.t.size v' (q.l ++ l).length ((q.l ++ l).flatMap q.t.enc) ∧ w.grownBy w' (σ.ov i).ownBlock ∧ (∀ x ∈ q.l ++ l, q.t.ok x) ∧ (∀ g, v'.ownBlock = some g → (σ.ov i).ownBlock = some g ∨ w.heap.size ≤ g) := by
                  have nilcase : a.eval o2 = .slice none 0 0 → l = [] → ∃ v' w', (Builtin.append_ #[T, T] ty #[a.eval o1, a.eval o2]).run P w = .ok v' w' ∧ w'.ownsRow w0.heap.size q.e q.t.size v' (q.l ++ l).length ((q.l ++ l).flatMap q.t.enc) ∧ w.grownBy w' (σ.ov i).ownBlock ∧ (∀ x ∈ q.l ++ l, q.t.ok x) ∧ (∀ g, v'.ownBlock = some g → (σ.ov i).ownBlock = some g ∨ w.heap.size ≤ g) := by
                    intro e2 el
                    subst el
                    have hr := run_append_owned_none (P := P) (w := w) (base := w0.heap.size) T ty e ie q.t.size hu hie (σ.ov i) q.l.length (q.l.flatMap q.t.enc) (by rw [← h2]; exact hown)
                    exact ⟨_, _, by rw [r1, e2]; exact hr, by simpa using hown, ⟨rfl, rfl, rfl, Nat.le_refl _, fun _ _ _ => rfl⟩, by simpa using hok, fun g hg => .inl hg⟩
                  split at hl
                  · simp only [Option.some.injEq] at hl
                    obtain ⟨_, r2⟩ := r2
                    simp only [R1, List.cons.injEq, and_true] at r2
                    exact nilcase r2 hl.symm
                  · split at hl
                    · rename_i t' l' hlist
                      split at hl
                      · rename_i htt
                        subst htt
                        simp only [Option.some.injEq] at hl
                        subst hl
                        obtain ⟨hokl, hcells⟩ := listOf_ok h.memOK hlist r2
                        rcases hcells with ⟨e2, rfl⟩ | ⟨p, cap, e2, hcells⟩
                        · exact nilcase e2 rfl
                        · have hblk := append_block (P := P) (w := w) T ty e ie z q.t.size hu hie hez (by rw [hes, hts]) (σ.ov i) q.l.length (q.l.flatMap q.t.enc) (by rw [← h2]; exact hown) p l'.length cap (l'.flatMap q.t.enc) (flat_len_ok q.t l' hokl) hcells (mem_flat_one q.t.enc q.t.enc_one l') (by simp only [maxLen]; omega) (by
                              have h7 : (q.l.length + l'.length) * ie.bytes ≤ 1000000 * 1000 := Nat.mul_le_mul hbig hby
                              omega)
                          obtain ⟨v', w', g1, g2, g3, _⟩ := run_append_own (P := P) w w0.heap.size T ty e ie z q.t.size ie.bytes hu hie hez (by rw [hes, hts]) rfl (by rw [← hts, ← t.enc_len t.zero t.zero_ok, ← hec]; simp) q.t.size_pos (σ.ov i) q.l.length (q.l.flatMap q.t.enc) (by rw [← h2]; exact hown) p l'.length cap (l'.flatMap q.t.enc) (flat_len_ok q.t l' hokl) hcells (mem_flat_one q.t.enc q.t.enc_one l')
                            (by simp only [maxLen]; omega) (by
                              have h7 : (q.l.length + l'.length) * ie.bytes ≤ 1000000 * 1000 := Nat.mul_le_mul hbig hby
                              omega) h.below.size
                          refine ⟨v', w', by rw [r1, e2]; exact g1, ?_, g3, ?_, fun g hg => hblk v' w' g1 g hg⟩
                          · rw [List.length_append, List.flatMap_append, h2]; exact g2
                          · intro x hx
                            rcases List.mem_append.1 hx with hx | hx
                            · exact hok x hx
                            · exact hokl x hx
                      · cases hl
                    · cases hl
                obtain ⟨v', w', g1, g2, g3, g4, g5⟩ := key
                have hk := h.kill i
                have hoi' : getO (killO i S).mem i = some q := hoi
                obtain ⟨f1, f2⟩ := hk.newOwn (w' := w') (id := i) (o := ⟨q.e, q.t, q.l ++ l⟩) (v := v') (kill_noOwn i S) hid
                  (by rintro g ⟨o', h8, h9⟩; rw [hoi'] at h8; cases h8; exact (ownBlock_lt hown h9).1)
                  (by rw [hoi']; exact g3) g2 g4
                  (by
                    intro g hg
                    rcases g5 g hg with h8 | h8
                    · exact .inr ⟨q, hoi', h8⟩
                    · exact .inl h8)
                exact .inl ⟨v', w', _, by simp [execOp, resolve, invoke, builtin, g1], f1, f2⟩
            · cases ho
          · cases ho
        · cases ho
      · cases ho
    · rename_i cf
      split at ho
      · rename_i f cap hf
        have hfv := evalA_ok h cf
        rw [hf] at hfv
        obtain ⟨_, hfv⟩ := hfv
        simp only [R1, List.cons.injEq, and_true] at hfv
        split at ho
        · rename_i g hg
          split at ho
          · rename_i x r hxr
            split at ho
            · rename_i S1 hfr
              have h1 := freezeAll_ok _ h hfr
              split at ho
              · rename_i i hx
                split at ho
                · rename_i q hq
                  split at ho
                  · rename_i hcond
                    simp only [Bool.and_eq_true] at hcond
                    obtain ⟨⟨hno, hlo⟩, hcap⟩ := hcond
                    split at ho
                    · rename_i b q' hq'
                      simp only [Option.some.injEq, Prod.mk.injEq] at ho
                      obtain ⟨rfl, rfl, rfl⟩ := ho
                      obtain ⟨hcall, hspec⟩ := hO.eat f g hg
                      have hcap : cap = [] := by simpa using hcap
                      subst hcap
                      obtain ⟨hown, hsz, hok⟩ := h1.own i q hq
                      have rx := evalA_ok h1 x
                      rw [hx] at rx
                      obtain ⟨_, rx, _⟩ := rx
                      simp only [List.cons.injEq, and_true] at rx
                      have hargs : args = #[x] ++ r.toArray := by
                        obtain ⟨al⟩ := args
                        simp only at hxr
                        subst hxr
                        simp
                      have hcalls := hspec call S1.mem _ q q' hc hq' σ (Mt N fb σ S1.mem) w (σ.ov i) (r.map a.eval) w0.heap.size h1.mt_lt h1.below.size (F2_map_of _ _ (evalA_ok h1) r) h1.box hown hok
                        (fun g hg => .inr (.inr ⟨i, q, hq, hg⟩))
                      refine .inr (.inr ⟨f, _, ?_, hcalls.mono ?_⟩)
                      · simp only [execOp, resolve, hfv, Deferred.ofValue, Sem.run_bind, Sem.run_pure, Result.andThen_ok, invoke]
                        rw [run_callFunc hcall]
                        congr 2
                        rw [hargs]
                        simp [rx]
                      · rintro e w' ⟨v', rfl, g1, g2, g3, g4⟩
                        have hk := h1.kill i
                        have hoi' : getO (killO i S1).mem i = some q := hq
                        obtain ⟨f1, f2⟩ := hk.newOwn (w' := w') (id := i) (o := q') (v := v') (kill_noOwn i S1) (getO_lt hq)
                          (by rintro g ⟨o', h8, h9⟩; rw [hoi'] at h8; cases h8; exact (ownBlock_lt hown h9).1)
                          (by rw [hoi']; exact g1) g2 g3
                          (by
                            intro g hg
                            rcases g4 g hg with h8 | h8
                            · exact .inr ⟨q, hoi', h8⟩
                            · exact .inl h8)
                        exact ⟨v', _, rfl, f1, f2⟩
                    · cases ho
                  · cases ho
                · cases ho
              · cases ho
            · cases ho
          · cases ho
        · split at ho
          · cases ho
          · rename_i S1 hfr
            have h1 := freezeAll_ok _ h hfr
            split at ho
            · rename_i hno
              have hl2 : F2 (RA w σ (Mt N fb σ S1.mem)) (args.toList.map (evalA S1)) (args.toList.map a.eval) := F2_map_of _ _ (evalA_ok h1) _
              split at ho
              · rename_i g hg
                split at ho
                · rename_i b q hq
                  split at ho
                  · rename_i hcond
                    simp only [Bool.and_eq_true] at hcond
                    obtain ⟨⟨⟨⟨k1, k2⟩, k3⟩, hcap⟩, k4⟩ := hcond
                    simp only [Option.some.injEq, Prod.mk.injEq] at ho
                    obtain ⟨rfl, rfl, rfl⟩ := ho
                    have hcap : cap = [] := by simpa using hcap
                    subst hcap
                    have k4 : getO S1.mem id = none := by simpa using k4
                    obtain ⟨hcall, hspec⟩ := hO.own1 f g hg
                    have hcalls := hspec _ q hq σ (Mt N fb σ S1.mem) w _ h1.mt_lt hl2
                    refine .inr (.inr ⟨f, _, ?_, hcalls.mono ?_⟩)
                    · simp only [execOp, resolve, hfv, Deferred.ofValue, Sem.run_bind, Sem.run_pure, Result.andThen_ok, invoke]
                      rw [run_callFunc hcall]
                      congr 2
                      have he : (args.toList.map a.eval).toArray = args.map a.eval := by rw [← Array.toList_map, Array.toArray_toList]
                      rw [he]
                      simp
                    · rintro e w' ⟨v, rfl, hb, hrow, hok⟩
                      obtain ⟨f1, f2⟩ := h1.newOwn (w' := w') (id := id) (o := q) (v := v) k1 (Nat.le_of_ble_eq_true k3)
                        (by rintro g ⟨o', h8, _⟩; rw [k4] at h8; cases h8)
                        (by rw [k4]; exact ⟨hb.os, hb.tape, hb.output, hb.size, fun k hk _ => hb.block k hk⟩)
                        (ownsRow_base hrow h1.below.size) hok (fun g hg => .inl (hrow.lt g hg).1)
                      exact ⟨v, _, rfl, f1, f2⟩
                  · cases ho
                · cases ho
              · obtain ⟨⟨b, y⟩, hy, e⟩ := Option.map_eq_some_iff.1 ho
                simp only [Prod.mk.injEq] at e
                obtain ⟨rfl, rfl, rfl⟩ := e
                obtain ⟨us, h3, h4⟩ := callA_ok (args := args) (tys := tys) (ty := ty) hc h1.box h1.mt_lt hy hl2 hfv (by rw [← Array.toList_map, Array.toArray_toList])
                exact .inr (.inr ⟨f, us, by simp only [execOp]; exact h3, h4.mono fun e w' ⟨v, he, hr, hb⟩ => ⟨v, σ, he, h1.grow hb, hr⟩⟩)
            · cases ho
      · cases ho
    · exact plain ho

end
end Ev
end Go.Proofs.YtefjcgbidillhaaGreat
