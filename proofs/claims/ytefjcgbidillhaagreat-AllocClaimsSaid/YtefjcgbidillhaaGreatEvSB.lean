/- New boxes, new owned slices, stores, slices that are let go. -/
import Derived.Test.YtefjcgbidillhaaGreatEvSA
namespace Go.Proofs.YtefjcgbidillhaaGreat
open Go
open Go.RowKit (Below)
namespace Ev
set_option linter.unusedVariables false

section
variable {P : Program} {E : Env} {N : Nat → Prop} {fb : Nat} {w0 w w' : World} {σ σ' : Wh} {S : St} {a : Act}

theorem keeps_alloc {M M' : Nat → Prop} (o : Obj) (hM : ∀ g, g < w.heap.size → M' g → M g) : Keeps w M (w.alloc o) M' :=
  ⟨fun ad had _ => World.cell?_alloc_lt _ _ _ had, hM⟩

/-- A new box. -/
theorem Sim.newBox (h : Sim N fb w0 σ S a w) {id : Nat} {l : List C} {c : Array Value} (e : TypeId) (hn : S.all (·.noBox id) = true) (hlo : fb ≤ id) (hid : id < S.mem.boxes.length)
    (hl : Rs w σ (Mt N fb σ S.mem) l c.toList) (hln : ∀ x ∈ l, C.noBox id x = true) :
    Sim N fb w0 (σ.setR id w.heap.size) { S with mem := setB S.mem id l } a (w.alloc (.cells c e)) ∧
      RA (w.alloc (.cells c e)) (σ.setR id w.heap.size) (Mt N fb (σ.setR id w.heap.size) (setB S.mem id l)) (.s (.ptr id 0)) (.pointer (some ⟨w.heap.size, 0, none⟩)) := by
  have hM : ∀ g, g < w.heap.size → Mt N fb (σ.setR id w.heap.size) (setB S.mem id l) g → Mt N fb σ S.mem g := by
    intro g hg hm
    rcases hm with hm | ⟨b, l', h1, h2, h3⟩ | ⟨i, o, h1, h2⟩
    · exact .inl hm
    · rw [getB_setB _ _ _ _ hid] at h2
      by_cases hb : b = id
      · subst hb
        simp [Wh.setR] at h3
        omega
      · rw [if_neg hb] at h2
        simp [Wh.setR, hb] at h3
        exact .inr (.inl ⟨b, l', h1, h2, h3⟩)
    · exact .inr (.inr ⟨i, o, h1, h2⟩)
  have k : Keeps w (Mt N fb σ S.mem) (w.alloc (.cells c e)) (Mt N fb (σ.setR id w.heap.size) (setB S.mem id l)) := keeps_alloc _ hM
  have hnew : (w.alloc (.cells c e)).heap[w.heap.size]? = some (.cells c e (0, 0)) := heap_alloc_new w _
  refine ⟨?_, rfl, by simp [R1, Wh.setR]⟩
  exact {
    defers := h.defers
    tmps := h.tmps.mono fun x hx v hv => RA_keep hv k fun c' hc' => agree_setR σ id _ c' (St.all_tmps hn x hx c' hc')
    box := fun b l' hl' => by
      simp only at hl'
      rw [getB_setB _ _ _ _ hid] at hl'
      by_cases hb : b = id
      · subst hb
        simp at hl'
        subst hl'
        refine ⟨c, e, by simpa [Wh.setR] using hnew, Rs_keep hl k fun c' hc' => agree_setR σ b _ c' (hln c' hc')⟩
      · rw [if_neg hb] at hl'
        obtain ⟨c', e', hc, hr⟩ := h.box b l' hl'
        refine ⟨c', e', ?_, Rs_keep hr k fun c'' hc'' => agree_setR σ id _ c'' (St.all_box hn b l' hl' c'' hc'')⟩
        simp only [Wh.setR, if_neg hb]
        rw [heap_alloc_old w _ _ (heap_lt hc)]
        exact hc
    bnew := fun b l' hl' hb0 => by
      simp only at hl'
      rw [getB_setB _ _ _ _ hid] at hl'
      by_cases hb : b = id
      · subst hb; simp [Wh.setR]; exact h.below.size
      · rw [if_neg hb] at hl'; simp only [Wh.setR, if_neg hb]; exact h.bnew b l' hl' hb0
    bold := fun b l' hl' hb0 => by
      simp only at hl'
      rw [getB_setB _ _ _ _ hid] at hl'
      by_cases hb : b = id
      · omega
      · rw [if_neg hb] at hl'; simp only [Wh.setR, if_neg hb]; exact h.bold b l' hl' hb0
    binj := fun b b' l1 l2 h1 h2 hb0 hb0' he => by
      simp only at h1 h2
      rw [getB_setB _ _ _ _ hid] at h1 h2
      by_cases hb : b = id <;> by_cases hb' : b' = id
      · rw [hb, hb']
      · rw [if_neg hb'] at h2
        simp only [Wh.setR, hb, if_true, if_neg hb'] at he
        obtain ⟨_, _, hc, _⟩ := h.box b' l2 h2
        have := heap_lt hc
        omega
      · rw [if_neg hb] at h1
        simp only [Wh.setR, hb', if_true, if_neg hb] at he
        obtain ⟨_, _, hc, _⟩ := h.box b l1 h1
        have := heap_lt hc
        omega
      · rw [if_neg hb] at h1
        rw [if_neg hb'] at h2
        simp only [Wh.setR, if_neg hb, if_neg hb'] at he
        exact h.binj b b' l1 l2 h1 h2 hb0 hb0' he
    own := fun i o ho => ⟨(h.own i o ho).1.alloc _, (h.own i o ho).2⟩
    oinj := h.oinj
    sep := fun b l' i o g hl' ho hb0 hg he => by
      simp only at hl'
      rw [getB_setB _ _ _ _ hid] at hl'
      by_cases hb : b = id
      · subst hb
        simp [Wh.setR] at he
        have := (ownBlock_lt (h.own i o ho).1 hg).2
        omega
      · rw [if_neg hb] at hl'
        simp only [Wh.setR, if_neg hb] at he
        exact h.sep b l' i o g hl' ho hb0 hg he
    below := h.below.alloc h.below.size _
    nlt := h.nlt }

/-- A slice of the call's own, new or turned: 'w' has become 'w'', in which it owns its row; of old memory only its elder row may have turned. -/
theorem Sim.newOwn (h : Sim N fb w0 σ S a w) {id : Nat} {o : Own} {v : Value} (hn : S.all (·.noOwn id) = true) (hid : id < S.mem.owns.length)
    (hrow : ∀ g, (∃ o', getO S.mem id = some o' ∧ (σ.ov id).ownBlock = some g) → w0.heap.size ≤ g)
    (hg : w.grownBy w' (match getO S.mem id with | some _ => (σ.ov id).ownBlock | none => none))
    (hown : w'.ownsRow w0.heap.size o.e o.t.size v o.l.length (o.l.flatMap o.t.enc)) (hok : ∀ x ∈ o.l, o.t.ok x)
    (hblk : ∀ g, v.ownBlock = some g → w.heap.size ≤ g ∨ ∃ o', getO S.mem id = some o' ∧ (σ.ov id).ownBlock = some g) :
    Sim N fb w0 (σ.setV id v o.t.size) { S with mem := setO S.mem id o } a w' ∧ RA w' (σ.setV id v o.t.size) (Mt N fb (σ.setV id v o.t.size) (setO S.mem id o)) (.s (.own id)) v := by
  have hsl : ∃ a n c, v = .slice a n c := by
    rcases hown.2 with ⟨rfl, _⟩ | ⟨g, cap, cur, rfl, _⟩
    · exact ⟨_, _, _, rfl⟩
    · exact ⟨_, _, _, rfl⟩
  have hM : ∀ g, g < w.heap.size → Mt N fb (σ.setV id v o.t.size) (setO S.mem id o) g → Mt N fb σ S.mem g := by
    intro g hgl hm
    rcases hm with hm | ⟨b, l', h1, h2, h3⟩ | ⟨i, o1, h1, h2⟩
    · exact .inl hm
    · exact .inr (.inl ⟨b, l', h1, h2, h3⟩)
    · rw [getO_setO _ _ _ _ hid] at h1
      by_cases hi : i = id
      · subst hi
        simp [Wh.setV] at h2
        rcases hblk g h2 with h3 | ⟨o', h3, h4⟩
        · omega
        · exact .inr (.inr ⟨i, o', h3, h4⟩)
      · rw [if_neg hi] at h1
        simp only [Wh.setV, if_neg hi] at h2
        exact .inr (.inr ⟨i, o1, h1, h2⟩)
  have hmut : ∀ g, some g = (match getO S.mem id with | some _ => (σ.ov id).ownBlock | none => none) → Mt N fb σ S.mem g ∧ ∃ o', getO S.mem id = some o' ∧ (σ.ov id).ownBlock = some g := by
    intro g hgg
    cases ho : getO S.mem id with
    | none => rw [ho] at hgg; cases hgg
    | some o' => rw [ho] at hgg; exact ⟨.inr (.inr ⟨id, o', ho, hgg.symm⟩), o', rfl, hgg.symm⟩
  have k : Keeps w (Mt N fb σ S.mem) w' (Mt N fb (σ.setV id v o.t.size) (setO S.mem id o)) :=
    ⟨fun ad had hnm => World.cell?_of_block (hg.block ad.block had fun e => hnm (hmut _ e).1), hM⟩
  refine ⟨?_, rfl, by simp [Wh.setV], by simpa [Wh.setV] using hsl⟩
  exact {
    defers := h.defers
    tmps := h.tmps.mono fun x hx u hu => RA_keep hu k fun c' hc' => agree_setV σ id _ _ c' (St.all_tmps hn x hx c' hc')
    box := fun b l' hl' => by
      obtain ⟨c', e', hc, hr⟩ := h.box b l' hl'
      refine ⟨c', e', ?_, Rs_keep hr k fun c'' hc'' => agree_setV σ id _ _ c'' (St.all_box hn b l' hl' c'' hc'')⟩
      show w'.heap[σ.rs b]? = _
      rw [hg.block _ (heap_lt hc)]
      · exact hc
      · intro e
        obtain ⟨_, o', h1, h2⟩ := hmut _ e
        by_cases hb0 : fb ≤ b
        · exact h.sep b l' id o' _ hl' h1 hb0 h2 rfl
        · have h3 := h.bold b l' hl' (by omega)
          have h4 := hrow _ ⟨o', h1, h2⟩
          omega
    bnew := h.bnew
    bold := h.bold
    binj := h.binj
    own := fun i o1 ho => by
      simp only at ho
      rw [getO_setO _ _ _ _ hid] at ho
      by_cases hi : i = id
      · subst hi
        simp at ho
        subst ho
        simp only [Wh.setV, if_true]
        exact ⟨hown, trivial, hok⟩
      · rw [if_neg hi] at ho
        simp only [Wh.setV, if_neg hi]
        obtain ⟨h1, h2⟩ := h.own i o1 ho
        refine ⟨h1.kept hg ?_, h2⟩
        cases hv : (σ.ov i).ownBlock with
        | none => exact .inl rfl
        | some g =>
          right
          intro e
          obtain ⟨_, o', h3, h4⟩ := hmut g e
          exact hi (h.oinj i id o1 o' g ho h3 hv h4)
    oinj := fun i i' o1 o2 g h1 h2 h3 h4 => by
      simp only at h1 h2
      rw [getO_setO _ _ _ _ hid] at h1 h2
      have key : ∀ j oj, j ≠ id → getO S.mem j = some oj → (σ.ov j).ownBlock = some g → v.ownBlock = some g → False := by
        intro j oj hj h5 h6 h7
        rcases hblk g h7 with h8 | ⟨o', h8, h9⟩
        · have := (ownBlock_lt (h.own j oj h5).1 h6).2; omega
        · exact hj (h.oinj j id oj o' g h5 h8 h6 h9)
      by_cases hi : i = id <;> by_cases hi' : i' = id
      · rw [hi, hi']
      · rw [if_neg hi'] at h2
        simp only [Wh.setV, hi, if_true, if_neg hi'] at h3 h4
        exact (key i' o2 hi' h2 h4 h3).elim
      · rw [if_neg hi] at h1
        simp only [Wh.setV, hi', if_true, if_neg hi] at h3 h4
        exact (key i o1 hi h1 h3 h4).elim
      · rw [if_neg hi] at h1
        rw [if_neg hi'] at h2
        simp only [Wh.setV, if_neg hi, if_neg hi'] at h3 h4
        exact h.oinj i i' o1 o2 g h1 h2 h3 h4
    sep := fun b l' i o1 g hl' ho hb0 hgg he => by
      simp only at ho
      rw [getO_setO _ _ _ _ hid] at ho
      by_cases hi : i = id
      · subst hi
        simp only [Wh.setV, if_true] at hgg
        rcases hblk g hgg with h8 | ⟨o', h8, h9⟩
        · obtain ⟨_, _, hc, _⟩ := h.box b l' hl'
          have h10 := heap_lt hc
          have h11 : σ.rs b = g := he
          omega
        · exact h.sep b l' i o' g hl' h8 hb0 h9 he
      · rw [if_neg hi] at ho
        simp only [Wh.setV, if_neg hi] at hgg
        exact h.sep b l' i o1 g hl' ho hb0 hgg he
    below := by
      refine h.below.trans ⟨hg.os, hg.tape, hg.output, hg.size, fun g hgl => hg.block g (Nat.lt_of_lt_of_le hgl h.below.size) fun e => ?_⟩
      obtain ⟨_, o', h1, h2⟩ := hmut g e
      have := hrow g ⟨o', h1, h2⟩
      omega
    nlt := h.nlt }

/-- A box that is written. -/
theorem Sim.setBox (h : Sim N fb w0 σ S a w) {id : Nat} {l l0 : List C} {c0 c : Array Value} {e : TypeId} (hlo : fb ≤ id) (h0 : getB S.mem id = some l0) (hc0 : w.heap[σ.rs id]? = some (.cells c0 e (0, 0)))
    (hl : Rs w σ (Mt N fb σ S.mem) l c.toList) : Sim N fb w0 σ { S with mem := setB S.mem id l } a (w.setRow (σ.rs id) c) := by
  have hid := getB_lt h0
  have hM : Mt N fb σ (setB S.mem id l) = Mt N fb σ S.mem := by
    funext g
    simp only [Mt, eq_iff_iff, getO_setB]
    constructor
    · rintro (hm | ⟨b, l', h1, h2, h3⟩ | hm)
      · exact .inl hm
      · rw [getB_setB _ _ _ _ hid] at h2
        by_cases hb : b = id
        · subst hb; exact .inr (.inl ⟨b, l0, h1, h0, h3⟩)
        · rw [if_neg hb] at h2; exact .inr (.inl ⟨b, l', h1, h2, h3⟩)
      · exact .inr (.inr hm)
    · rintro (hm | ⟨b, l', h1, h2, h3⟩ | hm)
      · exact .inl hm
      · by_cases hb : b = id
        · exact .inr (.inl ⟨b, l, h1, by rw [getB_setB _ _ _ _ hid, if_pos hb], h3⟩)
        · exact .inr (.inl ⟨b, l', h1, by rw [getB_setB _ _ _ _ hid, if_neg hb]; exact h2, h3⟩)
      · exact .inr (.inr hm)
  have hmb : Mt N fb σ S.mem (σ.rs id) := .inr (.inl ⟨id, l0, hlo, h0, rfl⟩)
  have k : Keeps w (Mt N fb σ S.mem) (w.setRow (σ.rs id) c) (Mt N fb σ S.mem) :=
    ⟨fun ad had hnm => cell_setRow_other w _ _ ad fun e => hnm (by rw [e]; exact hmb), fun _ _ hm => hm⟩
  exact {
    defers := h.defers
    tmps := by rw [hM]; exact h.tmps.mono fun x hx u hu => RA_keep hu k fun c' _ => Agree.refl σ c'
    box := fun b l' hl' => by
      rw [hM]
      simp only at hl'
      rw [getB_setB _ _ _ _ hid] at hl'
      by_cases hb : b = id
      · subst hb
        simp at hl'
        subst hl'
        exact ⟨c, e, setRow_heap w _ c0 c e _ hc0, Rs_keep hl k fun c' _ => Agree.refl σ c'⟩
      · rw [if_neg hb] at hl'
        obtain ⟨c', e', hc, hr⟩ := h.box b l' hl'
        refine ⟨c', e', ?_, Rs_keep hr k fun c' _ => Agree.refl σ c'⟩
        rw [setRow_other w _ _ _ ?_]
        · exact hc
        · intro he
          by_cases hb0 : fb ≤ b
          · exact hb (h.binj b id l' l0 hl' h0 hb0 hlo he)
          · have h1 := h.bold b l' hl' (by omega)
            have h2 := h.bnew id l0 h0 hlo
            omega
    bnew := fun b l' hl' hb0 => by
      simp only at hl'
      rw [getB_setB _ _ _ _ hid] at hl'
      by_cases hb : b = id
      · subst hb; exact h.bnew b l0 h0 hb0
      · rw [if_neg hb] at hl'; exact h.bnew b l' hl' hb0
    bold := fun b l' hl' hb0 => by
      simp only at hl'
      rw [getB_setB _ _ _ _ hid] at hl'
      by_cases hb : b = id
      · omega
      · rw [if_neg hb] at hl'; exact h.bold b l' hl' hb0
    binj := fun b b' l1 l2 h1 h2 hb0 hb0' he => by
      simp only at h1 h2
      rw [getB_setB _ _ _ _ hid] at h1 h2
      have g1 : ∃ l, getB S.mem b = some l := by
        by_cases hb : b = id
        · subst hb; exact ⟨_, h0⟩
        · rw [if_neg hb] at h1; exact ⟨_, h1⟩
      have g2 : ∃ l, getB S.mem b' = some l := by
        by_cases hb : b' = id
        · subst hb; exact ⟨_, h0⟩
        · rw [if_neg hb] at h2; exact ⟨_, h2⟩
      obtain ⟨_, g1⟩ := g1
      obtain ⟨_, g2⟩ := g2
      exact h.binj b b' _ _ g1 g2 hb0 hb0' he
    own := fun i o ho => by
      obtain ⟨h1, h2⟩ := h.own i o ho
      refine ⟨h1.kept (row := some (σ.rs id)) ⟨rfl, rfl, rfl, by simp, fun g _ hne => setRow_other w _ _ _ fun e => hne (by rw [e])⟩ ?_, h2⟩
      cases hv : (σ.ov i).ownBlock with
      | none => exact .inl rfl
      | some g =>
        right
        intro he
        cases he
        exact h.sep id l0 i o _ h0 ho hlo hv rfl
    oinj := h.oinj
    sep := fun b l' i o1 g hl' ho hb0 hgg he => by
      simp only at hl'
      rw [getB_setB _ _ _ _ hid] at hl'
      have g1 : ∃ l, getB S.mem b = some l := by
        by_cases hb : b = id
        · subst hb; exact ⟨_, h0⟩
        · rw [if_neg hb] at hl'; exact ⟨_, hl'⟩
      obtain ⟨_, g1⟩ := g1
      exact h.sep b _ i o1 g g1 ho hb0 hgg he
    below := h.below.trans ⟨rfl, rfl, rfl, by simp, fun g hg => setRow_other w _ _ _ fun e => by
      have := h.bnew id l0 h0 hlo
      omega⟩
    nlt := h.nlt }

/-- A slice that is let go. -/
theorem R1_freeze (h : Sim N fb w0 σ S a w) {id : Nat} {o : Own} (ho : getO S.mem id = some o) {c : C} {vs : List Value} (hr : R1 w σ (Mt N fb σ S.mem) c vs) {M' : Nat → Prop} (hM : ∀ g, M' g → Mt N fb σ S.mem g) (hno : ∀ g, (σ.ov id).ownBlock = some g → ¬ M' g) :
    R1 w σ M' (c.freezeOwn id o) vs := by
  have k : Keeps w (Mt N fb σ S.mem) w M' := ⟨fun _ _ _ => rfl, fun g _ hm => hM g hm⟩
  obtain ⟨hown, hsz, hok⟩ := h.own id o ho
  cases c <;> simp only [C.freezeOwn] <;> first | exact R1_keep hr k (Agree.refl σ _) | skip
  case own i =>
    split
    · rename_i hi
      have hi := Nat.eq_of_beq_eq_true hi
      subst hi
      obtain ⟨rfl, _⟩ := hr
      refine ⟨_, rfl, ?_⟩
      rcases hown.2 with ⟨e, h'⟩ | ⟨g, cap, cur, e, hg0, hg, hlc, hcm, hcs, htake⟩
      · exact .inl ⟨e, List.eq_nil_of_length_eq_zero h', rfl⟩
      · refine .inr ⟨⟨g, 0, none⟩, cap, e, by simpa using hlc, hcm, .inr (hno g (by rw [e]; rfl)), ?_, by simpa using hok⟩
        have := hown.cells (g := g) (by rw [e]; rfl)
        simpa using this
    · exact R1_keep hr k (Agree.refl σ _)
  case pre i n =>
    split
    · rename_i hi
      have hi := Nat.eq_of_beq_eq_true hi
      subst hi
      obtain ⟨ad, len, cap, e1, hle, rfl⟩ := hr
      refine ⟨_, rfl, ?_⟩
      rcases hown.2 with ⟨e, h'⟩ | ⟨g, cap', cur, e, hg0, hg, hlc, hcm, hcs, htake⟩
      · rw [e1] at e
        simp only [Value.slice.injEq] at e
        obtain ⟨rfl, rfl, rfl⟩ := e
        have hl : o.l = [] := List.eq_nil_of_length_eq_zero h'
        have hn : n = 0 := by omega
        subst hn
        exact .inl ⟨rfl, by simp, by simp [hl]⟩
      · have hc := hown.cells (g := g) (by rw [e]; rfl)
        rw [e1] at e
        simp only [Value.slice.injEq] at e
        obtain ⟨rfl, rfl, rfl⟩ := e
        refine .inr ⟨⟨g, 0, none⟩, cap, by rw [List.length_take]; simp; omega, by simp; omega, hcm, .inr (hno g (by rw [e1]; rfl)), ?_, by simpa using hok⟩
        simpa using hc
    · exact R1_keep hr k (Agree.refl σ _)
  case ownp i p q =>
    split
    · obtain ⟨g, len, cap, _, rfl, _⟩ := hr
      exact ⟨_, rfl, rfl⟩
    · exact R1_keep hr k (Agree.refl σ _)

theorem getO_setNone (m : Mem) (id i : Nat) (bs : List (Option (List C))) : getO ⟨bs, m.owns.set id none⟩ i = if i = id then none else getO m i := by
  unfold getO
  simp only [List.getElem?_set]
  by_cases hi : id = i
  · subst hi
    simp only [if_true]
    by_cases hl : id < m.owns.length
    · simp [hl]
    · simp [hl]
  · simp [hi, Ne.symm hi]

theorem Sim.freeze (h : Sim N fb w0 σ S a w) {id : Nat} {o : Own} (ho : getO S.mem id = some o) : Sim N fb w0 σ (freezeO id o S) a w := by
  have gb : ∀ b, getB (freezeO id o S).mem b = (getB S.mem b).map (List.map (C.freezeOwn id o)) := fun b => getB_map b
  have go : ∀ i, getO (freezeO id o S).mem i = if i = id then none else getO S.mem i := fun i => getO_setNone S.mem id i _
  have hM : ∀ g, Mt N fb σ (freezeO id o S).mem g → Mt N fb σ S.mem g := by
    rintro g (hm | ⟨b, l, h1, h2, h3⟩ | ⟨i, oi, h1, h2⟩)
    · exact .inl hm
    · rw [gb] at h2
      obtain ⟨l', h4, _⟩ := Option.map_eq_some_iff.1 h2
      exact .inr (.inl ⟨b, l', h1, h4, h3⟩)
    · rw [go] at h1
      by_cases hi : i = id
      · rw [if_pos hi] at h1; cases h1
      · rw [if_neg hi] at h1; exact .inr (.inr ⟨i, oi, h1, h2⟩)
  have hno : ∀ g, (σ.ov id).ownBlock = some g → ¬ Mt N fb σ (freezeO id o S).mem g := by
    rintro g hg (hm | ⟨b, l, h1, h2, h3⟩ | ⟨i, oi, h1, h2⟩)
    · have h4 := h.nlt g hm
      have h5 := (ownBlock_lt (h.own id o ho).1 hg).1
      omega
    · rw [gb] at h2
      obtain ⟨l', h4, _⟩ := Option.map_eq_some_iff.1 h2
      exact h.sep b l' id o g h4 ho h1 hg h3
    · rw [go] at h1
      by_cases hi : i = id
      · rw [if_pos hi] at h1; cases h1
      · rw [if_neg hi] at h1
        exact hi (h.oinj i id oi o g h1 ho h2 hg)
  exact {
    defers := h.defers
    tmps := F2.map _ h.tmps fun x _ v hv => RA_map hv (fun c _ vs hr => R1_freeze h ho hr hM hno) (freezeOwn_len id o)
    box := fun b l hl => by
      rw [gb] at hl
      obtain ⟨l', h1, rfl⟩ := Option.map_eq_some_iff.1 hl
      obtain ⟨c, e, hc, hr⟩ := h.box b l' h1
      exact ⟨c, e, hc, Rs_map hr fun c _ vs hr => R1_freeze h ho hr hM hno⟩
    bnew := fun b l hl => by
      rw [gb] at hl
      obtain ⟨l', h1, rfl⟩ := Option.map_eq_some_iff.1 hl
      exact h.bnew b l' h1
    bold := fun b l hl => by
      rw [gb] at hl
      obtain ⟨l', h1, rfl⟩ := Option.map_eq_some_iff.1 hl
      exact h.bold b l' h1
    binj := fun b b' l l' hl hl' => by
      rw [gb] at hl hl'
      obtain ⟨_, h1, rfl⟩ := Option.map_eq_some_iff.1 hl
      obtain ⟨_, h2, rfl⟩ := Option.map_eq_some_iff.1 hl'
      exact h.binj b b' _ _ h1 h2
    own := fun i oi hi => by
      rw [go] at hi
      by_cases e : i = id
      · rw [if_pos e] at hi; cases hi
      · rw [if_neg e] at hi; exact h.own i oi hi
    oinj := fun i i' oi oi' g hi hi' => by
      rw [go] at hi hi'
      by_cases e : i = id
      · rw [if_pos e] at hi; cases hi
      · by_cases e' : i' = id
        · rw [if_pos e'] at hi'; cases hi'
        · rw [if_neg e] at hi; rw [if_neg e'] at hi'; exact h.oinj i i' oi oi' g hi hi'
    sep := fun b l i oi g hl hi => by
      rw [gb] at hl
      obtain ⟨_, h1, rfl⟩ := Option.map_eq_some_iff.1 hl
      rw [go] at hi
      by_cases e : i = id
      · rw [if_pos e] at hi; cases hi
      · rw [if_neg e] at hi; exact h.sep b _ i oi g h1 hi
    below := h.below
    nlt := h.nlt }

end
end Ev
end Go.Proofs.YtefjcgbidillhaaGreat
