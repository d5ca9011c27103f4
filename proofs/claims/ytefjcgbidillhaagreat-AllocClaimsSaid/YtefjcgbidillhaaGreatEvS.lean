/- The state of a run and the abstract state: when one stands for the other; what keeps it so. -/
import Derived.Test.YtefjcgbidillhaaGreatEvR
namespace Go.Proofs.YtefjcgbidillhaaGreat
open Go
open Go.RowKit (Below)
namespace Ev
set_option linter.unusedVariables false

/-- Which blocks may be written: the caller's ('N'), the call's own boxes, the call's owned slices. -/
def Mt (N : Nat → Prop) (fb : Nat) (σ : Wh) (m : Mem) (g : Nat) : Prop :=
  N g ∨ (∃ b l, fb ≤ b ∧ getB m b = some l ∧ σ.rs b = g) ∨ (∃ id o, getO m id = some o ∧ (σ.ov id).ownBlock = some g)

structure Sim (N : Nat → Prop) (fb : Nat) (w0 : World) (σ : Wh) (S : St) (a : Act) (w : World) : Prop where
  defers : a.defers = []
  tmps : F2 (RA w σ (Mt N fb σ S.mem)) S.tmps a.tmps.toList
  box : ∀ b l, getB S.mem b = some l → ∃ c e, w.heap[σ.rs b]? = some (.cells c e (0, 0)) ∧ Rs w σ (Mt N fb σ S.mem) l c.toList
  bnew : ∀ b l, getB S.mem b = some l → fb ≤ b → w0.heap.size ≤ σ.rs b
  bold : ∀ b l, getB S.mem b = some l → b < fb → σ.rs b < w0.heap.size
  binj : ∀ b b' l l', getB S.mem b = some l → getB S.mem b' = some l' → fb ≤ b → fb ≤ b' → σ.rs b = σ.rs b' → b = b'
  own : ∀ id o, getO S.mem id = some o → w.ownsRow w0.heap.size o.e o.t.size (σ.ov id) o.l.length (o.l.flatMap o.t.enc) ∧ σ.sz id = o.t.size ∧ (∀ x ∈ o.l, o.t.ok x)
  oinj : ∀ id id' o o' g, getO S.mem id = some o → getO S.mem id' = some o' → (σ.ov id).ownBlock = some g → (σ.ov id').ownBlock = some g → id = id'
  sep : ∀ b l id o g, getB S.mem b = some l → getO S.mem id = some o → fb ≤ b → (σ.ov id).ownBlock = some g → σ.rs b ≠ g
  below : Below w0.heap.size w0 w
  nlt : ∀ g, N g → g < w0.heap.size

/-- What was there and may not be written is as it was, and still may not be. -/
structure Keeps (w : World) (M : Nat → Prop) (w' : World) (M' : Nat → Prop) : Prop where
  cell : ∀ a : Addr, a.block < w.heap.size → ¬ M a.block → w'.cell? a = w.cell? a
  may : ∀ g, g < w.heap.size → M' g → M g

def Agree (σ σ' : Wh) : C → Prop
  | .ptr b _ => σ'.rs b = σ.rs b
  | .arp b _ _ _ _ _ => σ'.rs b = σ.rs b
  | .bsl b _ _ _ _ => σ'.rs b = σ.rs b
  | .fn _ cap => ∀ p ∈ cap, σ'.rs p.1 = σ.rs p.1
  | .own id => σ'.ov id = σ.ov id
  | .pre id _ => σ'.ov id = σ.ov id
  | .ownp id _ _ => σ'.ov id = σ.ov id ∧ σ'.sz id = σ.sz id
  | _ => True

theorem Agree.refl (σ : Wh) (c : C) : Agree σ σ c := by cases c <;> simp [Agree]

theorem add_block (a : Addr) (n : Nat) : (a.add n).block = a.block := by unfold Addr.add; split <;> rfl

theorem flat_pos (t : Ty) {l : List t.D} (hl : l ≠ []) (ho : ∀ x ∈ l, t.ok x) : ∃ u, (l.flatMap t.enc)[0]? = some u := by
  cases l with
  | nil => exact absurd rfl hl
  | cons x l =>
    have h1 := t.enc_len x (ho x (List.mem_cons_self ..))
    have h2 := t.size_pos
    cases hx : t.enc x with
    | nil => rw [hx] at h1; simp at h1; omega
    | cons u r => exact ⟨u, by simp [hx]⟩

section
variable {w w' : World} {σ σ' : Wh} {M M' : Nat → Prop}

theorem LAt.keep {t : Ty} {l bs : List t.D} {s : Value} (h : LAt w M t l bs s) (k : Keeps w M w' M') : LAt w' M' t l bs s := by
  rcases h with h | ⟨a, cap, hs, h1, h2, h3, h4, h5⟩
  · exact .inl h
  · refine .inr ⟨a, cap, hs, h1, h2, ?_, ?_, h5⟩
    · by_cases he : l ++ bs = []
      · exact .inl he
      · right
        obtain ⟨u, hu⟩ := flat_pos t he h5
        have hb := World.block_lt_of_cell? w _ (h4 0 u hu)
        rw [add_block] at hb
        exact fun hm => (h3.resolve_left he) (k.may _ hb hm)
    · intro j u hu
      have hc := h4 j u hu
      have hb := World.block_lt_of_cell? w _ hc
      by_cases he : l ++ bs = []
      · rw [he] at hu; simp at hu
      · rw [k.cell _ hb (by rw [add_block]; exact h3.resolve_left he)]; exact hc

theorem PAt.keep {t : Ty} {x : t.D} {a : Addr} (h : PAt w M t x a) (k : Keeps w M w' M') : PAt w' M' t x a := by
  obtain ⟨h1, h2, h3⟩ := h
  have h6 := t.enc_len x h3
  have h7 := t.size_pos
  have hb : a.block < w.heap.size := by
    cases hx : t.enc x with
    | nil => rw [hx] at h6; simp at h6; omega
    | cons u r =>
      have := World.block_lt_of_cell? w _ (h1 0 u (by simp [hx]))
      rwa [add_block] at this
  refine ⟨fun j u hu => ?_, fun hm => h2 (k.may _ hb hm), h3⟩
  rw [k.cell _ (by rw [add_block]; exact hb) (by rw [add_block]; exact h2)]
  exact h1 j u hu

theorem R1_keep {c : C} {vs : List Value} (h : R1 w σ M c vs) (k : Keeps w M w' M') (g : Agree σ σ' c) : R1 w' σ' M' c vs := by
  cases c with
  | v x => exact h
  | el t x => exact h
  | arr t n l => exact h
  | list t l bs => obtain ⟨s, rfl, hl⟩ := h; exact ⟨s, rfl, hl.keep k⟩
  | own id =>
    obtain ⟨rfl, h⟩ := h
    simp only [Agree] at g
    refine ⟨by rw [g], ?_⟩
    rw [g]; exact h
  | pre id n =>
    simp only [Agree] at g
    simp only [R1, g]; exact h
  | nils => exact h
  | ptr b o =>
    simp only [Agree] at g
    simp only [R1, g]; exact h
  | elp t x o => obtain ⟨a, rfl, hl⟩ := h; exact ⟨a, rfl, hl.keep k⟩
  | bsl b o t n hi =>
    simp only [Agree] at g
    simp only [R1, g]; exact h
  | arp b o t n i q =>
    simp only [Agree] at g
    simp only [R1, g]; exact h
  | ownp id i q =>
    simp only [Agree] at g
    simp only [R1, g.1, g.2]; exact h
  | fn f cap =>
    simp only [Agree] at g
    simp only [R1] at h ⊢
    rw [h]
    congr 3
    exact List.map_congr_left fun p hp => by rw [g p hp]
  | dead => exact h

theorem Rs_keep : ∀ {l : List C} {vs : List Value}, Rs w σ M l vs → Keeps w M w' M' → (∀ c ∈ l, Agree σ σ' c) → Rs w' σ' M' l vs
  | [], _, h, _, _ => h
  | c :: l, _, ⟨a, b, e, h1, h2⟩, k, g => ⟨a, b, e, R1_keep h1 k (g c (List.mem_cons_self ..)), Rs_keep h2 k fun x hx => g x (List.mem_cons_of_mem _ hx)⟩

theorem RB_keep {x : Bool × List C} {v : Value} (h : RB w σ M x v) (k : Keeps w M w' M') (g : ∀ c ∈ x.2, Agree σ σ' c) : RB w' σ' M' x v := by
  obtain ⟨b, l⟩ := x
  cases b with
  | true => obtain ⟨vs, e, h⟩ := h; exact ⟨vs, e, Rs_keep h k g⟩
  | false =>
    obtain ⟨c, e, h1, h2⟩ := h
    simp only at e g
    subst e
    exact ⟨c, rfl, h1, R1_keep h2 k (g c (List.mem_cons_self ..))⟩

theorem RA_keep {x : A} {v : Value} (h : RA w σ M x v) (k : Keeps w M w' M') (g : ∀ c ∈ x.cells, Agree σ σ' c) : RA w' σ' M' x v := by
  cases x with
  | s c => exact ⟨h.1, R1_keep h.2 k (g c (by simp [A.cells]))⟩
  | g l => obtain ⟨vs, e, h⟩ := h; exact ⟨vs, e, Rs_keep h k g⟩
  | t l =>
    obtain ⟨vs, e, h⟩ := h
    exact ⟨vs, e, h.mono fun a ha b hb => RB_keep hb k fun c hc => g c (List.mem_flatMap.2 ⟨a, ha, hc⟩)⟩
  | dead => trivial
end

/-! ### memory as lists of places -/
theorem getB_setB (m : Mem) (b b' : Nat) (l : List C) (h : b < m.boxes.length) : getB (setB m b l) b' = if b' = b then some l else getB m b' := by
  unfold getB setB
  simp only [List.getElem?_set]
  by_cases e : b = b'
  · subst e; simp [h]
  · simp [e, Ne.symm e]
theorem getO_setO (m : Mem) (b b' : Nat) (l : Own) (h : b < m.owns.length) : getO (setO m b l) b' = if b' = b then some l else getO m b' := by
  unfold getO setO
  simp only [List.getElem?_set]
  by_cases e : b = b'
  · subst e; simp [h]
  · simp [e, Ne.symm e]
@[simp] theorem getO_setB (m : Mem) (b b' : Nat) (l : List C) : getO (setB m b l) b' = getO m b' := rfl
@[simp] theorem getB_setO (m : Mem) (b b' : Nat) (l : Own) : getB (setO m b l) b' = getB m b' := rfl

theorem getB_lt {m : Mem} {b : Nat} {l : List C} (h : getB m b = some l) : b < m.boxes.length := by
  unfold getB at h
  rcases Nat.lt_or_ge b m.boxes.length with h' | h'
  · exact h'
  · rw [List.getElem?_eq_none h'] at h; simp at h
theorem getO_lt {m : Mem} {b : Nat} {l : Own} (h : getO m b = some l) : b < m.owns.length := by
  unfold getO at h
  rcases Nat.lt_or_ge b m.owns.length with h' | h'
  · exact h'
  · rw [List.getElem?_eq_none h'] at h; simp at h

theorem A.all_cells {p : C → Bool} {x : A} (h : x.all p = true) : ∀ c ∈ x.cells, p c = true := by
  intro c hc
  cases x with
  | s c' => simp [A.cells] at hc; subst hc; exact h
  | g l => exact List.all_eq_true.1 h c hc
  | t l =>
    obtain ⟨y, hy, hc⟩ := List.mem_flatMap.1 hc
    exact List.all_eq_true.1 (List.all_eq_true.1 h y hy) c hc
  | dead => simp [A.cells] at hc

theorem A.all_of_cells {p : C → Bool} {x : A} (h : ∀ c ∈ x.cells, p c = true) : x.all p = true := by
  cases x with
  | s c' => exact h c' (by simp [A.cells])
  | g l => exact List.all_eq_true.2 h
  | t l =>
    refine List.all_eq_true.2 fun y hy => List.all_eq_true.2 fun c hc => h c ?_
    exact List.mem_flatMap.2 ⟨y, hy, hc⟩
  | dead => rfl

theorem St.all_tmps {p : C → Bool} {S : St} (h : S.all p = true) : ∀ x ∈ S.tmps, ∀ c ∈ x.cells, p c = true := by
  simp only [St.all, Bool.and_eq_true, List.all_eq_true] at h
  exact fun x hx => A.all_cells (h.1 x hx)
theorem St.all_box {p : C → Bool} {S : St} (h : S.all p = true) : ∀ b l, getB S.mem b = some l → ∀ c ∈ l, p c = true := by
  simp only [St.all, Bool.and_eq_true, List.all_eq_true] at h
  intro b l hl c hc
  unfold getB at hl
  cases hx : S.mem.boxes[b]? with
  | none => rw [hx] at hl; simp at hl
  | some o =>
    rw [hx] at hl
    simp at hl
    subst hl
    have := h.2 (some l) (List.mem_of_getElem? hx)
    exact List.all_eq_true.1 this c hc

def Wh.setR (σ : Wh) (id g : Nat) : Wh := { σ with rs := fun b => if b = id then g else σ.rs b }
def Wh.setV (σ : Wh) (id : Nat) (v : Value) (n : Nat) : Wh := { σ with ov := fun b => if b = id then v else σ.ov b, sz := fun b => if b = id then n else σ.sz b }

theorem agree_setR (σ : Wh) (id g : Nat) (c : C) (h : c.noBox id = true) : Agree σ (σ.setR id g) c := by
  cases c <;> simp only [Agree, Wh.setR, C.noBox] at h ⊢
  case ptr b o => rw [if_neg]; intro e; subst e; simp at h
  case bsl b o t n hi => rw [if_neg]; intro e; subst e; simp at h
  case arp b o t n i q => rw [if_neg]; intro e; subst e; simp at h
  case fn f cap =>
    intro p hp
    rw [if_neg]
    intro e
    have := List.all_eq_true.1 h p hp
    rw [e] at this
    simp at this
  all_goals simp
theorem agree_setV (σ : Wh) (id : Nat) (v : Value) (n : Nat) (c : C) (h : c.noOwn id = true) : Agree σ (σ.setV id v n) c := by
  cases c <;> simp only [Agree, Wh.setV, C.noOwn] at h ⊢
  case own i => rw [if_neg]; intro e; subst e; simp at h
  case pre i q => rw [if_neg]; intro e; subst e; simp at h
  case ownp i q r => rw [if_neg, if_neg]; exact ⟨rfl, rfl⟩; all_goals (intro e; subst e; simp at h)
  all_goals simp

end Ev
end Go.Proofs.YtefjcgbidillhaaGreat
