/- How the relation of states is kept by what an operation does. -/
import Derived.Test.YtefjcgbidillhaaGreatEvQ
namespace Go.Proofs.YtefjcgbidillhaaGreat
open Go
open Go.RowKit (Below)
namespace Ev
set_option linter.unusedVariables false

section
variable {P : Program} {E : Env} {N : Nat → Prop} {fb : Nat} {w0 w w' : World} {σ σ' : Wh} {S : St} {a : Act}

theorem ownBlock_lt {e : TypeId} {n k base : Nat} {v : Value} {xs : List Value} {g : Nat} (h : w.ownsRow base e k v n xs) (hg : v.ownBlock = some g) : base ≤ g ∧ g < w.heap.size := h.lt g hg

theorem heap_lt {g : Nat} {o : Obj} (h : w.heap[g]? = some o) : g < w.heap.size := (Array.getElem?_eq_some_iff.1 h).1

theorem Sim.mt_lt (h : Sim N fb w0 σ S a w) : ∀ g, Mt N fb σ S.mem g → g < w.heap.size := by
  intro g hg
  rcases hg with hg | ⟨b, l, _, hb, rfl⟩ | ⟨id, o, ho, hg⟩
  · exact Nat.lt_of_lt_of_le (h.nlt g hg) h.below.size
  · obtain ⟨c, e, hc, _⟩ := h.box b l hb
    exact heap_lt hc
  · exact (ownBlock_lt (h.own id o ho).1 hg).2

theorem Sim.memOK (h : Sim N fb w0 σ S a w) : MemOK w σ (Mt N fb σ S.mem) w0.heap.size S.mem := ⟨h.box, h.own⟩

theorem Keeps.of_below {M : Nat → Prop} (h : Below w.heap.size w w') : Keeps w M w' M := ⟨fun ad had _ => h.cell had, fun _ _ hm => hm⟩

theorem Below.heapAt {B : Nat} (h : Below B w w') {g : Nat} (hg : g < B) : w'.heap[g]? = w.heap[g]? := h.block g hg

theorem ownsRow_below {e : TypeId} {n k base : Nat} {v : Value} {xs : List Value} (h : w.ownsRow base e k v n xs) (hb : Below w.heap.size w w') : w'.ownsRow base e k v n xs := by
  refine ⟨h.1, ?_⟩
  rcases h.2 with h2 | ⟨g, cap, cur, hv, hg, hh, r⟩
  · exact .inl h2
  · exact .inr ⟨g, cap, cur, hv, hg, by rw [hb.block g (heap_lt hh)]; exact hh, r⟩

theorem Sim.grow (h : Sim N fb w0 σ S a w) (hb : Below w.heap.size w w') : Sim N fb w0 σ S a w' := by
  have k : Keeps w (Mt N fb σ S.mem) w' (Mt N fb σ S.mem) := .of_below hb
  exact {
    defers := h.defers
    tmps := h.tmps.mono fun x _ v hv => RA_keep hv k fun c _ => Agree.refl σ c
    box := fun b l hl => by
      obtain ⟨c, e, hc, hr⟩ := h.box b l hl
      exact ⟨c, e, by rw [hb.block _ (heap_lt hc)]; exact hc, Rs_keep hr k fun c _ => Agree.refl σ c⟩
    bnew := h.bnew
    bold := h.bold
    binj := h.binj
    own := fun id o ho => ⟨ownsRow_below (h.own id o ho).1 hb, (h.own id o ho).2⟩
    oinj := h.oinj
    sep := h.sep
    below := h.below.trans (hb.mono h.below.size)
    nlt := h.nlt }

theorem Sim.put (h : Sim N fb w0 σ S a w) {x : A} {v : Value} (hr : RA w σ (Mt N fb σ S.mem) x v) (dst : Option Tmp) : Sim N fb w0 σ (putA dst x S) (a.put dst v) w := by
  cases dst with
  | none => exact h
  | some d => exact {
      defers := h.defers
      tmps := by
        have := h.tmps.set d x v hr
        simpa [putA, Act.put, Array.toList_setIfInBounds] using this
      box := h.box, bnew := h.bnew, bold := h.bold, binj := h.binj, own := h.own, oinj := h.oinj, sep := h.sep, below := h.below, nlt := h.nlt }

theorem evalA_ok (h : Sim N fb w0 σ S a w) (x : Operand) : RA w σ (Mt N fb σ S.mem) (evalA S x) (a.eval x) := by
  cases x with
  | tmp t =>
    simp only [evalA, Act.eval]
    cases ht : S.tmps[t]? with
    | none =>
      have : S.tmps.getD t .dead = .dead := by simp [List.getD, ht]
      rw [this]; trivial
    | some y =>
      obtain ⟨v, hv, hr⟩ := h.tmps.get t y ht
      have h1 : S.tmps.getD t .dead = y := by simp [List.getD, ht]
      have h2 : a.tmps.getD t undef = v := by
        have : a.tmps[t]? = some v := by simpa using hv
        simp [this]
      rw [h1, h2]; exact hr
  | const v =>
    simp only [Act.eval]
    unfold evalA
    split
    · rename_i h1; cases h1
    · rename_i h1; cases h1; exact ⟨rfl, rfl⟩
    · trivial
    · trivial
    · rename_i u h1 h2 h3 h4
      cases h4
      refine ⟨rfl, rfl, ?_⟩
      cases v <;> first | rfl | exact (h2 _ rfl).elim | exact (h3 _ rfl).elim
    · rename_i h1; cases h1
    · rename_i h1; cases h1
  | func f => exact ⟨rfl, by simp [R1, Act.eval]⟩
  | global g => trivial

/-- A value that says less. -/
theorem Sim.tmps_of (h : Sim N fb w0 σ S a w) {T : List A} (ht : F2 (RA w σ (Mt N fb σ S.mem)) T a.tmps.toList) : Sim N fb w0 σ { S with tmps := T } a w :=
  { defers := h.defers, tmps := ht, box := h.box, bnew := h.bnew, bold := h.bold, binj := h.binj, own := h.own, oinj := h.oinj, sep := h.sep, below := h.below, nlt := h.nlt }

theorem R1_killO {M : Nat → Prop} {id : Nat} {c : C} {vs : List Value} (h : R1 w σ M c vs) : R1 w σ M (c.killOwn id) vs := by
  cases c <;> simp only [C.killOwn] <;> first | exact h | skip
  case own i =>
    split
    · obtain ⟨rfl, x, n, c, hx⟩ := h
      exact ⟨_, rfl, by rw [hx]; rfl⟩
    · exact h
  case pre i n =>
    split
    · obtain ⟨x, n, c, hx, _, rfl⟩ := h
      exact ⟨_, rfl, rfl⟩
    · exact h
  case ownp i p q =>
    split
    · obtain ⟨x, n, c, hx, rfl, _⟩ := h
      exact ⟨_, rfl, rfl⟩
    · exact h

theorem Rs_map {M M' : Nat → Prop} {f : C → C} : ∀ {l : List C} {vs : List Value}, Rs w σ M l vs → (∀ c ∈ l, ∀ vs, R1 w σ M c vs → R1 w σ' M' (f c) vs) → Rs w σ' M' (l.map f) vs
  | [], _, h, _ => h
  | c :: l, _, ⟨x, y, e, h1, h2⟩, hf => ⟨x, y, e, hf c (List.mem_cons_self ..) x h1, Rs_map h2 fun c hc => hf c (List.mem_cons_of_mem _ hc)⟩

theorem RA_map {M M' : Nat → Prop} {f : C → C} {x : A} {v : Value} (h : RA w σ M x v) (hf : ∀ c ∈ x.cells, ∀ vs, R1 w σ M c vs → R1 w σ' M' (f c) vs) (hl : ∀ c, c.len = true → (f c).len = true) : RA w σ' M' (x.map f) v := by
  cases x with
  | s c => exact ⟨hl c h.1, hf c (by simp [A.cells]) _ h.2⟩
  | g l => obtain ⟨vs, e, h⟩ := h; exact ⟨vs, e, Rs_map h hf⟩
  | t l =>
    obtain ⟨vs, e, h⟩ := h
    refine ⟨vs, e, ?_⟩
    refine F2.map _ h fun p hp u hu => ?_
    obtain ⟨b, l'⟩ := p
    cases b with
    | true =>
      obtain ⟨us, e, hr⟩ := hu
      exact ⟨us, e, Rs_map hr fun c hc => hf c (List.mem_flatMap.2 ⟨_, hp, hc⟩)⟩
    | false =>
      obtain ⟨c, e, h1, h2⟩ := hu
      simp only at e
      subst e
      exact ⟨f c, rfl, hl c h1, hf c (List.mem_flatMap.2 ⟨_, hp, List.mem_cons_self ..⟩) _ h2⟩
  | dead => trivial

theorem killOwn_len (id : Nat) (c : C) (h : c.len = true) : (c.killOwn id).len = true := by
  cases c <;> simp only [C.killOwn] <;> first | exact h | (split <;> rfl)
theorem freezeOwn_len (id : Nat) (o : Own) (c : C) (h : c.len = true) : (c.freezeOwn id o).len = true := by
  cases c <;> simp only [C.freezeOwn] <;> first | exact h | (split <;> rfl)

theorem getB_map {m : Mem} {f : C → C} {os : List (Option Own)} (b : Nat) : getB ⟨m.boxes.map (Option.map (List.map f)), os⟩ b = (getB m b).map (List.map f) := by
  unfold getB
  simp only [List.getElem?_map]
  cases m.boxes[b]? with
  | none => rfl
  | some o => cases o <;> rfl

theorem getB_killO {id b : Nat} : getB (killO id S).mem b = (getB S.mem b).map (List.map (C.killOwn id)) := getB_map b
theorem getO_killO {id b : Nat} : getO (killO id S).mem b = getO S.mem b := rfl

theorem Mt_kill (id : Nat) : Mt N fb σ (killO id S).mem = Mt N fb σ S.mem := by
  funext g
  simp only [Mt, getB_killO, getO_killO, eq_iff_iff]
  constructor
  · rintro (h | ⟨b, l, h1, h2, h3⟩ | h)
    · exact .inl h
    · obtain ⟨l', h4, _⟩ := Option.map_eq_some_iff.1 h2
      exact .inr (.inl ⟨b, l', h1, h4, h3⟩)
    · exact .inr (.inr h)
  · rintro (h | ⟨b, l, h1, h2, h3⟩ | h)
    · exact .inl h
    · exact .inr (.inl ⟨b, _, h1, by rw [h2]; rfl, h3⟩)
    · exact .inr (.inr h)

theorem Sim.kill (h : Sim N fb w0 σ S a w) (id : Nat) : Sim N fb w0 σ (killO id S) a w := {
  defers := h.defers
  tmps := by
    rw [Mt_kill]
    exact F2.map _ h.tmps fun x _ v hv => RA_map hv (fun c _ vs hr => R1_killO hr) (killOwn_len id)
  box := fun b l hl => by
    rw [getB_killO] at hl
    obtain ⟨l', h1, rfl⟩ := Option.map_eq_some_iff.1 hl
    obtain ⟨c, e, hc, hr⟩ := h.box b l' h1
    rw [Mt_kill]
    exact ⟨c, e, hc, Rs_map hr fun c _ vs hr => R1_killO hr⟩
  bnew := fun b l hl => by
    rw [getB_killO] at hl
    obtain ⟨l', h1, rfl⟩ := Option.map_eq_some_iff.1 hl
    exact h.bnew b l' h1
  bold := fun b l hl => by
    rw [getB_killO] at hl
    obtain ⟨l', h1, rfl⟩ := Option.map_eq_some_iff.1 hl
    exact h.bold b l' h1
  binj := fun b b' l l' hl hl' => by
    rw [getB_killO] at hl hl'
    obtain ⟨_, h1, rfl⟩ := Option.map_eq_some_iff.1 hl
    obtain ⟨_, h2, rfl⟩ := Option.map_eq_some_iff.1 hl'
    exact h.binj b b' _ _ h1 h2
  own := fun i o ho => h.own i o ho
  oinj := fun i i' o o' g ho ho' => h.oinj i i' o o' g ho ho'
  sep := fun b l i o g hl ho => by
    rw [getB_killO] at hl
    obtain ⟨_, h1, rfl⟩ := Option.map_eq_some_iff.1 hl
    exact h.sep b _ i o g h1 ho
  below := h.below
  nlt := h.nlt }

end
end Ev
end Go.Proofs.YtefjcgbidillhaaGreat
