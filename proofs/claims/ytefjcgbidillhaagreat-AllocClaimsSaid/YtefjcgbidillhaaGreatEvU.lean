/- THE OPERATIONS THAT TURN NOTHING: what the evaluator says of one is so. -/
import Derived.Test.YtefjcgbidillhaaGreatEvZ
namespace Go.Proofs.YtefjcgbidillhaaGreat
open Go
open Go.RowKit (Below)
namespace Ev
set_option linter.unusedVariables false

def CallOK (P : Program) (call : CallT) : Prop :=
  ∀ f args m r, call f args m = some (true, r) → Callable P f ∧ ∀ (σ : Wh) (M : Nat → Prop) (w : World) (vs : List Value), (∀ g, M g → g < w.heap.size) → F2 (RA w σ M) args vs →
    (∀ b l, getB m b = some l → ∃ c e, w.heap[σ.rs b]? = some (.cells c e (0, 0)) ∧ Rs w σ M l c.toList) →
    Calls P f vs.toArray w fun e w' => ∃ v, e = .returned v ∧ RA w' σ M r v ∧ Below w.heap.size w w'

def Yld (P : Program) (w : World) (σ : Wh) (M : Nat → Prop) (s : Sem Next) (x : A) : Prop :=
  (∃ v w', s.run P w = .ok (.value v) w' ∧ RA w' σ M x v ∧ Below w.heap.size w w') ∨
  (∃ f vs, s.run P w = .ok (.enter f vs) w ∧ Calls P f vs w fun e w' => ∃ v, e = .returned v ∧ RA w' σ M x v ∧ Below w.heap.size w w')

theorem Yld.pure {P : Program} {w : World} {σ : Wh} {M : Nat → Prop} {s : Sem Next} {x : A} {v : Value} (h : s.run P w = .ok (.value v) w) (hr : RA w σ M x v) : Yld P w σ M s x :=
  .inl ⟨v, w, h, hr, Below.refl _ _⟩

section
variable {P : Program} {E : Env} {w : World} {σ : Wh} {M : Nat → Prop} {base : Nat} {m : Mem}

theorem pureVal_ok {s : Sem Value} {v : Value} (h : pureVal s = some v) : s.run P w = .ok v w := by
  unfold pureVal at h
  split at h
  · simp only [Option.some.injEq] at h
    subst h; rfl
  · cases h

theorem RA_v {v : Value} (h : v.oneCell' = true) : RA w σ M (.s (.v v)) v := ⟨rfl, rfl, h⟩
theorem of_RA_v {v u : Value} (h : RA w σ M (.s (.v v)) u) : u = v := by
  obtain ⟨_, h, _⟩ := h
  simpa using h

theorem run_eqGuard_plain (op : BinOp) (t : TypeId) (x y : Operand) (a b : Value) (h : (∃ k n k' n', a = .int k n ∧ b = .int k' n') ∨ (∃ s s', a = .string s ∧ b = .string s') ∨ ∃ p q, a = .bool p ∧ b = .bool q) :
    (eqGuard op t x y a b).run P w = .ok () w := by
  rcases h with ⟨k, n, k', n', rfl, rfl⟩ | ⟨s, s', rfl, rfl⟩ | ⟨p, q, rfl, rfl⟩ <;> cases op <;> simp [eqGuard]

theorem binA_ok (hE : EnvOK P E) {op : BinOp} {T : TypeId} {x y r : A} {a b : Value} {ox oy : Operand} (h : binA E op T x y = some r) (hx : RA w σ M x a) (hy : RA w σ M y b) :
    ∃ v, (do eqGuard op T ox oy a b; binOp op T a b : Sem Value).run P w = .ok v w ∧ RA w σ M r v := by
  unfold binA at h
  split at h
  · rename_i s s'
    cases of_RA_v hx; cases of_RA_v hy
    have hb : binOp op T (.string s) (.string s') = Op.stringOp op s s' := by cases op <;> rfl
    have hg := run_eqGuard_plain (P := P) (w := w) op T ox oy (.string s) (.string s') (.inr (.inl ⟨_, _, rfl, rfl⟩))
    split at h
    · split at h
      · rename_i hle
        simp only [Option.some.injEq] at h
        subst h
        have hle := Nat.le_of_ble_eq_true hle
        refine ⟨_, ?_, RA_v rfl⟩
        have hn : ¬ (((s.size + s'.size : Nat) : Int) > IntKind.i64.max) := by
          have : IntKind.i64.max = 9223372036854775807 := by decide
          rw [this]; omega
        simp only [Sem.run_bind, hg, Result.andThen_ok, hb]
        simp only [Op.stringOp]
        rw [if_neg hn]
        rfl
      · cases h
    · split at h
      · rename_i q hq
        simp only [Option.some.injEq] at h
        subst h
        exact ⟨_, by simp only [Sem.run_bind, hg, Result.andThen_ok, hb]; exact pureVal_ok hq, RA_v rfl⟩
      · cases h
  · rename_i k n k' n'
    cases of_RA_v hx; cases of_RA_v hy
    have hg := run_eqGuard_plain (P := P) (w := w) op T ox oy (.int k n) (.int k' n') (.inl ⟨_, _, _, _, rfl, rfl⟩)
    split at h
    · rename_i q hq
      simp only [Option.some.injEq] at h
      subst h
      exact ⟨_, by simp only [Sem.run_bind, hg, Result.andThen_ok]; exact pureVal_ok hq, RA_v rfl⟩
    · rename_i q hq
      simp only [Option.some.injEq] at h
      subst h
      exact ⟨_, by simp only [Sem.run_bind, hg, Result.andThen_ok]; exact pureVal_ok hq, RA_v rfl⟩
    · cases h
  · rename_i p q
    cases of_RA_v hx; cases of_RA_v hy
    have hg := run_eqGuard_plain (P := P) (w := w) op T ox oy (.bool p) (.bool q) (.inr (.inr ⟨_, _, rfl, rfl⟩))
    split at h
    · rename_i hb
      simp only [Option.some.injEq] at h
      subst h
      have he := run_equalIn_bool' w (P := P) 9999 T p q (hE.bool T hb)
      exact ⟨_, by simp only [Sem.run_bind, hg, Result.andThen_ok]; simp [binOp, Op.equal, Op.maxDepth, he], RA_v rfl⟩
    · rename_i hb
      simp only [Option.some.injEq] at h
      subst h
      have he := run_equalIn_bool' w (P := P) 9999 T p q (hE.bool T hb)
      exact ⟨_, by simp only [Sem.run_bind, hg, Result.andThen_ok]; simp [binOp, Op.equal, Op.maxDepth, he], RA_v rfl⟩
    · cases h
  · rename_i l l'
    obtain ⟨vs, rfl, hvs⟩ := hx
    obtain ⟨us, rfl, hus⟩ := hy
    split at h
    · rename_i t ht
      split at h
      · rename_i x y hx hy
        obtain ⟨rfl, hxo⟩ := decC_ok hx hvs
        obtain ⟨rfl, hyo⟩ := decC_ok hy hus
        obtain ⟨hgt, heq⟩ := hE.elt T t ht
        have he := heq x y w hxo hyo
        split at h
        · simp only [Option.some.injEq] at h
          subst h
          have hg := run_eqGuard_agg w (P := P) .eql T ox oy (t.enc x).toArray (t.enc y).toArray hgt
          exact ⟨_, by simp only [Sem.run_bind, hg, Result.andThen_ok, run_eql_struct, he], RA_v rfl⟩
        · simp only [Option.some.injEq] at h
          subst h
          have hg := run_eqGuard_agg w (P := P) .neq T ox oy (t.enc x).toArray (t.enc y).toArray hgt
          exact ⟨_, by simp only [Sem.run_bind, hg, Result.andThen_ok, run_neq_struct, he], RA_v rfl⟩
        · cases h
      · cases h
    · cases h
  · cases h

theorem getD_replicate {α : Type} (n i : Nat) (x : α) (h : i < n) : (List.replicate n x)[i]? = some x := by simp [h]

theorem made_flat (t : Ty) (z : Array Value) (hz : z.toList = t.enc t.zero) (n : Nat) : (madeCells z (n * t.size)).toList = (List.replicate n t.zero).flatMap t.enc := by
  have hzs : z.size = t.size := by rw [← t.enc_len t.zero t.zero_ok, ← hz]; simp
  have hpos := t.size_pos
  have hok : ∀ x ∈ List.replicate n t.zero, t.ok x := by intro x hx; rw [List.eq_of_mem_replicate hx]; exact t.zero_ok
  apply List.ext_getElem?
  intro i
  by_cases hi : i < n * t.size
  · have h1 : i / t.size < n := by rw [Nat.div_lt_iff_lt_mul hpos]; exact hi
    have h2 : i % t.size < t.size := Nat.mod_lt _ hpos
    have h3 : (t.enc t.zero)[i % t.size]? = some (z[i % t.size]'(by omega)) := by
      rw [← hz]; simp
    have h4 := flat_get t t.zero _ (i / t.size) hok (getD_replicate n _ _ h1) _ _ h3
    rw [Nat.div_add_mod' i t.size] at h4
    rw [h4]
    simp only [madeCells, Array.toList_map, List.getElem?_map]
    have h5 : (Array.range (n * t.size)).toList[i]? = some i := by simp [hi]
    rw [h5]
    simp only [Option.map_some, Option.some.injEq]
    have h6 : i % z.size = i % t.size := by rw [hzs]
    rw [h6, getElem!_pos z (i % t.size) (by omega)]
  · rw [List.getElem?_eq_none, List.getElem?_eq_none]
    · rw [flat_len_ok t _ hok]; simp; omega
    · simp [size_madeCells]; omega

theorem capsOf_ok {ρ : Operand → A} {ev : Operand → Value} (hρ : ∀ x, RA w σ M (ρ x) (ev x)) : ∀ (xs : List Operand) (l : List (Nat × Nat)), capsOf (xs.map ρ) = some l →
    xs.map ev = l.map fun p => Value.pointer (some ⟨σ.rs p.1, p.2, none⟩)
  | [], l, h => by simp [capsOf] at h; subst h; rfl
  | x :: xs, l, h => by
    simp only [List.map_cons] at h
    cases hx : ρ x with
    | s c =>
      rw [hx] at h
      cases c <;> simp only [capsOf] at h <;> first | (cases h; done) | skip
      rename_i b o
      obtain ⟨q, hq, rfl⟩ := Option.map_eq_some_iff.1 h
      have h1 := hρ x
      rw [hx] at h1
      obtain ⟨_, h1⟩ := h1
      simp only [R1, List.cons.injEq, and_true] at h1
      simp [h1, capsOf_ok hρ xs q hq]
    | g l => rw [hx] at h; simp [capsOf] at h
    | t l => rw [hx] at h; simp [capsOf] at h
    | dead => rw [hx] at h; simp [capsOf] at h

theorem listOf_ok (hm : MemOK w σ M base m) {c : C} {t : Ty} {l : List t.D} {v : Value} (h : listOf m c = some ⟨t, l⟩) (hr : RA w σ M (.s c) v) :
    (∀ x ∈ l, t.ok x) ∧ ((v = .slice none 0 0 ∧ l = []) ∨ ∃ p cap, v = .slice (some p) l.length cap ∧ ∀ j u, (l.flatMap t.enc)[j]? = some u → w.cell? (p.add j) = some u) := by
  replace hr := hr.2
  cases c <;> simp only [listOf] at h <;> first | (cases h; done) | skip
  case list t' x bs =>
    simp only [Option.some.injEq, Sigma.mk.injEq] at h
    obtain ⟨rfl, h⟩ := h
    cases h
    obtain ⟨s, e, hl⟩ := hr
    simp only [List.cons.injEq, and_true] at e
    subst e
    rcases hl with ⟨rfl, rfl, rfl⟩ | ⟨a, cap, rfl, g1, g2, g3, g4, g5⟩
    · exact ⟨by simp, .inl ⟨rfl, rfl⟩⟩
    · refine ⟨fun x hx => g5 x (List.mem_append_left _ hx), .inr ⟨a, cap, rfl, fun j u hu => g4 j u ?_⟩⟩
      rw [List.flatMap_append, List.getElem?_append_left (List.getElem?_eq_some_iff.1 hu).1]
      exact hu
  case own id =>
    split at h
    · rename_i o ho
      simp only [Option.some.injEq, Sigma.mk.injEq] at h
      obtain ⟨rfl, h⟩ := h
      cases h
      obtain ⟨hown, hsz, hok⟩ := hm.own id o ho
      obtain ⟨e, _⟩ := hr
      simp only [List.cons.injEq, and_true] at e
      subst e
      rcases hown.2 with ⟨e, h'⟩ | ⟨g, cap, cur, e, _⟩
      · exact ⟨hok, .inl ⟨e, List.eq_nil_of_length_eq_zero h'⟩⟩
      · exact ⟨hok, .inr ⟨⟨g, 0, none⟩, cap, e, hown.cells (g := g) (by rw [e]; rfl)⟩⟩
    · cases h
  case pre id n =>
    split at h
    · rename_i o ho
      simp only [Option.some.injEq, Sigma.mk.injEq] at h
      obtain ⟨rfl, h⟩ := h
      cases h
      obtain ⟨hown, hsz, hok⟩ := hm.own id o ho
      obtain ⟨a, len, cap, e, hle, e2⟩ := hr
      simp only [List.cons.injEq, and_true] at e2
      subst e2
      have ht : ∀ x ∈ o.l.take n, o.t.ok x := fun x hx => hok x (List.mem_of_mem_take hx)
      rcases hown.2 with ⟨e', h'⟩ | ⟨g, cap', cur, e', _⟩
      · rw [e] at e'
        simp only [Value.slice.injEq] at e'
        obtain ⟨rfl, rfl, rfl⟩ := e'
        have hn : n = 0 := by omega
        subst hn
        exact ⟨ht, .inl ⟨rfl, by simp⟩⟩
      · have hc := hown.cells (g := g) (by rw [e']; rfl)
        rw [e] at e'
        simp only [Value.slice.injEq] at e'
        obtain ⟨rfl, rfl, rfl⟩ := e'
        refine ⟨ht, .inr ⟨⟨g, 0, none⟩, cap, by rw [List.length_take]; simp; omega, fun j u hu => hc j u ?_⟩⟩
        have h7 : o.l.flatMap o.t.enc = (o.l.take n).flatMap o.t.enc ++ (o.l.drop n).flatMap o.t.enc := by rw [← List.flatMap_append, List.take_append_drop]
        rw [h7, List.getElem?_append_left (List.getElem?_eq_some_iff.1 hu).1]
        exact hu
    · cases h

theorem listOf_len (hm : MemOK w σ M base m) {c : C} {t : Ty} {l : List t.D} {v : Value} (h : listOf m c = some ⟨t, l⟩) (hr : RA w σ M (.s c) v) : ∃ a cap, v = .slice a l.length cap := by
  obtain ⟨_, h1⟩ := listOf_ok hm h hr
  rcases h1 with ⟨rfl, rfl⟩ | ⟨p, cap, rfl, _⟩
  · exact ⟨_, _, rfl⟩
  · exact ⟨_, _, rfl⟩

end
end Ev
end Go.Proofs.YtefjcgbidillhaaGreat
