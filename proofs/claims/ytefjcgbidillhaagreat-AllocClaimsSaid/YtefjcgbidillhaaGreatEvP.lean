/- What is asked of the tables; single operations of the model, run. -/
import Derived.Test.YtefjcgbidillhaaGreatEvS
namespace Go.Proofs.YtefjcgbidillhaaGreat
open Go
open Go.RowKit (Below)
namespace Ev
set_option linter.unusedVariables false

def TIok (P : Program) (T : TypeId) (ti : TI) : Prop :=
  ∃ inf, P.info? T = some inf ∧ inf.size = ti.size ∧ match ti with
  | .sc => ∃ d, P.underlying T = some d ∧ (∀ fs, d ≠ .struct fs) ∧ (∀ n e, d ≠ .array n e) ∧ (∀ e, d ≠ .slice e)
  | .st _ fs => ∃ flds, P.underlying T = some (.struct flds) ∧ flds.toList.map (fun f => (f.offset, f.type)) = fs ∧ ∀ f ∈ flds.toList, ∃ i, P.info? f.type = some i
  | .sl e t => P.underlying T = some (.slice e) ∧ inf.zero = some (.slice none 0 0) ∧ ∃ ie z, P.info? e = some ie ∧ ie.size = t.size ∧ ie.bytes ≤ 1000 ∧ ie.zero = some z ∧ z.cells.toList = t.enc t.zero
  | .ar n e t => P.underlying T = some (.array n e) ∧ ∃ ie z, P.info? e = some ie ∧ ie.size = t.size ∧ inf.zero = some z ∧ z.cells.toList = (List.replicate n t.zero).flatMap t.enc

def Callable (P : Program) (f : FuncId) : Prop := ∃ fn, P.funcs[f]? = some fn ∧ (fn.name == "runtime.NumGoroutine") = false ∧ fn.body.isNone = false

def EqOK (P : Program) (T : TypeId) (t : Ty) : Prop :=
  P.eqGuardType P.depth T = false ∧ ∀ (x y : t.D) (w : World), t.ok x → t.ok y →
    (Op.equalIn 10000 T (.agg (t.enc x).toArray) (.agg (t.enc y).toArray)).run P w = .ok (t.eqb x y) w

structure EnvOK (P : Program) (E : Env) : Prop where
  mixed : P.follows .mixedOrders = true
  tab : ∀ T ti, E.tab T = some ti → TIok P T ti
  zero : ∀ T l, E.zero T = some l → ∃ inf z, P.info? T = some inf ∧ inf.zero = some z ∧ (∀ w σ M, Rs w σ M l z.cells.toList) ∧ ∀ c ∈ l, ∀ id, C.noBox id c = true
  bool : ∀ T, E.boolT T = true → P.underlying T = some .bool
  str : ∀ T, E.strT T = true → P.underlying T = some .string
  int : ∀ T k, E.intT T = some k → P.underlying T = some (.int k)
  elt : ∀ T t, E.elt T = some t → EqOK P T t
  fd : ∀ f fn, E.fd f = some fn → P.funcs[f]? = some fn ∧ (fn.name == "runtime.NumGoroutine") = false

section
variable {P : Program} {w : World}

theorem run_sizeOf {T : TypeId} {inf : TypeInfo} (h : P.info? T = some inf) : (sizeOf T).run P w = .ok inf.size w := by simp [sizeOf, typeInfo, h]

theorem run_isAgg {T : TypeId} {d : TypeDesc} (h : P.underlying T = some d) : (isAgg T).run P w = .ok (match d with | .struct _ | .array _ _ => true | _ => false) w := by
  cases d <;> simp [isAgg, run_underlying h]

theorem run_loadVar_agg {T : TypeId} {ti : TI} (h : TIok P T ti) (hs : (∃ n fs, ti = .st n fs) ∨ ∃ n e t, ti = .ar n e t) (p : Addr) (vs : List Value) (hl : vs.length = ti.size)
    (hc : ∀ (j : Nat) (u : Value), vs[j]? = some u → w.cell? (p.add j) = some u) : (loadVar T p).run P w = .ok (.agg vs.toArray) w := by
  obtain ⟨inf, hi, hz, hm⟩ := h
  have hr := run_loadCells_list (P := P) (w := w) p vs hc
  rw [hl] at hr
  rcases hs with ⟨n, fs, rfl⟩ | ⟨n, e, t, rfl⟩
  · obtain ⟨flds, hu, _, _⟩ := hm
    simp [loadVar, run_isAgg hu, run_sizeOf hi, hz, hr]
  · obtain ⟨hu, _⟩ := hm
    simp [loadVar, run_isAgg hu, run_sizeOf hi, hz, hr]

theorem run_loadVar_one {T : TypeId} {ti : TI} (h : TIok P T ti) (hs : ti = .sc ∨ ∃ e t, ti = .sl e t) (p : Addr) (v : Value)
    (hc : w.cell? p = some v) : (loadVar T p).run P w = .ok v w := by
  obtain ⟨inf, hi, hz, hm⟩ := h
  rcases hs with rfl | ⟨e, t, rfl⟩
  · obtain ⟨d, hu, h1, h2, _⟩ := hm
    cases d <;> first
      | exact absurd rfl (h1 _)
      | exact absurd rfl (h2 _ _)
      | simp [loadVar, run_isAgg hu, hc]
  · obtain ⟨hu, _⟩ := hm
    simp [loadVar, run_isAgg hu, hc]

theorem add0 (p : Addr) : p.add 0 = p := by simp [Addr.add]
theorem add_add' (p : Addr) (m n : Nat) : (p.add m).add n = p.add (m + n) := by
  unfold Addr.add
  by_cases h : m = 0
  · subst h; simp
  · by_cases h' : n = 0
    · subst h'; simp [h]
    · have : m + n ≠ 0 := by omega
      simp [h, h', this]; omega
theorem add_lit' (g o n : Nat) : (⟨g, o, none⟩ : Addr).add n = ⟨g, o + n, none⟩ := by
  unfold Addr.add; split <;> simp_all

end
end Ev
end Go.Proofs.YtefjcgbidillhaaGreat
