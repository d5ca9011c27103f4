/- Operations that turn nothing: what they yield is what the evaluator says. -/
import Derived.Test.YtefjcgbidillhaaGreatEvP
namespace Go.Proofs.YtefjcgbidillhaaGreat
open Go
open Go.RowKit (Below)
namespace Ev
set_option linter.unusedVariables false

/-- Memory as the abstract one has it. -/
structure MemOK (w : World) (σ : Wh) (M : Nat → Prop) (base : Nat) (m : Mem) : Prop where
  box : ∀ b l, getB m b = some l → ∃ c e, w.heap[σ.rs b]? = some (.cells c e (0, 0)) ∧ Rs w σ M l c.toList
  own : ∀ id o, getO m id = some o → w.ownsRow base o.e o.t.size (σ.ov id) o.l.length (o.l.flatMap o.t.enc) ∧ σ.sz id = o.t.size ∧ (∀ x ∈ o.l, o.t.ok x)

section
variable {P : Program} {E : Env} {w : World} {σ : Wh} {M : Nat → Prop} {base : Nat} {m : Mem}

theorem toList_get (c : Array Value) (j : Nat) : c.toList[j]? = c[j]? := by simp

theorem cell_row {g j : Nat} {c : Array Value} {e : TypeId} (h : w.heap[g]? = some (.cells c e (0, 0))) : w.cell? ⟨g, j, none⟩ = c[j]? := cell_of_row w g j c e (0, 0) h

theorem flat_get (t : Ty) (x : t.D) : ∀ (x0 : List t.D) (i : Nat), (∀ y ∈ x0, t.ok y) → x0[i]? = some x → ∀ (k : Nat) (u : Value), (t.enc x)[k]? = some u → (x0.flatMap t.enc)[i * t.size + k]? = some u
  | [], i, _, hx, _, _, _ => by simp at hx
  | y :: ys, 0, hok, hx, k, u, hu => by
    simp at hx; subst hx
    simp only [List.flatMap_cons, Nat.zero_mul, Nat.zero_add]
    rw [List.getElem?_append_left (List.getElem?_eq_some_iff.1 hu).1]
    exact hu
  | y :: ys, i + 1, hok, hx, k, u, hu => by
    have hy := t.enc_len y (hok y (List.mem_cons_self ..))
    simp only [List.flatMap_cons]
    rw [List.getElem?_append_right (by rw [hy, Nat.add_mul]; omega), hy]
    have e1 : (i + 1) * t.size + k - t.size = i * t.size + k := by rw [Nat.add_mul]; omega
    rw [e1]
    exact flat_get t x ys i (fun z hz => hok z (List.mem_cons_of_mem _ hz)) (by simpa using hx) k u hu

theorem rd_get {t : Ty} {l : List t.D} {i : Nat} (h : i < l.length) : l[i]? = some (rd t l i) := by
  unfold rd
  rw [List.getD_eq_getElem?_getD, List.getElem?_eq_getElem h]
  rfl

/-- What is read at a place: the cells there, side by side. -/
theorem loadP_ok {p : C} {n : Nat} {l : List C} {v : Value} (hm : MemOK w σ M base m) (h : loadP m n p = some l) (hp : RA w σ M (.s p) v) :
    ∃ a vs, v = .pointer (some a) ∧ vs.length = n ∧ Rs w σ M l vs ∧ ∀ (j : Nat) (u : Value), vs[j]? = some u → w.cell? (a.add j) = some u := by
  obtain ⟨_, hp⟩ := hp
  cases p with
  | ptr b o =>
    simp only [R1, List.cons.injEq, and_true] at hp
    subst hp
    simp only [loadP] at h
    split at h
    · rename_i l0 hb
      obtain ⟨c, e, hc, hr⟩ := hm.box b l0 hb
      obtain ⟨h1, h2⟩ := readC_ok h hr
      refine ⟨_, _, rfl, ?_, h2, fun j u hu => ?_⟩
      · simp; simp at h1; omega
      · rw [add_lit', cell_row hc]
        rw [List.getElem?_take] at hu
        split at hu
        · simpa using hu
        · cases hu
    · cases h
  | elp t x o =>
    obtain ⟨a, e, hc, hM, ho⟩ := hp
    simp only [List.cons.injEq, and_true] at e
    subst e
    simp only [loadP] at h
    obtain ⟨h1, h2⟩ := readC_ok (vs := t.enc x) h (Rs_single.2 ⟨rfl, ho⟩)
    refine ⟨_, _, rfl, ?_, h2, fun j u hu => ?_⟩
    · simp; omega
    · rw [add_add']
      rw [List.getElem?_take] at hu
      split at hu
      · exact hc _ _ (by simpa using hu)
      · cases hu
  | arp b o t k i q =>
    simp only [R1] at hp
    obtain ⟨hp, hik⟩ := hp
    simp only [List.cons.injEq, and_true] at hp
    subst hp
    simp only [loadP] at h
    split at h
    · rename_i n' l1 harr
      split at h
      · rename_i hnk
        have hnk := Nat.eq_of_beq_eq_true hnk
        unfold arrAt at harr
        split at harr
        · rename_i l0 hb
          split at harr
          · rename_i t' n0 x0 r0 hd
            split at harr
            · rename_i ht
              subst ht
              simp only [Option.some.injEq, Prod.mk.injEq] at harr
              obtain ⟨rfl, rfl⟩ := harr
              obtain ⟨c, e, hc, hr⟩ := hm.box b l0 hb
              obtain ⟨h1, h2⟩ := dropC_ok _ _ _ _ _ hd hr
              obtain ⟨va, vb, hab, ⟨hva, hlen, hok⟩, hvb⟩ := h2
              have hx : x0[i]? = some (rd t' x0 i) := rd_get (by omega)
              have hxo : t'.ok (rd t' x0 i) := hok _ (List.mem_of_getElem? hx)
              obtain ⟨h3, h4⟩ := readC_ok (vs := t'.enc (rd t' x0 i)) h (Rs_single.2 ⟨rfl, hxo⟩)
              refine ⟨_, _, rfl, ?_, h4, fun j u hu => ?_⟩
              · simp; omega
              · rw [add_lit', cell_row hc]
                rw [List.getElem?_take] at hu
                split at hu
                · rename_i hj
                  rw [List.getElem?_drop] at hu
                  have hflat : (x0.flatMap t'.enc)[i * t'.size + (q + j)]? = some u := flat_get t' (rd t' x0 i) x0 i hok hx _ _ hu
                  have e2 : c[o + i * t'.size + q + j]? = (List.drop o c.toList)[i * t'.size + (q + j)]? := by
                    simp; congr 1; omega
                  rw [e2, hab, hva, List.getElem?_append_left (List.getElem?_eq_some_iff.1 hflat).1]
                  exact hflat
                · cases hu
            · cases harr
          · cases harr
        · cases harr
      · cases h
    · cases h
  | ownp id i q =>
    simp only [R1] at hp
    obtain ⟨g, len, cap, hov, e, hil⟩ := hp
    simp only [List.cons.injEq, and_true] at e
    subst e
    simp only [loadP] at h
    split at h
    · rename_i o ho
      obtain ⟨hown, hsz, hok⟩ := hm.own id o ho
      have hlen : len = o.l.length := by
        rcases hown.2 with ⟨e2, _⟩ | ⟨_, _, _, e2, _⟩
        · rw [hov] at e2; cases e2
        · rw [hov] at e2; simp only [Value.slice.injEq] at e2; exact e2.2.1
      have hx : o.l[i]? = some (rd o.t o.l i) := rd_get (by omega)
      have hxo : o.t.ok (rd o.t o.l i) := hok _ (List.mem_of_getElem? hx)
      obtain ⟨h3, h4⟩ := readC_ok (vs := o.t.enc (rd o.t o.l i)) h (Rs_single.2 ⟨rfl, hxo⟩)
      refine ⟨_, _, rfl, ?_, h4, fun j u hu => ?_⟩
      · simp; omega
      · rw [List.getElem?_take] at hu
        split at hu
        · rw [List.getElem?_drop] at hu
          have hf := flat_get o.t (rd o.t o.l i) o.l i hok hx _ _ hu
          have hc := hown.cells (g := g) (by rw [hov]; rfl) _ _ hf
          rw [add_lit'] at hc ⊢
          rw [hsz]
          rw [← hc]
          congr 2
          omega
        · cases hu
    · cases h
  | v x => simp [loadP] at h
  | el t x => simp [loadP] at h
  | arr t n l => simp [loadP] at h
  | list t l bs => simp [loadP] at h
  | own id => simp [loadP] at h
  | pre id n => simp [loadP] at h
  | nils => simp [loadP] at h
  | fn f cap => simp [loadP] at h
  | bsl b o t n hi => simp [loadP] at h
  | dead => simp [loadP] at h

theorem valOf_ok {T : TypeId} {ti : TI} {l : List C} {x : A} {vs : List Value} {p : Addr} (ht : TIok P T ti) (h : valOf ti l = some x) (hr : Rs w σ M l vs) (hl : vs.length = ti.size)
    (hc : ∀ (j : Nat) (u : Value), vs[j]? = some u → w.cell? (p.add j) = some u) : ∃ v, (loadVar T p).run P w = .ok v w ∧ RA w σ M x v := by
  cases ti with
  | st n fs => simp only [valOf, Option.some.injEq] at h; subst h; exact ⟨_, run_loadVar_agg ht (.inl ⟨n, fs, rfl⟩) p vs hl hc, vs, rfl, hr⟩
  | ar n e t => simp only [valOf, Option.some.injEq] at h; subst h; exact ⟨_, run_loadVar_agg ht (.inr ⟨n, e, t, rfl⟩) p vs hl hc, vs, rfl, hr⟩
  | sc =>
    simp only [valOf] at h
    obtain ⟨c, hc1, rfl⟩ := Option.map_eq_some_iff.1 h
    obtain ⟨v, rfl, hv⟩ := oneC_ok hc1 hr
    exact ⟨v, run_loadVar_one ht (.inl rfl) p v (by have := hc 0 v rfl; rwa [add0] at this), hv⟩
  | sl e t =>
    simp only [valOf] at h
    obtain ⟨c, hc1, rfl⟩ := Option.map_eq_some_iff.1 h
    obtain ⟨v, rfl, hv⟩ := oneC_ok hc1 hr
    exact ⟨v, run_loadVar_one ht (.inr ⟨e, t, rfl⟩) p v (by have := hc 0 v rfl; rwa [add0] at this), hv⟩

theorem moveP_ok {c c' : C} {o : Nat} {v : Value} (h : moveP o c = some c') (hr : RA w σ M (.s c) v) : ∃ a, v = .pointer (some a) ∧ RA w σ M (.s c') (.pointer (some (a.add o))) := by
  obtain ⟨_, hr⟩ := hr
  cases c <;> simp only [moveP, Option.some.injEq] at h <;> first | (cases h; done) | skip
  case ptr b p =>
    subst h
    simp only [R1, List.cons.injEq, and_true] at hr
    subst hr
    exact ⟨_, rfl, rfl, by simp [R1, add_lit']⟩
  case elp t x p =>
    subst h
    obtain ⟨a, e, ha⟩ := hr
    simp only [List.cons.injEq, and_true] at e
    subst e
    exact ⟨_, rfl, rfl, a, by rw [add_add'], ha⟩
  case arp b p t n i q =>
    subst h
    simp only [R1] at hr
    obtain ⟨hr, hin⟩ := hr
    simp only [List.cons.injEq, and_true] at hr
    subst hr
    exact ⟨_, rfl, rfl, by simp [add_lit']; omega, hin⟩
  case ownp id i q =>
    subst h
    obtain ⟨g, len, cap, h1, e, hil⟩ := hr
    simp only [List.cons.injEq, and_true] at e
    subst e
    exact ⟨_, rfl, rfl, g, len, cap, h1, by simp [add_lit']; omega, hil⟩

end
end Ev
end Go.Proofs.YtefjcgbidillhaaGreat
