/- More operations that turn nothing. -/
import Derived.Test.YtefjcgbidillhaaGreatEvV
namespace Go.Proofs.YtefjcgbidillhaaGreat
open Go
open Go.RowKit (Below)
namespace Ev
set_option linter.unusedVariables false

section
variable {P : Program} {E : Env} {w : World} {σ : Wh} {M : Nat → Prop} {base : Nat} {m : Mem}

theorem fieldAt_ok (hE : EnvOK P E) {T : TypeId} {f o n : Nat} (h : fieldAt E T f = some (o, n)) (a : Addr) :
    (Instr.fieldAt T (.pointer (some a)) f).run P w = .ok (.pointer (some (a.add o))) w := by
  unfold fieldAt at h
  split at h
  · rename_i sz fs ht
    split at h
    · rename_i o' ft hf
      split at h
      · rename_i ti hti
        split at h
        · cases h
        · rename_i hz
          simp only [Option.some.injEq, Prod.mk.injEq] at h
          obtain ⟨rfl, rfl⟩ := h
          obtain ⟨inf, hi, _, flds, hu, hmap, _⟩ := hE.tab T _ ht
          obtain ⟨inf', hi', hs', _⟩ := hE.tab ft _ hti
          rw [← hmap, List.getElem?_map] at hf
          obtain ⟨fld, hfl, he⟩ := Option.map_eq_some_iff.1 hf
          simp only [Prod.mk.injEq] at he
          obtain ⟨rfl, rfl⟩ := he
          have hfl' : flds[f]? = some fld := by simpa using hfl
          have hne : inf'.size ≠ 0 := by rw [hs']; intro e; rw [e] at hz; simp at hz
          simp [Instr.fieldAt, run_underlying hu, hfl', Instr.sureAddr, fieldPlace, run_sizeOf hi', hne]
      · cases h
    · cases h
  · cases h

theorem natOf_ok {x : A} {i : Int} {v : Value} (h : natOf x = some i) (hr : RA w σ M x v) : ∃ k, v = .int k i := by
  unfold natOf at h
  split at h
  · simp only [Option.some.injEq] at h
    subst h
    obtain ⟨_, hr, _⟩ := hr
    simp only [List.cons.injEq, and_true] at hr
    exact ⟨_, hr⟩
  · cases h

theorem flat_drop (t : Ty) : ∀ (l : List t.D) (n : Nat), (∀ x ∈ l, t.ok x) → (l.drop n).flatMap t.enc = (l.flatMap t.enc).drop (n * t.size)
  | [], n, _ => by simp
  | x :: l, 0, _ => by simp
  | x :: l, n + 1, h => by
    have hx := t.enc_len x (h x (List.mem_cons_self ..))
    simp only [List.drop_succ_cons, List.flatMap_cons]
    rw [flat_drop t l n (fun y hy => h y (List.mem_cons_of_mem _ hy)), List.drop_append, List.drop_of_length_le (l := t.enc x) (by rw [hx, Nat.add_mul]; omega), hx]
    simp only [List.nil_append]
    congr 1
    rw [Nat.add_mul]; omega

theorem arrAt_ok (hm : MemOK w σ M base m) {b o : Nat} {t : Ty} {n : Nat} {l : List t.D} (h : arrAt m b o t = some (n, l)) :
    l.length = n ∧ (∀ x ∈ l, t.ok x) ∧ ∃ c e l0 r va, getB m b = some l0 ∧ dropC deep o l0 = some (.arr t n l :: r) ∧ w.heap[σ.rs b]? = some (.cells c e (0, 0)) ∧ c.toList.drop o = l.flatMap t.enc ++ va ∧ Rs w σ M r va := by
  unfold arrAt at h
  split at h
  · rename_i l0 hb
    split at h
    · rename_i t' n0 x0 r0 hd
      split at h
      · rename_i ht
        subst ht
        simp only [Option.some.injEq, Prod.mk.injEq] at h
        obtain ⟨rfl, rfl⟩ := h
        obtain ⟨c, e, hc, hr⟩ := hm.box b l0 hb
        obtain ⟨h1, h2⟩ := dropC_ok _ _ _ _ _ hd hr
        obtain ⟨va, vb, hab, ⟨hva, hlen, hok⟩, hvb⟩ := h2
        exact ⟨hlen, hok, c, e, l0, r0, vb, hb, hd, hc, by rw [hab, hva], hvb⟩
      · cases h
    · cases h
  · cases h

theorem indexP_ok (hE : EnvOK P E) (hm : MemOK w σ M base m) {T : TypeId} {p c : C} {i : Int} {k : IntKind} {v : Value} (h : indexP E m T p i = some c) (hg : indexG E m T p i = true) (hp : RA w σ M (.s p) v) :
    ∃ a, (Instr.indexAt T v (.int k i)).run P w = .ok (.pointer (some a)) w ∧ RA w σ M (.s c) (.pointer (some a)) := by
  replace hp := hp.2
  unfold indexP at h
  unfold indexG at hg
  split at h
  · rename_i e' t' ht
    rw [ht] at hg
    obtain ⟨inf, hi, _, hu, _, ie, z, hie, hes, _⟩ := hE.tab T _ ht
    split at h
    · rename_i t l bs
      simp only [decide_eq_true_eq] at hg
      split at h
      · rename_i hsz
        simp only [Option.some.injEq] at h
        subst h
        have hsz : t.size = t'.size := Nat.eq_of_beq_eq_true hsz
        obtain ⟨s, e1, hl⟩ := hp
        simp only [List.cons.injEq, and_true] at e1
        subst e1
        have hlt : i.toNat < l.length := by omega
        have he := rd_get hlt
        rcases hl with ⟨_, rfl, _⟩ | ⟨a, cap, rfl, h1, h2, h3, h4, h5⟩
        · simp at hlt
        · refine ⟨_, by simp [Instr.indexAt, asIntOf, run_underlying hu, hg, run_sizeOf hie, hes, ← hsz]; rfl, rfl, a.add (i.toNat * t.size), by rw [add0], ?_, ?_, ?_⟩
          · intro j u hu
            rw [add_add']
            refine h4 _ u (flat_get t (rd t l i.toNat) _ i.toNat h5 ?_ j u hu)
            rw [List.getElem?_append_left hlt]; exact he
          · rw [add_block]
            exact h3.resolve_left (by intro e; have : l = [] := (List.append_eq_nil_iff.1 e).1; subst this; simp at hlt)
          · exact h5 _ (List.mem_append_left _ (List.mem_of_getElem? he))
      · cases h
    · rename_i id
      split at h
      · rename_i o ho
        simp only [ho, decide_eq_true_eq] at hg
        split at h
        · rename_i hsz
          simp only [Option.some.injEq] at h
          subst h
          have hsz : o.t.size = t'.size := Nat.eq_of_beq_eq_true hsz
          obtain ⟨hown, hs, hok⟩ := hm.own id o ho
          obtain ⟨e1, _⟩ := hp
          simp only [List.cons.injEq, and_true] at e1
          subst e1
          rcases hown.2 with ⟨e, h'⟩ | ⟨g, cap, cur, e, _⟩
          · omega
          · refine ⟨⟨g, i.toNat * o.t.size, none⟩, by rw [e]; simp [Instr.indexAt, asIntOf, run_underlying hu, hg, run_sizeOf hie, hes, ← hsz, add_lit'], rfl, g, _, _, e, by simp [hs], by omega⟩
        · cases h
      · cases h
    · cases h
  · rename_i n e' t ht
    rw [ht] at hg
    simp only [decide_eq_true_eq] at hg
    obtain ⟨inf, hi, _, hu, ie, z, hie, hes, _⟩ := hE.tab T _ ht
    split at h
    · rename_i b o
      split at h
      · rename_i k' l harr
        split at h
        · rename_i hk
          have hk := Nat.eq_of_beq_eq_true hk
          simp only [Option.some.injEq] at h
          subst h hk
          simp only [R1, List.cons.injEq, and_true] at hp
          subst hp
          refine ⟨_, by simp [Instr.indexAt, asIntOf, run_underlying hu, hg, run_sizeOf hie, hes, Instr.sureAddr]; rfl, rfl, by simp [add_lit'], by omega⟩
        · cases h
      · cases h
    · rename_i t' e o
      split at h
      · rename_i t2 k2 l r hd
        split at h
        · rename_i hsz
          simp only [Option.some.injEq] at h
          subst h
          simp only [Bool.and_eq_true] at hsz
          have hk : k2 = n := Nat.eq_of_beq_eq_true hsz.2
          have hsz : t2.size = t.size := Nat.eq_of_beq_eq_true hsz.1
          obtain ⟨a, e1, h4, h5, h6⟩ := hp
          simp only [List.cons.injEq, and_true] at e1
          subst e1
          obtain ⟨h7, va, vb, hab, ⟨hva, hlen, hok⟩, _⟩ := dropC_ok (w := w) (σ := σ) (M := M) _ _ _ _ (t'.enc e) hd (Rs_single.2 ⟨rfl, h6⟩)
          have hy : l[i.toNat]? = some (rd t2 l i.toNat) := rd_get (by omega)
          refine ⟨_, by simp [Instr.indexAt, asIntOf, run_underlying hu, hg, run_sizeOf hie, hes, Instr.sureAddr]; rfl, rfl, (a.add o).add (i.toNat * t.size), by rw [add0], ?_, ?_, hok _ (List.mem_of_getElem? hy)⟩
          · intro j u hu
            rw [add_add', add_add']
            have hf := flat_get t2 (rd t2 l i.toNat) l i.toNat hok hy j u hu
            refine h4 _ u ?_
            have e2 : (t'.enc e)[o + (i.toNat * t.size + j)]? = (List.drop o (t'.enc e))[i.toNat * t.size + j]? := by simp
            rw [e2, hab, hva, ← hsz, List.getElem?_append_left (List.getElem?_eq_some_iff.1 hf).1]
            exact hf
          · rw [add_block, add_block]; exact h5
        · cases h
      · cases h
    · cases h
  · cases h

theorem optI_ok {ρ : Operand → A} {ev : Operand → Value} (hρ : ∀ x, RA w σ M (ρ x) (ev x)) {x : Option Operand} {i : Option Int} (h : optI ρ x = some i) :
    (x = none ∧ i = none) ∨ ∃ y n k, x = some y ∧ i = some n ∧ ev y = .int k n := by
  cases x with
  | none => simp only [optI, Option.some.injEq] at h; exact .inl ⟨rfl, h.symm⟩
  | some y =>
    simp only [optI] at h
    split at h
    · rename_i n hn
      simp only [Option.some.injEq] at h
      obtain ⟨k, hk⟩ := natOf_ok hn (hρ y)
      exact .inr ⟨y, n, k, rfl, h.symm, hk⟩
    · cases h

theorem run_bounds {b : Bool} {len cap : Nat} {lo hi : Option Value} {l h : Option Int} (hl : (lo = none ∧ l = none) ∨ ∃ n k, l = some n ∧ lo = some (.int k n)) (hh : (hi = none ∧ h = none) ∨ ∃ n k, h = some n ∧ hi = some (.int k n))
    (hlc : len ≤ cap) (h1 : (0 : Int) ≤ h.getD len) (h2 : h.getD len ≤ (cap : Int)) (h3 : 0 ≤ l.getD 0) (h4 : l.getD 0 ≤ h.getD len) :
    (Instr.sliceBounds b len cap lo hi none).run P w = .ok ((l.getD 0).toNat, (h.getD len).toNat, cap) w := by
  rcases hl with ⟨rfl, rfl⟩ | ⟨n, k, rfl, rfl⟩ <;> rcases hh with ⟨rfl, rfl⟩ | ⟨n', k', rfl, rfl⟩ <;> simp at h1 h2 h3 h4
  · simp [Instr.sliceBounds]
  · simp [Instr.sliceBounds, Instr.sliceBound, asIntOf, h1, h2]
  · simp [Instr.sliceBounds, Instr.sliceBound, asIntOf, h3, h4]
  · have h5 : max n' 0 = n' := by omega
    simp [Instr.sliceBounds, Instr.sliceBound, asIntOf, h1, h2, h3, h4, h5]

end
end Ev
end Go.Proofs.YtefjcgbidillhaaGreat
