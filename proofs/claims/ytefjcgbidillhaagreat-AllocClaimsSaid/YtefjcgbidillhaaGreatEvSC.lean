/- Stores. -/
import Derived.Test.YtefjcgbidillhaaGreatEvSB
namespace Go.Proofs.YtefjcgbidillhaaGreat
open Go
open Go.RowKit (Below)
namespace Ev
set_option linter.unusedVariables false

section
variable {P : Program} {E : Env} {N : Nat → Prop} {fb : Nat} {w0 w w' : World} {σ σ' : Wh} {S : St} {a : Act}

/-- An owned slice whose elements are written. -/
theorem Sim.setOwn (h : Sim N fb w0 σ S a w) {id : Nat} {o : Own} {l' : List o.t.D} {g cap : Nat} {cur new : Array Value} (ho : getO S.mem id = some o) (hov : σ.ov id = .slice (some ⟨g, 0, none⟩) o.l.length cap)
    (hg : w.heap[g]? = some (.cells cur o.e (0, 0))) (hlen : l'.length = o.l.length) (hsz : new.size = cur.size) (hnew : new.toList.take (o.l.length * o.t.size) = l'.flatMap o.t.enc) (hok : ∀ x ∈ l', o.t.ok x) :
    Sim N fb w0 σ { S with mem := setO S.mem id ⟨o.e, o.t, l'⟩ } a (w.setRow g new) := by
  have hid := getO_lt ho
  have hob : (σ.ov id).ownBlock = some g := by rw [hov]; rfl
  have hM : Mt N fb σ (setO S.mem id ⟨o.e, o.t, l'⟩) = Mt N fb σ S.mem := by
    funext k
    simp only [Mt, eq_iff_iff, getB_setO]
    constructor
    · rintro (hm | hm | ⟨i, oi, h1, h2⟩)
      · exact .inl hm
      · exact .inr (.inl hm)
      · rw [getO_setO _ _ _ _ hid] at h1
        by_cases hi : i = id
        · subst hi; exact .inr (.inr ⟨i, o, ho, h2⟩)
        · rw [if_neg hi] at h1; exact .inr (.inr ⟨i, oi, h1, h2⟩)
    · rintro (hm | hm | ⟨i, oi, h1, h2⟩)
      · exact .inl hm
      · exact .inr (.inl hm)
      · by_cases hi : i = id
        · exact .inr (.inr ⟨i, _, by rw [getO_setO _ _ _ _ hid, if_pos hi], h2⟩)
        · exact .inr (.inr ⟨i, oi, by rw [getO_setO _ _ _ _ hid, if_neg hi]; exact h1, h2⟩)
  have hmb : Mt N fb σ S.mem g := .inr (.inr ⟨id, o, ho, hob⟩)
  have hg0 : w0.heap.size ≤ g := (ownBlock_lt (h.own id o ho).1 hob).1
  have k : Keeps w (Mt N fb σ S.mem) (w.setRow g new) (Mt N fb σ S.mem) :=
    ⟨fun ad had hnm => cell_setRow_other w _ _ ad fun e => hnm (by rw [e]; exact hmb), fun _ _ hm => hm⟩
  exact {
    defers := h.defers
    tmps := by rw [hM]; exact h.tmps.mono fun x hx u hu => RA_keep hu k fun c' _ => Agree.refl σ c'
    box := fun b l hl => by
      rw [hM]
      obtain ⟨c', e', hc, hr⟩ := h.box b l hl
      refine ⟨c', e', ?_, Rs_keep hr k fun c' _ => Agree.refl σ c'⟩
      rw [setRow_other w _ _ _ ?_]
      · exact hc
      · intro he
        by_cases hb0 : fb ≤ b
        · exact h.sep b l id o g hl ho hb0 hob he
        · have h1 := h.bold b l hl (by omega)
          omega
    bnew := h.bnew
    bold := h.bold
    binj := h.binj
    own := fun i oi hi => by
      simp only at hi
      rw [getO_setO _ _ _ _ hid] at hi
      by_cases e : i = id
      · subst e
        simp at hi
        subst hi
        obtain ⟨hown, hs, _⟩ := h.own i o ho
        refine ⟨⟨by rw [flat_len_ok o.t l' hok], ?_⟩, hs, hok⟩
        rcases hown.2 with ⟨e, _⟩ | ⟨g', cap', cur', e, h1, h2, h3, h4, h5, h6⟩
        · rw [hov] at e; cases e
        · rw [hov] at e
          simp only [Value.slice.injEq, Option.some.injEq, Addr.mk.injEq, and_true] at e
          obtain ⟨rfl, _, rfl⟩ := e
          rw [hg] at h2
          cases h2
          exact .inr ⟨g, cap, new, by rw [hov, hlen], h1, setRow_heap w g cur new o.e _ hg, by rw [hlen]; exact h3, h4, by rw [hsz]; exact h5, by rw [hlen]; exact hnew⟩
      · rw [if_neg e] at hi
        obtain ⟨h1, h2⟩ := h.own i oi hi
        refine ⟨h1.kept (row := some g) ⟨rfl, rfl, rfl, by simp, fun j _ hne => setRow_other w _ _ _ fun e => hne (by rw [e])⟩ ?_, h2⟩
        cases hv : (σ.ov i).ownBlock with
        | none => exact .inl rfl
        | some j =>
          right
          intro he
          cases he
          exact e (h.oinj i id oi o g hi ho hv hob)
    oinj := fun i i' o1 o2 j h1 h2 h3 h4 => by
      simp only at h1 h2
      rw [getO_setO _ _ _ _ hid] at h1 h2
      have g1 : ∃ o, getO S.mem i = some o := by
        by_cases hb : i = id
        · subst hb; exact ⟨_, ho⟩
        · rw [if_neg hb] at h1; exact ⟨_, h1⟩
      have g2 : ∃ o, getO S.mem i' = some o := by
        by_cases hb : i' = id
        · subst hb; exact ⟨_, ho⟩
        · rw [if_neg hb] at h2; exact ⟨_, h2⟩
      obtain ⟨_, g1⟩ := g1
      obtain ⟨_, g2⟩ := g2
      exact h.oinj i i' _ _ j g1 g2 h3 h4
    sep := fun b l i o1 j hl h1 hb0 hj he => by
      simp only at h1
      rw [getO_setO _ _ _ _ hid] at h1
      have g1 : ∃ o, getO S.mem i = some o := by
        by_cases hb : i = id
        · subst hb; exact ⟨_, ho⟩
        · rw [if_neg hb] at h1; exact ⟨_, h1⟩
      obtain ⟨_, g1⟩ := g1
      exact h.sep b l i _ j hl g1 hb0 hj he
    below := h.below.trans ⟨rfl, rfl, rfl, by simp, fun j hj => setRow_other w _ _ _ fun e => by omega⟩
    nlt := h.nlt }

theorem setC_ok {t : Ty} {e e' : t.D} {q : Nat} {u : Value} (h : setC t e q u = some e') (he : t.ok e) : t.ok e' ∧ q < (t.enc e).length ∧ t.enc e' = (t.enc e).set q u := by
  unfold setC at h
  split at h <;> first
    | (cases h; done)
    | (cases h; exact ⟨trivial, by simp [Ty.enc, encLine, encUnit], rfl⟩)

theorem set_eq_join (l : List Value) (q : Nat) (u : Value) (h : q < l.length) : l.set q u = l.take q ++ [u] ++ l.drop (q + 1) := by
  rw [List.set_eq_take_append_cons_drop, if_pos h]; simp

theorem flat_put (t : Ty) (e e' : t.D) (he' : t.ok e') (us : List Value) (q n : Nat) (hq : q + n ≤ t.size) : ∀ (x : List t.D) (i : Nat), (∀ y ∈ x, t.ok y) → x[i]? = some e → t.enc e' = (t.enc e).take q ++ us ++ (t.enc e).drop (q + n) →
    (x.flatMap t.enc).take (i * t.size + q) ++ us ++ (x.flatMap t.enc).drop (i * t.size + q + n) = (x.set i e').flatMap t.enc
  | [], i, _, h, _ => by simp at h
  | y :: x, 0, ho, h, hn => by
    simp at h; subst h
    have hy := t.enc_len y (ho y (List.mem_cons_self ..))
    simp only [Nat.zero_mul, Nat.zero_add, List.flatMap_cons, List.set_cons_zero]
    rw [hn, List.take_append, List.drop_append]
    have e1 : q - (t.enc y).length = 0 := by omega
    have e2 : q + n - (t.enc y).length = 0 := by omega
    rw [e1, e2]
    simp
  | y :: x, i + 1, ho, h, hn => by
    have hy := t.enc_len y (ho y (List.mem_cons_self ..))
    have ih := flat_put t e e' he' us q n hq x i (fun z hz => ho z (List.mem_cons_of_mem _ hz)) (by simpa using h) hn
    simp only [List.flatMap_cons, List.set_cons_succ]
    rw [← ih, List.take_append, List.take_of_length_le (l := t.enc y) (by rw [hy, Nat.add_mul]; omega), List.drop_append, List.drop_of_length_le (l := t.enc y) (by rw [hy, Nat.add_mul]; omega), hy]
    have e1 : (i + 1) * t.size + q - t.size = i * t.size + q := by rw [Nat.add_mul]; omega
    have e2 : (i + 1) * t.size + q + n - t.size = i * t.size + q + n := by rw [Nat.add_mul]; omega
    rw [e1, e2]
    simp

theorem newEl_ok {M : Nat → Prop} {t : Ty} {e e' : t.D} {n q : Nat} {new : List C} {us : List Value} (h : newEl t e n q new = some e') (he : t.ok e) (hn : Rs w σ M new us) :
    t.ok e' ∧ q + n ≤ t.size ∧ us.length = n ∧ t.enc e' = (t.enc e).take q ++ us ++ (t.enc e).drop (q + n) := by
  have hl2 := t.enc_len e he
  unfold newEl at h
  split at h
  · rename_i hc
    simp only [Bool.and_eq_true] at hc
    have hn1 := Nat.eq_of_beq_eq_true hc.1
    have hq1 := Nat.eq_of_beq_eq_true hc.2
    subst hn1 hq1
    obtain ⟨h3, h4⟩ := decC_ok h hn
    have hl1 := t.enc_len e' h4
    refine ⟨h4, by omega, by rw [h3]; exact hl1, ?_⟩
    rw [h3, List.drop_of_length_le (l := t.enc e) (by omega)]
    simp
  · split at h
    · rename_i u hn1
      have hn1 := Nat.eq_of_beq_eq_true hn1
      subst hn1
      obtain ⟨h3, h4, h5⟩ := setC_ok h he
      rw [Rs_single] at hn
      obtain ⟨rfl, _⟩ := hn
      exact ⟨h3, by omega, rfl, by rw [h5, set_eq_join _ _ _ h4]⟩
    · cases h

theorem join_put (A F B us : List Value) (o p n : Nat) (hA : A.length = o) (hF : p + n ≤ F.length) :
    (A ++ (F ++ B)).take (o + p) ++ us ++ (A ++ (F ++ B)).drop (o + p + n) = A ++ (F.take p ++ us ++ F.drop (p + n)) ++ B := by
  rw [List.take_append, List.take_of_length_le (l := A) (by omega), List.drop_append, List.drop_of_length_le (l := A) (by omega), List.take_append, List.drop_append]
  have e1 : o + p - A.length = p := by omega
  have e2 : o + p + n - A.length = p + n := by omega
  rw [e1, e2]
  have e3 : p - F.length = 0 := by omega
  have e4 : p + n - F.length = 0 := by omega
  rw [e3, e4]
  simp

theorem storeP_ok (h : Sim N fb w0 σ S a w) {p : C} {n : Nat} {new : List C} {m' : Mem} {v : Value} {us : List Value} (hs : storeP fb S.mem n new p = some m') (hp : RA w σ (Mt N fb σ S.mem) (.s p) v) (hn : Rs w σ (Mt N fb σ S.mem) new us) :
    ∃ ad w', v = .pointer (some ad) ∧ us.length = n ∧ (storeCells ad us).run P w = .ok () w' ∧ Sim N fb w0 σ { S with mem := m' } a w' := by
  replace hp := hp.2
  have hone := Rs_one _ _ hn
  cases p <;> simp only [storeP] at hs <;> first | (cases hs; done) | skip
  case ptr b o =>
    split at hs
    · rename_i hlo
      have hlo := Nat.le_of_ble_eq_true hlo
      split at hs
      · rename_i l hb
        obtain ⟨l', hw, rfl⟩ := Option.map_eq_some_iff.1 hs
        simp only [R1, List.cons.injEq, and_true] at hp
        subst hp
        obtain ⟨c, e, hc, hr⟩ := h.box b l hb
        obtain ⟨h0, h1, h2⟩ := writeC_ok hw hr hn
        have hst := run_storeCells_at P (σ.rs b) o e us 0 c w hc (by simp at h1; omega) hone
        refine ⟨_, _, rfl, h0, hst, h.setBox hlo hb hc ?_⟩
        rw [Nat.add_zero, h0]
        exact h2
      · cases hs
    · cases hs
  case arp b o t k' i q =>
    split at hs
    · rename_i hlo
      have hlo := Nat.le_of_ble_eq_true hlo
      split at hs
      · rename_i l k x hb harr
        split at hs
        · rename_i hkk
          have hkk := Nat.eq_of_beq_eq_true hkk
          split at hs
          · rename_i e' hnew
            obtain ⟨l', hw, rfl⟩ := Option.map_eq_some_iff.1 hs
            simp only [R1] at hp
            obtain ⟨hp, hik'⟩ := hp
            simp only [List.cons.injEq, and_true] at hp
            subst hp
            obtain ⟨hlen, hok, c, ety, l0, r, va, hb', hd, hc, hdrop, hva⟩ := arrAt_ok h.memOK harr
            rw [hb] at hb'
            cases hb'
            obtain ⟨c1, e1, hc1, hr⟩ := h.box b l hb
            rw [hc] at hc1
            cases hc1
            have hie : i < x.length := by omega
            have hx : x[i]? = some (rd t x i) := rd_get hie
            have heo := hok _ (List.mem_of_getElem? hx)
            obtain ⟨g1, g2, g3, g4⟩ := newEl_ok hnew heo hn
            have hfl := flat_len_ok t x hok
            have hik : i * t.size + t.size ≤ x.length * t.size := by rw [← Nat.succ_mul]; exact Nat.mul_le_mul_right _ hie
            have hA : Rs w σ (Mt N fb σ S.mem) [.arr t k (x.set i e')] ((x.set i e').flatMap t.enc) := Rs_single.2 ⟨rfl, by simpa using hlen, mem_set_ok hok g1⟩
            obtain ⟨h0, h1, h2⟩ := writeC_ok hw hr hA
            have hcsplit : c.toList = c.toList.take o ++ (x.flatMap t.enc ++ va) := by rw [← hdrop, List.take_append_drop]
            have hol : (c.toList.take o).length = o := by
              rw [List.length_take]
              have : o ≤ c.toList.length := by
                have := (dropC_ok _ _ _ _ _ hd hr).1
                exact this
              omega
            have hcl : c.toList.length = o + (x.length * t.size + va.length) := by
              conv => lhs; rw [hcsplit]
              simp only [List.length_append, hol, hfl]
            have hst := run_storeCells_at P (σ.rs b) (o + i * t.size + q) ety us 0 c w hc (by simp at hcl; omega) hone
            refine ⟨_, _, rfl, g3, hst, h.setBox hlo hb hc ?_⟩
            have hcalc : c.toList.take (o + i * t.size + q + 0) ++ us ++ c.toList.drop (o + i * t.size + q + 0 + us.length) = c.toList.take o ++ (x.set i e').flatMap t.enc ++ c.toList.drop (o + k * t.size) := by
              have hj := join_put (c.toList.take o) (x.flatMap t.enc) va us o (i * t.size + q) n hol (by rw [hfl]; omega)
              rw [← hcsplit] at hj
              have hp := flat_put t (rd t x i) e' g1 us q n g2 x i hok hx g4
              have e5 : i * t.size + q + n = i * t.size + q + n := rfl
              rw [hp] at hj
              have e6 : o + i * t.size + q + 0 = o + (i * t.size + q) := by omega
              have e7 : o + (i * t.size + q) + us.length = o + (i * t.size + q) + n := by omega
              rw [e6, e7, hj]
              congr 1
              have e8 : c.toList.drop (o + k * t.size) = (c.toList.drop o).drop (k * t.size) := by rw [List.drop_drop]
              rw [e8, hdrop, ← hlen, ← hfl, List.drop_left]
            rw [hcalc]
            exact h2
          · cases hs
        · cases hs
      · cases hs
    · cases hs
  case ownp id i q =>
    split at hs
    · rename_i hlo
      split at hs
      · rename_i o ho
        · split at hs
          · rename_i e' hnew
            cases hs
            obtain ⟨g, len, cap, hov, e1, hil⟩ := hp
            simp only [List.cons.injEq, and_true] at e1
            subst e1
            obtain ⟨hown, hsz, hok⟩ := h.own id o ho
            have hlen0 : len = o.l.length := by
              rcases hown.2 with ⟨e2, _⟩ | ⟨_, _, _, e2, _⟩
              · rw [hov] at e2; cases e2
              · rw [hov] at e2; simp only [Value.slice.injEq] at e2; exact e2.2.1
            have hie : i < o.l.length := by omega
            have hx : o.l[i]? = some (rd o.t o.l i) := rd_get hie
            have heo := hok _ (List.mem_of_getElem? hx)
            obtain ⟨g1, g2, g3, g4⟩ := newEl_ok hnew heo hn
            have hfl := flat_len_ok o.t o.l hok
            have hik : i * o.t.size + o.t.size ≤ o.l.length * o.t.size := by rw [← Nat.succ_mul]; exact Nat.mul_le_mul_right _ hie
            rcases hown.2 with ⟨e2, _⟩ | ⟨g', cap', cur, e2, h1, h2, h3, h4, h5, h6⟩
            · rw [hov] at e2; cases e2
            · rw [hov] at e2
              simp only [Value.slice.injEq, Option.some.injEq, Addr.mk.injEq, and_true] at e2
              obtain ⟨rfl, rfl, rfl⟩ := e2
              have hcl : cur.toList.length = cap * o.t.size := by simpa using h5
              have hcap : o.l.length * o.t.size ≤ cap * o.t.size := Nat.mul_le_mul_right _ h3
              have hst := run_storeCells_at P g (i * o.t.size + q) o.e us 0 cur w h2 (by simp at hcl; omega) hone
              rw [hsz]
              refine ⟨_, _, rfl, g3, hst, h.setOwn ho hov h2 (by simp) ?_ ?_ (mem_set_ok hok g1)⟩
              · simp; omega
              · have hcsplit : cur.toList = [] ++ (o.l.flatMap o.t.enc ++ cur.toList.drop (o.l.length * o.t.size)) := by rw [← h6, List.nil_append, List.take_append_drop]
                have hj := join_put [] (o.l.flatMap o.t.enc) (cur.toList.drop (o.l.length * o.t.size)) us 0 (i * o.t.size + q) n rfl (by rw [hfl]; omega)
                rw [← hcsplit, flat_put o.t (rd o.t o.l i) e' g1 us q n g2 o.l i hok hx g4] at hj
                have e7 : i * o.t.size + q + 0 = 0 + (i * o.t.size + q) := by omega
                have e8 : 0 + (i * o.t.size + q) + us.length = 0 + (i * o.t.size + q) + n := by omega
                simp only
                rw [e7, e8, hj, List.nil_append]
                have hfl' : ((o.l.set i e').flatMap o.t.enc).length = o.l.length * o.t.size := by rw [flat_len_ok o.t _ (mem_set_ok hok g1)]; simp
                rw [List.take_append, List.take_of_length_le (by omega), hfl']
                simp
          · cases hs
      · cases hs
    · cases hs

end
end Ev
end Go.Proofs.YtefjcgbidillhaaGreat
