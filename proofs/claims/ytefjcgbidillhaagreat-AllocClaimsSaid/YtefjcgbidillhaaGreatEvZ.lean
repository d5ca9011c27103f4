/- Things out of their cells; rows that are built; slices of slices; arithmetic. -/
import Derived.Test.YtefjcgbidillhaaGreatEvY
namespace Go.Proofs.YtefjcgbidillhaaGreat
open Go
open Go.RowKit (Below)
namespace Ev
set_option linter.unusedVariables false

section
variable {P : Program} {E : Env} {w : World} {σ : Wh} {M : Nat → Prop} {base : Nat} {m : Mem}

theorem dec_str_ok {l : List C} {x : Ty.D .str} {vs : List Value} (h : dec_str l = some x) (hr : Rs w σ M l vs) : vs = Ty.enc .str x ∧ Ty.ok .str x := by
  unfold dec_str at h
  split at h
  · simp only [Option.some.injEq] at h
    subst h
    simp [Rs, R1, Value.oneCell', Ty.ok] at hr
    simp [Ty.enc, encKey, encUnit, encLine, Ty.ok, hr]
  · cases h

theorem dec_int_ok {l : List C} {x : Ty.D .int} {vs : List Value} (h : dec_int l = some x) (hr : Rs w σ M l vs) : vs = Ty.enc .int x ∧ Ty.ok .int x := by
  unfold dec_int at h
  split at h
  · simp only [Option.some.injEq] at h
    subst h
    simp [Rs, R1, Value.oneCell', Ty.ok] at hr
    simp [Ty.enc, encKey, encUnit, encLine, Ty.ok, hr]
  · cases h

theorem dec_bool_ok {l : List C} {x : Ty.D .bool} {vs : List Value} (h : dec_bool l = some x) (hr : Rs w σ M l vs) : vs = Ty.enc .bool x ∧ Ty.ok .bool x := by
  unfold dec_bool at h
  split at h
  · simp only [Option.some.injEq] at h
    subst h
    simp [Rs, R1, Value.oneCell', Ty.ok] at hr
    simp [Ty.enc, encKey, encUnit, encLine, Ty.ok, hr]
  · cases h

theorem dec_key_ok {l : List C} {x : Ty.D .key} {vs : List Value} (h : dec_key l = some x) (hr : Rs w σ M l vs) : vs = Ty.enc .key x ∧ Ty.ok .key x := by
  unfold dec_key at h
  split at h
  · simp only [Option.some.injEq] at h
    subst h
    rw [Rs_single] at hr
    exact ⟨hr.1, hr.2⟩
  · simp only [Option.some.injEq] at h
    subst h
    simp [Rs, R1, Value.oneCell', Ty.ok] at hr
    simp [Ty.enc, encKey, encUnit, encLine, Ty.ok, hr]
  · cases h

theorem dec_unit_ok {l : List C} {x : Ty.D .unit} {vs : List Value} (h : dec_unit l = some x) (hr : Rs w σ M l vs) : vs = Ty.enc .unit x ∧ Ty.ok .unit x := by
  unfold dec_unit at h
  split at h
  · simp only [Option.some.injEq] at h
    subst h
    rw [Rs_single] at hr
    exact ⟨hr.1, hr.2⟩
  · simp only [Option.some.injEq] at h
    subst h
    simp [Rs, R1, Value.oneCell', Ty.ok] at hr
    simp [Ty.enc, encKey, encUnit, encLine, Ty.ok, hr]
  · cases h

theorem dec_item_ok {l : List C} {x : Ty.D .item} {vs : List Value} (h : dec_item l = some x) (hr : Rs w σ M l vs) : vs = Ty.enc .item x ∧ Ty.ok .item x := by
  unfold dec_item at h
  split at h
  · simp only [Option.some.injEq] at h
    subst h
    rw [Rs_single] at hr
    exact ⟨hr.1, hr.2⟩
  · simp only [Option.some.injEq] at h
    subst h
    obtain ⟨a0, b0, e0, ⟨rfl, _⟩, ⟨a9, b9, e9, ⟨rfl, hl, _⟩, hr⟩⟩ := hr
    simp [Rs, R1, Value.oneCell'] at hr
    subst e0 e9
    subst hr
    exact ⟨by simp [Ty.enc]; try rfl, hl⟩
  · cases h

theorem dec_lot_ok {l : List C} {x : Ty.D .lot} {vs : List Value} (h : dec_lot l = some x) (hr : Rs w σ M l vs) : vs = Ty.enc .lot x ∧ Ty.ok .lot x := by
  unfold dec_lot at h
  split at h
  · simp only [Option.some.injEq] at h
    subst h
    rw [Rs_single] at hr
    exact ⟨hr.1, hr.2⟩
  · simp only [Option.some.injEq] at h
    subst h
    simp [Rs, R1, Value.oneCell', Ty.ok] at hr
    simp [Ty.enc, encKey, encUnit, encLine, Ty.ok, hr]
  · cases h

theorem dec_zone_ok {l : List C} {x : Ty.D .zone} {vs : List Value} (h : dec_zone l = some x) (hr : Rs w σ M l vs) : vs = Ty.enc .zone x ∧ Ty.ok .zone x := by
  unfold dec_zone at h
  split at h
  · simp only [Option.some.injEq] at h
    subst h
    rw [Rs_single] at hr
    exact ⟨hr.1, hr.2⟩
  · simp only [Option.some.injEq] at h
    subst h
    simp [Rs, R1, Value.oneCell', Ty.ok] at hr
    simp [Ty.enc, encKey, encUnit, encLine, Ty.ok, hr]
  · cases h

theorem dec_bin_ok {l : List C} {x : Ty.D .bin} {vs : List Value} (h : dec_bin l = some x) (hr : Rs w σ M l vs) : vs = Ty.enc .bin x ∧ Ty.ok .bin x := by
  unfold dec_bin at h
  split at h
  · simp only [Option.some.injEq] at h
    subst h
    rw [Rs_single] at hr
    exact ⟨hr.1, hr.2⟩
  · simp only [Option.some.injEq] at h
    subst h
    simp [Rs, R1, Value.oneCell', Ty.ok] at hr
    simp [Ty.enc, encKey, encUnit, encLine, Ty.ok, hr]
  · cases h

theorem dec_quant_ok {l : List C} {x : Ty.D .quant} {vs : List Value} (h : dec_quant l = some x) (hr : Rs w σ M l vs) : vs = Ty.enc .quant x ∧ Ty.ok .quant x := by
  unfold dec_quant at h
  split at h
  · simp only [Option.some.injEq] at h
    subst h
    rw [Rs_single] at hr
    exact ⟨hr.1, hr.2⟩
  · simp only [Option.some.injEq] at h
    subst h
    simp [Rs, R1, Value.oneCell', Ty.ok] at hr
    simp [Ty.enc, encKey, encUnit, encLine, Ty.ok, hr]
  · simp only [Option.some.injEq] at h
    subst h
    simp [Rs, R1, Value.oneCell', Ty.ok] at hr
    simp [Ty.enc, encKey, encUnit, encLine, Ty.ok, hr]
  · cases h

theorem dec_rule_ok {l : List C} {x : Ty.D .rule} {vs : List Value} (h : dec_rule l = some x) (hr : Rs w σ M l vs) : vs = Ty.enc .rule x ∧ Ty.ok .rule x := by
  unfold dec_rule at h
  split at h
  · simp only [Option.some.injEq] at h
    subst h
    rw [Rs_single] at hr
    exact ⟨hr.1, hr.2⟩
  · simp only [Option.some.injEq] at h
    subst h
    simp [Rs, R1, Value.oneCell', Ty.ok] at hr
    simp [Ty.enc, encKey, encUnit, encLine, Ty.ok, hr]
  · cases h

theorem dec_line_ok {l : List C} {x : Ty.D .line} {vs : List Value} (h : dec_line l = some x) (hr : Rs w σ M l vs) : vs = Ty.enc .line x ∧ Ty.ok .line x := by
  unfold dec_line at h
  split at h
  · simp only [Option.some.injEq] at h
    subst h
    rw [Rs_single] at hr
    exact ⟨hr.1, hr.2⟩
  · simp only [Option.some.injEq] at h
    subst h
    simp [Rs, R1, Value.oneCell', Ty.ok] at hr
    simp [Ty.enc, encKey, encUnit, encLine, Ty.ok, hr]
  · cases h

theorem dec_notice_ok {l : List C} {x : Ty.D .notice} {vs : List Value} (h : dec_notice l = some x) (hr : Rs w σ M l vs) : vs = Ty.enc .notice x ∧ Ty.ok .notice x := by
  unfold dec_notice at h
  split at h
  · simp only [Option.some.injEq] at h
    subst h
    rw [Rs_single] at hr
    exact ⟨hr.1, hr.2⟩
  · simp only [Option.some.injEq] at h
    subst h
    obtain ⟨a0, b0, e0, ⟨rfl, _⟩, ⟨a1, b1, e1, ⟨rfl, _⟩, ⟨a9, b9, e9, ⟨rfl, hl, _⟩, hr⟩⟩⟩ := hr
    simp [Rs, R1, Value.oneCell'] at hr
    subst e0 e1 e9
    subst hr
    exact ⟨by simp [Ty.enc]; try rfl, hl⟩
  · cases h

theorem dec_order_ok {l : List C} {x : Ty.D .order} {vs : List Value} (h : dec_order l = some x) (hr : Rs w σ M l vs) : vs = Ty.enc .order x ∧ Ty.ok .order x := by
  unfold dec_order at h
  split at h
  · simp only [Option.some.injEq] at h
    subst h
    rw [Rs_single] at hr
    exact ⟨hr.1, hr.2⟩
  · simp only [Option.some.injEq] at h
    subst h
    obtain ⟨a0, b0, e0, ⟨rfl, _⟩, ⟨a1, b1, e1, ⟨rfl, _⟩, ⟨a9, b9, e9, ⟨rfl, hl, _⟩, hr⟩⟩⟩ := hr
    simp [Rs, R1, Value.oneCell'] at hr
    subst e0 e1 e9
    subst hr
    exact ⟨by simp [Ty.enc]; try rfl, hl⟩
  · cases h

theorem dec_claim_ok {l : List C} {x : Ty.D .claim} {vs : List Value} (h : dec_claim l = some x) (hr : Rs w σ M l vs) : vs = Ty.enc .claim x ∧ Ty.ok .claim x := by
  unfold dec_claim at h
  split at h
  · simp only [Option.some.injEq] at h
    subst h
    rw [Rs_single] at hr
    exact ⟨hr.1, hr.2⟩
  · simp only [Option.some.injEq] at h
    subst h
    simp [Rs, R1, Value.oneCell', Ty.ok] at hr
    simp [Ty.enc, encKey, encUnit, encLine, Ty.ok, hr]
  · simp only [Option.some.injEq] at h
    subst h
    simp [Rs, R1, Value.oneCell', Ty.ok] at hr
    simp [Ty.enc, encKey, encUnit, encLine, Ty.ok, hr]
  · cases h

theorem dec_task_ok {l : List C} {x : Ty.D .task} {vs : List Value} (h : dec_task l = some x) (hr : Rs w σ M l vs) : vs = Ty.enc .task x ∧ Ty.ok .task x := by
  unfold dec_task at h
  split at h
  · simp only [Option.some.injEq] at h
    subst h
    rw [Rs_single] at hr
    exact ⟨hr.1, hr.2⟩
  · simp only [Option.some.injEq] at h
    subst h
    simp [Rs, R1, Value.oneCell', Ty.ok] at hr
    simp [Ty.enc, encKey, encUnit, encLine, Ty.ok, hr]
  · cases h

theorem dec_parcel_ok {l : List C} {x : Ty.D .parcel} {vs : List Value} (h : dec_parcel l = some x) (hr : Rs w σ M l vs) : vs = Ty.enc .parcel x ∧ Ty.ok .parcel x := by
  unfold dec_parcel at h
  split at h
  · simp only [Option.some.injEq] at h
    subst h
    rw [Rs_single] at hr
    exact ⟨hr.1, hr.2⟩
  · simp only [Option.some.injEq] at h
    subst h
    simp [Rs, R1, Value.oneCell', Ty.ok] at hr
    simp [Ty.enc, encKey, encUnit, encLine, Ty.ok, hr]
  · cases h

theorem dec_sent_ok {l : List C} {x : Ty.D .sent} {vs : List Value} (h : dec_sent l = some x) (hr : Rs w σ M l vs) : vs = Ty.enc .sent x ∧ Ty.ok .sent x := by
  unfold dec_sent at h
  split at h
  · simp only [Option.some.injEq] at h
    subst h
    rw [Rs_single] at hr
    exact ⟨hr.1, hr.2⟩
  · simp only [Option.some.injEq] at h
    subst h
    simp [Rs, R1, Value.oneCell', Ty.ok] at hr
    simp [Ty.enc, encKey, encUnit, encLine, Ty.ok, hr]
  · cases h

theorem dec_counted_ok {l : List C} {x : Ty.D .counted} {vs : List Value} (h : dec_counted l = some x) (hr : Rs w σ M l vs) : vs = Ty.enc .counted x ∧ Ty.ok .counted x := by
  unfold dec_counted at h
  split at h
  · simp only [Option.some.injEq] at h
    subst h
    rw [Rs_single] at hr
    exact ⟨hr.1, hr.2⟩
  · simp only [Option.some.injEq] at h
    subst h
    simp [Rs, R1, Value.oneCell', Ty.ok] at hr
    simp [Ty.enc, encKey, encUnit, encLine, Ty.ok, hr]
  · cases h

theorem dec_total_ok {l : List C} {x : Ty.D .total} {vs : List Value} (h : dec_total l = some x) (hr : Rs w σ M l vs) : vs = Ty.enc .total x ∧ Ty.ok .total x := by
  unfold dec_total at h
  split at h
  · simp only [Option.some.injEq] at h
    subst h
    rw [Rs_single] at hr
    exact ⟨hr.1, hr.2⟩
  · simp only [Option.some.injEq] at h
    subst h
    simp [Rs, R1, Value.oneCell', Ty.ok] at hr
    simp [Ty.enc, encKey, encUnit, encLine, Ty.ok, hr]
  · cases h

theorem dec_take_ok {l : List C} {x : Ty.D .take} {vs : List Value} (h : dec_take l = some x) (hr : Rs w σ M l vs) : vs = Ty.enc .take x ∧ Ty.ok .take x := by
  unfold dec_take at h
  split at h
  · simp only [Option.some.injEq] at h
    subst h
    rw [Rs_single] at hr
    exact ⟨hr.1, hr.2⟩
  · simp only [Option.some.injEq] at h
    subst h
    simp [Rs, R1, Value.oneCell', Ty.ok] at hr
    simp [Ty.enc, encKey, encUnit, encLine, Ty.ok, hr]
  · cases h

theorem dec_entry_ok {l : List C} {x : Ty.D .entry} {vs : List Value} (h : dec_entry l = some x) (hr : Rs w σ M l vs) : vs = Ty.enc .entry x ∧ Ty.ok .entry x := by
  unfold dec_entry at h
  split at h
  · simp only [Option.some.injEq] at h
    subst h
    rw [Rs_single] at hr
    exact ⟨hr.1, hr.2⟩
  · simp only [Option.some.injEq] at h
    subst h
    simp [Rs, R1, Value.oneCell', Ty.ok] at hr
    simp [Ty.enc, encKey, encUnit, encLine, Ty.ok, hr]
  · cases h

theorem decC_ok {t : Ty} {l : List C} {x : t.D} {vs : List Value} (h : decC t l = some x) (hr : Rs w σ M l vs) : vs = t.enc x ∧ t.ok x := by
  cases t
  case str => exact dec_str_ok h hr
  case int => exact dec_int_ok h hr
  case bool => exact dec_bool_ok h hr
  case byte => cases h
  case key => exact dec_key_ok h hr
  case unit => exact dec_unit_ok h hr
  case item => exact dec_item_ok h hr
  case lot => exact dec_lot_ok h hr
  case zone => exact dec_zone_ok h hr
  case bin => exact dec_bin_ok h hr
  case quant => exact dec_quant_ok h hr
  case rule => exact dec_rule_ok h hr
  case line => exact dec_line_ok h hr
  case notice => exact dec_notice_ok h hr
  case order => exact dec_order_ok h hr
  case claim => exact dec_claim_ok h hr
  case task => exact dec_task_ok h hr
  case parcel => exact dec_parcel_ok h hr
  case sent => exact dec_sent_ok h hr
  case counted => exact dec_counted_ok h hr
  case total => exact dec_total_ok h hr
  case take => exact dec_take_ok h hr
  case entry => exact dec_entry_ok h hr

theorem flat_set (t : Ty) (e : t.D) (he : t.ok e) : ∀ (l : List t.D) (i : Nat), (∀ x ∈ l, t.ok x) → i < l.length →
    (l.flatMap t.enc).take (i * t.size) ++ t.enc e ++ (l.flatMap t.enc).drop (i * t.size + t.size) = (l.set i e).flatMap t.enc
  | [], i, _, h => by simp at h
  | y :: l, 0, ho, _ => by
    have hy := t.enc_len y (ho y (List.mem_cons_self ..))
    simp only [Nat.zero_mul, List.take_zero, List.nil_append, Nat.zero_add, List.flatMap_cons, List.set_cons_zero]
    rw [List.drop_append, List.drop_of_length_le (by omega), hy]
    simp
  | y :: l, i + 1, ho, h => by
    have hy := t.enc_len y (ho y (List.mem_cons_self ..))
    have ih := flat_set t e he l i (fun x hx => ho x (List.mem_cons_of_mem _ hx)) (by simpa using h)
    simp only [List.flatMap_cons, List.set_cons_succ]
    rw [← ih, List.take_append, List.take_of_length_le (l := t.enc y) (by rw [hy, Nat.add_mul]; omega), List.drop_append, List.drop_of_length_le (l := t.enc y) (by rw [hy, Nat.add_mul]; omega), hy]
    have e1 : (i + 1) * t.size - t.size = i * t.size := by rw [Nat.add_mul]; omega
    have e2 : (i + 1) * t.size + t.size - t.size = i * t.size + t.size := by rw [Nat.add_mul]; omega
    rw [e1, e2]
    simp

theorem flat_len_ok (t : Ty) : ∀ (l : List t.D), (∀ x ∈ l, t.ok x) → (l.flatMap t.enc).length = l.length * t.size
  | [], _ => by simp
  | x :: l, h => by
    simp only [List.flatMap_cons, List.length_append, List.length_cons]
    rw [flat_len_ok t l (fun y hy => h y (List.mem_cons_of_mem _ hy)), t.enc_len x (h x (List.mem_cons_self ..)), Nat.add_mul]
    omega

theorem mem_set_ok {t : Ty} {l : List t.D} {i : Nat} {e : t.D} (h : ∀ x ∈ l, t.ok x) (he : t.ok e) : ∀ x ∈ l.set i e, t.ok x := by
  intro x hx
  rcases List.mem_or_eq_of_mem_set hx with h' | rfl
  · exact h x h'
  · exact he

theorem buildL_ok {t : Ty} {place : Nat → Option (Nat × Nat)} (hp : ∀ i, place i = some (i * t.size, t.size)) :
    ∀ (l : List (Nat × List C)) (ps : List (Nat × Value)) (acc l' : List t.D) (cells : Array Value), F2 (fun x y => x.1 = y.1 ∧ Rs w σ M x.2 y.2.cells.toList) l ps → (∀ x ∈ acc, t.ok x) → cells.toList = acc.flatMap t.enc →
      buildL t acc l = some l' → ∃ cells', Instr.fill place cells ps = some cells' ∧ cells'.toList = l'.flatMap t.enc ∧ (∀ x ∈ l', t.ok x) ∧ l'.length = acc.length
  | [], [], acc, l', cells, _, ho, hr, h => by
    simp only [buildL, Option.some.injEq] at h
    subst h
    exact ⟨cells, rfl, hr, ho, rfl⟩
  | (i, x) :: l, (j, v) :: ps, acc, l', cells, ⟨⟨e, hx⟩, hrest⟩, ho, hr, h => by
    simp only at e hx
    subst e
    simp only [buildL] at h
    split at h
    · rename_i e hd
      split at h
      · rename_i hi
        have hi : i < acc.length := Nat.le_of_ble_eq_true hi
        obtain ⟨h1, h2⟩ := decC_ok hd hx
        have hvs : v.cells.size = t.size := by rw [← t.enc_len e h2, ← h1]; simp
        have hcl : cells.size = acc.length * t.size := by rw [← flat_len_ok t acc ho, ← hr]; simp
        have hfit : i * t.size + t.size ≤ cells.size := by
          rw [hcl, ← Nat.succ_mul]
          exact Nat.mul_le_mul_right _ hi
        obtain ⟨cells', h3, h4, h5, h6⟩ := buildL_ok hp l ps (acc.set i e) l' (cells.toList.take (i * t.size) ++ v.cells.toList ++ cells.toList.drop (i * t.size + t.size)).toArray hrest (mem_set_ok ho h2)
          (by rw [hr, h1]; exact flat_set t e h2 acc i ho hi) h
        exact ⟨cells', by rw [fill_cons (hp i) hvs hfit]; exact h3, h4, h5, by simpa using h6⟩
      · cases h
    · cases h
  | [], _ :: _, _, _, _, h, _, _, _ => h.elim
  | _ :: _, [], _, _, _, h, _, _, _ => h.elim

theorem Ty.zero_ok (t : Ty) : t.ok t.zero := by cases t <;> first | trivial | rfl

theorem take_drop_join {α : Type} (l : List α) (L H : Nat) (h : L ≤ H) : (l.take H).drop L ++ l.drop H = l.drop L := by
  have e : l.drop H = (l.drop L).drop (H - L) := by rw [List.drop_drop]; congr 1; omega
  rw [List.drop_take, e, List.take_append_drop]

theorem sliceC_ok (hE : EnvOK P E) (hm : MemOK w σ M base m) {T e : TypeId} {t0 : Ty} {p c : C} {l h : Option Int} {lo hi : Option Value} {v : Value} (ht : E.tab T = some (.sl e t0)) (hs : sliceC m t0.size l h p = some c) (hp : RA w σ M (.s p) v)
    (hl : (lo = none ∧ l = none) ∨ ∃ n k, l = some n ∧ lo = some (.int k n)) (hh : (hi = none ∧ h = none) ∨ ∃ n k, h = some n ∧ hi = some (.int k n)) :
    ∃ v', (Instr.sliceAt T v lo hi none).run P w = .ok v' w ∧ RA w σ M (.s c) v' := by
  obtain ⟨inf, hi', _, hu, _, ie, z, hie, hes, _⟩ := hE.tab T _ ht
  replace hp := hp.2
  cases p <;> simp only [sliceC] at hs <;> first | (cases hs; done) | skip
  case list t x bs =>
    split at hs
    · rename_i hb
      obtain ⟨hsz, h1, h2, h3, h4⟩ := hb
      simp only [Option.some.injEq] at hs
      subst hs
      obtain ⟨s, e1, hla⟩ := hp
      simp only [List.cons.injEq, and_true] at e1
      subst e1
      rcases hla with ⟨rfl, rfl, rfl⟩ | ⟨a, cap, rfl, g1, g2, g3, g4, g5⟩
      · have hh0 : h.getD ((0 : Nat) : Int) = 0 := by simp at h1 h2 ⊢; omega
        have hl0 : l.getD 0 = 0 := by simp at h4 hh0; omega
        have hb := run_bounds (P := P) (w := w) (b := true) (len := 0) (cap := 0) hl hh (Nat.le_refl _) (by omega) (by omega) h3 (by omega)
        rw [hh0, hl0] at hb
        refine ⟨.slice none 0 0, by simp [Instr.sliceAt, run_underlying hu, Instr.slice, hb, run_sizeOf hie], rfl, _, rfl, .inl ⟨rfl, by simp, by simp⟩⟩
      · have hb := run_bounds (P := P) (w := w) (b := true) (len := x.length) (cap := cap) hl hh (by omega) h1 (by omega) h3 h4
        obtain ⟨H, hH⟩ : ∃ H : Nat, h.getD ↑x.length = (H : Int) := ⟨(h.getD ↑x.length).toNat, by omega⟩
        obtain ⟨L, hL⟩ : ∃ L : Nat, l.getD 0 = (L : Int) := ⟨(l.getD 0).toNat, by omega⟩
        rw [hH] at h1 h2 h4 hb ⊢
        rw [hL] at h3 h4 hb ⊢
        simp only [Int.toNat_natCast] at hb ⊢
        have hLH : L ≤ H := by omega
        have hHl : H ≤ x.length + bs.length := by omega
        have e3 : (((x ++ bs).take H).drop L).length = H - L := by simp; omega
        have hj : ((x ++ bs).take H).drop L ++ (x ++ bs).drop H = (x ++ bs).drop L := take_drop_join _ _ _ hLH
        have e4 : (((x ++ bs).take H).drop L).length + ((x ++ bs).drop H).length = x.length + bs.length - L := by
          rw [← List.length_append, hj]; simp
        by_cases hc : cap = L
        · refine ⟨.slice (some a) (H - L) (cap - L), by simp [Instr.sliceAt, run_underlying hu, Instr.slice, hb, run_sizeOf hie]; intro hcc; exact absurd hc hcc, rfl, _, rfl, .inr ⟨a, cap - L, by rw [e3], by omega, by omega, ?_, ?_, ?_⟩⟩
          · left
            rw [hj]
            exact List.drop_of_length_le (by simp; omega)
          · rw [hj, List.drop_of_length_le (by simp; omega)]
            intro j u hu; simp at hu
          · rw [hj, List.drop_of_length_le (by simp; omega)]
            intro x hx; simp at hx
        · refine ⟨.slice (some (a.add (L * t.size))) (H - L) (cap - L), by simp [Instr.sliceAt, run_underlying hu, Instr.slice, hb, run_sizeOf hie, hc, hes, hsz], rfl, _, rfl, .inr ⟨a.add (L * t.size), cap - L, by rw [e3], by omega, by omega, ?_, ?_, ?_⟩⟩
          · rw [hj, add_block]
            rcases g3 with g3 | g3
            · left; rw [g3]; simp
            · exact .inr g3
          · intro j u hu'
            rw [hj, flat_drop t _ _ g5, List.getElem?_drop] at hu'
            rw [add_add']
            exact g4 _ u hu'
          · rw [hj]
            exact fun y hy => g5 y (List.mem_of_mem_drop hy)
    · cases hs
  case nils =>
    split at hs
    · rename_i hh0 hl0
      simp only [Option.some.injEq] at hs
      subst hs
      simp only [R1, List.cons.injEq, and_true] at hp
      subst hp
      have hb := run_bounds (P := P) (w := w) (b := true) (len := 0) (cap := 0) hl hh (Nat.le_refl _) (by simp [hh0]) (by simp [hh0]) (by omega) (by simp [hh0, hl0])
      simp only [Int.natCast_zero] at hb
      rw [hh0, hl0] at hb
      exact ⟨.slice none 0 0, by simp [Instr.sliceAt, run_underlying hu, Instr.slice, hb, run_sizeOf hie], rfl, rfl⟩
    · cases hs
  case own id =>
    split at hs
    · rename_i o ho
      obtain ⟨hown, hsz, hok⟩ := hm.own id o ho
      obtain ⟨e1, _⟩ := hp
      simp only [List.cons.injEq, and_true] at e1
      subst e1
      split at hs
      · rename_i hn
        split at hs
        · rename_i hb2
          simp only [Option.some.injEq] at hs
          subst hs
          rcases hl with ⟨rfl, _⟩ | ⟨_, _, hl, _⟩
          · rcases hown.2 with ⟨e, h'⟩ | ⟨g, cap, cur, e, _, _, h', _⟩
            · have hb := run_bounds (P := P) (w := w) (b := true) (len := 0) (cap := 0) (lo := none) (l := none) (.inl ⟨rfl, rfl⟩) hh (Nat.le_refl _) (by simpa using hb2.1) (by have := hb2.2; simp; omega) (by simp) (by simpa using hb2.1)
              refine ⟨.slice none hn.toNat 0, ?_, rfl, none, _, 0, e, by omega, ?_⟩
              · rw [e]
                have : hn.toNat = 0 := by omega
                simp [Instr.sliceAt, run_underlying hu, Instr.slice, hb, run_sizeOf hie]
              · rfl
            · have hb := run_bounds (P := P) (w := w) (b := true) (len := o.l.length) (cap := cap) (lo := none) (l := none) (.inl ⟨rfl, rfl⟩) hh h' (by simpa using hb2.1) (by have := hb2.2; simp; omega) (by simp) (by simpa using hb2.1)
              refine ⟨.slice (some ⟨g, 0, none⟩) hn.toNat cap, ?_, rfl, some ⟨g, 0, none⟩, _, cap, e, by omega, rfl⟩
              rw [e]
              simp [Instr.sliceAt, run_underlying hu, Instr.slice, hb, run_sizeOf hie, add0]
          · cases hl
        · cases hs
      · simp only [Option.some.injEq] at hs
        subst hs
        rcases hl with ⟨rfl, _⟩ | ⟨_, _, hl, _⟩
        · rcases hh with ⟨rfl, _⟩ | ⟨_, _, hh, _⟩
          · rcases hown.2 with ⟨e, h'⟩ | ⟨g, cap, cur, e, _, _, h', _⟩
            · refine ⟨σ.ov id, ?_, rfl, rfl, _, _, _, e⟩
              rw [e]
              simp [Instr.sliceAt, run_underlying hu, Instr.slice, Instr.sliceBounds, run_sizeOf hie]
            · refine ⟨σ.ov id, ?_, rfl, rfl, _, _, _, e⟩
              rw [e]
              simp [Instr.sliceAt, run_underlying hu, Instr.slice, Instr.sliceBounds, run_sizeOf hie, add0]
          · cases hh
        · cases hl
    · cases hs

end
end Ev
end Go.Proofs.YtefjcgbidillhaaGreat
