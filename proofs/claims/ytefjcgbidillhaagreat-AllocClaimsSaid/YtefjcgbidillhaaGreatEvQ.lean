/- THE OPERATIONS THAT TURN NOTHING, all of them. -/
import Derived.Test.YtefjcgbidillhaaGreatEvU
namespace Go.Proofs.YtefjcgbidillhaaGreat
open Go
open Go.RowKit (Below)
namespace Ev
set_option linter.unusedVariables false

section
variable {P : Program} {E : Env} {w : World} {σ : Wh} {M : Nat → Prop} {base : Nat} {m : Mem} {call : CallT} {ρ : Operand → A} {ev : Operand → Value}

theorem F2_map_of {α β γ : Type} {R : β → γ → Prop} (f : α → β) (g : α → γ) (h : ∀ x, R (f x) (g x)) : ∀ l : List α, F2 R (l.map f) (l.map g)
  | [] => trivial
  | x :: l => ⟨h x, F2_map_of f g h l⟩

theorem run_callFunc {f : FuncId} (h : Callable P f) (args : Array Value) : (callFunc f args).run P w = .ok (.enter f args) w := by
  obtain ⟨fn, h1, h2, h3⟩ := h
  unfold callFunc
  simp only [Sem.run_bind, run_program, Result.andThen_ok, h1]
  simp [h2, h3]

theorem places_of (P : Program) : ∀ fs : List Field, (∀ f ∈ fs, ∃ i, P.info? f.type = some i) → ∃ places, fs.mapM (fun f => (P.info? f.type).map fun i => (f.offset, i.size)) = some places
  | [], _ => ⟨[], rfl⟩
  | f :: fs, h => by
    obtain ⟨i, hi⟩ := h f (List.mem_cons_self ..)
    obtain ⟨r, hr⟩ := places_of P fs fun g hg => h g (List.mem_cons_of_mem _ hg)
    exact ⟨(f.offset, i.size) :: r, by simp [List.mapM_cons, hi, hr]⟩

theorem places_get (P : Program) : ∀ (fs : List Field) (places : List (Nat × Nat)), fs.mapM (fun f => (P.info? f.type).map fun i => (f.offset, i.size)) = some places → ∀ (i : Nat) (f : Field), fs[i]? = some f → ∀ inf, P.info? f.type = some inf → places[i]? = some (f.offset, inf.size)
  | [], _, _, i, f, h, _, _ => by simp at h
  | g :: fs, places, hp, i, f, h, inf, hi => by
    simp only [List.mapM_cons, Option.bind_eq_bind, Option.pure_def] at hp
    cases hg : P.info? g.type with
    | none => simp [hg] at hp
    | some ig =>
      cases hr : fs.mapM (fun f => (P.info? f.type).map fun i => (f.offset, i.size)) with
      | none => simp [hg, hr] at hp
      | some rest =>
        simp [hg, hr] at hp
        subst hp
        cases i with
        | zero =>
          simp at h; subst h
          rw [hg] at hi; cases hi
          simp
        | succ i => simpa using places_get P fs rest hr i f (by simpa using h) inf hi

theorem capA_ok : ∀ (cap : List (Nat × Nat)), F2 (RA w σ M) (capA cap) (cap.map fun p => Value.pointer (some ⟨σ.rs p.1, p.2, none⟩))
  | [] => trivial
  | p :: cap => ⟨⟨rfl, rfl⟩, capA_ok cap⟩

theorem trimB_get : ∀ (l : List (Option (List C))) (b : Nat) (x : List C), (trimB l)[b]? = some (some x) → l[b]? = some (some x)
  | [], b, x, h => by simp [trimB] at h
  | y :: l, b, x, h => by
    simp only [trimB] at h
    split at h
    · simp at h
    · cases b with
      | zero => simpa using h
      | succ b => simpa using trimB_get l b x (by simpa using h)

theorem memFor_get {l : List A} {b : Nat} {x : List C} (h : getB (memFor l m) b = some x) : getB m b = some x := by
  have get : ∀ {m : Mem}, getB m b = some x ↔ m.boxes[b]? = some (some x) := by
    intro m
    unfold getB
    cases h : m.boxes[b]? with
    | none => simp
    | some o => cases o <;> simp
  unfold memFor at h
  split at h
  · simp [getB] at h
  · rw [get] at h ⊢
    exact trimB_get _ _ _ h

/-- A call, as the contracts have it. -/
theorem callA_ok (hc : CallOK P call) (hm : ∀ b l, getB m b = some l → ∃ c e, w.heap[σ.rs b]? = some (.cells c e (0, 0)) ∧ Rs w σ M l c.toList) (hM : ∀ g, M g → g < w.heap.size) {f : FuncId} {cap : List (Nat × Nat)} {l : List A} {vs : List Value} {x : A} {cf : Operand} {args : Array Operand} {tys : Array TypeId} {ty : TypeId}
    (h : call f (l ++ capA cap) (memFor (l ++ capA cap) m) = some (true, x)) (hl : F2 (RA w σ M) l vs) (hf : ev cf = .func (.func f) #[] (cap.map fun p => Value.pointer (some ⟨σ.rs p.1, p.2, none⟩)).toArray) (ha : args.map ev = vs.toArray) :
    ∃ us, (do let d ← resolve ev { callee := .value cf, args := args, argTypes := tys } ty; invoke d.target d.args : Sem Next).run P w = .ok (.enter f us) w ∧ Calls P f us w fun e w' => ∃ v, e = .returned v ∧ RA w' σ M x v ∧ Below w.heap.size w w' := by
  obtain ⟨hcall, hspec⟩ := hc _ _ _ _ h
  refine ⟨(vs ++ cap.map fun p => Value.pointer (some ⟨σ.rs p.1, p.2, none⟩)).toArray, ?_, ?_⟩
  · simp only [resolve, hf, ha, Deferred.ofValue, Sem.run_bind, Sem.run_pure, Result.andThen_ok, invoke]
    rw [run_callFunc hcall]
    simp
  · refine hspec σ M w _ hM (F2.append hl (capA_ok cap)) ?_
    intro b l' hb
    refine hm b l' ?_
    exact memFor_get hb

theorem sliceC_of {sz : Nat} {lo hi : Option Int} {c c' : C} (h : sliceV m lo hi c = some c') (hg : sliceG m sz lo hi c = true) : sliceC m sz lo hi c = some c' := by
  cases c <;> simp only [sliceV] at h <;> first | (cases h; done) | skip
  case list t l bs =>
    simp only [sliceG, Bool.and_eq_true] at hg
    obtain ⟨hsz, hg⟩ := hg
    have hsz := Nat.eq_of_beq_eq_true hsz
    simp only [sliceC]
    cases lo <;> cases hi <;> simp only [Option.getD_none, Option.getD_some] at h hg ⊢ <;> cases h
    · rw [if_pos ⟨hsz, by omega, by omega, by omega, by omega⟩]
      simp
    · simp only [Bool.and_eq_true, decide_eq_true_eq] at hg
      rw [if_pos ⟨hsz, by omega, by omega, by omega, by omega⟩]
      simp
    · simp only [Bool.and_eq_true, decide_eq_true_eq] at hg
      rw [if_pos ⟨hsz, by omega, by omega, by omega, by omega⟩]
      simp
    · simp only [Bool.and_eq_true, decide_eq_true_eq] at hg
      rw [if_pos ⟨hsz, by omega, by omega, by omega, by omega⟩]
  case nils => exact h
  case own id =>
    simp only [sliceG] at hg
    split at hg
    · rename_i o ho
      cases lo <;> cases hi <;> simp only [sliceC, ho] at h hg ⊢ <;> first | (cases h; done) | exact h | skip
      simp only [Bool.and_eq_true, decide_eq_true_eq] at hg
      rw [if_pos hg]
      exact h
    · cases hg

theorem sliceA_of {T : TypeId} {lo hi : Option Int} {x y : A} (h : sliceAV E m T x lo hi = some y) (hg : sliceAG E m T x lo hi = true) : sliceA E m T x lo hi = some y := by
  unfold sliceAV at h
  unfold sliceAG at hg
  unfold sliceA
  split at h
  · rename_i s
    simp only [Bool.and_eq_true] at hg
    obtain ⟨hs, hg⟩ := hg
    cases lo <;> cases hi <;> simp only [Option.getD_none, Option.getD_some] at h hg ⊢ <;> cases h
    · rw [if_pos ⟨hs, by omega, by omega, by omega, by omega⟩]
      simp
    all_goals
      simp only [Bool.and_eq_true, decide_eq_true_eq] at hg
      rw [if_pos ⟨hs, by omega, by omega, by omega, by omega⟩]
      try simp
  · rename_i c hne
    simp only at hg ⊢
    split at hg
    · rename_i e t ht
      obtain ⟨c', hc, rfl⟩ := Option.map_eq_some_iff.1 h
      simp only [ht, sliceC_of hc hg, Option.map_some]
    · cases hg
  · cases h

theorem valA_ok (hE : EnvOK P E) (hc : CallOK P call) (hm : MemOK w σ M base m) (hM : ∀ g, M g → g < w.heap.size) (hρ : ∀ x, RA w σ M (ρ x) (ev x)) {o : Oper} {x : A} (h : valA E call m ρ o = some x) (hb : guardA E call m ρ o = true) :
    Yld P w σ M (execOp ev o) x := by
  obtain ⟨dst, op, ty, pos, aft, gd⟩ := o
  cases op <;> simp only [valA] at h <;> first | (cases h; done) | skip
  case move y => cases h; exact .pure (by simp [execOp]) (hρ y)
  case assign y => cases h; exact .pure (by simp [execOp]) (hρ y)
  case pick c a b =>
    split at h
    · rename_i r hr
      have h1 := hρ c
      rw [hr] at h1
      have h1 := of_RA_v h1
      split at h
      · rename_i p q hp hq
        cases h
        have h2 := hρ a
        have h3 := hρ b
        rw [hp] at h2
        rw [hq] at h3
        have h2 := of_RA_v h2
        have h3 := of_RA_v h3
        refine .pure (v := .bool (bif r then p else q)) ?_ (RA_v rfl)
        cases r <;> simp [execOp, h1, h2, h3, asBool]
      · split at h
        · cases h
          exact .pure (by simp [execOp, h1, asBool]) (hρ a)
        · cases h
          exact .pure (by simp [execOp, h1, asBool]) (hρ b)
    · cases h
  case load T a =>
    split at h
    · rename_i ti p ht hp
      split at h
      · rename_i l hl
        have h1 := hρ a
        rw [hp] at h1
        obtain ⟨ad, vs, h2, h3, h4, h5⟩ := loadP_ok hm hl h1
        obtain ⟨v, h6, h7⟩ := valOf_ok (hE.tab T ti ht) h h4 h3 h5
        exact .pure (by simp [execOp, Instr.loadAt, h2, Instr.sureAddr, h6]) h7
      · cases h
    · cases h
  case fieldAddr T a f =>
    split at h
    · rename_i p o n hp hf
      obtain ⟨c, hc1, rfl⟩ := Option.map_eq_some_iff.1 h
      have h1 := hρ a
      rw [hp] at h1
      obtain ⟨ad, h2, h3⟩ := moveP_ok hc1 h1
      exact .pure (by simp [execOp, h2, fieldAt_ok hE hf ad]) h3
    · cases h
  case indexAddr T a i =>
    split at h
    · rename_i p n hp hn
      obtain ⟨c, hc1, rfl⟩ := Option.map_eq_some_iff.1 h
      have h1 := hρ a
      rw [hp] at h1
      obtain ⟨k, h2⟩ := natOf_ok hn (hρ i)
      simp only [guardA, hp, hn] at hb
      obtain ⟨ad, h3, h4⟩ := indexP_ok (k := k) hE hm hc1 hb h1
      exact .pure (by simp [execOp, h2, h3]) h4
    · cases h
  case index T a i =>
    split at h
    · rename_i n t l hax
      split at h
      · rename_i i' hn
        cases h
        have hb : 0 ≤ i' ∧ i' < (n : Int) := by
          simp only [guardA, hax, hn, decide_eq_true_eq] at hb
          exact hb
        unfold arrIx at hax
        split at hax
        · rename_i t0 k l0 hx
          split at hax
          · rename_i n0 e0 t' ht
            split at hax
            · rename_i sz fs he
              split at hax
              · rename_i hsz
                simp only [Option.some.injEq, Prod.mk.injEq, Sigma.mk.injEq] at hax
                obtain ⟨rfl, rfl, hl⟩ := hax
                have hl := eq_of_heq hl
                subst hl
                simp only [Bool.and_eq_true] at hsz
                have hk := Nat.eq_of_beq_eq_true hsz.2
                have hsz := Nat.eq_of_beq_eq_true hsz.1
                have h1 := hρ a
                rw [hx] at h1
                obtain ⟨vs, e1, h1⟩ := h1
                obtain ⟨hvs, hlen, hok⟩ := Rs_single.1 h1
                obtain ⟨k2, h2⟩ := natOf_ok hn (hρ i)
                obtain ⟨inf, hi, _, hu, ie, z, hie, hes, _⟩ := hE.tab T _ ht
                obtain ⟨inf2, hi2, hz2, flds, hu2, _⟩ := hE.tab e0 _ he
                have hlt : i'.toNat < l0.length := by omega
                have hx2 : l0[i'.toNat]? = some (rd t0 l0 i'.toNat) := rd_get hlt
                have hxo := hok _ (List.mem_of_getElem? hx2)
                have hfl := flat_len_ok t0 l0 hok
                have hmul : i'.toNat * t0.size + t0.size ≤ l0.length * t0.size := by rw [← Nat.succ_mul]; exact Nat.mul_le_mul_right _ hlt
                have hcut : (vs.drop (i'.toNat * t0.size)).take t0.size = t0.enc (rd t0 l0 i'.toNat) := by
                  apply List.ext_getElem?
                  intro j
                  rcases Nat.lt_or_ge j t0.size with hj | hj
                  · rw [List.getElem?_take, if_pos hj, List.getElem?_drop, hvs]
                    have hej : (t0.enc (rd t0 l0 i'.toNat))[j]? = some ((t0.enc (rd t0 l0 i'.toNat))[j]'(by rw [t0.enc_len _ hxo]; exact hj)) := List.getElem?_eq_getElem _
                    rw [flat_get t0 _ l0 i'.toNat hok hx2 j _ hej, hej]
                  · rw [List.getElem?_eq_none (by simp; omega), List.getElem?_eq_none (by rw [t0.enc_len _ hxo]; exact hj)]
                refine .pure (v := .agg ((vs.toArray).extract (i'.toNat * t0.size) (i'.toNat * t0.size + t0.size))) ?_ ⟨_, by rw [List.extract_toArray], ?_⟩
                · have hs2 : ie.size = t0.size := by rw [hes, hsz]
                  simp [execOp, e1, h2, Instr.index, asIntOf, run_underlying hu, hb.1, hb.2, run_sizeOf hie, hs2, part, run_isAgg hu2]
                · have : vs.extract (i'.toNat * t0.size) (i'.toNat * t0.size + t0.size) = t0.enc (rd t0 l0 i'.toNat) := by
                    rw [List.extract_eq_take_drop, ← hcut]
                    congr 1; omega
                  rw [this]
                  exact Rs_single.2 ⟨rfl, hxo⟩
              · cases hax
            · cases hax
          · cases hax
        · cases hax
      · cases h
    · rename_i hax
      split at h
      · rename_i s n hT hs hn
        cases h
        simp only [guardA, hax] at hb
        simp only [hs, hn, decide_eq_true_eq] at hb
        have h1 := hρ a
        rw [hs] at h1
        have h1 := of_RA_v h1
        obtain ⟨k, h2⟩ := natOf_ok hn (hρ i)
        have hlt : n.toNat < s.size := by omega
        have hx : s[n.toNat]? = some s[n.toNat] := by rw [getElem?_pos]
        have hr : rb s n.toNat = (s[n.toNat].toNat : Int) := by unfold rb; rw [hx]; rfl
        rw [hr]
        exact .pure (by simp [execOp, h1, h2, Instr.index, asIntOf, run_underlying (hE.str T hT), hb.1, hx]) (RA_v rfl)
      · cases h
  case extract a i =>
    split at h
    · rename_i l hl
      have h1 := hρ a
      rw [hl] at h1
      obtain ⟨vs, h2, h3⟩ := h1
      split at h
      · rename_i l' hi
        cases h
        obtain ⟨v, hv, hr⟩ := h3.get i _ hi
        exact .pure (v := v) (by simp [execOp, h2, Instr.extract, hv]) hr
      · rename_i c hi
        cases h
        obtain ⟨v, hv, c', e, h4, h5⟩ := h3.get i _ hi
        simp only [List.cons.injEq, and_true] at e
        subst e
        exact .pure (v := v) (by simp [execOp, h2, Instr.extract, hv]) ⟨h4, h5⟩
      · cases h
    · cases h
  case build T ps =>
    split at h
    · rename_i n fs z l ht hz hl
      obtain ⟨l', hb, rfl⟩ := Option.map_eq_some_iff.1 h
      obtain ⟨inf, hi, hsz, flds, hu, hmap, hall⟩ := hE.tab T _ ht
      obtain ⟨inf', zv, hi', hzv, hzr, _⟩ := hE.zero T z hz
      cases hi.symm.trans hi'
      obtain ⟨places, hpl⟩ := places_of P flds.toList hall
      have hp := partsA_ok hρ ps.toList l hl
      obtain ⟨cells', h1, h2⟩ := buildA_ok (E := E) (place := fun i => places.toArray[i]?) (pl := fieldAt E T) (fun i o n hf => by
        have := places_get P flds.toList places hpl i
        unfold fieldAt at hf
        rw [ht] at hf
        simp only at hf
        split at hf
        · rename_i o' ft hfs
          split at hf
          · rename_i ti hti
            split at hf
            · cases hf
            · simp only [Option.some.injEq, Prod.mk.injEq] at hf
              obtain ⟨rfl, rfl⟩ := hf
              rw [← hmap, List.getElem?_map] at hfs
              obtain ⟨fld, hfl, he⟩ := Option.map_eq_some_iff.1 hfs
              simp only [Prod.mk.injEq] at he
              obtain ⟨rfl, rfl⟩ := he
              obtain ⟨inf2, hi2, hs2, _⟩ := hE.tab _ _ hti
              have h3 := this fld hfl inf2 hi2
              rw [hs2] at h3
              simpa using h3
          · cases hf
        · cases hf) l _ z l' zv.cells hp (hzr w σ M) hb
      refine .pure (v := .agg cells') ?_ ⟨cells'.toList, rfl, h2⟩
      have hb' : P.built T (ps.map fun x => (x.1, ev x.2)).toList = some cells' := by
        unfold Program.built
        rw [hi, hu]
        simp only [hzv, hpl]
        simpa using h1
      simp only [execOp]
      rw [Sem.run_bind, run_build w T _ cells' hb']
      rfl
    · rename_i n e t z l ht hz hl
      obtain ⟨l', hb, rfl⟩ := Option.map_eq_some_iff.1 h
      obtain ⟨inf, hi, hsz, hu, ie, ze, hie, hes, hez, hec⟩ := hE.tab T _ ht
      have hp := partsA_ok hρ ps.toList l hl
      obtain ⟨cells', h1, h2, h3, h4⟩ := buildL_ok (place := fun i => some (i * t.size, t.size)) (fun i => rfl) l _ (List.replicate n t.zero) l' ze.cells hp (by intro x hx; rw [List.eq_of_mem_replicate hx]; exact t.zero_ok) hec hb
      refine .pure (v := .agg cells') ?_ ⟨cells'.toList, rfl, Rs_single.2 ⟨h2, by simpa using h4, h3⟩⟩
      have hb' : P.built T (ps.map fun x => (x.1, ev x.2)).toList = some cells' := by
        unfold Program.built
        rw [hi, hu]
        simp only [hez, hie, hes]
        simpa using h1
      simp only [execOp]
      rw [Sem.run_bind, run_build w T _ cells' hb']
      rfl
    · cases h
  case buildSlice T n ps =>
    split at h
    · rename_i e t l ht hl
      split at h
      · rename_i hn
        obtain ⟨l', hb, rfl⟩ := Option.map_eq_some_iff.1 h
        have hn := Nat.le_of_ble_eq_true hn
        obtain ⟨inf, hi, hsz, hu, _, ie, ze, hie, hes, hby, hez, hec⟩ := hE.tab T _ ht
        have hp := partsA_ok hρ ps.toList l hl
        have hzs : ze.cells.size = t.size := by rw [← t.enc_len t.zero t.zero_ok, ← hec]; simp
        obtain ⟨cells', h1, h2, h3, h4⟩ := buildL_ok (place := fun i => some (i * t.size, t.size)) (fun i => rfl) l _ (List.replicate n t.zero) l' (madeCells ze.cells (n * t.size)) hp (by intro x hx; rw [List.eq_of_mem_replicate hx]; exact t.zero_ok) (made_flat t ze.cells hec n) hb
        have hlen : l'.length = n := by simpa using h4
        have hsmall : n * t.size ≤ 16777216 := by
          have : t.size ≤ 51 := by cases t <;> decide
          have := Nat.mul_le_mul hn this
          omega
        refine .inl ⟨.slice (some ⟨w.heap.size, 0, none⟩) n n, w.alloc (.cells cells' e), ?_, ⟨rfl, _, rfl, .inr ⟨⟨w.heap.size, 0, none⟩, n, by rw [hlen], by simp [hlen], ?_, ?_, ?_, by simpa using h3⟩⟩, (Below.refl _ _).alloc (Nat.le_refl _) _⟩
        · simp only [execOp]
          have hz : (zeroValue e).run P w = .ok ze w := by simp [zeroValue, typeInfo, hie, hez]
          by_cases h0 : n * t.size = 0
          · have h1' : Instr.fill (fun i => some (i * t.size, t.size)) (Array.map (fun x => (default : Value)) (Array.range (n * t.size))) (List.map (fun x => (x.1, ev x.2)) ps.toList) = some cells' := by
              rw [← h1]
              congr 1
              rw [h0]; simp [madeCells]
            simp [Instr.buildSlice, run_underlying hu, run_sizeOf hie, hes, Nat.not_lt.2 hsmall, newRow]
            rw [if_pos h0, h1']
            simp
          · simp only [madeCells] at h1
            simp [Instr.buildSlice, run_underlying hu, run_sizeOf hie, hes, Nat.not_lt.2 hsmall, newRow]
            rw [if_neg h0, hz]
            simp [h1]
        · simp only [maxLen]; omega
        · right
          intro hmm
          exact absurd (hM _ hmm) (Nat.lt_irrefl _)
        · intro j u hu'
          simp only [List.append_nil] at hu'
          rw [add_lit', Nat.zero_add, World.cell?_alloc_new, ← toList_get, h2]
          exact hu'
      · cases h
    · cases h
  case slice T a lo hi mx =>
    cases mx with
    | some _ => cases h
    | none =>
      simp only at h
      split at h
      · rename_i bb oo t n hax
        split at h
        · rename_i lo' h0 hh0
          cases h
          have hb' : 0 ≤ h0.getD n ∧ h0.getD n ≤ (n : Int) := by
            simp only [guardA, hax, hh0, decide_eq_true_eq] at hb
            exact hb
          unfold arrSl at hax
          split at hax
          · rename_i b' o' hx
            split at hax
            · rename_i n0 e0 t0 ht
              cases hax
              obtain ⟨inf, hinf, _, hu, ie, z, hie, hes, _⟩ := hE.tab T _ ht
              have h1 := hρ a
              rw [hx] at h1
              obtain ⟨_, h1⟩ := h1
              simp only [R1, List.cons.injEq, and_true] at h1
              have hbd := run_bounds (P := P) (w := w) (b := false) (len := n) (cap := n) (lo := none) (hi := hi.map ev) (l := none) (h := h0) (.inl ⟨rfl, rfl⟩)
                (by rcases optI_ok hρ hh0 with ⟨rfl, rfl⟩ | ⟨y, n, k, rfl, rfl, e⟩; exact .inl ⟨rfl, rfl⟩; exact .inr ⟨n, k, rfl, by simp [e]⟩)
                (Nat.le_refl _) hb'.1 hb'.2 (by simp) (by simpa using hb'.1)
              refine .pure (v := .slice (some ⟨σ.rs bb, oo, none⟩) (h0.getD n).toNat n) ?_ ⟨rfl, rfl, by omega⟩
              simp only [execOp, h1, Instr.sliceAt]
              simp [run_underlying hu, Instr.sureAddr, hbd, run_sizeOf hie, Addr.add]
            · cases hax
          · cases hax
        · cases h
      rename_i hax
      split at h
      · rename_i l0 h0 hl0 hh0
        have hb' : sliceAG E m T (ρ a) l0 h0 = true := by
          simp only [guardA, hax] at hb
          simp only [hl0, hh0] at hb
          exact hb
        have h := sliceA_of h hb'
        unfold sliceA at h
        have h1 := hρ a
        split at h
        · rename_i s hs
          rw [hs] at h1
          have h1 := of_RA_v h1
          dsimp only at h
          split at h
          · rename_i hb
            cases h
            obtain ⟨hstr, g1, g2, g3, g4⟩ := hb
            have hbd := run_bounds (P := P) (w := w) (b := false) (len := s.size) (cap := s.size) (lo := lo.map ev) (hi := hi.map ev) (l := l0) (h := h0)
              (by rcases optI_ok hρ hl0 with ⟨rfl, rfl⟩ | ⟨y, n, k, rfl, rfl, e⟩; exact .inl ⟨rfl, rfl⟩; exact .inr ⟨n, k, rfl, by simp [e]⟩)
              (by rcases optI_ok hρ hh0 with ⟨rfl, rfl⟩ | ⟨y, n, k, rfl, rfl, e⟩; exact .inl ⟨rfl, rfl⟩; exact .inr ⟨n, k, rfl, by simp [e]⟩)
              (Nat.le_refl _) g1 g2 g3 g4
            exact .pure (v := .string (s.extract (l0.getD 0).toNat (h0.getD ↑s.size).toNat)) (by simp [execOp, h1, Instr.sliceAt, run_underlying (hE.str T hstr), Instr.slice, hbd]) (RA_v rfl)
          · cases h
        · rename_i c hcne hc'
          split at h
          · rename_i e t ht
            obtain ⟨c', hs, rfl⟩ := Option.map_eq_some_iff.1 h
            rw [hc'] at h1
            obtain ⟨v, h2, h3⟩ := sliceC_ok (lo := lo.map ev) (hi := hi.map ev) hE hm ht hs h1
              (by rcases optI_ok hρ hl0 with ⟨rfl, rfl⟩ | ⟨y, n, k, rfl, rfl, e⟩; exact .inl ⟨rfl, rfl⟩; exact .inr ⟨n, k, rfl, by simp [e]⟩)
              (by rcases optI_ok hρ hh0 with ⟨rfl, rfl⟩ | ⟨y, n, k, rfl, rfl, e⟩; exact .inl ⟨rfl, rfl⟩; exact .inr ⟨n, k, rfl, by simp [e]⟩)
            exact .pure (v := v) (by simp [execOp, h2]) h3
          · cases h
        · cases h
      · cases h
  case makeFunc fn first captured =>
    cases fn <;> simp only at h <;> first | (cases h; done) | skip
    rename_i f
    split at h
    · rename_i l hf hl
      cases h
      have hcap := capsOf_ok hρ captured.toList l hl
      have hfirst : first = #[] := by simpa using hf
      subst hfirst
      refine .pure (v := .func (.func f) #[] (captured.map ev)) (by simp [execOp, Instr.makeFunc]) ⟨rfl, ?_⟩
      simp only [R1, List.cons.injEq, and_true]
      rw [← hcap, ← Array.toList_map, Array.toArray_toList]
    · cases h
  case nilCheck a =>
    split at h
    · rename_i p hp
      obtain ⟨c, hc1, rfl⟩ := Option.map_eq_some_iff.1 h
      have h1 := hρ a
      rw [hp] at h1
      obtain ⟨ad, h2, h3⟩ := moveP_ok hc1 h1
      rw [add0] at h3
      exact .pure (by simp [execOp, h2]) h3
    · cases h
  case binOp op T a b t' =>
    obtain ⟨v, h1, h2⟩ := binA_ok (ox := a) (oy := b) hE h (hρ a) (hρ b)
    exact .pure (v := v) (by simp only [execOp]; rw [Sem.run_bind, h1]; rfl) h2
  case convert S T a =>
    split at h
    · rename_i k0 k k' n hS hT hv
      cases h
      have h1 := hρ a
      rw [hv] at h1
      have h1 := of_RA_v h1
      refine .pure (v := .int k (k.wrap n)) ?_ (RA_v rfl)
      simp only [execOp, h1]
      rw [Sem.run_bind]
      simp [convert, run_underlying (hE.int _ _ hS), run_underlying (hE.int _ _ hT), Conv.intToInt]
    · cases h
  case unOp op T a =>
    split at h
    · rename_i v hv
      have h1 := hρ a
      rw [hv] at h1
      have h1 := of_RA_v h1
      split at h
      · rename_i k n hq
        cases h
        exact .pure (v := .int k n) (by simp only [execOp, h1]; rw [Sem.run_bind, pureVal_ok hq]; rfl) (RA_v rfl)
      · rename_i k hq
        cases h
        exact .pure (v := .bool k) (by simp only [execOp, h1]; rw [Sem.run_bind, pureVal_ok hq]; rfl) (RA_v rfl)
      · cases h
    · cases h
  case call c =>
    obtain ⟨callee, args, tys⟩ := c
    simp only at h
    split at h
    · -- len
      split at h
      · rename_i T x hT hx
        have htys : tys = #[T] := by simpa using congrArg List.toArray hT
        have hargs : ∃ y, args = #[y] ∧ ρ y = .s x := by
          obtain ⟨l⟩ := args
          simp only [List.map_eq_cons_iff] at hx
          obtain ⟨y, l', rfl, hy, hl'⟩ := hx
          simp only [List.map_eq_nil_iff] at hl'
          subst hl'
          exact ⟨y, rfl, hy⟩
        obtain ⟨y, rfl, hy⟩ := hargs
        subst htys
        have h1 := hρ y
        rw [hy] at h1
        split at h
        · rename_i s
          split at h
          · rename_i hstr
            cases h
            have h1 := of_RA_v h1
            exact .pure (v := .int .i64 s.size) (by simp [execOp, resolve, invoke, builtin, Builtin.len_, h1, run_underlying (hE.str T hstr), goInt]) (RA_v rfl)
          · cases h
        · split at h
          · rename_i e t ht
            cases h
            obtain ⟨inf, hi, hsz, hu, _⟩ := hE.tab T _ ht
            obtain ⟨_, h1⟩ := h1
            simp only [R1, List.cons.injEq, and_true] at h1
            exact .pure (v := .int .i64 0) (by simp [execOp, resolve, invoke, builtin, Builtin.len_, h1, run_underlying hu, goInt]) (RA_v rfl)
          · cases h
        · split at h
          · rename_i e t t' l ht hl
            cases h
            obtain ⟨inf, hi, hsz, hu, _⟩ := hE.tab T _ ht
            obtain ⟨a, cap, h2⟩ := listOf_len hm hl h1
            exact .pure (v := .int .i64 l.length) (by simp [execOp, resolve, invoke, builtin, Builtin.len_, h2, run_underlying hu, goInt]) (RA_v rfl)
          · cases h
      · rename_i T t n l hT hx
        split at h
        · rename_i n' e t' ht
          split at h
          · rename_i hnn
            cases h
            subst hnn
            have htys : tys = #[T] := by simpa using congrArg List.toArray hT
            subst htys
            obtain ⟨inf, hi, hsz, hu, _⟩ := hE.tab T _ ht
            have hargs : ∃ y, args = #[y] := by
              obtain ⟨l⟩ := args
              simp only [List.map_eq_cons_iff] at hx
              obtain ⟨y, l', rfl, hy, hl'⟩ := hx
              simp only [List.map_eq_nil_iff] at hl'
              subst hl'
              exact ⟨y, rfl⟩
            obtain ⟨y, rfl⟩ := hargs
            exact .pure (v := .int .i64 n) (by simp [execOp, resolve, invoke, builtin, Builtin.len_, run_underlying hu, goInt]) (RA_v rfl)
          · cases h
        · cases h
      · cases h
    · -- max
      split at h
      · rename_i k a k' b hx
        cases h
        obtain ⟨l⟩ := args
        simp only [List.map_eq_cons_iff] at hx
        obtain ⟨y, l', rfl, hy, z, l'', rfl, hz, hl''⟩ := hx
        simp only [List.map_eq_nil_iff] at hl''
        subst hl''
        have h1 := hρ y
        have h2 := hρ z
        rw [hy] at h1
        rw [hz] at h2
        have h1 := of_RA_v h1
        have h2 := of_RA_v h2
        exact .pure (v := .int k (if b > a then b else a)) (by simp [execOp, resolve, invoke, builtin, Builtin.max_, Builtin.max2, h1, h2]) (RA_v rfl)
      · cases h
    · -- min
      split at h
      · rename_i k a k' b hx
        cases h
        obtain ⟨l⟩ := args
        simp only [List.map_eq_cons_iff] at hx
        obtain ⟨y, l', rfl, hy, z, l'', rfl, hz, hl''⟩ := hx
        simp only [List.map_eq_nil_iff] at hl''
        subst hl''
        have h1 := hρ y
        have h2 := hρ z
        rw [hy] at h1
        rw [hz] at h2
        have h1 := of_RA_v h1
        have h2 := of_RA_v h2
        exact .pure (v := .int k (if b < a then b else a)) (by simp [execOp, resolve, invoke, builtin, Builtin.min_, Builtin.min2, h1, h2]) (RA_v rfl)
      · cases h
    · rename_i cf
      split at h
      · rename_i f cap hf
        split at h
        · split at h
          · have h1 := hρ cf
            rw [hf] at h1
            obtain ⟨_, h1⟩ := h1
            simp only [R1, List.cons.injEq, and_true] at h1
            have h2 : F2 (RA w σ M) (args.toList.map ρ) (args.toList.map ev) := F2_map_of ρ ev hρ _
            obtain ⟨⟨b, y⟩, h', rfl⟩ := Option.map_eq_some_iff.1 h
            have hb : b = true := by
              simp only [guardA, hf] at hb
              rw [h'] at hb
              exact hb
            subst hb
            obtain ⟨us, h3, h4⟩ := callA_ok (args := args) (tys := tys) (ty := ty) hc hm.box hM h' h2 h1 (by rw [← Array.toList_map, Array.toArray_toList])
            exact .inr ⟨f, us, by simp only [execOp]; exact h3, h4⟩
          · cases h
        · cases h
      · cases h
    · cases h

end
end Ev
end Go.Proofs.YtefjcgbidillhaaGreat
