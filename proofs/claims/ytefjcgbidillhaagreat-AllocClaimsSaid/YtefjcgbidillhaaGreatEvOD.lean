/- A REGION THAT DRAWS ITS ORDER: one walk of the text's order serves every order. -/
import Derived.Test.YtefjcgbidillhaaGreatEvOB
namespace Go.Proofs.YtefjcgbidillhaaGreat
open Go
open Go.RowKit (Below)
namespace Ev
set_option linter.unusedVariables false

/-! ### Every order -/
section
variable {step : Oper → St → Option (Bool × St)} {ops : Array Oper} {Sf : St}

/-- Whatever order is picked, it ends in 'Sf'. -/
def AnyA (ops : Array Oper) (step : Oper → St → Option (Bool × St)) (Sf : St) : Nat → Array Bool → St → Prop
  | 0, listed, S => Region.ready .any ops listed = [] ∧ S = Sf
  | n + 1, listed, S => (Region.ready .any ops listed = [] → S = Sf) ∧
    ∀ i ∈ Region.ready .any ops listed, ∃ o S', ops[i]? = some o ∧ gdA step ops o S = some S' ∧ AnyA ops step Sf n (listed.setIfInBounds i true) S'

def CommS (ops : Array Oper) (step : Oper → St → Option (Bool × St)) (oi oj : Oper) : Prop :=
  ∀ S S1 S2, gdA step ops oi S = some S1 → gdA step ops oj S1 = some S2 → ∃ S1', gdA step ops oj S = some S1' ∧ gdA step ops oi S1' = some S2

theorem anyA_first {i : Nat} {oi : Oper} (hi : ops[i]? = some oi) : ∀ (fuel : Nat) (listed : Array Bool) (S S1 : St),
    (∀ j oj, ops[j]? = some oj → j ≠ i → listed.getD j true = false → (∀ e ∈ oj.after, Region.binds .any e = true → e.on ≠ i) → CommS ops step oi oj) →
    i ∈ Region.ready .any ops listed → gdA step ops oi S = some S1 → AnyA ops step Sf fuel (listed.setIfInBounds i true) S1 → AnyA ops step Sf (fuel + 1) listed S := by
  intro fuel
  induction fuel with
  | zero =>
    intro listed S S1 _ hr hy H
    refine ⟨fun h => (by rw [h] at hr; cases hr), fun j hj => ?_⟩
    by_cases hji : j = i
    · subst hji; exact ⟨oi, S1, hi, hy, H⟩
    · have := ready_mono hj hji
      rw [H.1] at this
      cases this
  | succ fuel ih =>
    intro listed S S1 hfree hr hy H
    refine ⟨fun h => (by rw [h] at hr; cases hr), fun j hj => ?_⟩
    by_cases hji : j = i
    · subst hji; exact ⟨oi, S1, hi, hy, H⟩
    · obtain ⟨oj', S2, hoj', hg, H2⟩ := H.2 j (ready_mono hj hji)
      obtain ⟨hjun, oj, hoj, hall⟩ := mem_ready.1 hj
      have e := hoj.symm.trans hoj'
      simp only [Option.some.injEq] at e
      rw [← e] at hg
      have hnot : ∀ e ∈ oj.after, Region.binds .any e = true → e.on ≠ i := fun e he hb heq => by
        have h1 := hall e he hb
        have h0 := (mem_ready.1 hr).1
        rw [heq] at h1
        rcases Nat.lt_or_ge i listed.size with h' | h'
        · simp [h'] at h0 h1; rw [h0] at h1; cases h1
        · simp [Array.getElem?_eq_none h'] at h1
      obtain ⟨S1', h3, h4⟩ := hfree j oj hoj hji hjun hnot S S1 S2 hy hg
      have hfree' : ∀ k ok, ops[k]? = some ok → k ≠ i → (listed.setIfInBounds j true).getD k true = false →
          (∀ e ∈ ok.after, Region.binds .any e = true → e.on ≠ i) → CommS ops step oi ok := fun k ok hk hki hun hno => by
        refine hfree k ok hk hki ?_ hno
        by_cases hjk : j = k
        · subst hjk; exact hjun
        · rw [getD_set_ne true hjk] at hun; exact hun
      refine ⟨oj, S1', hoj, h3, ih (listed.setIfInBounds j true) S1' S2 hfree' (ready_mono hr (Ne.symm hji)) h4 ?_⟩
      rw [Array.setIfInBounds_comm _ _ hji]
      exact H2

/-- The text's order. -/
def foldG (step : Oper → St → Option (Bool × St)) (ops : Array Oper) : List Oper → St → Option St
  | [], S => some S
  | o :: r, S => (gdA step ops o S).bind (foldG step ops r)

theorem evG_fold {R : Type} {k : St → Option R} {x : R} : ∀ (l : List Oper) (S : St), evG step ops l S k = some x → ∃ Sf, foldG step ops l S = some Sf ∧ k Sf = some x
  | [], S, h => ⟨S, rfl, h⟩
  | o :: l, S, h => by
    obtain ⟨S1, h1, h2⟩ := evG_cons h
    obtain ⟨Sf, h3, h4⟩ := evG_fold l S1 h2
    exact ⟨Sf, by simp [foldG, h1, h3], h4⟩

theorem anyA_lex (hpair : ∀ i oi j oj, ops[i]? = some oi → ops[j]? = some oj → i < j → (∀ e ∈ oj.after, Region.binds .any e = true → e.on ≠ i) → oi.apart ops oj = true → CommS ops step oi oj) :
    ∀ (l : List Oper) (k : Nat) (listed : Array Bool) (S : St), (∀ j, l[j]? = ops[k + j]?) → (∀ j, j < k → listed.getD j true = true) → Region.lexFrom .any ops l.length k listed = true → foldG step ops l S = some Sf → AnyA ops step Sf l.length listed S
  | [], _, _, S, _, _, hB, h => ⟨by simpa [Region.lexFrom] using hB, by simpa [foldG] using h⟩
  | o :: l, k, listed, S, hl, hlt, hB, h => by
    have h0 : ops[k]? = some o := by simpa using (hl 0).symm
    simp only [List.length_cons, Region.lexFrom, Bool.and_eq_true] at hB
    obtain ⟨⟨hr, hf⟩, hB'⟩ := hB
    simp only [foldG, Option.bind_eq_some_iff] at h
    obtain ⟨S1, hy, hK⟩ := h
    refine anyA_first h0 l.length listed S S1 (fun j oj hj hne hun hno => ?_) (by simpa using hr) hy
      (anyA_lex hpair l (k + 1) _ _ (fun j => by have := hl (j + 1); simpa [Nat.add_assoc, Nat.add_comm 1 j] using this) ?_ hB' hK)
    · refine hpair k o j oj h0 hj ?_ hno (Region.free_spec h0 hf j oj hj hne hun hno)
      rcases Nat.lt_or_ge j k with h' | h'
      · rw [hlt j h'] at hun; cases hun
      · omega
    · intro j hj
      by_cases hjk : k = j
      · subst hjk
        rcases Nat.lt_or_ge k listed.size with h' | h'
        · simp [h']
        · simp [Array.getElem?_eq_none, h']
      · rw [getD_set_ne true hjk]
        exact hlt j (by omega)
end

/-! ### What an operation hangs on -/
section
variable {E : Env} {call : CallT} {fb id : Nat} {m m0 : Mem} {ids : List Nat} {ops : Array Oper}

theorem partsA_congr {ρ ρ' : Operand → A} : ∀ (l : List (Nat × Operand)), (∀ p ∈ l, ρ p.2 = ρ' p.2) → partsA ρ l = partsA ρ' l
  | [], _ => rfl
  | (i, x) :: l, h => by
    simp only [partsA]
    rw [partsA_congr l fun p hp => h p (List.mem_cons_of_mem _ hp), h (i, x) (List.mem_cons_self ..)]

theorem effD_congr {ρ ρ' : Operand → A} (o : Oper) (h : ∀ x ∈ o.op.operands, ρ x = ρ' x) : effD E call fb id m0 ρ o = effD E call fb id m0 ρ' o := by
  obtain ⟨dst, op, type, pos, after, guard⟩ := o
  cases op <;> simp only [Op.operands] at h <;> simp only [effD, valA]
  case build t ps => rw [partsA_congr ps.toList fun p hp => h p.2 (by simpa using ⟨p.1, by simpa using hp⟩)]
  case buildSlice t n ps => rw [partsA_congr ps.toList fun p hp => h p.2 (by simpa using ⟨p.1, by simpa using hp⟩)]
  case makeFunc fn first captured =>
    have : captured.toList.map ρ = captured.toList.map ρ' := List.map_congr_left fun x hx => h x (by simp at hx; simp [hx])
    cases fn <;> simp only [this]
  case call c =>
    have hargs : c.args.toList.map ρ = c.args.toList.map ρ' := List.map_congr_left fun x hx => h x (by simp at hx; simp [Call.operands, hx])
    cases hc : c.callee with
    | value f => have hf : ρ f = ρ' f := h f (by simp [Call.operands, hc]); simp only [hf, hargs]
    | invoke r m => rfl
    | builtin b => cases b <;> simp only [hargs]
  case slice t x lo hi mx =>
    have hx : ρ x = ρ' x := h x (by simp)
    have hlo : optI ρ lo = optI ρ' lo := by cases lo with | none => rfl | some y => simp only [optI]; rw [h y (by simp)]
    have hhi : optI ρ hi = optI ρ' hi := by cases hi with | none => rfl | some y => simp only [optI]; rw [h y (by simp)]
    cases mx <;> simp only [hx, hlo, hhi]
  all_goals (first | rfl | (simp_all; done))

theorem guardA_congr {ρ ρ' : Operand → A} (o : Oper) (h : ∀ x ∈ o.op.operands, ρ x = ρ' x) : guardA E call m0 ρ o = guardA E call m0 ρ' o := by
  obtain ⟨dst, op, type, pos, after, guard⟩ := o
  cases op <;> simp only [Op.operands] at h <;> simp only [guardA]
  case slice t x lo hi mx =>
    have hx : ρ x = ρ' x := h x (by simp)
    have hlo : optI ρ lo = optI ρ' lo := by cases lo with | none => rfl | some y => simp only [optI]; rw [h y (by simp)]
    have hhi : optI ρ hi = optI ρ' hi := by cases hi with | none => rfl | some y => simp only [optI]; rw [h y (by simp)]
    cases mx <;> simp only [hx, hlo, hhi]
  case indexAddr T x i => rw [h x (by simp), h i (by simp)]
  case index T x i => rw [h x (by simp), h i (by simp)]
  rename_i c
  have hargs : c.args.toList.map ρ = c.args.toList.map ρ' := List.map_congr_left fun x hx => h x (by simp at hx; simp [Call.operands, hx])
  cases hc : c.callee with
  | value f => have hf : ρ f = ρ' f := h f (by simp [Call.operands, hc]); simp only [hf, hargs]
  | invoke r m => rfl
  | builtin b => rfl

theorem guardA_noread {ρ : Operand → A} (o : Oper) (h : reads o = false) : guardA E call m ρ o = guardA E call m0 ρ o := by
  obtain ⟨dst, op, type, pos, after, guard⟩ := o
  cases op <;> simp only [reads] at h <;> first | rfl | (cases h; done)

theorem valA_noread {ρ : Operand → A} (o : Oper) (h : reads o = false) : valA E call m ρ o = valA E call m0 ρ o := by
  obtain ⟨dst, op, type, pos, after, guard⟩ := o
  cases op <;> simp only [reads] at h <;> first | rfl | (cases h; done) | skip
  rename_i fn _ _
  cases fn <;> rfl

theorem evalA_congr {S S' : St} {o : Oper} (h : ∀ t ∈ o.looksAt ops, S.tmps[t]? = S'.tmps[t]?) : ∀ x ∈ o.op.operands, evalA S x = evalA S' x := by
  intro x hx
  cases x with
  | tmp t =>
    have := h t (List.mem_append_left _ (List.mem_filterMap.2 ⟨.tmp t, by simpa using hx, rfl⟩))
    simp only [evalA, List.getD_eq_getElem?_getD, this]
  | const v => unfold evalA; split <;> first | rfl | (rename_i he; cases he)
  | _ => rfl

/-- What an operation of the region comes to: its value, and what it does to memory. -/
def gE (E : Env) (call : CallT) (fb : Nat) (ids : List Nat) (m0 : Mem) (ops : Array Oper) (o : Oper) (S : St) : Option (A × Option (Mem → Option Mem)) :=
  match wantA ops S o with
  | none => none
  | some false => some (.dead, none)
  | some true => match effD E call fb (fb + o.dst.getD 0) m0 (evalA S) o with
    | none => none
    | some p => if fromOps ids S o p.1 && guardA E call m0 (evalA S) o then some p else none

theorem putA_mem (d : Option Tmp) (x : A) (S : St) : (putA d x S).mem = S.mem := by cases d <;> rfl

theorem gdA_eq (o : Oper) (S : St) : gdA (stepD E call fb ids m0) ops o S = (gE E call fb ids m0 ops o S).bind fun p => (memD p.2 S.mem).map fun m => putA o.dst p.1 { S with mem := m } := by
  unfold gdA gE
  cases wantA ops S o with
  | none => rfl
  | some b =>
    cases b with
    | false => simp [memD]
    | true =>
      simp only [stepD]
      cases effD E call fb (fb + o.dst.getD 0) m0 (evalA S) o with
      | none => rfl
      | some p =>
        obtain ⟨x, f⟩ := p
        simp only
        cases fromOps ids S o x with
        | false => simp
        | true =>
          simp only [if_true, Bool.true_and]
          cases hm : memD f S.mem with
          | none => cases guardA E call m0 (evalA S) o <;> simp [hm]
          | some m => cases guardA E call m0 (evalA S) o <;> simp [hm]

theorem gE_congr {S S' : St} {o : Oper} (h : ∀ t ∈ o.looksAt ops, S.tmps[t]? = S'.tmps[t]?) : gE E call fb ids m0 ops o S = gE E call fb ids m0 ops o S' := by
  have he := evalA_congr h
  have hw : wantA ops S o = wantA ops S' o := by
    unfold wantA
    cases hg : o.guard with
    | none => rfl
    | some p =>
      obtain ⟨j, want⟩ := p
      simp only
      cases ht : (ops[j]?).bind (·.dst) with
      | none => rfl
      | some t =>
        have := h t (List.mem_append_right _ (by simp [hg, ht]))
        simp only [this]
  have hf : ∀ x, fromOps ids S o x = fromOps ids S' o x := by
    intro x
    unfold fromOps
    have : ∀ id, (o.op.operands.toList.any fun y => !(evalA S y).all (C.noBox id)) = o.op.operands.toList.any fun y => !(evalA S' y).all (C.noBox id) := by
      intro id
      have hl : ∀ l : List Operand, (∀ y ∈ l, evalA S y = evalA S' y) → (l.any fun y => !(evalA S y).all (C.noBox id)) = l.any fun y => !(evalA S' y).all (C.noBox id) := by
        intro l
        induction l with
        | nil => intro _; rfl
        | cons y l ih => intro hl; simp only [List.any_cons]; rw [hl y (List.mem_cons_self ..), ih fun z hz => hl z (List.mem_cons_of_mem _ hz)]
      exact hl _ fun y hy => he y (by simpa using hy)
    simp only [this]
  unfold gE
  rw [hw, effD_congr o he, guardA_congr o he]
  simp only [hf]

theorem effD_form {ρ : Operand → A} {o : Oper} {x : A} {f : Option (Mem → Option Mem)} (h : effD E call fb id m0 ρ o = some (x, f)) :
    (f = none ∧ writes o = false ∧ makes o = false ∧ valA E call m0 ρ o = some x) ∨ writes o = true ∨ (makes o = true ∧ x = .s (.ptr id 0) ∧ ∃ l, f = some (fun m => some (setB m id l))) := by
  have plain : ∀ {y g}, (valA E call m0 ρ o).map (fun z => (z, (none : Option (Mem → Option Mem)))) = some (y, g) → writes o = false → makes o = false → (g = none ∧ writes o = false ∧ makes o = false ∧ valA E call m0 ρ o = some y) := by
    intro y g hy h1 h2
    obtain ⟨z, hz, e⟩ := Option.map_eq_some_iff.1 hy
    cases e
    exact ⟨rfl, h1, h2, hz⟩
  obtain ⟨dst, op, type, pos, after, guard⟩ := o
  cases op <;> simp only [effD] at h <;> first | exact .inl (plain h rfl rfl) | skip
  case store => exact .inr (.inl rfl)
  case box =>
    split at h
    · split at h
      · cases h
        exact .inr (.inr ⟨rfl, rfl, _, rfl⟩)
      · cases h
    · cases h
  case alloc =>
    split at h
    · cases h
    · split at h
      · cases h
        exact .inr (.inr ⟨rfl, rfl, _, rfl⟩)
      · cases h
    · cases h

theorem gE_form {S : St} {o : Oper} {x : A} {f : Option (Mem → Option Mem)} (h : gE E call fb ids m0 ops o S = some (x, f)) :
    f = none ∨ writes o = true ∨ (makes o = true ∧ ∃ l, f = some (fun m => some (setB m (fb + o.dst.getD 0) l))) := by
  unfold gE at h
  split at h
  · cases h
  · cases h; exact .inl rfl
  · split at h
    · cases h
    · rename_i p hp
      obtain ⟨y, g⟩ := p
      simp only at h
      split at h
      · cases h
        rcases effD_form hp with h1 | h1 | ⟨h1, _, h2⟩
        · exact .inl h1.1
        · exact .inr (.inl h1)
        · exact .inr (.inr ⟨h1, h2⟩)
      · cases h

theorem putA_get {d t : Nat} {x : A} {S : St} (h : d ≠ t) : (putA (some d) x S).tmps[t]? = S.tmps[t]? := by
  simp [putA, List.getElem?_set, h]

theorem putA_comm {di dj : Option Tmp} {x y : A} {S : St} {m m' m'' : Mem} (h : ∀ d, di = some d → dj ≠ some d) :
    putA dj y { (putA di x { S with mem := m }) with mem := m' } = putA di x { (putA dj y { S with mem := m'' }) with mem := m' } := by
  cases di with
  | none => cases dj <;> rfl
  | some d =>
    cases dj with
    | none => rfl
    | some e =>
      have : d ≠ e := fun he => h d rfl (by rw [he])
      simp only [putA]
      rw [List.set_comm _ _ this]

theorem commS_of {oi oj : Oper} (hap : oi.apart ops oj = true) (hdi : makes oi = true → oi.dst.isSome = true) (hdj : makes oj = true → oj.dst.isSome = true)
    (h1 : (writes oi && (reads oj || makes oj)) = false) (h2 : (writes oj && (reads oi || makes oi || writes oi)) = false) : CommS ops (stepD E call fb ids m0) oi oj := by
  obtain ⟨a1, a2, a3⟩ := Oper.apart_spec hap
  intro S S1 S2 g1 g2
  rw [gdA_eq] at g1 g2
  obtain ⟨⟨xi, fi⟩, e1, g1⟩ := Option.bind_eq_some_iff.1 g1
  obtain ⟨mi, m1, rfl⟩ := Option.map_eq_some_iff.1 g1
  obtain ⟨⟨xj, fj⟩, e2, g2⟩ := Option.bind_eq_some_iff.1 g2
  obtain ⟨mj, m2, rfl⟩ := Option.map_eq_some_iff.1 g2
  have e2' : gE E call fb ids m0 ops oj S = some (xj, fj) := by
    rw [← e2]
    refine gE_congr fun t ht => ?_
    cases hd : oi.dst with
    | none => rfl
    | some d => rw [putA_get]; intro he; exact a1 d hd (he ▸ ht)
  have hm : ∃ mj', memD fj S.mem = some mj' ∧ memD fi mj' = some mj := by
    simp only [putA_mem] at m1 m2
    rcases gE_form e1 with rfl | hw | ⟨hk, l, rfl⟩
    · simp only [memD, Option.some.injEq] at m1
      subst m1
      exact ⟨mj, m2, rfl⟩
    · rcases gE_form e2 with rfl | hw' | ⟨hk', _⟩
      · simp only [memD, Option.some.injEq] at m2
        subst m2
        exact ⟨_, rfl, m1⟩
      · simp [hw, hw'] at h2
      · simp [hw, hk'] at h1
    · rcases gE_form e2 with rfl | hw' | ⟨hk', l', rfl⟩
      · simp only [memD, Option.some.injEq] at m2
        subst m2
        exact ⟨_, rfl, m1⟩
      · simp [hw', hk] at h2
      · simp only [memD, Option.some.injEq] at m1 m2
        subst m1 m2
        refine ⟨_, rfl, ?_⟩
        simp only [memD, Option.some.injEq]
        obtain ⟨d, hd⟩ := Option.isSome_iff_exists.1 (hdi hk)
        obtain ⟨d', hd'⟩ := Option.isSome_iff_exists.1 (hdj hk')
        have hne : d ≠ d' := fun he => a2 d hd (by rw [hd', he])
        simp only [hd, hd', Option.getD_some, setB]
        rw [List.set_comm _ _ (show fb + d ≠ fb + d' from fun he => hne (Nat.add_left_cancel he))]
  obtain ⟨mj', m3, m4⟩ := hm
  refine ⟨putA oj.dst xj { S with mem := mj' }, by rw [gdA_eq, e2']; simp [m3], ?_⟩
  have e1' : gE E call fb ids m0 ops oi (putA oj.dst xj { S with mem := mj' }) = some (xi, fi) := by
    rw [← e1]
    refine (gE_congr fun t ht => ?_).symm
    cases hd : oj.dst with
    | none => rfl
    | some d => rw [putA_get]; intro he; exact a3 d hd (he ▸ ht)
  rw [gdA_eq, e1']
  simp only [Option.bind_some, putA_mem, m4, Option.map_some, Option.some.injEq]
  exact (putA_comm a2).symm

end
end Ev
end Go.Proofs.YtefjcgbidillhaaGreat
