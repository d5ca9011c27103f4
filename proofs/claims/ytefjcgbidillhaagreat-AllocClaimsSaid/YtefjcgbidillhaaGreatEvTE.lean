/- LOOPS WHOSE STATES ARE DATA, as partial runs; CONTRACTS THAT SEE WHAT CLOSURES HOLD. -/
import Derived.Test.YtefjcgbidillhaaGreatEvTD
namespace Go.Proofs.YtefjcgbidillhaaGreat
open Go
open Go.RowKit (Below)
namespace Ev
set_option linter.unusedVariables false

/-! ### partial runs -/
section
variable {σ ρ : Type}
def iter (step : σ → Option (σ ⊕ ρ)) : Nat → σ → Option ρ
  | 0, _ => none
  | n + 1, s => match step s with
    | none => none
    | some (.inl s') => iter step n s'
    | some (.inr r) => some r

theorem iter_mono {step : σ → Option (σ ⊕ ρ)} : ∀ {n m : Nat} {s : σ} {r : ρ}, iter step n s = some r → n ≤ m → iter step m s = some r
  | 0, _, _, _, h, _ => by simp [iter] at h
  | n + 1, 0, _, _, _, hm => by omega
  | n + 1, m + 1, s, r, h, hm => by
    simp only [iter] at h ⊢
    cases hs : step s with
    | none => rw [hs] at h; cases h
    | some x =>
      rw [hs] at h
      cases x with
      | inl s' => exact iter_mono (n := n) (m := m) h (by omega)
      | inr r' => exact h

open Classical in
/-- What comes of a step that is done over and over, if it ends. -/
noncomputable def run (step : σ → Option (σ ⊕ ρ)) (s : σ) : Option ρ :=
  if h : ∃ r n, iter step n s = some r then some h.choose else none

theorem run_some {step : σ → Option (σ ⊕ ρ)} {s : σ} {r : ρ} : run step s = some r ↔ ∃ n, iter step n s = some r := by
  unfold run
  constructor
  · intro h
    split at h
    · rename_i hx
      simp only [Option.some.injEq] at h
      subst h
      exact hx.choose_spec
    · cases h
  · rintro ⟨n, h⟩
    have hx : ∃ r n, iter step n s = some r := ⟨r, n, h⟩
    rw [dif_pos hx]
    obtain ⟨m, hm⟩ := hx.choose_spec
    have h1 := iter_mono hm (Nat.le_max_left m n)
    have h2 := iter_mono h (Nat.le_max_right m n)
    rw [h1] at h2
    exact h2

theorem run_eq (step : σ → Option (σ ⊕ ρ)) (s : σ) : run step s = match step s with
    | none => none
    | some (.inl s') => run step s'
    | some (.inr r) => some r := by
  cases hs : step s with
  | none =>
    cases h : run step s with
    | none => rfl
    | some r =>
      obtain ⟨n, hn⟩ := run_some.1 h
      cases n with
      | zero => simp [iter] at hn
      | succ n => simp only [iter, hs] at hn; cases hn
  | some x =>
    cases x with
    | inr r => exact run_some.2 ⟨1, by simp only [iter, hs]⟩
    | inl s' =>
      show run step s = run step s'
      cases h : run step s' with
      | some r =>
        obtain ⟨n, hn⟩ := run_some.1 h
        exact run_some.2 ⟨n + 1, by simp only [iter, hs]; exact hn⟩
      | none =>
        cases h2 : run step s with
        | none => rfl
        | some r =>
          obtain ⟨n, hn⟩ := run_some.1 h2
          cases n with
          | zero => simp [iter] at hn
          | succ n =>
            simp only [iter, hs] at hn
            rw [run_some.2 ⟨n, hn⟩] at h
            cases h
end

/-! ### what a decision tree says, in two tongues -/
section
variable {α β : Type}
theorem bnd {K : α → Option β} (b : Bool) {x y : Option α} {x' y' : Option β} (h1 : x' = x.bind K) (h2 : y' = y.bind K) :
    (match b with | true => x' | false => y') = (match b with | true => x | false => y).bind K := by cases b <;> assumption
theorem mpd {K : α → β} (b : Bool) {x y : Option α} {x' y' : Option β} (h1 : x' = x.map K) (h2 : y' = y.map K) :
    (match b with | true => x' | false => y') = (match b with | true => x | false => y).map K := by cases b <;> assumption
theorem smd {K : α → β} (b : Bool) {x y : α} {x' y' : Option β} (h1 : x' = some (K x)) (h2 : y' = some (K y)) :
    (match b with | true => x' | false => y') = some (K (match b with | true => x | false => y)) := by cases b <;> assumption
end

/-! ### parts of a state -/
structure Live where
  nt : Nat
  nb : Nat
  t : List Nat
  b : List Nat
  o : List Nat
  bt : List Nat

abbrev V := List A × List (Option (List C)) × List (Option Own)

def pick {α : Type} (d : α) (l : List α) : List Nat → List α
  | [] => []
  | k :: ks => l.getD k d :: pick d l ks
def spread {α : Type} (d : α) : Nat → Nat → List Nat → List α → List α
  | _, 0, _, _ => []
  | i, n + 1, k :: ks, x :: xs => match Nat.beq k i with
    | true => x :: spread d (i + 1) n ks xs
    | false => d :: spread d (i + 1) n (k :: ks) (x :: xs)
  | i, n + 1, _, _ => d :: spread d (i + 1) n [] []

/-- A box's content in its one form, by its type (0: as it is). -/
def normB (E : Env) (T : TypeId) (o : Option (List C)) : Option (List C) := match Nat.beq T 0 with
  | true => o
  | false => match o with
    | some l => match canonC E 10 T l with
      | some l' => some l'
      | none => some l
    | none => none
def normBs (E : Env) : List Nat → List (Option (List C)) → List (Option (List C))
  | T :: ts, o :: l => normB E T o :: normBs E ts l
  | _, l => l
/-- All boxes in their one form. -/
def canonS (E : Env) (ts : List Nat) (S : St) : St := ⟨S.tmps, ⟨normBs E ts S.mem.boxes, S.mem.owns⟩⟩
def view (E : Env) (L : Live) (S : St) : V := (pick .dead S.tmps L.t, normBs E L.bt (pick none S.mem.boxes L.b), pick none S.mem.owns L.o)
def build (L : Live) (v : V) : St := ⟨spread .dead 0 L.nt L.t v.1, ⟨spread none 0 L.nb L.b v.2.1, spread none 0 L.nb L.o v.2.2⟩⟩

theorem spread_len {α : Type} (d : α) : ∀ (i n : Nat) (ks : List Nat) (xs : List α), (spread d i n ks xs).length = n
  | _, 0, _, _ => by simp [spread]
  | i, n + 1, [], _ => by simp [spread, spread_len d (i + 1) n]
  | i, n + 1, _ :: _, [] => by simp [spread, spread_len d (i + 1) n]
  | i, n + 1, k :: ks, x :: xs => by
    simp only [spread]
    split <;> simp [spread_len d (i + 1) n]

theorem spread_get {α : Type} (d : α) (l : List α) : ∀ (i n : Nat) (ks : List Nat) (p : Nat) (x : α), (spread d i n ks (pick d l ks))[p]? = some x → x = d ∨ x = l.getD (i + p) d
  | i, 0, ks, p, x, h => by simp [spread] at h
  | i, n + 1, [], 0, x, h => by simp [spread, pick] at h; exact .inl h.symm
  | i, n + 1, [], p + 1, x, h => by
    simp only [spread, pick, List.getElem?_cons_succ] at h
    have := spread_get d l (i + 1) n [] p x (by simpa [pick] using h)
    rwa [show i + 1 + p = i + (p + 1) by omega] at this
  | i, n + 1, k :: ks, p, x, h => by
    simp only [spread, pick] at h
    split at h
    · rename_i hk
      have hk := Nat.eq_of_beq_eq_true hk
      subst hk
      cases p with
      | zero => simp at h; exact .inr h.symm
      | succ p =>
        simp only [List.getElem?_cons_succ] at h
        have := spread_get d l (k + 1) n ks p x h
        rwa [show k + 1 + p = k + (p + 1) by omega] at this
    · cases p with
      | zero => simp at h; exact .inl h.symm
      | succ p =>
        simp only [List.getElem?_cons_succ] at h
        have := spread_get d l (i + 1) n (k :: ks) p x (by simpa [pick] using h)
        rwa [show i + 1 + p = i + (p + 1) by omega] at this

theorem less_of_get : ∀ {l l' : List A}, l.length = l'.length → (∀ p x, l[p]? = some x → x = .dead ∨ x = l'.getD p .dead) → F2 LessA l l'
  | [], [], _, _ => trivial
  | a :: l, b :: l', hl, h => by
    refine ⟨?_, less_of_get (by simpa using hl) fun p x hx => by simpa using h (p + 1) x (by simpa using hx)⟩
    rcases h 0 a rfl with h | h
    · exact .inr h
    · exact .inl (by simpa using h)
  | [], _ :: _, hl, _ => by simp at hl
  | _ :: _, [], hl, _ => by simp at hl

section
variable {P : Program} {E : Env} {N : Nat → Prop} {fb : Nat} {w0 w w' : World} {σ σ' : Wh} {S S' : St} {a : Act} {call : CallT}

theorem spread_some {α : Type} {l : List (Option α)} {n : Nat} {ks : List Nat} {b : Nat} {x : α} (h : (spread none 0 n ks (pick none l ks))[b]? = some (some x)) : l[b]? = some (some x) := by
  have := spread_get none l 0 n ks b (some x) h
  rcases this with h | h
  · cases h
  · rw [Nat.zero_add] at h
    cases hb : l[b]? with
    | none => simp [List.getD, hb] at h
    | some y => simp [List.getD, hb] at h; rw [h]

/-- A state that says less, boxes' contents told otherwise. -/
theorem Sim.less2 (h : Sim N fb w0 σ S a w) {T : List A} {m : Mem} (ht : F2 LessA T S.tmps) (hb : ∀ b l', getB m b = some l' → ∃ l, getB S.mem b = some l ∧ ∀ M vs, Rs w σ M l vs → Rs w σ M l' vs) (ho : ∀ i o, getO m i = some o → getO S.mem i = some o) :
    Sim N fb w0 σ ⟨T, m⟩ a w := by
  have hM : ∀ g, Mt N fb σ m g → Mt N fb σ S.mem g := by
    rintro g (h1 | ⟨b, l, h1, h2, h3⟩ | ⟨i, o, h1, h2⟩)
    · exact .inl h1
    · obtain ⟨l0, h4, _⟩ := hb b l h2
      exact .inr (.inl ⟨b, l0, h1, h4, h3⟩)
    · exact .inr (.inr ⟨i, o, ho i o h1, h2⟩)
  have k : Keeps w (Mt N fb σ S.mem) w (Mt N fb σ m) := ⟨fun _ _ _ => rfl, fun g _ hm => hM g hm⟩
  exact {
    defers := h.defers
    tmps := F2_less ht (h.tmps.mono fun x _ v hv => RA_keep hv k fun c _ => Agree.refl σ c)
    box := fun b l hl => by
      obtain ⟨l0, h4, h5⟩ := hb b l hl
      obtain ⟨c, e, hc, hr⟩ := h.box b l0 h4
      exact ⟨c, e, hc, h5 _ _ (Rs_keep hr k fun c _ => Agree.refl σ c)⟩
    bnew := fun b l hl => by obtain ⟨l0, h4, _⟩ := hb b l hl; exact h.bnew b l0 h4
    bold := fun b l hl => by obtain ⟨l0, h4, _⟩ := hb b l hl; exact h.bold b l0 h4
    binj := fun b b' l l' hl hl' => by
      obtain ⟨l0, h4, _⟩ := hb b l hl
      obtain ⟨l1, h5, _⟩ := hb b' l' hl'
      exact h.binj b b' l0 l1 h4 h5
    own := fun i o hi => h.own i o (ho i o hi)
    oinj := fun i i' o o' g hi hi' => h.oinj i i' o o' g (ho i o hi) (ho i' o' hi')
    sep := fun b l i o g hl hi => by obtain ⟨l0, h4, _⟩ := hb b l hl; exact h.sep b l0 i o g h4 (ho i o hi)
    below := h.below
    nlt := h.nlt }

theorem normB_ok {E : Env} {T : TypeId} {o : Option (List C)} {l' : List C} (h : normB E T o = some l') : ∃ l, o = some l ∧ ∀ w σ M vs, Rs w σ M l vs → Rs w σ M l' vs := by
  unfold normB at h
  split at h
  · exact ⟨l', h, fun _ _ _ _ h => h⟩
  · split at h
    · rename_i l
      split at h
      · rename_i l1 hc
        cases h
        exact ⟨l, rfl, fun w σ M vs hr => canonC_ok _ _ _ _ vs hc hr⟩
      · cases h
        exact ⟨_, rfl, fun _ _ _ _ h => h⟩
    · cases h

/-- Contents that say no more. -/
def LessB (x y : Option (List C)) : Prop := ∀ l', x = some l' → ∃ l, y = some l ∧ ∀ w σ M vs, Rs w σ M l vs → Rs w σ M l' vs

theorem normBs_less {E : Env} : ∀ (ts : List Nat) (l : List (Option (List C))), F2 LessB (normBs E ts l) l
  | [], l => by
    simp only [normBs]
    induction l with
    | nil => trivial
    | cons x l ih => exact ⟨fun l' h => ⟨l', h, fun _ _ _ _ h => h⟩, ih⟩
  | T :: ts, [] => trivial
  | T :: ts, o :: l => ⟨fun l' h => normB_ok h, normBs_less ts l⟩

theorem spread_less : ∀ (i n : Nat) (ks : List Nat) (xs ys : List (Option (List C))), F2 LessB xs ys → ∀ (p : Nat) (l' : List C), (spread none i n ks xs)[p]? = some (some l') → ∃ l, (spread none i n ks ys)[p]? = some (some l) ∧ ∀ w σ M vs, Rs w σ M l vs → Rs w σ M l' vs
  | i, 0, ks, xs, ys, _, p, l', h => by simp [spread] at h
  | i, n + 1, [], xs, ys, _, p, l', h => by
    cases p with
    | zero => simp [spread] at h
    | succ p =>
      simp only [spread, List.getElem?_cons_succ] at h ⊢
      exact spread_less (i + 1) n [] [] [] trivial p l' h
  | i, n + 1, k :: ks, [], [], _, p, l', h => by
    cases p with
    | zero => simp [spread] at h
    | succ p =>
      simp only [spread, List.getElem?_cons_succ] at h ⊢
      exact spread_less (i + 1) n [] [] [] trivial p l' h
  | i, n + 1, k :: ks, x :: xs, y :: ys, ⟨h1, h2⟩, p, l', h => by
    simp only [spread] at h ⊢
    cases hk : Nat.beq k i with
    | true =>
      rw [hk] at h
      cases p with
      | zero =>
        simp only [List.getElem?_cons_zero, Option.some.injEq] at h ⊢
        obtain ⟨l, hl, hr⟩ := h1 l' h
        exact ⟨l, hl, hr⟩
      | succ p =>
        simp only [List.getElem?_cons_succ] at h ⊢
        exact spread_less (i + 1) n ks xs ys h2 p l' h
    | false =>
      rw [hk] at h
      cases p with
      | zero => simp at h
      | succ p =>
        simp only [List.getElem?_cons_succ] at h ⊢
        exact spread_less (i + 1) n (k :: ks) (x :: xs) (y :: ys) ⟨h1, h2⟩ p l' h
  | _, _ + 1, _ :: _, [], _ :: _, h, _, _, _ => h.elim
  | _, _ + 1, _ :: _, _ :: _, [], h, _, _, _ => h.elim

theorem Sim.view {E : Env} {L : Live} (h : Sim N fb w0 σ S a w) (hl : S.tmps.length = L.nt) : Sim N fb w0 σ (build L (view E L S)) a w := by
  refine h.less2 ?_ (fun b l hb => ?_) (fun i o ho => ?_)
  · refine less_of_get (by simp [spread_len, hl]) fun p x hx => ?_
    have := spread_get A.dead S.tmps 0 L.nt L.t p x hx
    rwa [Nat.zero_add] at this
  · rw [getB_some] at hb
    obtain ⟨l0, h1, h2⟩ := spread_less _ _ _ _ _ (normBs_less L.bt _) b l hb
    exact ⟨l0, getB_some.2 (spread_some h1), fun M vs => h2 w σ M vs⟩
  · rw [getO_some] at ho ⊢
    exact spread_some ho

def decS {α : Type} (E : Env) (L : Live) (dec : V → Option α) (S : St) : Option α := match Nat.beq S.tmps.length L.nt with
  | true => dec (view E L S)
  | false => none

theorem decS_ok {α : Type} {E : Env} {L : Live} {dec : V → Option α} {enc : α → V} (hd : ∀ v s, dec v = some s → v = enc s) {s : α} (e : decS E L dec S = some s) (h : Sim N fb w0 σ S a w) : Sim N fb w0 σ (build L (enc s)) a w := by
  unfold decS at e
  split at e
  · rename_i hl
    rw [← hd _ _ e]
    exact h.view (Nat.eq_of_beq_eq_true hl)
  · cases e

/-- What is seen of where a round ends. -/
def obs {α β R : Type} (E : Env) (L : Live) (Lx : Ex → Live) (dec : V → Option α) (decx : Ex → V → Option β) (K : α ⊕ β → Option R) (e : Ex) (S : St) : Option R :=
  match e with
  | .normal => match decS E L dec S with
    | some s => K (.inl s)
    | none => none
  | .exit i => match decS E (Lx (.exit i)) (decx (.exit i)) S with
    | some r => K (.inr r)
    | none => none
  | .ret => match decS E (Lx .ret) (decx .ret) S with
    | some r => K (.inr r)
    | none => none

open Classical in
theorem sumAt_of_run (hE : EnvOK P E) (hO : OwnOK P E) (hc : CallOK P call) {f : FuncId} {c : Code} {cur fb0 : Nat} {α β : Type} {L : Live} {Lx : Ex → Live} {enc : α → V} {encx : β → Ex × V} {dec : V → Option α} {decx : Ex → V → Option β}
    {step : α → Option (α ⊕ β)} {g : Nat → St → (Ex → St → Option A) → Option A} (hs : SumIn P E f c cur)
    (hdec : ∀ v s, dec v = some s → v = enc s) (hdecx : ∀ e v r, decx e v = some r → encx r = (e, v))
    (hround : ∀ s (K : α ⊕ β → Option A), ev E call f fb0 c cur (build L (enc s)) (obs E L Lx dec decx K) = (step s).bind K)
    (hg : ∀ fb S k x, g fb S k = some x → fb = fb0 ∧ ∃ s r, decS E L dec S = some s ∧ run step s = some r ∧ k (encx r).1 (build (Lx (encx r).1) (encx r).2) = some x) : SumAt P c g := by
  intro N fb w0 S a w σ k x Q h e hQ
  obtain ⟨rfl, s, r, h1, h2, h3⟩ := hg fb S k x e
  obtain ⟨n, hn⟩ := run_some.1 h2
  have h0 := decS_ok hdec h1 h
  refine wp_loop_rounds n ?_
  clear e h1 h2 h
  induction n generalizing s a w σ with
  | zero => simp [iter] at hn
  | succ n ih =>
    rw [rounds_succ]
    simp only [iter] at hn
    have hr := hround s fun y => match y with
      | .inl s' => if iter step n s' = some r then some x else none
      | .inr r' => if r' = r then some x else none
    have he : (step s).bind (fun y => match y with
      | .inl s' => if iter step n s' = some r then some x else none
      | .inr r' => if r' = r then some x else none) = some x := by
      cases hy : step s with
      | none => rw [hy] at hn; cases hn
      | some y =>
        rw [hy] at hn
        cases y with
        | inl s' => simp only [Option.bind_some]; rw [if_pos hn]
        | inr r' => simp only [Option.some.injEq] at hn; simp only [Option.bind_some]; rw [if_pos hn]
    rw [he] at hr
    refine ev_ok hE hO hc f x c cur _ a w σ _ _ hs h0 hr fun y σ' S' a' w' h' hk => ?_
    cases y with
    | normal =>
      simp only [obs] at hk
      split at hk
      · rename_i s' hs'
        split at hk
        · rename_i hi
          exact ih _ _ _ s' hi (decS_ok hdec hs' h')
        · cases hk
      · cases hk
    | exit i =>
      simp only [obs] at hk
      split at hk
      · rename_i r' hr'
        split at hk
        · rename_i hrr
          subst hrr
          have hx : (encx r').1 = .exit i := by
            unfold decS at hr'
            split at hr'
            · rw [hdecx _ _ _ hr']
            · cases hr'
          rw [hx] at h3
          exact hQ (.exit i) σ' _ a' w' (decS_ok (enc := fun r => (encx r).2) (fun v s hv => by rw [hdecx _ _ _ hv]) hr' h') h3
        · cases hk
      · cases hk
    | ret =>
      simp only [obs] at hk
      split at hk
      · rename_i r' hr'
        split at hk
        · rename_i hrr
          subst hrr
          have hx : (encx r').1 = .ret := by
            unfold decS at hr'
            split at hr'
            · rw [hdecx _ _ _ hr']
            · cases hr'
          rw [hx] at h3
          exact hQ .ret σ' _ a' w' (decS_ok (enc := fun r => (encx r).2) (fun v s hv => by rw [hdecx _ _ _ hv]) hr' h') h3
        · cases hk
      · cases hk
end

/-- The code of a function's loop. -/
def loopAt (E : Env) (f : FuncId) (cur : Nat) : Code :=
  match E.fd f with
  | some fn => match fn.body with
    | some c => match (loopsOf c 1000000).filter fun p => Nat.beq p.1 cur with
      | (_, c) :: _ => c
      | [] => .skip
    | none => .skip
  | none => .skip
def loneB (E : Env) (f : FuncId) (cur : Nat) : Bool :=
  match E.fd f with
  | some fn => match fn.body with
    | some c => match (loopsOf c 1000000).filter fun p => Nat.beq p.1 cur with
      | [_] => true
      | _ => false
    | none => false
  | none => false

theorem loopsOf_trans : ∀ (x : Code) (y cur : Nat) (c : Code), (cur, c) ∈ loopsOf x y → ∀ q ∈ loopsOf c cur, q ∈ loopsOf x y
  | .seq a b, y, cur, c, h, q, hq => by
    simp only [loopsOf, List.mem_append] at h ⊢
    rcases h with h | h
    · exact .inl (loopsOf_trans a y cur c h q hq)
    · exact .inr (loopsOf_trans b y cur c h q hq)
  | .cond _ a b, y, cur, c, h, q, hq => by
    simp only [loopsOf, List.mem_append] at h ⊢
    rcases h with h | h
    · exact .inl (loopsOf_trans a y cur c h q hq)
    · exact .inr (loopsOf_trans b y cur c h q hq)
  | .block id a, y, cur, c, h, q, hq => by
    simp only [loopsOf] at h ⊢
    exact loopsOf_trans a id cur c h q hq
  | .loop a, y, cur, c, h, q, hq => by
    simp only [loopsOf, List.mem_cons, Prod.mk.injEq] at h ⊢
    rcases h with ⟨rfl, rfl⟩ | h
    · exact .inr hq
    · exact .inr (loopsOf_trans a y cur c h q hq)
  | .skip, _, _, _, h, _, _ | .region _ _ _, _, _, _, h, _, _ | .exit _, _, _, _, h, _, _ | .ret, _, _, _, h, _, _ | .rangeFunc _ _ _ _, _, _, _, h, _, _ | .label _, _, _, _, h, _, _ | .goto _, _, _, _, h, _, _ | .scope _, _, _, _, h, _, _ => by
    simp [loopsOf] at h

/-- A loop's summary: at the states that it knows; else what was known before. -/
def sumV {α : Type} (E : Env) (f : FuncId) (cur fb0 : Nat) (L : Live) (dec : V → Option α) (fin : α → (Ex → St → Option A) → Option A) : Nat → St → (Ex → St → Option A) → Option A :=
  fun fb S k => match Nat.beq fb fb0 with
  | true => match decS E L dec S with
    | some s => fin s k
    | none => match E.sum f cur with
      | some g => g fb S k
      | none => none
  | false => match E.sum f cur with
      | some g => g fb S k
      | none => none

section
variable {P : Program} {E : Env}

theorem AllOK.loop (h : AllOK P E) {f : FuncId} {cur fb0 : Nat} (d : Nat) {α β : Type} {L : Live} {Lx : Ex → Live} {enc : α → V} {encx : β → Ex × V} {dec : V → Option α} {decx : Ex → V → Option β} {step : α → Option (α ⊕ β)}
    {fin : α → (Ex → St → Option A) → Option A}
    (hdec : ∀ v s, dec v = some s → v = enc s) (hdecx : ∀ e v r, decx e v = some r → encx r = (e, v))
    (hround : ∀ s (K : α ⊕ β → Option A), ev E (callA E d) f fb0 (loopAt E f cur) cur (build L (enc s)) (obs E L Lx dec decx K) = (step s).bind K)
    (hfin : ∀ s k x, fin s k = some x → ∃ r, run step s = some r ∧ k (encx r).1 (build (Lx (encx r).1) (encx r).2) = some x)
    (hl : loneB E f cur = true) : AllOK P (withS E f cur (sumV E f cur fb0 L dec fin)) := by
  refine h.s fun fn c hf hb p hp hcur => ?_
  have hs := h.sum f fn c hf hb
  have hp' : p ∈ (loopsOf c 1000000).filter fun p => Nat.beq p.1 cur := List.mem_filter.2 ⟨hp, by rw [hcur]; exact Nat.beq_refl cur⟩
  have hc : loopAt E f cur = p.2 := by
    unfold loneB at hl
    unfold loopAt
    simp only [hf, hb] at hl ⊢
    split at hl
    · rename_i q hq
      rw [hq] at hp'
      rw [hq]
      simp only [List.mem_cons, List.not_mem_nil, or_false] at hp'
      rw [hp']
    · cases hl
  have hin : SumIn P E f p.2 cur := fun q hq => hs q (loopsOf_trans c 1000000 cur p.2 (by rw [← hcur]; exact hp) q hq)
  rw [hc] at hround
  intro N fb w0 S a w σ k x Q hS e hQ
  have hold : ∀ y, (match E.sum f cur with | some g => g fb S k | none => none) = some y → y = x → (Code.loop p.2).wp P Q a w := by
    intro y hy hyx
    subst hyx
    cases hsum : E.sum f cur with
    | none => rw [hsum] at hy; cases hy
    | some g =>
      rw [hsum] at hy
      exact hs p hp g (by rw [hcur]; exact hsum) N fb w0 S a w σ k y Q hS hy hQ
  by_cases hk : fb = fb0 ∧ ∃ s, decS E L dec S = some s
  · have hg : SumAt P p.2 (fun fb S k => if fb = fb0 then (decS E L dec S).bind fun s => fin s k else none) :=
      sumAt_of_run (g := fun fb S k => if fb = fb0 then (decS E L dec S).bind fun s => fin s k else none) h.env h.own (h.call d) hin hdec hdecx hround (by
        intro fb S k x e
        split at e
        · rename_i hb
          obtain ⟨s, hs, e⟩ := Option.bind_eq_some_iff.1 e
          obtain ⟨r, h1, h2⟩ := hfin s k x e
          exact ⟨hb, s, r, hs, h1, h2⟩
        · cases e)
    obtain ⟨hb', s, hs'⟩ := hk
    refine hg N fb w0 S a w σ k x Q hS ?_ hQ
    show (if fb = fb0 then (decS E L dec S).bind fun s => fin s k else none) = some x
    rw [if_pos hb', hs']
    unfold sumV at e
    rw [hs', hb', Nat.beq_refl] at e
    exact e
  · unfold sumV at e
    split at e
    · rename_i hb'
      have hb' := Nat.eq_of_beq_eq_true hb'
      split at e
      · rename_i s hs'
        exact absurd ⟨hb', s, hs'⟩ hk
      · exact hold x e rfl
    · exact hold x e rfl
end

section
variable {P : Program} {E : Env}
theorem iter_lift {Pm α β βf : Type} {step : Pm → α → Option (α ⊕ β)} {lift : Pm → β → βf} {p : Pm} : ∀ {n : Nat} {s : α} {r : β}, iter (step p) n s = some r →
    iter (fun x : Pm × α => (step x.1 x.2).map fun y => match y with
      | .inl s' => Sum.inl (x.1, s')
      | .inr r => Sum.inr (lift x.1 r)) n (p, s) = some (lift p r)
  | 0, _, _, h => by simp [iter] at h
  | n + 1, s, r, h => by
    simp only [iter] at h ⊢
    cases hs : step p s with
    | none => rw [hs] at h; cases h
    | some y =>
      rw [hs] at h
      cases y with
      | inl s' => exact iter_lift (n := n) h
      | inr r' => simp only [Option.some.injEq] at h; subst h; rfl

/-- A loop whose constants stand aside. -/
theorem AllOK.loopP (h : AllOK P E) {f : FuncId} {cur fb0 : Nat} (d : Nat) {Pm α β βf : Type} {L : Live} {Lx : Ex → Live} {enc : Pm × α → V} {encx : βf → Ex × V} {dec : V → Option (Pm × α)} {decx : Ex → V → Option βf}
    {step : Pm → α → Option (α ⊕ β)} {lift : Pm → β → βf} {fin : Pm × α → (Ex → St → Option A) → Option A}
    (hdec : ∀ v s, dec v = some s → v = enc s) (hdecx : ∀ e v r, decx e v = some r → encx r = (e, v))
    (hround : ∀ p s (K : (Pm × α) ⊕ βf → Option A), ev E (callA E d) f fb0 (loopAt E f cur) cur (build L (enc (p, s))) (obs E L Lx dec decx K) = (step p s).bind fun y => match y with
      | .inl s' => K (.inl (p, s'))
      | .inr r => K (.inr (lift p r)))
    (hfin : ∀ p s k x, fin (p, s) k = some x → ∃ r, run (step p) s = some r ∧ k (encx (lift p r)).1 (build (Lx (encx (lift p r)).1) (encx (lift p r)).2) = some x)
    (hl : loneB E f cur = true) : AllOK P (withS E f cur (sumV E f cur fb0 L dec fin)) :=
  h.loop d (step := fun x : Pm × α => (step x.1 x.2).map fun y => match y with
      | .inl s' => Sum.inl (x.1, s')
      | .inr r => Sum.inr (lift x.1 r)) hdec hdecx (by
    rintro ⟨p, s⟩ K
    rw [hround]
    cases step p s with
    | none => rfl
    | some y => cases y <;> rfl) (by
    rintro ⟨p, s⟩ k x e
    obtain ⟨r, h1, h2⟩ := hfin p s k x e
    obtain ⟨n, hn⟩ := run_some.1 h1
    exact ⟨lift p r, run_some.2 ⟨n, iter_lift hn⟩, h2⟩) hl
end

def exEq : Ex → Ex → Bool
  | .normal, .normal => true
  | .exit i, .exit j => Nat.beq i j
  | .ret, .ret => true
  | _, _ => false
theorem exEq_eq : ∀ {a b : Ex}, exEq a b = true → a = b
  | .normal, .normal, _ => rfl
  | .exit i, .exit j, h => by rw [Nat.eq_of_beq_eq_true h]
  | .ret, .ret, _ => rfl
  | .normal, .exit _, h | .normal, .ret, h | .exit _, .normal, h | .exit _, .ret, h | .ret, .normal, h | .ret, .exit _, h => by cases h

section
variable {α β : Type}
instance [Inhabited α] : Inhabited (α ⊕ β) := ⟨.inl default⟩
def isL : α ⊕ β → Bool
  | .inl _ => true
  | .inr _ => false
def getL [Inhabited α] : α ⊕ β → α
  | .inl x => x
  | .inr _ => default
def getR [Inhabited β] : α ⊕ β → β
  | .inl _ => default
  | .inr x => x
theorem bndc {K : α → Option β} (b : Bool) {x y : Option α} {x' y' : Option β} (h1 : x' = x.bind K) (h2 : y' = y.bind K) : cond b x' y' = (cond b x y).bind K := by cases b <;> assumption
theorem mapc {K : α → β} (b : Bool) {x y : Option α} {x' y' : Option β} (h1 : x' = x.map K) (h2 : y' = y.map K) : cond b x' y' = (cond b x y).map K := by cases b <;> assumption
theorem somc {K : α → β} (b : Bool) {x y : α} {x' y' : Option β} (h1 : x' = some (K x)) (h2 : y' = some (K y)) : cond b x' y' = some (K (cond b x y)) := by cases b <;> assumption
theorem get_of {K : α → β} {o : Option α} {d : α} {t : Option β} (h : t = o.map K) (hs : o.isSome = true) : t = some (K (o.getD d)) := by
  cases o with
  | none => cases hs
  | some x => exact h
end

/-! ### closures' boxes, numbered anew -/
def C.ids : C → List Nat
  | .ptr b _ => [b]
  | .arp b _ _ _ _ _ => [b]
  | .bsl b _ _ _ _ => [b]
  | .fn _ cap => cap.map (·.1)
  | _ => []
def reach (m : Mem) : Nat → List Nat → List Nat → List Nat
  | 0, _, s => s
  | _ + 1, [], s => s
  | n + 1, b :: r, s => match s.elem b with
    | true => reach m n r s
    | false => reach m n (r ++ (match getB m b with
      | some l => l.flatMap C.ids
      | none => [])) (s ++ [b])
def idx (ids : List Nat) (b : Nat) : Nat := match ids with
  | [] => 0
  | x :: r => match Nat.beq x b with
    | true => 0
    | false => idx r b + 1
def C.rn (ids : List Nat) : C → C
  | .ptr b o => match ids.elem b with
    | true => .ptr (idx ids b) o
    | false => .dead
  | .bsl b o t n hi => match ids.elem b with
    | true => .bsl (idx ids b) o t n hi
    | false => .dead
  | .arp b o t n i q => match ids.elem b with
    | true => .arp (idx ids b) o t n i q
    | false => .dead
  | .fn f cap => match cap.all fun p => ids.elem p.1 with
    | true => .fn f (cap.map fun p => (idx ids p.1, p.2))
    | false => .dead
  | c => c
def Wh.rn (σ : Wh) (ids : List Nat) : Wh := ⟨fun i => σ.rs (ids.getD i 0), σ.ov, σ.sz⟩
def idsFor (m : Mem) (l : List A) : List Nat := reach m 60 (l.flatMap fun x => x.cells.flatMap C.ids) []
def memRn (ids : List Nat) (m : Mem) : List (Option (List C)) := ids.map fun b => (getB m b).map (List.map (C.rn ids))

theorem idx_get : ∀ {ids : List Nat} {b : Nat}, ids.elem b = true → ids.getD (idx ids b) 0 = b
  | [], b, h => by simp at h
  | x :: r, b, h => by
    simp only [idx]
    cases hb : Nat.beq x b with
    | true => simpa using Nat.eq_of_beq_eq_true hb
    | false =>
      simp only [List.getD_cons_succ]
      refine idx_get ?_
      have h : b ∈ x :: r := List.elem_iff.1 h
      rcases List.mem_cons.1 h with rfl | h
      · rw [Nat.beq_refl] at hb; cases hb
      · exact List.elem_iff.2 h

section
variable {w : World} {σ : Wh} {M : Nat → Prop}
theorem R1_rn {ids : List Nat} {c : C} {vs : List Value} (h : R1 w σ M c vs) : R1 w (σ.rn ids) M (c.rn ids) vs := by
  cases c with
  | ptr b o =>
    simp only [C.rn]
    split
    · rename_i hb
      simp only [R1, Wh.rn, idx_get hb]; exact h
    · cases h; exact ⟨_, rfl, rfl⟩
  | bsl b o t n hi =>
    simp only [C.rn]
    split
    · rename_i hb
      simp only [R1, Wh.rn, idx_get hb]; exact h
    · obtain ⟨rfl, _⟩ := h; exact ⟨_, rfl, rfl⟩
  | arp b o t n i q =>
    simp only [C.rn]
    split
    · rename_i hb
      simp only [R1, Wh.rn, idx_get hb]; exact h
    · obtain ⟨rfl, _⟩ := h; exact ⟨_, rfl, rfl⟩
  | fn f cap =>
    simp only [C.rn]
    split
    · rename_i hb
      simp only [R1] at h ⊢
      rw [h, List.map_map]
      congr 3
      refine List.map_congr_left fun p hp => ?_
      have := List.all_eq_true.1 hb p hp
      simp only [Function.comp, Wh.rn, idx_get this]
    · simp only [R1] at h; subst h; exact ⟨_, rfl, rfl⟩
  | _ => exact h

theorem rn_len {ids : List Nat} {c : C} (h : c.len = true) : (c.rn ids).len = true := by
  cases c <;> simp only [C.rn] <;> first | exact h | (split <;> rfl)

theorem Rs_rn {ids : List Nat} : ∀ {l : List C} {vs : List Value}, Rs w σ M l vs → Rs w (σ.rn ids) M (l.map (C.rn ids)) vs
  | [], _, h => h
  | c :: l, _, ⟨a, b, e, h1, h2⟩ => ⟨a, b, e, R1_rn h1, Rs_rn h2⟩

theorem RA_rn {ids : List Nat} {x : A} {v : Value} (h : RA w σ M x v) : RA w (σ.rn ids) M (x.map (C.rn ids)) v := by
  cases x with
  | s c => exact ⟨rn_len h.1, R1_rn h.2⟩
  | g l => obtain ⟨vs, e, h⟩ := h; exact ⟨vs, e, Rs_rn h⟩
  | t l =>
    obtain ⟨vs, e, h⟩ := h
    refine ⟨vs, e, F2.map _ h ?_⟩
    rintro ⟨b, l⟩ _ v hv
    cases b with
    | true => obtain ⟨us, e, h⟩ := hv; exact ⟨us, e, Rs_rn h⟩
    | false =>
      obtain ⟨c, e, h1, h2⟩ := hv
      simp only at e
      subst e
      exact ⟨c.rn ids, rfl, rn_len h1, R1_rn h2⟩
  | dead => trivial
end

/-- A function's contract, with what closures hold. -/
def gOfM (E : Env) (f : FuncId) (ts : List TypeId) (F : List A → List (Option (List C)) → Option (Bool × A)) : (FuncId → List A → Option (Bool × A)) → Mem → List A → Option (Bool × A) :=
  fun call m args => match canonDs E ts args with
    | some l => match F (l.map (A.map (C.rn (idsFor m l)))) (memRn (idsFor m l) m) with
      | some r => some r
      | none => match E.gam f with
        | some g => g call m args
        | none => none
    | none => match E.gam f with
        | some g => g call m args
        | none => none

section
variable {P : Program} {E : Env}
theorem AllOK.fm (h : AllOK P E) {f : FuncId} {ts : List TypeId} {F : List A → List (Option (List C)) → Option (Bool × A)} (d : Nat)
    (hF : ∀ l m r, F l m = some (true, r) → Lens l → ∃ n, runA (withN E n) d f l ⟨m, []⟩ = some r)
    (hb : bodyB E f = true) : AllOK P (withG E f (gOfM E f ts F)) := by
  refine h.g fun call hc args m r e => ?_
  have hold : (match E.gam f with | some g => g (fun f l => call f l (memFor l m)) m args | none => none) = some (true, r) → Callable P f ∧ ∀ (σ : Wh) (M : Nat → Prop) (w : World) (vs : List Value), (∀ g, M g → g < w.heap.size) → F2 (RA w σ M) args vs →
    (∀ b l, getB m b = some l → ∃ c e, w.heap[σ.rs b]? = some (.cells c e (0, 0)) ∧ Rs w σ M l c.toList) →
    Calls P f vs.toArray w fun e w' => ∃ v, e = .returned v ∧ RA w' σ M r v ∧ Below w.heap.size w w' := by
    intro hy
    cases hg : E.gam f with
    | none => rw [hg] at hy; cases hy
    | some g => rw [hg] at hy; exact h.gam f g hg call hc args m r hy
  simp only [gOfM] at e
  split at e
  · rename_i l hl
    split at e
    · rename_i r' hr'
      simp only [Option.some.injEq] at e
      subst e
      refine ⟨callable_of h.env hb, fun σ M w vs hM hargs hbox => ?_⟩
      have hl2 := canonDs_ok hl hargs
      have hl3 : F2 (RA w (σ.rn (idsFor m l)) M) (l.map (A.map (C.rn (idsFor m l)))) vs := F2.map _ hl2 fun x _ v hv => RA_rn hv
      obtain ⟨n, hn⟩ := hF _ _ _ hr' (Lens_of hl3)
      exact (runA_at (h.n n) hn).2 σ (σ.rn (idsFor m l)) M w vs hM hl3 (by
        intro b lb hlb
        rw [getB_some] at hlb
        simp only [memRn, List.getElem?_map, Option.map_eq_some_iff] at hlb
        obtain ⟨b', hb', hx⟩ := hlb
        obtain ⟨lo, hlo, hx⟩ := hx
        obtain ⟨c, ty, h1, h2⟩ := hbox b' lo hlo
        refine ⟨c, ty, ?_, ?_⟩
        · show w.heap[σ.rs ((idsFor m l).getD b 0)]? = _
          have : (idsFor m l).getD b 0 = b' := by simp [List.getD, hb']
          rw [this]; exact h1
        · rw [← hx]; exact Rs_rn h2)
    · exact hold e
  · exact hold e
end
/-- Arguments in their one form; what lies behind a list's end is kept. -/
def canonKs (E : Env) : List TypeId → List A → Option (List A)
  | [], [] => some []
  | T :: ts, x :: r => match canonA E T x, canonKs E ts r with
    | some x, some r => some (x :: r)
    | _, _ => none
  | _, _ => none

/-- A function's contract, with what closures hold, of lists that keep what lies behind them. -/
def gOfK (E : Env) (f : FuncId) (ts : List TypeId) (F : List A → List (Option (List C)) → Option (Bool × A)) : (FuncId → List A → Option (Bool × A)) → Mem → List A → Option (Bool × A) :=
  fun call m args => match canonKs E ts args with
    | some l => match F (l.map (A.map (C.rn (idsFor m l)))) (memRn (idsFor m l) m) with
      | some r => some r
      | none => match E.gam f with
        | some g => g call m args
        | none => none
    | none => match E.gam f with
        | some g => g call m args
        | none => none

theorem canonKs_ok {E : Env} {w : World} {σ : Wh} {M : Nat → Prop} : ∀ {ts : List TypeId} {l l' : List A} {vs : List Value}, canonKs E ts l = some l' → F2 (RA w σ M) l vs → F2 (RA w σ M) l' vs
  | [], [], l', vs, h, hr => by simp only [canonKs, Option.some.injEq] at h; subst h; exact hr
  | T :: ts, x :: r, l', [], h, hr => hr.elim
  | T :: ts, x :: r, l', v :: vs, h, ⟨h1, h2⟩ => by
    simp only [canonKs] at h
    split at h
    · rename_i y r' hy hr'
      simp only [Option.some.injEq] at h
      subst h
      exact ⟨canonA_ok hy h1, canonKs_ok hr' h2⟩
    · cases h
  | [], _ :: _, _, _, h, _ => by simp [canonKs] at h
  | _ :: _, [], _, _, h, _ => by simp [canonKs] at h


section
variable {P : Program} {E : Env}
theorem AllOK.fk (h : AllOK P E) {f : FuncId} {ts : List TypeId} {F : List A → List (Option (List C)) → Option (Bool × A)} (d : Nat)
    (hF : ∀ l m r, F l m = some (true, r) → Lens l → ∃ n, runA (withN E n) d f l ⟨m, []⟩ = some r)
    (hb : bodyB E f = true) : AllOK P (withG E f (gOfK E f ts F)) := by
  refine h.g fun call hc args m r e => ?_
  have hold : (match E.gam f with | some g => g (fun f l => call f l (memFor l m)) m args | none => none) = some (true, r) → Callable P f ∧ ∀ (σ : Wh) (M : Nat → Prop) (w : World) (vs : List Value), (∀ g, M g → g < w.heap.size) → F2 (RA w σ M) args vs →
    (∀ b l, getB m b = some l → ∃ c e, w.heap[σ.rs b]? = some (.cells c e (0, 0)) ∧ Rs w σ M l c.toList) →
    Calls P f vs.toArray w fun e w' => ∃ v, e = .returned v ∧ RA w' σ M r v ∧ Below w.heap.size w w' := by
    intro hy
    cases hg : E.gam f with
    | none => rw [hg] at hy; cases hy
    | some g => rw [hg] at hy; exact h.gam f g hg call hc args m r hy
  simp only [gOfK] at e
  split at e
  · rename_i l hl
    split at e
    · rename_i r' hr'
      simp only [Option.some.injEq] at e
      subst e
      refine ⟨callable_of h.env hb, fun σ M w vs hM hargs hbox => ?_⟩
      have hl2 := canonKs_ok hl hargs
      have hl3 : F2 (RA w (σ.rn (idsFor m l)) M) (l.map (A.map (C.rn (idsFor m l)))) vs := F2.map _ hl2 fun x _ v hv => RA_rn hv
      obtain ⟨n, hn⟩ := hF _ _ _ hr' (Lens_of hl3)
      exact (runA_at (h.n n) hn).2 σ (σ.rn (idsFor m l)) M w vs hM hl3 (by
        intro b lb hlb
        rw [getB_some] at hlb
        simp only [memRn, List.getElem?_map, Option.map_eq_some_iff] at hlb
        obtain ⟨b', hb', hx⟩ := hlb
        obtain ⟨lo, hlo, hx⟩ := hx
        obtain ⟨c, ty, h1, h2⟩ := hbox b' lo hlo
        refine ⟨c, ty, ?_, ?_⟩
        · show w.heap[σ.rs ((idsFor m l).getD b 0)]? = _
          have : (idsFor m l).getD b 0 = b' := by simp [List.getD, hb']
          rw [this]; exact h1
        · rw [← hx]; exact Rs_rn h2)
    · exact hold e
  · exact hold e
end
end Ev
end Go.Proofs.YtefjcgbidillhaaGreat
