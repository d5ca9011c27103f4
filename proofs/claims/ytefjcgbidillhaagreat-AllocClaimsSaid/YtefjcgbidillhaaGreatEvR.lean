/- What an abstract value says of a value in memory, and what keeps it true. -/
import Derived.Test.YtefjcgbidillhaaGreatEvC
namespace Go.Proofs.YtefjcgbidillhaaGreat
open Go
open Go.RowKit (Below)
namespace Ev
set_option linter.unusedVariables false

/-- Where things lie: boxes' blocks; owned slices' values and how many cells their elements have. -/
structure Wh where
  rs : Nat → Nat
  ov : Nat → Value
  sz : Nat → Nat

def LAt (w : World) (M : Nat → Prop) (t : Ty) (l bs : List t.D) (s : Value) : Prop :=
  (s = .slice none 0 0 ∧ l = [] ∧ bs = []) ∨
  ∃ a cap, s = .slice (some a) l.length cap ∧ l.length + bs.length ≤ cap ∧ cap ≤ maxLen ∧ (l ++ bs = [] ∨ ¬ M a.block) ∧
    (∀ j u, ((l ++ bs).flatMap t.enc)[j]? = some u → w.cell? (a.add j) = some u) ∧ (∀ x ∈ l ++ bs, t.ok x)

def PAt (w : World) (M : Nat → Prop) (t : Ty) (x : t.D) (a : Addr) : Prop :=
  (∀ j u, (t.enc x)[j]? = some u → w.cell? (a.add j) = some u) ∧ ¬ M a.block ∧ t.ok x

def R1 (w : World) (σ : Wh) (M : Nat → Prop) : C → List Value → Prop
  | .v x, vs => vs = [x] ∧ x.oneCell' = true
  | .el t x, vs => vs = t.enc x ∧ t.ok x
  | .arr t n l, vs => vs = l.flatMap t.enc ∧ l.length = n ∧ ∀ x ∈ l, t.ok x
  | .list t l bs, vs => ∃ s, vs = [s] ∧ LAt w M t l bs s
  | .own id, vs => vs = [σ.ov id] ∧ ∃ a n c, σ.ov id = .slice a n c
  | .pre id n, vs => ∃ a len cap, σ.ov id = .slice a len cap ∧ n ≤ len ∧ vs = [.slice a n cap]
  | .nils, vs => vs = [.slice none 0 0]
  | .ptr b o, vs => vs = [.pointer (some ⟨σ.rs b, o, none⟩)]
  | .elp t x o, vs => ∃ a, vs = [.pointer (some (a.add o))] ∧ PAt w M t x a
  | .arp b o t n i q, vs => vs = [.pointer (some ⟨σ.rs b, o + i * t.size + q, none⟩)] ∧ i < n
  | .ownp id i q, vs => ∃ g len cap, σ.ov id = .slice (some ⟨g, 0, none⟩) len cap ∧ vs = [.pointer (some ⟨g, i * σ.sz id + q, none⟩)] ∧ i < len
  | .bsl b o t n hi, vs => vs = [.slice (some ⟨σ.rs b, o, none⟩) hi n] ∧ hi ≤ n
  | .fn f cap, vs => vs = [.func (.func f) #[] (cap.map fun p => Value.pointer (some ⟨σ.rs p.1, p.2, none⟩)).toArray]
  | .dead, vs => ∃ u : Value, vs = [u] ∧ u.oneCell' = true

def Rs (w : World) (σ : Wh) (M : Nat → Prop) : List C → List Value → Prop
  | [], vs => vs = []
  | c :: l, vs => ∃ a b, vs = a ++ b ∧ R1 w σ M c a ∧ Rs w σ M l b

def F2 {α β : Type} (R : α → β → Prop) : List α → List β → Prop
  | [], [] => True
  | a :: l, b :: m => R a b ∧ F2 R l m
  | _, _ => False

theorem F2.mono {α β : Type} {R R' : α → β → Prop} : ∀ {l : List α} {m : List β}, F2 R l m → (∀ a ∈ l, ∀ b, R a b → R' a b) → F2 R' l m
  | [], [], _, _ => trivial
  | a :: l, b :: m, ⟨h, h'⟩, k => ⟨k a (List.mem_cons_self ..) b h, F2.mono h' fun x hx => k x (List.mem_cons_of_mem _ hx)⟩
  | [], _ :: _, h, _ => h.elim
  | _ :: _, [], h, _ => h.elim

theorem F2.get {α β : Type} {R : α → β → Prop} : ∀ {l : List α} {m : List β}, F2 R l m → ∀ (i : Nat) (a : α), l[i]? = some a → ∃ b, m[i]? = some b ∧ R a b
  | a :: l, b :: m, ⟨h, _⟩, 0, x, hx => ⟨b, rfl, by simp at hx; subst hx; exact h⟩
  | a :: l, b :: m, ⟨_, h⟩, i + 1, x, hx => by simpa using F2.get h i x (by simpa using hx)
  | [], [], _, _, _, hx => by simp at hx
  | [], _ :: _, h, _, _, _ => h.elim
  | _ :: _, [], h, _, _, _ => h.elim

theorem F2.len {α β : Type} {R : α → β → Prop} : ∀ {l : List α} {m : List β}, F2 R l m → l.length = m.length
  | [], [], _ => rfl
  | _ :: l, _ :: m, ⟨_, h⟩ => by simp [F2.len h]
  | [], _ :: _, h => h.elim
  | _ :: _, [], h => h.elim

theorem F2.set {α β : Type} {R : α → β → Prop} : ∀ {l : List α} {m : List β} (i : Nat) (a : α) (b : β), F2 R l m → R a b → F2 R (l.set i a) (m.set i b)
  | [], [], _, _, _, _, _ => trivial
  | _ :: _, _ :: _, 0, _, _, ⟨_, h⟩, k => ⟨k, h⟩
  | _ :: _, _ :: _, i + 1, a, b, ⟨h, h'⟩, k => ⟨h, F2.set i a b h' k⟩
  | [], _ :: _, _, _, _, h, _ => h.elim
  | _ :: _, [], _, _, _, h, _ => h.elim

theorem F2.map {α β γ : Type} {R : α → β → Prop} {R' : γ → β → Prop} (f : α → γ) : ∀ {l : List α} {m : List β}, F2 R l m → (∀ a ∈ l, ∀ b, R a b → R' (f a) b) → F2 R' (l.map f) m
  | [], [], _, _ => trivial
  | a :: l, b :: m, ⟨h, h'⟩, k => ⟨k a (List.mem_cons_self ..) b h, F2.map f h' fun x hx => k x (List.mem_cons_of_mem _ hx)⟩
  | [], _ :: _, h, _ => h.elim
  | _ :: _, [], h, _ => h.elim

theorem F2.append {α β : Type} {R : α → β → Prop} : ∀ {l l' : List α} {m m' : List β}, F2 R l m → F2 R l' m' → F2 R (l ++ l') (m ++ m')
  | [], _, [], _, _, k => k
  | a :: l, _, b :: m, _, ⟨h, h'⟩, k => ⟨h, F2.append h' k⟩
  | [], _, _ :: _, _, h, _ => h.elim
  | _ :: _, _, [], _, h, _ => h.elim

def RB (w : World) (σ : Wh) (M : Nat → Prop) (x : Bool × List C) (v : Value) : Prop :=
  match x.1 with
  | true => ∃ vs : List Value, v = .agg vs.toArray ∧ Rs w σ M x.2 vs
  | false => ∃ c, x.2 = [c] ∧ c.len = true ∧ R1 w σ M c [v]

def RA (w : World) (σ : Wh) (M : Nat → Prop) : A → Value → Prop
  | .s c, v => c.len = true ∧ R1 w σ M c [v]
  | .g l, v => ∃ vs : List Value, v = .agg vs.toArray ∧ Rs w σ M l vs
  | .t l, v => ∃ vs : List Value, v = .tuple vs.toArray ∧ F2 (RB w σ M) l vs
  | .dead, _ => True

section
variable {w : World} {σ : Wh} {M : Nat → Prop}

theorem R1_len : ∀ (c : C) (vs : List Value), R1 w σ M c vs → vs.length = c.size := by
  intro c vs h
  cases c with
  | v x => obtain ⟨rfl, _⟩ := h; rfl
  | el t x => obtain ⟨rfl, ho⟩ := h; exact t.enc_len x ho
  | arr t n l =>
    obtain ⟨rfl, rfl, ho⟩ := h
    show _ = l.length * t.size
    clear R1_len
    induction l with
    | nil => simp
    | cons a l ih =>
      simp only [List.flatMap_cons, List.length_append, List.length_cons]
      rw [ih (fun x hx => ho x (List.mem_cons_of_mem _ hx)), t.enc_len a (ho a (List.mem_cons_self ..)), Nat.add_mul]
      omega
  | list t l bs => obtain ⟨s, rfl, _⟩ := h; rfl
  | own id => obtain ⟨rfl, _⟩ := h; rfl
  | pre id n => obtain ⟨a, b, c, _, _, rfl⟩ := h; rfl
  | nils => cases h; rfl
  | ptr b o => cases h; rfl
  | elp t x o => obtain ⟨a, rfl, _⟩ := h; rfl
  | arp b o t n i q => obtain ⟨rfl, _⟩ := h; rfl
  | ownp id i q => obtain ⟨a, b, c, _, rfl, _⟩ := h; rfl
  | bsl b o t n hi => obtain ⟨rfl, _⟩ := h; rfl
  | fn f cap => cases h; rfl
  | dead => obtain ⟨u, rfl, _⟩ := h; rfl

theorem R1_one (c : C) (vs : List Value) (h : R1 w σ M c vs) : ∀ v ∈ vs, v.oneCell' = true := by
  intro v hv
  cases c with
  | v x => obtain ⟨rfl, ho⟩ := h; simp at hv; subst hv; exact ho
  | el t x => obtain ⟨rfl, ho⟩ := h; exact t.enc_one x v hv
  | arr t n l => obtain ⟨rfl, rfl, ho⟩ := h; exact mem_flat_one t.enc t.enc_one l v hv
  | list t l bs =>
    obtain ⟨s, rfl, hl⟩ := h
    simp at hv; subst hv
    rcases hl with ⟨rfl, _⟩ | ⟨a, cap, rfl, _⟩ <;> rfl
  | own id => obtain ⟨rfl, a, n, c, h⟩ := h; simp at hv; subst hv; rw [h]; rfl
  | pre id n => obtain ⟨a, b, c, _, _, rfl⟩ := h; simp at hv; subst hv; rfl
  | nils => cases h; simp at hv; subst hv; rfl
  | ptr b o => cases h; simp at hv; subst hv; rfl
  | elp t x o => obtain ⟨a, rfl, _⟩ := h; simp at hv; subst hv; rfl
  | arp b o t n i q => obtain ⟨rfl, _⟩ := h; simp at hv; subst hv; rfl
  | ownp id i q => obtain ⟨a, b, c, _, rfl, _⟩ := h; simp at hv; subst hv; rfl
  | bsl b o t n hi => obtain ⟨rfl, _⟩ := h; simp at hv; subst hv; rfl
  | fn f cap => cases h; simp at hv; subst hv; rfl
  | dead => obtain ⟨u, rfl, ho⟩ := h; simp at hv; subst hv; exact ho

theorem Rs_cons {c : C} {l : List C} {a b : List Value} (h : R1 w σ M c a) (h' : Rs w σ M l b) : Rs w σ M (c :: l) (a ++ b) := ⟨a, b, rfl, h, h'⟩

theorem Rs_append : ∀ (l l' : List C) (a b : List Value), Rs w σ M l a → Rs w σ M l' b → Rs w σ M (l ++ l') (a ++ b)
  | [], _, _, _, h, h' => by cases h; simpa using h'
  | c :: l, l', _, b, ⟨x, y, rfl, hx, hy⟩, h' => ⟨x, y ++ b, by simp, hx, Rs_append l l' y b hy h'⟩

theorem Rs_split : ∀ (l l' : List C) (vs : List Value), Rs w σ M (l ++ l') vs → ∃ a b, vs = a ++ b ∧ Rs w σ M l a ∧ Rs w σ M l' b
  | [], l', vs, h => ⟨[], vs, rfl, rfl, h⟩
  | c :: l, l', vs, ⟨x, y, e, hx, hy⟩ => by
    obtain ⟨a, b, rfl, ha, hb⟩ := Rs_split l l' y hy
    exact ⟨x ++ a, b, by rw [e]; simp, ⟨x, a, rfl, hx, ha⟩, hb⟩

theorem Rs_one : ∀ (l : List C) (vs : List Value), Rs w σ M l vs → ∀ v ∈ vs, v.oneCell' = true
  | [], _, h, v, hv => by cases h; cases hv
  | c :: l, _, ⟨x, y, e, hx, hy⟩, v, hv => by
    subst e
    rcases List.mem_append.1 hv with h | h
    · exact R1_one c x hx v h
    · exact Rs_one l y hy v h

theorem Rs_single {c : C} {vs : List Value} : Rs w σ M [c] vs ↔ R1 w σ M c vs := by
  constructor
  · rintro ⟨a, b, rfl, h, rfl⟩; simpa using h
  · intro h; exact ⟨vs, [], by simp, h, rfl⟩

/-- A thing's parts say what the thing says. -/
theorem Rs_cel (t : Ty) (x : t.D) (ho : t.ok x) : Rs w σ M (cel t x) (t.enc x) := by
  cases t
  case item =>
    refine ⟨[_], _, by simp only [Ty.enc, List.cons_append, List.nil_append]; rfl, ⟨rfl, rfl⟩, ⟨x.units.flatMap encUnit, _, rfl, ⟨rfl, ho, fun _ _ => trivial⟩, ?_⟩⟩
    refine ⟨[_], _, rfl, ⟨rfl, rfl⟩, ⟨[_], _, rfl, ⟨rfl, rfl⟩, ⟨[_], _, rfl, ⟨rfl, rfl⟩, ⟨[_], _, rfl, ⟨rfl, rfl⟩, ⟨[_], _, rfl, ⟨rfl, rfl⟩, rfl⟩⟩⟩⟩⟩
  case notice =>
    refine ⟨[_], _, rfl, ⟨rfl, rfl⟩, ⟨[_], _, rfl, ⟨rfl, rfl⟩, ⟨x.lines.flatMap encLine, _, rfl, ⟨rfl, ho, fun _ _ => trivial⟩, ⟨[_], _, rfl, ⟨rfl, rfl⟩, rfl⟩⟩⟩⟩
  case order =>
    refine ⟨[_], _, rfl, ⟨rfl, rfl⟩, ⟨[_], _, rfl, ⟨rfl, rfl⟩, ⟨x.lines.flatMap encLine, [], by simp, ⟨rfl, ho, fun _ _ => trivial⟩, rfl⟩⟩⟩
  case quant => exact ⟨encKey x.key, _, rfl, ⟨rfl, trivial⟩, ⟨[_], _, rfl, ⟨rfl, rfl⟩, ⟨[_], _, rfl, ⟨rfl, rfl⟩, rfl⟩⟩⟩
  case counted => exact ⟨encKey x.key, _, rfl, ⟨rfl, trivial⟩, ⟨[_], _, rfl, ⟨rfl, rfl⟩, rfl⟩⟩
  case take => exact ⟨encKey x.key, _, rfl, ⟨rfl, trivial⟩, ⟨[_], _, rfl, ⟨rfl, rfl⟩, rfl⟩⟩
  case entry => exact ⟨encKey x.key, _, rfl, ⟨rfl, trivial⟩, ⟨[_], _, rfl, ⟨rfl, rfl⟩, ⟨[_], _, rfl, ⟨rfl, rfl⟩, ⟨[_], _, rfl, ⟨rfl, rfl⟩, ⟨[_], _, rfl, ⟨rfl, rfl⟩, rfl⟩⟩⟩⟩⟩
  case claim => exact ⟨[_], _, rfl, ⟨rfl, rfl⟩, ⟨[_], _, rfl, ⟨rfl, rfl⟩, ⟨encKey x.key, _, rfl, ⟨rfl, trivial⟩, ⟨[_], _, rfl, ⟨rfl, rfl⟩, ⟨[_], _, rfl, ⟨rfl, rfl⟩, rfl⟩⟩⟩⟩⟩
  case task => exact ⟨[_], _, rfl, ⟨rfl, rfl⟩, ⟨[_], _, rfl, ⟨rfl, rfl⟩, ⟨[_], _, rfl, ⟨rfl, rfl⟩, ⟨[_], _, rfl, ⟨rfl, rfl⟩, ⟨encKey x.from, _, rfl, ⟨rfl, trivial⟩, ⟨[_], _, rfl, ⟨rfl, rfl⟩, ⟨[_], _, rfl, ⟨rfl, rfl⟩, ⟨[_], _, rfl, ⟨rfl, rfl⟩, rfl⟩⟩⟩⟩⟩⟩⟩⟩
  all_goals
    repeat' first
      | exact rfl
      | refine ⟨[_], _, rfl, ⟨rfl, rfl⟩, ?_⟩

theorem dropC_ok : ∀ (k o : Nat) (l l' : List C) (vs : List Value), dropC k o l = some l' → Rs w σ M l vs → o ≤ vs.length ∧ Rs w σ M l' (vs.drop o)
  | 0, _, _, _, _, h, _ => by simp [dropC] at h
  | k + 1, 0, l, l', vs, h, hr => by
    simp only [dropC, Option.some.injEq] at h
    subst h
    exact ⟨Nat.zero_le _, by simpa using hr⟩
  | k + 1, o + 1, [], l', vs, h, hr => by simp [dropC] at h
  | k + 1, o + 1, c :: r, l', vs, h, hr => by
    obtain ⟨a, b, rfl, ha, hb⟩ := hr
    have hl := R1_len c a ha
    simp only [dropC] at h
    split at h
    · rename_i hc
      have hc : c.size ≤ o + 1 := Nat.le_of_ble_eq_true hc
      obtain ⟨h1, h2⟩ := dropC_ok k _ r l' b h hb
      refine ⟨by simp; omega, ?_⟩
      rw [List.drop_append, List.drop_of_length_le (by omega), hl]
      simpa using h2
    · split at h
      · obtain ⟨rfl, ho⟩ := ha
        exact dropC_ok k _ _ l' _ h (Rs_append _ _ _ _ (Rs_cel _ _ ho) hb)
      · cases h

theorem takeC_ok : ∀ (k n : Nat) (l l' : List C) (vs : List Value), takeC k n l = some l' → Rs w σ M l vs → n ≤ vs.length ∧ Rs w σ M l' (vs.take n)
  | 0, _, _, _, _, h, _ => by simp [takeC] at h
  | k + 1, 0, l, l', vs, h, hr => by
    simp only [takeC, Option.some.injEq] at h
    subst h
    exact ⟨Nat.zero_le _, by simp [Rs]⟩
  | k + 1, o + 1, [], l', vs, h, hr => by simp [takeC] at h
  | k + 1, o + 1, c :: r, l', vs, h, hr => by
    obtain ⟨a, b, rfl, ha, hb⟩ := hr
    have hl := R1_len c a ha
    simp only [takeC] at h
    split at h
    · rename_i hc
      have hc : c.size ≤ o + 1 := Nat.le_of_ble_eq_true hc
      obtain ⟨q, hq, rfl⟩ := Option.map_eq_some_iff.1 h
      obtain ⟨h1, h2⟩ := takeC_ok k _ r q b hq hb
      refine ⟨by simp; omega, ?_⟩
      rw [List.take_append, List.take_of_length_le (by omega), hl]
      exact Rs_cons ha h2
    · split at h
      · obtain ⟨rfl, ho⟩ := ha
        exact takeC_ok k _ _ l' _ h (Rs_append _ _ _ _ (Rs_cel _ _ ho) hb)
      · cases h

theorem readC_ok {o n : Nat} {l l' : List C} {vs : List Value} (h : readC o n l = some l') (hr : Rs w σ M l vs) : o + n ≤ vs.length ∧ Rs w σ M l' ((vs.drop o).take n) := by
  unfold readC at h
  obtain ⟨q, hq, h⟩ := Option.bind_eq_some_iff.1 h
  obtain ⟨h1, h2⟩ := dropC_ok _ _ _ _ _ hq hr
  obtain ⟨h3, h4⟩ := takeC_ok _ _ _ _ _ h h2
  exact ⟨by simp at h3; omega, h4⟩

theorem Rs_len : ∀ (l : List C) (vs : List Value), Rs w σ M l vs → vs.length = (l.map C.size).sum
  | [], _, h => by cases h; rfl
  | c :: l, _, ⟨a, b, e, ha, hb⟩ => by subst e; simp [R1_len c a ha, Rs_len l b hb]

theorem writeC_ok {o n : Nat} {new l l' : List C} {vs us : List Value} (h : writeC o n new l = some l') (hr : Rs w σ M l vs) (hn : Rs w σ M new us) :
    us.length = n ∧ o + n ≤ vs.length ∧ Rs w σ M l' (vs.take o ++ us ++ vs.drop (o + n)) := by
  unfold writeC at h
  split at h
  · rename_i hs
    have hs := Nat.eq_of_beq_eq_true hs
    split at h
    · rename_i a b ha hb
      simp only [Option.some.injEq] at h
      subst h
      obtain ⟨h1, h2⟩ := takeC_ok _ _ _ _ _ ha hr
      obtain ⟨h3, h4⟩ := dropC_ok _ _ _ _ _ hb hr
      exact ⟨by rw [Rs_len _ _ hn, hs], h3, by rw [List.append_assoc]; exact Rs_append _ _ _ _ h2 (Rs_append _ _ _ _ hn h4)⟩
    · cases h
  · cases h

theorem oneC_ok {l : List C} {c : C} {vs : List Value} (h : oneC l = some c) (hr : Rs w σ M l vs) : ∃ v, vs = [v] ∧ RA w σ M (.s c) v := by
  unfold oneC at h
  split at h
  · rename_i t x
    split at h
    · rename_i c' hc
      simp only [Option.some.injEq] at h
      subst h
      rw [Rs_single] at hr
      obtain ⟨rfl, ho⟩ := hr
      have h1 := Rs_cel (w := w) (σ := σ) (M := M) t x ho
      rw [hc, Rs_single] at h1
      have hs : c'.len = true := by cases t <;> simp [cel] at hc <;> subst hc <;> rfl
      have hl := R1_len _ _ h1
      have h2 : c'.size = 1 := by cases c' <;> simp [C.len] at hs <;> rfl
      match hv : t.enc x, hl with
      | [v], _ => rw [hv] at h1; exact ⟨v, rfl, hs, h1⟩
      | [], hl => rw [h2] at hl; cases hl
      | _ :: _ :: _, hl => rw [h2] at hl; simp at hl
    · cases h
  · cases h
  · rename_i c' h1 h2
    simp only [Option.some.injEq] at h
    subst h
    rw [Rs_single] at hr
    have hl := R1_len _ _ hr
    have hs : c'.len = true := by cases c' <;> first | rfl | exact absurd rfl (h1 _ _) | exact absurd rfl (h2 _ _ _)
    have h2 : c'.size = 1 := by cases c' <;> simp [C.len] at hs <;> rfl
    match vs, hl with
    | [v], _ => exact ⟨v, rfl, hs, hr⟩
    | [], hl => rw [h2] at hl; cases hl
    | _ :: _ :: _, hl => rw [h2] at hl; simp at hl
  · cases h
end

end Ev
end Go.Proofs.YtefjcgbidillhaaGreat
