/- A seat's tables, checked: one Bool for each. -/
import Derived.Test.YtefjcgbidillhaaGreatEvTB
namespace Go.Proofs.YtefjcgbidillhaaGreat
open Go
namespace Ev
set_option linter.unusedVariables false

theorem str_empty {a : Str} (h : a.size = 0) : a = ByteArray.empty := by
  obtain ⟨⟨x⟩⟩ := a
  have : x = [] := List.eq_nil_of_length_eq_zero h
  subst this; rfl

/-- The same value? (Of the few that stand in zero values.) -/
def vEq : Value → Value → Bool
  | .int k a, .int k' b => (k == k') && (a == b)
  | .string a, .string b => Nat.beq a.size 0 && Nat.beq b.size 0
  | .bool a, .bool b => a == b
  | .slice none 0 0, .slice none 0 0 => true
  | .nilFunc, .nilFunc => true
  | .pointer none, .pointer none => true
  | _, _ => false

theorem vEq_eq {a b : Value} (h : vEq a b = true) : a = b := by
  unfold vEq at h
  split at h
  · rename_i k x k' y
    simp only [Bool.and_eq_true, beq_iff_eq] at h
    obtain ⟨rfl, rfl⟩ := h; rfl
  · simp only [Bool.and_eq_true] at h
    rw [str_empty (Nat.eq_of_beq_eq_true h.1), str_empty (Nat.eq_of_beq_eq_true h.2)]
  · simp only [beq_iff_eq] at h; rw [h]
  all_goals first | rfl | cases h

def vsEq : List Value → List Value → Bool
  | [], [] => true
  | x :: xs, y :: ys => vEq x y && vsEq xs ys
  | _, _ => false

theorem vsEq_eq : ∀ {a b : List Value}, vsEq a b = true → a = b
  | [], [], _ => rfl
  | x :: xs, y :: ys, h => by
    simp only [vsEq, Bool.and_eq_true] at h
    rw [vEq_eq h.1, vsEq_eq h.2]
  | [], _ :: _, h => by simp [vsEq] at h
  | _ :: _, [], h => by simp [vsEq] at h

def fsEq : List Field → List (Nat × TypeId) → Bool
  | [], [] => true
  | f :: fs, p :: ps => Nat.beq f.offset p.1 && Nat.beq f.type p.2 && fsEq fs ps
  | _, _ => false

theorem fsEq_eq : ∀ {fs : List Field} {ps : List (Nat × TypeId)}, fsEq fs ps = true → fs.map (fun f => (f.offset, f.type)) = ps
  | [], [], _ => rfl
  | f :: fs, p :: ps, h => by
    simp only [fsEq, Bool.and_eq_true] at h
    simp only [List.map_cons]
    rw [fsEq_eq h.2, Nat.eq_of_beq_eq_true h.1.1, Nat.eq_of_beq_eq_true h.1.2]
  | [], _ :: _, h => by simp [fsEq] at h
  | _ :: _, [], h => by simp [fsEq] at h

def tiB (P : Program) (T : TypeId) (ti : TI) : Bool :=
  match P.info? T with
  | none => false
  | some inf => Nat.beq inf.size ti.size && match ti with
    | .sc => match P.underlying T with
      | none | some (.struct _) | some (.array _ _) | some (.slice _) => false
      | some _ => true
    | .st _ fs => match P.underlying T with
      | some (.struct flds) => fsEq flds.toList fs && flds.toList.all fun f => (P.info? f.type).isSome
      | _ => false
    | .sl e t => match P.underlying T, inf.zero, P.info? e with
      | some (.slice e'), some (.slice none 0 0), some ie => Nat.beq e' e && Nat.beq ie.size t.size && Nat.ble ie.bytes 1000 && match ie.zero with
        | some z => vsEq z.cells.toList (t.enc t.zero)
        | none => false
      | _, _, _ => false
    | .ar n e t => match P.underlying T, inf.zero, P.info? e with
      | some (.array n' e'), some z, some ie => Nat.beq n' n && Nat.beq e' e && Nat.beq ie.size t.size && vsEq z.cells.toList ((List.replicate n t.zero).flatMap t.enc)
      | _, _, _ => false

theorem tiB_ok {P : Program} {T : TypeId} {ti : TI} (h : tiB P T ti = true) : TIok P T ti := by
  unfold tiB at h
  split at h
  · cases h
  · rename_i inf hi
    simp only [Bool.and_eq_true] at h
    refine ⟨inf, hi, Nat.eq_of_beq_eq_true h.1, ?_⟩
    have h := h.2
    cases ti with
    | sc =>
      simp only at h ⊢
      split at h <;> first | (cases h; done) | skip
      rename_i d h1 h2 h3 hd
      refine ⟨d, hd, ?_, ?_, ?_⟩
      · rintro fs rfl; exact h1 _ rfl
      · rintro n e rfl; exact h2 _ _ rfl
      · rintro e rfl; exact h3 _ rfl
    | st n fs =>
      simp only at h ⊢
      split at h
      · rename_i flds hu
        simp only [Bool.and_eq_true, List.all_eq_true] at h
        exact ⟨flds, hu, fsEq_eq h.1, fun f hf => Option.isSome_iff_exists.1 (h.2 f hf)⟩
      · cases h
    | sl e t =>
      simp only at h ⊢
      split at h
      · rename_i e' ie hu hz hie
        simp only [Bool.and_eq_true] at h
        obtain ⟨⟨⟨h1, h2⟩, h3⟩, h4⟩ := h
        split at h4
        · rename_i z hzz
          have := Nat.eq_of_beq_eq_true h1
          subst this
          exact ⟨hu, hz, ie, z, hie, Nat.eq_of_beq_eq_true h2, Nat.le_of_ble_eq_true h3, hzz, vsEq_eq h4⟩
        · cases h4
      · cases h
    | ar n e t =>
      simp only at h ⊢
      split at h
      · rename_i n' e' z ie hu hz hie
        simp only [Bool.and_eq_true] at h
        obtain ⟨⟨⟨h1, h2⟩, h3⟩, h4⟩ := h
        have h1 := Nat.eq_of_beq_eq_true h1
        have h2 := Nat.eq_of_beq_eq_true h2
        subst h1 h2
        exact ⟨hu, ie, z, hie, Nat.eq_of_beq_eq_true h3, hz, vsEq_eq h4⟩
      · cases h

def okB : (t : Ty) → t.D → Bool
  | .item, x => Nat.beq x.units.length 4
  | .notice, x => Nat.beq x.lines.length 8
  | .order, x => Nat.beq x.lines.length 8
  | _, _ => true
theorem okB_ok {t : Ty} {x : t.D} (h : okB t x = true) : t.ok x := by
  cases t <;> first | trivial | exact Nat.eq_of_beq_eq_true h

def rsB : List C → List Value → Bool
  | [], us => us.isEmpty
  | .v x :: l, u :: us => vEq x u && x.oneCell' && rsB l us
  | .nils :: l, u :: us => vEq (.slice none 0 0) u && rsB l us
  | .el t x :: l, us => vsEq (t.enc x) (us.take t.size) && okB t x && rsB l (us.drop t.size)
  | .arr t n x :: l, us => Nat.beq x.length n && vsEq (x.flatMap t.enc) (us.take (n * t.size)) && x.all (okB t) && rsB l (us.drop (n * t.size))
  | _, _ => false

theorem rsB_ok {w : World} {σ : Wh} {M : Nat → Prop} : ∀ {l : List C} {us : List Value}, rsB l us = true → Rs w σ M l us ∧ ∀ c ∈ l, ∀ id, C.noBox id c = true
  | [], us, h => ⟨by simp only [Rs]; simpa [rsB] using h, by simp⟩
  | .v x :: l, u :: us, h => by
    simp only [rsB, Bool.and_eq_true] at h
    obtain ⟨h1, h2⟩ := rsB_ok (w := w) (σ := σ) (M := M) h.2
    exact ⟨⟨[u], us, rfl, ⟨by rw [vEq_eq h.1.1], h.1.2⟩, h1⟩, by
      intro c hc id
      rcases List.mem_cons.1 hc with rfl | hc
      · rfl
      · exact h2 c hc id⟩
  | .nils :: l, u :: us, h => by
    simp only [rsB, Bool.and_eq_true] at h
    obtain ⟨h1, h2⟩ := rsB_ok (w := w) (σ := σ) (M := M) h.2
    exact ⟨⟨[u], us, rfl, by rw [← vEq_eq h.1]; rfl, h1⟩, by
      intro c hc id
      rcases List.mem_cons.1 hc with rfl | hc
      · rfl
      · exact h2 c hc id⟩
  | .el t x :: l, us, h => by
    simp only [rsB, Bool.and_eq_true] at h
    obtain ⟨h1, h2⟩ := rsB_ok (w := w) (σ := σ) (M := M) h.2
    exact ⟨⟨us.take t.size, us.drop t.size, by rw [List.take_append_drop], ⟨(vsEq_eq h.1.1).symm, okB_ok h.1.2⟩, h1⟩, by
      intro c hc id
      rcases List.mem_cons.1 hc with rfl | hc
      · rfl
      · exact h2 c hc id⟩
  | .arr t n x :: l, us, h => by
    simp only [rsB, Bool.and_eq_true, List.all_eq_true] at h
    obtain ⟨h1, h2⟩ := rsB_ok (w := w) (σ := σ) (M := M) h.2
    exact ⟨⟨us.take (n * t.size), us.drop (n * t.size), by rw [List.take_append_drop], ⟨(vsEq_eq h.1.1.2).symm, Nat.eq_of_beq_eq_true h.1.1.1, fun y hy => okB_ok (h.1.2 y hy)⟩, h1⟩, by
      intro c hc id
      rcases List.mem_cons.1 hc with rfl | hc
      · rfl
      · exact h2 c hc id⟩

def zeroB (P : Program) (T : TypeId) (l : List C) : Bool :=
  match P.info? T with
  | none => false
  | some inf => match inf.zero with
    | some z => rsB l z.cells.toList
    | none => false

def eqB (P : Program) (T : TypeId) (t : Ty) : Bool :=
  !P.eqGuardType P.depth T && isAggB P T && match kindsOf P 8 T with
    | some ks => ksEq ks t.kinds
    | none => false
  where ksEq : List K → List K → Bool
  | [], [] => true
  | .str :: l, .str :: m => ksEq l m
  | .int :: l, .int :: m => ksEq l m
  | .bool :: l, .bool :: m => ksEq l m
  | _, _ => false

theorem ksEq_eq : ∀ {l m : List K}, eqB.ksEq l m = true → l = m
  | [], [], _ => rfl
  | .str :: l, .str :: m, h => by rw [ksEq_eq (l := l) (m := m) h]
  | .int :: l, .int :: m, h => by rw [ksEq_eq (l := l) (m := m) h]
  | .bool :: l, .bool :: m, h => by rw [ksEq_eq (l := l) (m := m) h]

theorem eqB_ok {P : Program} {T : TypeId} {t : Ty} (hb : t ≠ .byte) (h : eqB P T t = true) : EqOK P T t := by
  unfold eqB at h
  simp only [Bool.and_eq_true, Bool.not_eq_true'] at h
  obtain ⟨⟨h1, h2⟩, h3⟩ := h
  refine ⟨h1, fun x y w hx hy => ?_⟩
  split at h3
  · rename_i ks hk
    have := ksEq_eq h3
    subst this
    obtain ⟨_, _, _, _, _, _, heq⟩ := eqT_ok _ _ _ hk
    have := heq 10000 (by omega) w _ _ (t.fits x hx hb) (t.fits y hy hb)
    simp only [valT, h2, if_true] at this
    rw [this, t.enc_eq x y hx hy]
  · cases h3

/-- Every entry of a table passes. -/
def allB {α : Type} (p : Nat → α → Bool) : Nat → List (Option α) → Bool
  | _, [] => true
  | k, none :: l => allB p (k + 1) l
  | k, some x :: l => p k x && allB p (k + 1) l

theorem allB_ok {α : Type} {p : Nat → α → Bool} : ∀ {l : List (Option α)} {k : Nat}, allB p k l = true → ∀ i x, (l[i]?).join = some x → p (k + i) x = true
  | [], k, _, i, x, h => by simp at h
  | none :: l, k, hp, 0, x, h => by simp at h
  | none :: l, k, hp, i + 1, x, h => by
    simp only [allB] at hp
    have := allB_ok hp i x (by simpa using h)
    rwa [show k + 1 + i = k + (i + 1) by omega] at this
  | some y :: l, k, hp, 0, x, h => by
    simp only [allB, Bool.and_eq_true] at hp
    simp at h; subst h
    exact hp.1
  | some y :: l, k, hp, i + 1, x, h => by
    simp only [allB, Bool.and_eq_true] at hp
    have := allB_ok hp.2 i x (by simpa using h)
    rwa [show k + 1 + i = k + (i + 1) by omega] at this

/-- Tables of a program. -/
structure Tabs where
  tab : List (Option TI)
  elt : List (Option Ty)
  zero : List (Option (List C))

def noByte : Ty → Bool
  | .byte => false
  | _ => true

def Tabs.okB (T : Tabs) (P : Program) : Bool :=
  allB (tiB P) 0 T.tab && allB (fun i t => noByte t && eqB P i t) 0 T.elt && allB (zeroB P) 0 T.zero && P.funcs.toList.all fun f => !(f.name == "runtime.NumGoroutine")

/-- The environment of a program: its tables, and what is known of its functions. -/
def Tabs.env (T : Tabs) (P : Program) : Env where
  tab := fun t => (T.tab[t]?).join
  elt := fun t => (T.elt[t]?).join
  zero := fun t => (T.zero[t]?).join
  boolT := fun t => match P.underlying t with
    | some .bool => true
    | _ => false
  strT := fun t => match P.underlying t with
    | some .string => true
    | _ => false
  intT := fun t => match P.underlying t with
    | some (.int k) => some k
    | _ => none
  fd := fun f => P.funcs[f]?
  gam := fun _ => none
  own1 := fun _ => none
  eat := fun _ => none
  sum := fun _ _ => none
  F := 0
  ann := []

theorem Tabs.env_ok {T : Tabs} {P : Program} (hm : P.follows .mixedOrders = true) (h : T.okB P = true) {E : Env} (h1 : E.tab = (T.env P).tab) (h2 : E.elt = (T.env P).elt) (h3 : E.zero = (T.env P).zero) (h4 : E.boolT = (T.env P).boolT) (h5 : E.strT = (T.env P).strT) (h6 : E.fd = (T.env P).fd) (h7 : E.intT = (T.env P).intT := by rfl) : EnvOK P E := by
  simp only [Tabs.okB, Bool.and_eq_true] at h
  obtain ⟨⟨⟨k1, k2⟩, k3⟩, k4⟩ := h
  exact {
    mixed := hm
    tab := fun t ti ht => by
      rw [h1] at ht
      have := allB_ok k1 t ti ht
      rw [Nat.zero_add] at this
      exact tiB_ok this
    zero := fun t l ht => by
      rw [h3] at ht
      have := allB_ok k3 t l ht
      rw [Nat.zero_add] at this
      unfold zeroB at this
      split at this
      · cases this
      · rename_i inf hi
        split at this
        · rename_i z hz
          exact ⟨inf, z, hi, hz, fun w σ M => (rsB_ok this).1, (rsB_ok (w := default) (σ := ⟨fun _ => 0, fun _ => undef, fun _ => 0⟩) (M := fun _ => True) this).2⟩
        · cases this
    bool := fun t ht => by
      rw [h4] at ht
      simp only [Tabs.env] at ht
      split at ht
      · assumption
      · cases ht
    str := fun t ht => by
      rw [h5] at ht
      simp only [Tabs.env] at ht
      split at ht
      · assumption
      · cases ht
    int := fun t k ht => by
      rw [h7] at ht
      simp only [Tabs.env] at ht
      split at ht
      · rename_i k' hk
        cases ht
        exact hk
      · cases ht
    elt := fun t ty ht => by
      rw [h2] at ht
      have := allB_ok k2 t ty ht
      rw [Nat.zero_add] at this
      simp only [Bool.and_eq_true] at this
      refine eqB_ok ?_ this.2
      rintro rfl
      cases this.1
    fd := fun f fn hf => by
      rw [h6] at hf
      simp only [Tabs.env] at hf
      refine ⟨hf, ?_⟩
      have := List.all_eq_true.1 k4 fn (by simpa using Array.mem_of_getElem? hf)
      simpa using this }

end Ev
end Go.Proofs.YtefjcgbidillhaaGreat
