/- READING STATES BACK: small readers, each with its writer. -/
import Derived.Test.YtefjcgbidillhaaGreatEvF1
namespace Go.Proofs.YtefjcgbidillhaaGreat
open Go
namespace Ev
set_option linter.unusedVariables false

/-- What is read was written so. -/
def DE {X α : Type} (d : X → Option α) (e : α → X) : Prop := ∀ x a, d x = some a → x = e a

section
variable {X Y Z α β γ : Type}
def lNil : List X → Option Unit
  | [] => some ()
  | _ :: _ => none
theorem lNil_ok : DE (lNil (X := X)) (fun _ => []) := by
  intro x a h
  cases x with
  | nil => rfl
  | cons _ _ => cases h
def lCons (d : X → Option α) (r : List X → Option β) : List X → Option (α × β)
  | [] => none
  | x :: l => match d x with
    | some a => match r l with
      | some b => some (a, b)
      | none => none
    | none => none
theorem lCons_ok {d : X → Option α} {e : α → X} {r : List X → Option β} {er : β → List X} (h1 : DE d e) (h2 : DE r er) : DE (lCons d r) (fun p => e p.1 :: er p.2) := by
  intro x a h
  cases x with
  | nil => cases h
  | cons x l =>
    simp only [lCons] at h
    split at h
    · rename_i a' ha
      split at h
      · rename_i b hb
        cases h
        rw [h1 _ _ ha, h2 _ _ hb]
      · cases h
    · cases h
def p2 (d : X → Option α) (r : Y → Option β) : X × Y → Option (α × β) := fun x => match d x.1 with
  | some a => match r x.2 with
    | some b => some (a, b)
    | none => none
  | none => none
theorem p2_ok {d : X → Option α} {e : α → X} {r : Y → Option β} {er : β → Y} (h1 : DE d e) (h2 : DE r er) : DE (p2 d r) (fun p => (e p.1, er p.2)) := by
  intro x a h
  obtain ⟨x, y⟩ := x
  simp only [p2] at h
  split at h
  · rename_i a' ha
    split at h
    · rename_i b hb
      cases h
      rw [h1 _ _ ha, h2 _ _ hb]
    · cases h
  · cases h
end

def cInt : C → Option Int
  | .v (.int .i64 n) => some n
  | _ => none
theorem cInt_ok : DE cInt (fun n => .v (.int .i64 n)) := by intro x a h; unfold cInt at h; split at h <;> cases h; rfl
def cByte : C → Option Int
  | .v (.int .u8 n) => some n
  | _ => none
theorem cByte_ok : DE cByte (fun n => .v (.int .u8 n)) := by intro x a h; unfold cByte at h; split at h <;> cases h; rfl
def cStr : C → Option Str
  | .v (.string n) => some n
  | _ => none
theorem cStr_ok : DE cStr (fun n => .v (.string n)) := by intro x a h; unfold cStr at h; split at h <;> cases h; rfl
def cBool : C → Option Bool
  | .v (.bool n) => some n
  | _ => none
theorem cBool_ok : DE cBool (fun n => .v (.bool n)) := by intro x a h; unfold cBool at h; split at h <;> cases h; rfl
def cNilF : C → Option Unit
  | .v .nilFunc => some ()
  | _ => none
theorem cNilF_ok : DE cNilF (fun _ => .v .nilFunc) := by intro x a h; unfold cNilF at h; split at h <;> cases h; rfl
def cNilP : C → Option Unit
  | .v (.pointer none) => some ()
  | _ => none
theorem cNilP_ok : DE cNilP (fun _ => .v (.pointer none)) := by intro x a h; unfold cNilP at h; split at h <;> cases h; rfl
def cNils : C → Option Unit
  | .nils => some ()
  | _ => none
theorem cNils_ok : DE cNils (fun _ => .nils) := by intro x a h; unfold cNils at h; split at h <;> cases h; rfl
def cDead : C → Option Unit
  | .dead => some ()
  | _ => none
theorem cDead_ok : DE cDead (fun _ => .dead) := by intro x a h; unfold cDead at h; split at h <;> cases h; rfl
def cEl (t : Ty) : C → Option t.D
  | .el t' x => if h : t' = t then some (h ▸ x) else none
  | _ => none
theorem cEl_ok (t : Ty) : DE (cEl t) (fun x => .el t x) := by
  intro x a h; unfold cEl at h; split at h
  · split at h
    · rename_i ht; subst ht; cases h; rfl
    · cases h
  · cases h
def cArr (t : Ty) (n : Nat) : C → Option (List t.D)
  | .arr t' n' x => if h : t' = t then match Nat.beq n' n with
    | true => some (h ▸ x)
    | false => none
    else none
  | _ => none
theorem cArr_ok (t : Ty) (n : Nat) : DE (cArr t n) (fun x => .arr t n x) := by
  intro x a h; unfold cArr at h; split at h
  · split at h
    · rename_i ht; subst ht
      split at h
      · rename_i hn; cases h; rw [Nat.eq_of_beq_eq_true hn]
      · cases h
    · cases h
  · cases h
def cLst (t : Ty) : C → Option (List t.D)
  | .list t' x [] => if h : t' = t then some (h ▸ x) else none
  | _ => none
theorem cLst_ok (t : Ty) : DE (cLst t) (fun x => .list t x []) := by
  intro x a h; unfold cLst at h; split at h
  · split at h
    · rename_i ht; subst ht; cases h; rfl
    · cases h
  · cases h
def cLstB (t : Ty) : C → Option (List t.D × List t.D)
  | .list t' x y => if h : t' = t then some (h ▸ x, h ▸ y) else none
  | _ => none
theorem cLstB_ok (t : Ty) : DE (cLstB t) (fun x => .list t x.1 x.2) := by
  intro x a h; unfold cLstB at h; split at h
  · split at h
    · rename_i ht; subst ht; cases h; rfl
    · cases h
  · cases h
def cOwn (i : Nat) : C → Option Unit
  | .own j => match Nat.beq j i with
    | true => some ()
    | false => none
  | _ => none
theorem cOwn_ok (i : Nat) : DE (cOwn i) (fun _ => .own i) := by
  intro x a h; unfold cOwn at h; split at h
  · split at h
    · rename_i hn; rw [Nat.eq_of_beq_eq_true hn]
    · cases h
  · cases h
def cPre (i : Nat) : C → Option Nat
  | .pre j n => match Nat.beq j i with
    | true => some n
    | false => none
  | _ => none
theorem cPre_ok (i : Nat) : DE (cPre i) (fun n => .pre i n) := by
  intro x a h; unfold cPre at h; split at h
  · split at h
    · rename_i hn; cases h; rw [Nat.eq_of_beq_eq_true hn]
    · cases h
  · cases h
def cPtr (b o : Nat) : C → Option Unit
  | .ptr b' o' => match Nat.beq b' b with
    | true => match Nat.beq o' o with
      | true => some ()
      | false => none
    | false => none
  | _ => none
theorem cPtr_ok (b o : Nat) : DE (cPtr b o) (fun _ => .ptr b o) := by
  intro x a h; unfold cPtr at h; split at h
  · split at h
    · rename_i h1
      split at h
      · rename_i h2; rw [Nat.eq_of_beq_eq_true h1, Nat.eq_of_beq_eq_true h2]
      · cases h
    · cases h
  · cases h
def cElp (t : Ty) (o : Nat) : C → Option t.D
  | .elp t' x o' => if h : t' = t then match Nat.beq o' o with
    | true => some (h ▸ x)
    | false => none
    else none
  | _ => none
theorem cElp_ok (t : Ty) (o : Nat) : DE (cElp t o) (fun x => .elp t x o) := by
  intro x a h; unfold cElp at h; split at h
  · split at h
    · rename_i ht; subst ht
      split at h
      · rename_i hn; cases h; rw [Nat.eq_of_beq_eq_true hn]
      · cases h
    · cases h
  · cases h
def cArp (b o : Nat) (t : Ty) (n q : Nat) : C → Option Nat
  | .arp b' o' t' n' i q' => if t' = t then match Nat.beq b' b && (Nat.beq o' o && (Nat.beq n' n && Nat.beq q' q)) with
    | true => some i
    | false => none
    else none
  | _ => none
theorem cArp_ok (b o : Nat) (t : Ty) (n q : Nat) : DE (cArp b o t n q) (fun i => .arp b o t n i q) := by
  intro x a h; unfold cArp at h; split at h
  · split at h
    · rename_i ht; subst ht
      split at h
      · rename_i hn
        simp only [Bool.and_eq_true] at hn
        cases h
        rw [Nat.eq_of_beq_eq_true hn.1, Nat.eq_of_beq_eq_true hn.2.1, Nat.eq_of_beq_eq_true hn.2.2.1, Nat.eq_of_beq_eq_true hn.2.2.2]
      · cases h
    · cases h
  · cases h
def cOwnp (i q : Nat) : C → Option Nat
  | .ownp j p q' => match Nat.beq j i && Nat.beq q' q with
    | true => some p
    | false => none
  | _ => none
theorem cOwnp_ok (i q : Nat) : DE (cOwnp i q) (fun p => .ownp i p q) := by
  intro x a h; unfold cOwnp at h; split at h
  · split at h
    · rename_i hn
      simp only [Bool.and_eq_true] at hn
      cases h
      rw [Nat.eq_of_beq_eq_true hn.1, Nat.eq_of_beq_eq_true hn.2]
    · cases h
  · cases h
def capEq : List (Nat × Nat) → List (Nat × Nat) → Bool
  | [], [] => true
  | (a, b) :: l, (c, d) :: m => Nat.beq a c && (Nat.beq b d && capEq l m)
  | _, _ => false
theorem capEq_eq : ∀ {l m : List (Nat × Nat)}, capEq l m = true → l = m
  | [], [], _ => rfl
  | (a, b) :: l, (c, d) :: m, h => by
    simp only [capEq, Bool.and_eq_true] at h
    rw [Nat.eq_of_beq_eq_true h.1, Nat.eq_of_beq_eq_true h.2.1, capEq_eq h.2.2]
  | [], _ :: _, h => by simp [capEq] at h
  | _ :: _, [], h => by simp [capEq] at h
def cFn (f : Nat) (cap : List (Nat × Nat)) : C → Option Unit
  | .fn f' cap' => match Nat.beq f' f && capEq cap' cap with
    | true => some ()
    | false => none
  | _ => none
theorem cFn_ok (f : Nat) (cap : List (Nat × Nat)) : DE (cFn f cap) (fun _ => .fn f cap) := by
  intro x a h; unfold cFn at h; split at h
  · split at h
    · rename_i hn
      simp only [Bool.and_eq_true] at hn
      rw [Nat.eq_of_beq_eq_true hn.1, capEq_eq hn.2]
    · cases h
  · cases h

def cH : List C → Option House := fun l =>
  match lCons (cLst .item) (lCons (cLst .lot) (lCons (cLst .zone) (lCons (cLst .bin) (lCons (cLst .quant) (lCons (cLst .rule) (lCons (cLst .notice) (lCons (cLst .order) (lCons (cLst .claim) (lCons (cLst .task) (lCons (cLst .parcel) (lCons (cLst .sent) (lCons (cLst .counted) (lCons (cLst .total) (lCons cInt lNil)))))))))))))) l with
  | some x => some ⟨x.1, x.2.1, x.2.2.1, x.2.2.2.1, x.2.2.2.2.1, x.2.2.2.2.2.1, x.2.2.2.2.2.2.1, x.2.2.2.2.2.2.2.1, x.2.2.2.2.2.2.2.2.1, x.2.2.2.2.2.2.2.2.2.1, x.2.2.2.2.2.2.2.2.2.2.1, x.2.2.2.2.2.2.2.2.2.2.2.1, x.2.2.2.2.2.2.2.2.2.2.2.2.1, x.2.2.2.2.2.2.2.2.2.2.2.2.2.1, x.2.2.2.2.2.2.2.2.2.2.2.2.2.2.1⟩
  | none => none
theorem cH_ok : DE cH hC := by
  intro l h e
  unfold cH at e
  split at e
  · rename_i x hx
    cases e
    exact (lCons_ok (cLst_ok .item) (lCons_ok (cLst_ok .lot) (lCons_ok (cLst_ok .zone) (lCons_ok (cLst_ok .bin) (lCons_ok (cLst_ok .quant) (lCons_ok (cLst_ok .rule) (lCons_ok (cLst_ok .notice) (lCons_ok (cLst_ok .order) (lCons_ok (cLst_ok .claim) (lCons_ok (cLst_ok .task) (lCons_ok (cLst_ok .parcel) (lCons_ok (cLst_ok .sent) (lCons_ok (cLst_ok .counted) (lCons_ok (cLst_ok .total) (lCons_ok cInt_ok lNil_ok))))))))))))))) _ _ hx
  · cases e
def cHB : List C → Option (House × House) := fun l =>
  match lCons (cLstB .item) (lCons (cLstB .lot) (lCons (cLstB .zone) (lCons (cLstB .bin) (lCons (cLstB .quant) (lCons (cLstB .rule) (lCons (cLstB .notice) (lCons (cLstB .order) (lCons (cLstB .claim) (lCons (cLstB .task) (lCons (cLstB .parcel) (lCons (cLstB .sent) (lCons (cLstB .counted) (lCons (cLstB .total) (lCons cInt lNil)))))))))))))) l with
  | some x => some (⟨x.1.1, x.2.1.1, x.2.2.1.1, x.2.2.2.1.1, x.2.2.2.2.1.1, x.2.2.2.2.2.1.1, x.2.2.2.2.2.2.1.1, x.2.2.2.2.2.2.2.1.1, x.2.2.2.2.2.2.2.2.1.1, x.2.2.2.2.2.2.2.2.2.1.1, x.2.2.2.2.2.2.2.2.2.2.1.1, x.2.2.2.2.2.2.2.2.2.2.2.1.1, x.2.2.2.2.2.2.2.2.2.2.2.2.1.1, x.2.2.2.2.2.2.2.2.2.2.2.2.2.1.1, x.2.2.2.2.2.2.2.2.2.2.2.2.2.2.1⟩,
      ⟨x.1.2, x.2.1.2, x.2.2.1.2, x.2.2.2.1.2, x.2.2.2.2.1.2, x.2.2.2.2.2.1.2, x.2.2.2.2.2.2.1.2, x.2.2.2.2.2.2.2.1.2, x.2.2.2.2.2.2.2.2.1.2, x.2.2.2.2.2.2.2.2.2.1.2, x.2.2.2.2.2.2.2.2.2.2.1.2, x.2.2.2.2.2.2.2.2.2.2.2.1.2, x.2.2.2.2.2.2.2.2.2.2.2.2.1.2, x.2.2.2.2.2.2.2.2.2.2.2.2.2.1.2, 0⟩)
  | none => none
theorem cHB_ok : DE cHB (fun x => hB x.1 x.2) := by
  intro l h e
  unfold cHB at e
  split at e
  · rename_i x hx
    cases e
    exact (lCons_ok (cLstB_ok .item) (lCons_ok (cLstB_ok .lot) (lCons_ok (cLstB_ok .zone) (lCons_ok (cLstB_ok .bin) (lCons_ok (cLstB_ok .quant) (lCons_ok (cLstB_ok .rule) (lCons_ok (cLstB_ok .notice) (lCons_ok (cLstB_ok .order) (lCons_ok (cLstB_ok .claim) (lCons_ok (cLstB_ok .task) (lCons_ok (cLstB_ok .parcel) (lCons_ok (cLstB_ok .sent) (lCons_ok (cLstB_ok .counted) (lCons_ok (cLstB_ok .total) (lCons_ok cInt_ok lNil_ok))))))))))))))) _ _ hx
  · cases e

section
variable {α : Type}
def rS (d : C → Option α) : A → Option α
  | .s c => d c
  | _ => none
theorem rS_ok {d : C → Option α} {e : α → C} (h1 : DE d e) : DE (rS d) (fun x => .s (e x)) := by
  intro x a h; unfold rS at h; split at h
  · rw [h1 _ _ h]
  · cases h
def rG (d : List C → Option α) : A → Option α
  | .g c => d c
  | _ => none
theorem rG_ok {d : List C → Option α} {e : α → List C} (h1 : DE d e) : DE (rG d) (fun x => .g (e x)) := by
  intro x a h; unfold rG at h; split at h
  · rw [h1 _ _ h]
  · cases h
def rT (d : List (Bool × List C) → Option α) : A → Option α
  | .t c => d c
  | _ => none
theorem rT_ok {d : List (Bool × List C) → Option α} {e : α → List (Bool × List C)} (h1 : DE d e) : DE (rT d) (fun x => .t (e x)) := by
  intro x a h; unfold rT at h; split at h
  · rw [h1 _ _ h]
  · cases h
def kB (b : Bool) (d : List C → Option α) : Bool × List C → Option α := fun x => match x.1 == b with
  | true => d x.2
  | false => none
theorem kB_ok (b : Bool) {d : List C → Option α} {e : α → List C} (h1 : DE d e) : DE (kB b d) (fun x => (b, e x)) := by
  intro x a h
  obtain ⟨c, l⟩ := x
  simp only [kB] at h
  split at h
  · rename_i hb
    have : c = b := by simpa using hb
    rw [this, h1 _ _ h]
  · cases h
def bS (d : List C → Option α) : Option (List C) → Option α
  | some c => d c
  | none => none
theorem bS_ok {d : List C → Option α} {e : α → List C} (h1 : DE d e) : DE (bS d) (fun x => some (e x)) := by
  intro x a h; unfold bS at h; split at h
  · rw [h1 _ _ h]
  · cases h
end
def rDead : A → Option Unit
  | .dead => some ()
  | _ => none
theorem rDead_ok : DE rDead (fun _ => .dead) := by intro x a h; unfold rDead at h; split at h <;> cases h; rfl
def bN : Option (List C) → Option Unit
  | none => some ()
  | some _ => none
theorem bN_ok : DE bN (fun _ => none) := by intro x a h; unfold bN at h; split at h <;> cases h; rfl
def oN : Option Own → Option Unit
  | none => some ()
  | some _ => none
theorem oN_ok : DE oN (fun _ => none) := by intro x a h; unfold oN at h; split at h <;> cases h; rfl
def oS (e : TypeId) (t : Ty) : Option Own → Option (List t.D)
  | some ⟨e', t', l⟩ => if h : t' = t then match Nat.beq e' e with
    | true => some (h ▸ l)
    | false => none
    else none
  | none => none
theorem oS_ok (e : TypeId) (t : Ty) : DE (oS e t) (fun l => some ⟨e, t, l⟩) := by
  intro x a h; unfold oS at h; split at h
  · split at h
    · rename_i ht; subst ht
      split at h
      · rename_i hn; cases h; rw [Nat.eq_of_beq_eq_true hn]
      · cases h
    · cases h
  · cases h
theorem map_ok {X α β : Type} {d : X → Option α} {e : α → X} {φ : α → β} {e' : β → X} (h1 : DE d e) (h2 : ∀ a, e a = e' (φ a)) : DE (fun x => (d x).map φ) e' := by
  intro x b h
  obtain ⟨a, ha, rfl⟩ := Option.map_eq_some_iff.1 h
  rw [h1 _ _ ha, h2]
end Ev
end Go.Proofs.YtefjcgbidillhaaGreat
