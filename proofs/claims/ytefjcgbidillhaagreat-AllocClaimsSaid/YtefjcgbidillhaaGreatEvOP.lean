/- OPENING: what is known of an argument's cells. -/
import Derived.Test.YtefjcgbidillhaaGreatEvF1
import Derived.ChangeArms
import Derived.ChangeShapes
namespace Go.Proofs.YtefjcgbidillhaaGreat
open Go Go.Proofs
namespace Ev
set_option linter.unusedVariables false
inductive Knd where
  | s | i | b | u
def Knd.has : Knd → Value → Prop
  | .s, v => ∃ x, v = .string x
  | .i, v => ∃ n, v = .int .i64 n
  | .b, v => ∃ x, v = .bool x
  | .u, v => ∃ n, v = .int .u8 n
def Knd.eqB : Knd → Knd → Bool
  | .s, .s => true | .i, .i => true | .b, .b => true | .u, .u => true | _, _ => false
theorem Knd.eq_of {x y : Knd} (h : x.eqB y = true) : x = y := by cases x <;> cases y <;> first | rfl | cases h
def eqKs : List Knd → List Knd → Bool
  | [], [] => true
  | x :: l, y :: m => x.eqB y && eqKs l m
  | _, _ => false
theorem eqKs_ok : ∀ {l m : List Knd}, eqKs l m = true → l = m
  | [], [], _ => rfl
  | x :: l, y :: m, h => by
    simp only [eqKs, Bool.and_eq_true] at h
    rw [Knd.eq_of h.1, eqKs_ok h.2]
  | [], _ :: _, h => by cases h
  | _ :: _, [], h => by cases h
def repK {α : Type} : Nat → List α → List α
  | 0, _ => []
  | n + 1, l => l ++ repK n l
theorem repK_len {α : Type} (l : List α) : ∀ n, (repK n l).length = n * l.length
  | 0 => by simp [repK]
  | n + 1 => by simp [repK, repK_len l n, Nat.add_mul]; omega

def fieldsK (g : TypeId → Option (List Knd)) (P : Program) : List Field → Nat → Option (List Knd)
  | [], _ => some []
  | f :: r, o => match g f.type with
    | some l => if Nat.beq f.offset o && Nat.beq (P.cellsOf f.type) l.length then (fieldsK g P r (o + l.length)).map (l ++ ·) else none
    | none => none
def ksB (P : Program) : Nat → TypeId → Option (List Knd)
  | 0, _ => none
  | d + 1, T => match P.underlying T with
    | some .string => some [.s]
    | some (.int .i64) => some [.i]
    | some (.int .u8) => some [.u]
    | some .bool => some [.b]
    | some (.struct fs) => match fieldsK (ksB P d) P fs.toList 0 with
      | some l => if Nat.beq (P.cellsOf T) l.length then some l else none
      | none => none
    | some (.array n e) => match ksB P d e with
      | some l => if Nat.beq (P.cellsOf e) l.length && Nat.beq (P.cellsOf T) (n * l.length) then some (repK n l) else none
      | none => none
    | _ => none

theorem F2_app {α β : Type} {R : α → β → Prop} : ∀ {a : List α} {c : List β} {b : List α} {d : List β}, F2 R a c → F2 R b d → F2 R (a ++ b) (c ++ d)
  | [], [], _, _, _, h => h
  | x :: a, y :: c, _, _, ⟨h, h'⟩, k => ⟨h, F2_app h' k⟩
  | [], _ :: _, _, _, h, _ => h.elim
  | _ :: _, [], _, _, h, _ => h.elim
theorem F2_split {α β : Type} {R : α → β → Prop} : ∀ {a : List α} {b : List α} {m : List β}, F2 R (a ++ b) m → ∃ c d, m = c ++ d ∧ F2 R a c ∧ F2 R b d
  | [], b, m, h => ⟨[], m, rfl, trivial, h⟩
  | x :: a, b, [], h => h.elim
  | x :: a, b, y :: m, ⟨h, h'⟩ => by
    obtain ⟨c, d, rfl, h1, h2⟩ := F2_split h'
    exact ⟨y :: c, d, rfl, ⟨h, h1⟩, h2⟩
theorem F2_cons {α β : Type} {R : α → β → Prop} {a : α} {l : List α} {m : List β} (h : F2 R (a :: l) m) : ∃ b m', m = b :: m' ∧ R a b ∧ F2 R l m' := by
  cases m with
  | nil => exact h.elim
  | cons b m => exact ⟨b, m, rfl, h.1, h.2⟩
theorem F2_nil {α β : Type} {R : α → β → Prop} {m : List β} (h : F2 R [] m) : m = [] := by
  cases m with
  | nil => rfl
  | cons b m => exact h.elim

section
variable {H : Type} {enc : TypeId × Value → H} {P : Program} {w : World} {base : Nat} {spare : Nat → Bool} {held : Bool}
theorem fields_ok {g : TypeId → Option (List Knd)} (hg : ∀ T ks, g T = some ks → ∀ n cs x, DataW.trod enc P w base spare held n T cs = some x → F2 Knd.has ks cs) :
    ∀ (l : List Field) (o : Nat) (ks : List Knd), fieldsK g P l o = some ks → ∀ cs : List Value,
      (∀ f ∈ l, ∃ n x, DataW.trod enc P w base spare held n f.type ((cs.drop f.offset).take (P.cellsOf f.type)) = some x) → F2 Knd.has ks ((cs.drop o).take ks.length)
  | [], o, ks, h, cs, _ => by
    simp only [fieldsK, Option.some.injEq] at h
    subst h
    trivial
  | f :: r, o, ks, h, cs, hf => by
    simp only [fieldsK] at h
    split at h
    · rename_i l hl
      split at h
      · rename_i hb
        simp only [Bool.and_eq_true] at hb
        have e1 : f.offset = o := Nat.eq_of_beq_eq_true hb.1
        have e2 : P.cellsOf f.type = l.length := Nat.eq_of_beq_eq_true hb.2
        obtain ⟨m, hm, rfl⟩ := Option.map_eq_some_iff.1 h
        obtain ⟨n, x, hx⟩ := hf f (List.mem_cons_self ..)
        rw [e1, e2] at hx
        have h1 := hg _ _ hl _ _ _ hx
        have h2 := fields_ok hg r _ _ hm cs fun f' hf' => hf f' (List.mem_cons_of_mem _ hf')
        rw [List.length_append, List.take_add, List.drop_drop]
        exact F2_app h1 h2
      · cases h
    · cases h

theorem rep_ok {ks : List Knd} : ∀ (n : Nat) (cs : List Value), cs.length = n * ks.length → (∀ i, i < n → F2 Knd.has ks ((cs.drop (i * ks.length)).take ks.length)) → F2 Knd.has (repK n ks) cs
  | 0, cs, hl, h => by
    have : cs = [] := List.length_eq_zero_iff.1 (by simpa using hl)
    subst this; trivial
  | n + 1, cs, hl, h => by
    have h0 := h 0 (by omega)
    rw [Nat.zero_mul, List.drop_zero] at h0
    have h1 := rep_ok (ks := ks) n (cs.drop ks.length) (by rw [List.length_drop, hl, Nat.add_mul]; omega) fun i hi => by
      have := h (i + 1) (by omega)
      rw [List.drop_drop]
      rwa [show (i + 1) * ks.length = ks.length + i * ks.length by rw [Nat.add_mul]; omega] at this
    have := F2_app h0 h1
    rwa [List.take_append_drop] at this

theorem ksB_ok : ∀ (d : Nat) (T : TypeId) (ks : List Knd), ksB P d T = some ks → ∀ (n : Nat) (cs : List Value) (x : DataW H × List MemPlace), DataW.trod enc P w base spare held n T cs = some x → F2 Knd.has ks cs
  | 0, T, ks, h, _, _, _, _ => by cases h
  | d + 1, T, ks, h, n, cs, x, hx => by
    simp only [ksB] at h
    split at h
    · rename_i ht
      cases h
      obtain ⟨s, rfl, _⟩ := DataW.trod_string ht hx
      exact ⟨⟨s, rfl⟩, trivial⟩
    · rename_i ht
      cases h
      obtain ⟨s, rfl, _⟩ := DataW.trod_int ht hx
      exact ⟨⟨s, rfl⟩, trivial⟩
    · rename_i ht
      cases h
      obtain ⟨s, rfl, _⟩ := DataW.trod_int ht hx
      exact ⟨⟨s, rfl⟩, trivial⟩
    · rename_i ht
      cases h
      obtain ⟨s, rfl, _⟩ := DataW.trod_bool ht hx
      exact ⟨⟨s, rfl⟩, trivial⟩
    · rename_i fs ht
      split at h
      · rename_i l hl
        split at h
        · rename_i hb
          cases h
          have hb := Nat.eq_of_beq_eq_true hb
          obtain ⟨xs, m, _, _, hlen, hxs, hfi⟩ := DataW.trod_struct ht hx
          have := fields_ok (ksB_ok d) fs.toList 0 ks hl cs fun f hf => by
            obtain ⟨i, hi⟩ := List.getElem?_of_mem hf
            have h1 := hfi i f (by simpa using hi)
            have h2 : i < xs.length := by rw [hxs]; simpa using (List.getElem?_eq_some_iff.1 hi).1
            rw [List.getElem?_eq_getElem h2] at h1
            exact ⟨_, _, h1⟩
          rw [List.drop_zero, ← hb, ← hlen, List.take_length] at this
          exact this
        · cases h
      · cases h
    · rename_i k e ht
      split at h
      · rename_i l hl
        split at h
        · rename_i hb
          cases h
          simp only [Bool.and_eq_true] at hb
          have e1 := Nat.eq_of_beq_eq_true hb.1
          have e2 := Nat.eq_of_beq_eq_true hb.2
          cases n with
          | zero => simp [DataW.trod] at hx
          | succ n =>
            unfold DataW.trod at hx
            rw [ht] at hx
            simp only at hx
            split at hx
            · rename_i hlen
              obtain ⟨xs, hm, _⟩ := Option.map_eq_some_iff.1 hx
              have hl2 := mapM_some_length hm
              refine rep_ok k cs (by rw [hlen, e2]) fun i hi => ?_
              have h1 := mapM_some_get hm i i (by simp [hi])
              rw [List.getElem?_eq_getElem (by rw [hl2]; simpa using hi), e1] at h1
              exact ksB_ok d e l hl n _ _ h1
            · cases hx
        · cases h
      · cases h
    · cases h
end

/-- The kinds of a thing's cells. -/
def Ty.ks : Ty → List Knd
  | .str => [.s] | .int => [.i] | .bool => [.b] | .byte => [.u]
  | .key => [.s, .s, .s, .i] | .unit => [.s, .i]
  | .item => [.s] ++ repK 4 [.s, .i] ++ [.i, .i, .b, .b, .b]
  | .lot => [.s, .s, .i]
  | .zone => [.s, .s]
  | .bin => [.s, .s, .i, .i, .i, .i, .i, .b]
  | .quant => [.s, .s, .s, .i] ++ [.i, .i]
  | .rule => [.s, .s, .i]
  | .line => [.s, .i, .i, .i, .i, .i]
  | .notice => [.s, .s] ++ repK 8 [.s, .i, .i, .i, .i, .i] ++ [.b]
  | .order => [.s, .s] ++ repK 8 [.s, .i, .i, .i, .i, .i]
  | .claim => [.s, .i] ++ [.s, .s, .s, .i] ++ [.i, .i]
  | .task => [.i, .i, .s, .i] ++ [.s, .s, .s, .i] ++ [.s, .i, .s]
  | .parcel => [.s, .s]
  | .sent => [.s, .s, .s, .i, .i]
  | .counted => [.s, .s, .s, .i] ++ [.i]
  | .total => [.s, .s, .i, .i, .i, .i]
  | .take => [.s, .s, .s, .i] ++ [.i]
  | .entry => [.s, .s, .s, .i] ++ [.s, .i, .i, .i]

theorem key_dec {m : List Value} (h : F2 Knd.has [.s, .s, .s, .i] m) : ∃ x, m = encKey x := by
  obtain ⟨_, m, rfl, ⟨a, rfl⟩, g1⟩ := F2_cons h
  obtain ⟨_, m, rfl, ⟨b, rfl⟩, g2⟩ := F2_cons g1
  obtain ⟨_, m, rfl, ⟨c, rfl⟩, g3⟩ := F2_cons g2
  obtain ⟨_, m, rfl, ⟨d, rfl⟩, g4⟩ := F2_cons g3
  obtain rfl := F2_nil g4
  exact ⟨⟨a, b, c, d⟩, rfl⟩
theorem unit_dec {m : List Value} (h : F2 Knd.has [.s, .i] m) : ∃ x, m = encUnit x := by
  obtain ⟨_, m, rfl, ⟨a, rfl⟩, g5⟩ := F2_cons h
  obtain ⟨_, m, rfl, ⟨b, rfl⟩, g6⟩ := F2_cons g5
  obtain rfl := F2_nil g6
  exact ⟨⟨a, b⟩, rfl⟩
theorem line_dec {m : List Value} (h : F2 Knd.has [.s, .i, .i, .i, .i, .i] m) : ∃ x, m = encLine x := by
  obtain ⟨_, m, rfl, ⟨a, rfl⟩, g7⟩ := F2_cons h
  obtain ⟨_, m, rfl, ⟨b, rfl⟩, g8⟩ := F2_cons g7
  obtain ⟨_, m, rfl, ⟨c, rfl⟩, g9⟩ := F2_cons g8
  obtain ⟨_, m, rfl, ⟨d, rfl⟩, g10⟩ := F2_cons g9
  obtain ⟨_, m, rfl, ⟨e, rfl⟩, g11⟩ := F2_cons g10
  obtain ⟨_, m, rfl, ⟨f, rfl⟩, g12⟩ := F2_cons g11
  obtain rfl := F2_nil g12
  exact ⟨⟨a, b, c, d, e, f⟩, rfl⟩
theorem rep_dec {α : Type} {ks : List Knd} {enc : α → List Value} (hd : ∀ m, F2 Knd.has ks m → ∃ x, m = enc x) : ∀ (n : Nat) (m : List Value), F2 Knd.has (repK n ks) m → ∃ l : List α, l.length = n ∧ m = l.flatMap enc
  | 0, m, h => ⟨[], rfl, F2_nil h⟩
  | n + 1, m, h => by
    obtain ⟨c, d, rfl, h1, h2⟩ := F2_split h
    obtain ⟨x, rfl⟩ := hd c h1
    obtain ⟨l, rfl, rfl⟩ := rep_dec hd n d h2
    exact ⟨x :: l, rfl, by simp⟩

theorem Ty.ks_dec (t : Ty) (m : List Value) (h : F2 Knd.has t.ks m) : ∃ x : t.D, t.ok x ∧ m = t.enc x := by
  cases t
  case str => obtain ⟨_, m, rfl, ⟨a, rfl⟩, g13⟩ := F2_cons h; obtain rfl := F2_nil g13; exact ⟨a, trivial, rfl⟩
  case int => obtain ⟨_, m, rfl, ⟨a, rfl⟩, g14⟩ := F2_cons h; obtain rfl := F2_nil g14; exact ⟨a, trivial, rfl⟩
  case bool => obtain ⟨_, m, rfl, ⟨a, rfl⟩, g15⟩ := F2_cons h; obtain rfl := F2_nil g15; exact ⟨a, trivial, rfl⟩
  case byte => obtain ⟨_, m, rfl, ⟨a, rfl⟩, g16⟩ := F2_cons h; obtain rfl := F2_nil g16; exact ⟨a, trivial, rfl⟩
  case key => obtain ⟨x, rfl⟩ := key_dec h; exact ⟨x, trivial, rfl⟩
  case unit => obtain ⟨x, rfl⟩ := unit_dec h; exact ⟨x, trivial, rfl⟩
  case line => obtain ⟨x, rfl⟩ := line_dec h; exact ⟨x, trivial, rfl⟩
  case item =>
    obtain ⟨c, d, rfl, h1, h2⟩ := F2_split h
    obtain ⟨p, q, rfl, h3, h4⟩ := F2_split h1
    obtain ⟨_, m, rfl, ⟨a, rfl⟩, g17⟩ := F2_cons h3
    obtain rfl := F2_nil g17
    obtain ⟨l, hl, rfl⟩ := rep_dec (enc := encUnit) (fun m h => unit_dec h) 4 _ h4
    obtain ⟨_, m, rfl, ⟨b, rfl⟩, g18⟩ := F2_cons h2
    obtain ⟨_, m, rfl, ⟨c, rfl⟩, g19⟩ := F2_cons g18
    obtain ⟨_, m, rfl, ⟨d, rfl⟩, g20⟩ := F2_cons g19
    obtain ⟨_, m, rfl, ⟨e, rfl⟩, g21⟩ := F2_cons g20
    obtain ⟨_, m, rfl, ⟨f, rfl⟩, g22⟩ := F2_cons g21
    obtain rfl := F2_nil g22
    exact ⟨⟨a, l, b, c, d, e, f⟩, hl, rfl⟩
  case notice =>
    obtain ⟨c, d, rfl, h1, h2⟩ := F2_split h
    obtain ⟨p, q, rfl, h3, h4⟩ := F2_split h1
    obtain ⟨_, m, rfl, ⟨a, rfl⟩, g23⟩ := F2_cons h3
    obtain ⟨_, m, rfl, ⟨a', rfl⟩, g24⟩ := F2_cons g23
    obtain rfl := F2_nil g24
    obtain ⟨l, hl, rfl⟩ := rep_dec (enc := encLine) (fun m h => line_dec h) 8 _ h4
    obtain ⟨_, m, rfl, ⟨b, rfl⟩, g25⟩ := F2_cons h2
    obtain rfl := F2_nil g25
    exact ⟨⟨a, a', l, b⟩, hl, rfl⟩
  case order =>
    obtain ⟨p, q, rfl, h3, h4⟩ := F2_split h
    obtain ⟨_, m, rfl, ⟨a, rfl⟩, g26⟩ := F2_cons h3
    obtain ⟨_, m, rfl, ⟨a', rfl⟩, g27⟩ := F2_cons g26
    obtain rfl := F2_nil g27
    obtain ⟨l, hl, rfl⟩ := rep_dec (enc := encLine) (fun m h => line_dec h) 8 _ h4
    exact ⟨⟨a, a', l⟩, hl, rfl⟩
  case claim =>
    obtain ⟨c, d, rfl, h1, h2⟩ := F2_split h
    obtain ⟨p, q, rfl, h3, h4⟩ := F2_split h1
    obtain ⟨_, m, rfl, ⟨a, rfl⟩, g28⟩ := F2_cons h3
    obtain ⟨_, m, rfl, ⟨b, rfl⟩, g29⟩ := F2_cons g28
    obtain rfl := F2_nil g29
    obtain ⟨k, rfl⟩ := key_dec h4
    obtain ⟨_, m, rfl, ⟨c, rfl⟩, g30⟩ := F2_cons h2
    obtain ⟨_, m, rfl, ⟨d, rfl⟩, g31⟩ := F2_cons g30
    obtain rfl := F2_nil g31
    exact ⟨⟨a, b, k, c, d⟩, trivial, rfl⟩
  case task =>
    obtain ⟨c, d, rfl, h1, h2⟩ := F2_split h
    obtain ⟨p, q, rfl, h3, h4⟩ := F2_split h1
    obtain ⟨_, m, rfl, ⟨a, rfl⟩, g32⟩ := F2_cons h3
    obtain ⟨_, m, rfl, ⟨b, rfl⟩, g33⟩ := F2_cons g32
    obtain ⟨_, m, rfl, ⟨b', rfl⟩, g34⟩ := F2_cons g33
    obtain ⟨_, m, rfl, ⟨b'', rfl⟩, g35⟩ := F2_cons g34
    obtain rfl := F2_nil g35
    obtain ⟨k, rfl⟩ := key_dec h4
    obtain ⟨_, m, rfl, ⟨c, rfl⟩, g36⟩ := F2_cons h2
    obtain ⟨_, m, rfl, ⟨d, rfl⟩, g37⟩ := F2_cons g36
    obtain ⟨_, m, rfl, ⟨e, rfl⟩, g38⟩ := F2_cons g37
    obtain rfl := F2_nil g38
    exact ⟨⟨a, b, b', b'', k, c, d, e⟩, trivial, rfl⟩
  case quant =>
    obtain ⟨c, d, rfl, h4, h2⟩ := F2_split h
    obtain ⟨k, rfl⟩ := key_dec h4
    obtain ⟨_, m, rfl, ⟨c, rfl⟩, g39⟩ := F2_cons h2
    obtain ⟨_, m, rfl, ⟨d, rfl⟩, g40⟩ := F2_cons g39
    obtain rfl := F2_nil g40
    exact ⟨⟨k, c, d⟩, trivial, rfl⟩
  case counted =>
    obtain ⟨c, d, rfl, h4, h2⟩ := F2_split h
    obtain ⟨k, rfl⟩ := key_dec h4
    obtain ⟨_, m, rfl, ⟨c, rfl⟩, g41⟩ := F2_cons h2
    obtain rfl := F2_nil g41
    exact ⟨⟨k, c⟩, trivial, rfl⟩
  case take =>
    obtain ⟨c, d, rfl, h4, h2⟩ := F2_split h
    obtain ⟨k, rfl⟩ := key_dec h4
    obtain ⟨_, m, rfl, ⟨c, rfl⟩, g42⟩ := F2_cons h2
    obtain rfl := F2_nil g42
    exact ⟨⟨k, c⟩, trivial, rfl⟩
  case entry =>
    obtain ⟨c, d, rfl, h4, h2⟩ := F2_split h
    obtain ⟨k, rfl⟩ := key_dec h4
    obtain ⟨_, m, rfl, ⟨c, rfl⟩, g43⟩ := F2_cons h2
    obtain ⟨_, m, rfl, ⟨d, rfl⟩, g44⟩ := F2_cons g43
    obtain ⟨_, m, rfl, ⟨e, rfl⟩, g45⟩ := F2_cons g44
    obtain ⟨_, m, rfl, ⟨f, rfl⟩, g46⟩ := F2_cons g45
    obtain rfl := F2_nil g46
    exact ⟨⟨k, c, d, e, f⟩, trivial, rfl⟩
  case lot =>
    obtain ⟨_, m, rfl, ⟨a, rfl⟩, g47⟩ := F2_cons h
    obtain ⟨_, m, rfl, ⟨b, rfl⟩, g48⟩ := F2_cons g47
    obtain ⟨_, m, rfl, ⟨c, rfl⟩, g49⟩ := F2_cons g48
    obtain rfl := F2_nil g49
    exact ⟨⟨a, b, c⟩, trivial, rfl⟩
  case rule =>
    obtain ⟨_, m, rfl, ⟨a, rfl⟩, g50⟩ := F2_cons h
    obtain ⟨_, m, rfl, ⟨b, rfl⟩, g51⟩ := F2_cons g50
    obtain ⟨_, m, rfl, ⟨c, rfl⟩, g52⟩ := F2_cons g51
    obtain rfl := F2_nil g52
    exact ⟨⟨a, b, c⟩, trivial, rfl⟩
  case zone =>
    obtain ⟨_, m, rfl, ⟨a, rfl⟩, g53⟩ := F2_cons h
    obtain ⟨_, m, rfl, ⟨b, rfl⟩, g54⟩ := F2_cons g53
    obtain rfl := F2_nil g54
    exact ⟨⟨a, b⟩, trivial, rfl⟩
  case parcel =>
    obtain ⟨_, m, rfl, ⟨a, rfl⟩, g55⟩ := F2_cons h
    obtain ⟨_, m, rfl, ⟨b, rfl⟩, g56⟩ := F2_cons g55
    obtain rfl := F2_nil g56
    exact ⟨⟨a, b⟩, trivial, rfl⟩
  case bin =>
    obtain ⟨_, m, rfl, ⟨a, rfl⟩, g57⟩ := F2_cons h
    obtain ⟨_, m, rfl, ⟨b, rfl⟩, g58⟩ := F2_cons g57
    obtain ⟨_, m, rfl, ⟨c, rfl⟩, g59⟩ := F2_cons g58
    obtain ⟨_, m, rfl, ⟨d, rfl⟩, g60⟩ := F2_cons g59
    obtain ⟨_, m, rfl, ⟨e, rfl⟩, g61⟩ := F2_cons g60
    obtain ⟨_, m, rfl, ⟨f, rfl⟩, g62⟩ := F2_cons g61
    obtain ⟨_, m, rfl, ⟨g, rfl⟩, g63⟩ := F2_cons g62
    obtain ⟨_, m, rfl, ⟨i, rfl⟩, g64⟩ := F2_cons g63
    obtain rfl := F2_nil g64
    exact ⟨⟨a, b, c, d, e, f, g, i⟩, trivial, rfl⟩
  case sent =>
    obtain ⟨_, m, rfl, ⟨a, rfl⟩, g65⟩ := F2_cons h
    obtain ⟨_, m, rfl, ⟨b, rfl⟩, g66⟩ := F2_cons g65
    obtain ⟨_, m, rfl, ⟨c, rfl⟩, g67⟩ := F2_cons g66
    obtain ⟨_, m, rfl, ⟨d, rfl⟩, g68⟩ := F2_cons g67
    obtain ⟨_, m, rfl, ⟨e, rfl⟩, g69⟩ := F2_cons g68
    obtain rfl := F2_nil g69
    exact ⟨⟨a, b, c, d, e⟩, trivial, rfl⟩
  case total =>
    obtain ⟨_, m, rfl, ⟨a, rfl⟩, g70⟩ := F2_cons h
    obtain ⟨_, m, rfl, ⟨b, rfl⟩, g71⟩ := F2_cons g70
    obtain ⟨_, m, rfl, ⟨c, rfl⟩, g72⟩ := F2_cons g71
    obtain ⟨_, m, rfl, ⟨d, rfl⟩, g73⟩ := F2_cons g72
    obtain ⟨_, m, rfl, ⟨e, rfl⟩, g74⟩ := F2_cons g73
    obtain ⟨_, m, rfl, ⟨f, rfl⟩, g75⟩ := F2_cons g74
    obtain rfl := F2_nil g75
    exact ⟨⟨a, b, c, d, e, f⟩, trivial, rfl⟩

section
variable {H : Type} {enc : TypeId × Value → H} {P : Program} {w : World} {base : Nat} {spare : Nat → Bool} {held : Bool}
theorem cells_flat {t : Ty} {a : Addr} : ∀ (l : List t.D) (k0 : Nat), (∀ x ∈ l, t.ok x) → (∀ (i : Nat) x, l[i]? = some x → ∀ r u, (t.enc x)[r]? = some u → w.cell? (a.add ((k0 + i) * t.size + r)) = some u) →
    ∀ j u, (l.flatMap t.enc)[j]? = some u → w.cell? (a.add (k0 * t.size + j)) = some u
  | [], k0, _, _, j, u, h => by simp at h
  | x :: l, k0, hok, hx, j, u, h => by
    rw [List.flatMap_cons] at h
    have hlen := t.enc_len x (hok x (List.mem_cons_self ..))
    by_cases hj : j < t.size
    · rw [List.getElem?_append_left (by omega)] at h
      have := hx 0 x rfl j u h
      rwa [Nat.add_zero] at this
    · rw [List.getElem?_append_right (by omega), hlen] at h
      have := cells_flat l (k0 + 1) (fun y hy => hok y (List.mem_cons_of_mem _ hy)) (fun i y hy r v hv => by
        have := hx (i + 1) y (by simpa using hy) r v hv
        rwa [show k0 + (i + 1) = k0 + 1 + i by omega] at this) (j - t.size) u h
      rwa [show (k0 + 1) * t.size + (j - t.size) = k0 * t.size + j by rw [Nat.add_mul]; omega] at this

theorem cells_get {a : Addr} {n : Nat} {l : List Value} (h : w.cells? base a n = some l) : ∀ r u, l[r]? = some u → w.cell? (a.add r) = some u := by
  intro r u hu
  unfold World.cells? at h
  split at h
  · have hl := mapM_some_length h
    have hr : r < n := by
      have := (List.getElem?_eq_some_iff.1 hu).1
      rw [hl, List.length_range] at this
      exact this
    have := mapM_some_get h r r (by simp [hr])
    rw [this, hu]
  · cases h

theorem open_list {T e : TypeId} {t : Ty} {n : Nat} {cs : List Value} {x : DataW H × List MemPlace} (hT : P.underlying T = some (.slice e)) (hk : eqKs ((ksB P 5 e).getD []) t.ks = true) (hk2 : (ksB P 5 e).isSome = true) (hc : Nat.beq (P.cellsOf e) t.size = true)
    (h : DataW.trod enc P w base spare held n T cs = some x) : ∃ (l : List t.D) (v : Value), cs = [v] ∧ LAt w (fun _ => False) t l [] v := by
  have hc := Nat.eq_of_beq_eq_true hc
  obtain ⟨ks, hks⟩ := Option.isSome_iff_exists.1 hk2
  rw [hks, Option.getD_some] at hk
  have hk := eqKs_ok hk
  subst hk
  rcases DataW.trod_slice hT h with ⟨rfl, _⟩ | ⟨a, len, cap, elems, rest, m, _, rfl, _, hb, hl, hm, hlen, hel, _, _⟩
  · exact ⟨[], _, rfl, .inl ⟨rfl, rfl, rfl⟩⟩
  · have each : ∀ i, i < len → ∃ y : t.D, t.ok y ∧ ∀ r u, (t.enc y)[r]? = some u → w.cell? (a.add (i * t.size + r)) = some u := by
      intro i hi
      have h1 := hel i hi
      rw [List.getElem?_eq_getElem (by omega), Option.bind_eq_some_iff] at h1
      obtain ⟨c, hcs, htr⟩ := h1
      obtain ⟨y, hy, rfl⟩ := t.ks_dec c (ksB_ok 5 e _ hks m c _ htr)
      refine ⟨y, hy, fun r u hu => ?_⟩
      have := cells_get hcs r u hu
      rwa [hc, add_add'] at this
    have ex : ∀ n, n ≤ len → ∃ l : List t.D, l.length = n ∧ (∀ y ∈ l, t.ok y) ∧ ∀ (i : Nat) y, l[i]? = some y → ∀ r u, (t.enc y)[r]? = some u → w.cell? (a.add (i * t.size + r)) = some u := by
      intro n
      induction n with
      | zero => intro _; exact ⟨[], rfl, by simp, by simp⟩
      | succ n ih =>
        intro hn
        obtain ⟨l, h1, h2, h3⟩ := ih (by omega)
        obtain ⟨y, hy, hy2⟩ := each n (by omega)
        refine ⟨l ++ [y], by simp [h1], fun z hz => ?_, fun i z hz r u hu => ?_⟩
        · rcases List.mem_append.1 hz with hz | hz
          · exact h2 z hz
          · rw [List.mem_singleton.1 hz]; exact hy
        · rcases Nat.lt_or_ge i l.length with hi | hi
          · rw [List.getElem?_append_left hi] at hz
            exact h3 i z hz r u hu
          · rw [List.getElem?_append_right hi] at hz
            have hi0 : i - l.length = 0 := by
              have := (List.getElem?_eq_some_iff.1 hz).1
              simp at this; omega
            rw [hi0] at hz
            simp only [List.getElem?_cons_zero, Option.some.injEq] at hz
            subst hz
            have := hy2 r u hu
            rwa [show n = i by omega] at this
    obtain ⟨l, h1, h2, h3⟩ := ex len (Nat.le_refl _)
    refine ⟨l, _, rfl, .inr ⟨a, cap, by rw [h1], by simp only [List.length_nil]; omega, hm, .inr (fun h => h), fun j u hj => ?_, fun y hy => h2 y (by simpa using hy)⟩⟩
    rw [List.append_nil] at hj
    have := cells_flat l 0 h2 (fun i y hy r u hu => by rw [Nat.zero_add]; exact h3 i y hy r u hu) j u hj
    rwa [Nat.zero_mul, Nat.zero_add] at this

/-- A thing that came in. -/
theorem open_el {T : TypeId} {t : Ty} {n : Nat} {cs : List Value} {x : DataW H × List MemPlace} (hk : eqKs ((ksB P 5 T).getD []) t.ks = true) (hk2 : (ksB P 5 T).isSome = true)
    (h : DataW.trod enc P w base spare held n T cs = some x) : ∃ y : t.D, t.ok y ∧ cs = t.enc y := by
  obtain ⟨ks, hks⟩ := Option.isSome_iff_exists.1 hk2
  rw [hks, Option.getD_some] at hk
  have hk := eqKs_ok hk
  subst hk
  exact t.ks_dec cs (ksB_ok 5 T _ hks n cs _ h)
end

/-! ### Houses -/
def houseT : List (Option Ty) := [some .item, some .lot, some .zone, some .bin, some .quant, some .rule, some .notice, some .order, some .claim, some .task, some .parcel, some .sent, some .counted, some .total, none]
def houseB (P : Program) : List Field → List (Option Ty) → Nat → Bool
  | [], [], _ => true
  | f :: fs, some t :: ts, o => Nat.beq f.offset o && Nat.beq (P.cellsOf f.type) 1 && (match P.underlying f.type with
    | some (.slice e) => eqKs ((ksB P 5 e).getD []) t.ks && (ksB P 5 e).isSome && Nat.beq (P.cellsOf e) t.size
    | _ => false) && houseB P fs ts (o + 1)
  | f :: fs, none :: ts, o => Nat.beq f.offset o && Nat.beq (P.cellsOf f.type) 1 && (match P.underlying f.type with
    | some (.int .i64) => true
    | _ => false) && houseB P fs ts (o + 1)
  | _, _, _ => false
def fitC (w : World) : Option Ty → Value → Prop
  | some t, v => ∃ l : List t.D, LAt w (fun _ => False) t l [] v
  | none, v => ∃ n, v = .int .i64 n
section
variable {H : Type} {enc : TypeId × Value → H} {P : Program} {w : World} {base : Nat} {spare : Nat → Bool} {held : Bool}
theorem house_fit : ∀ (fs : List Field) (ts : List (Option Ty)) (o : Nat) (cs : List Value), houseB P fs ts o = true → cs.length = o + ts.length →
    (∀ f ∈ fs, ∃ n x, DataW.trod enc P w base spare held n f.type ((cs.drop f.offset).take (P.cellsOf f.type)) = some x) → F2 (fitC w) ts (cs.drop o)
  | [], [], o, cs, _, hl, _ => by
    rw [List.drop_of_length_le (by simp at hl; omega)]
    trivial
  | f :: fs, some t :: ts, o, cs, h, hl, hf => by
    simp only [houseB, Bool.and_eq_true] at h
    obtain ⟨⟨⟨h1, h2⟩, h3⟩, h4⟩ := h
    have h1 := Nat.eq_of_beq_eq_true h1
    have h2 := Nat.eq_of_beq_eq_true h2
    have hlt : o < cs.length := by simp at hl; omega
    obtain ⟨n, x, hx⟩ := hf f (List.mem_cons_self ..)
    rw [List.drop_eq_getElem_cons hlt]
    rw [h1, h2, List.drop_eq_getElem_cons hlt] at hx
    refine ⟨?_, house_fit fs ts (o + 1) cs h4 (by simp at hl ⊢; omega) fun f' hf' => hf f' (List.mem_cons_of_mem _ hf')⟩
    split at h3
    · rename_i e he
      simp only [Bool.and_eq_true] at h3
      obtain ⟨l, v, hv, hL⟩ := open_list he h3.1.1 h3.1.2 h3.2 hx
      simp only [List.take_succ_cons, List.take_zero, List.cons.injEq, and_true] at hv
      exact ⟨l, hv ▸ hL⟩
    · cases h3
  | f :: fs, none :: ts, o, cs, h, hl, hf => by
    simp only [houseB, Bool.and_eq_true] at h
    obtain ⟨⟨⟨h1, h2⟩, h3⟩, h4⟩ := h
    have h1 := Nat.eq_of_beq_eq_true h1
    have h2 := Nat.eq_of_beq_eq_true h2
    have hlt : o < cs.length := by simp at hl; omega
    obtain ⟨n, x, hx⟩ := hf f (List.mem_cons_self ..)
    rw [List.drop_eq_getElem_cons hlt]
    rw [h1, h2, List.drop_eq_getElem_cons hlt] at hx
    refine ⟨?_, house_fit fs ts (o + 1) cs h4 (by simp at hl ⊢; omega) fun f' hf' => hf f' (List.mem_cons_of_mem _ hf')⟩
    split at h3
    · rename_i he
      obtain ⟨k, hk, _⟩ := DataW.trod_int he hx
      simp only [List.take_succ_cons, List.take_zero, List.cons.injEq, and_true] at hk
      exact ⟨k, hk⟩
    · cases h3
  | [], _ :: _, _, _, h, _, _ => by simp [houseB] at h
  | _ :: _, [], _, _, h, _, _ => by simp [houseB] at h

theorem open_house {T : TypeId} {fs : Array Field} {n : Nat} {cs : List Value} {x : DataW H × List MemPlace} (hT : P.underlying T = some (.struct fs)) (hb : houseB P fs.toList houseT 0 = true) (hc : Nat.beq (P.cellsOf T) 15 = true)
    (h : DataW.trod enc P w base spare held n T cs = some x) (σ : Wh) : ∃ y : House, Rs w σ (fun _ => False) (hC y) cs := by
  have hc := Nat.eq_of_beq_eq_true hc
  obtain ⟨xs, m, _, _, hlen, hxs, hfi⟩ := DataW.trod_struct hT h
  have h1 := house_fit fs.toList houseT 0 cs hb (by rw [hlen, hc]; rfl) fun f hf => by
    obtain ⟨i, hi⟩ := List.getElem?_of_mem hf
    have h1 := hfi i f (by simpa using hi)
    have h2 : i < xs.length := by rw [hxs]; simpa using (List.getElem?_eq_some_iff.1 hi).1
    rw [List.getElem?_eq_getElem h2] at h1
    exact ⟨_, _, h1⟩
  rw [List.drop_zero] at h1
  obtain ⟨v0, m, rfl, ⟨l0, k0⟩, h1⟩ := F2_cons h1
  obtain ⟨v1, m, rfl, ⟨l1, k1⟩, h2⟩ := F2_cons h1
  obtain ⟨v2, m, rfl, ⟨l2, k2⟩, h3⟩ := F2_cons h2
  obtain ⟨v3, m, rfl, ⟨l3, k3⟩, h4⟩ := F2_cons h3
  obtain ⟨v4, m, rfl, ⟨l4, k4⟩, h5⟩ := F2_cons h4
  obtain ⟨v5, m, rfl, ⟨l5, k5⟩, h6⟩ := F2_cons h5
  obtain ⟨v6, m, rfl, ⟨l6, k6⟩, h7⟩ := F2_cons h6
  obtain ⟨v7, m, rfl, ⟨l7, k7⟩, h8⟩ := F2_cons h7
  obtain ⟨v8, m, rfl, ⟨l8, k8⟩, h9⟩ := F2_cons h8
  obtain ⟨v9, m, rfl, ⟨l9, k9⟩, h10⟩ := F2_cons h9
  obtain ⟨v10, m, rfl, ⟨l10, k10⟩, h11⟩ := F2_cons h10
  obtain ⟨v11, m, rfl, ⟨l11, k11⟩, h12⟩ := F2_cons h11
  obtain ⟨v12, m, rfl, ⟨l12, k12⟩, h13⟩ := F2_cons h12
  obtain ⟨v13, m, rfl, ⟨l13, k13⟩, h14⟩ := F2_cons h13
  obtain ⟨v14, m, rfl, ⟨k, rfl⟩, h15⟩ := F2_cons h14
  obtain rfl := F2_nil h15
  refine ⟨⟨l0, l1, l2, l3, l4, l5, l6, l7, l8, l9, l10, l11, l12, l13, k⟩, ?_⟩
  exact ⟨[v0], _, rfl, ⟨_, rfl, k0⟩, [v1], _, rfl, ⟨_, rfl, k1⟩, [v2], _, rfl, ⟨_, rfl, k2⟩, [v3], _, rfl, ⟨_, rfl, k3⟩, [v4], _, rfl, ⟨_, rfl, k4⟩, [v5], _, rfl, ⟨_, rfl, k5⟩, [v6], _, rfl, ⟨_, rfl, k6⟩, [v7], _, rfl, ⟨_, rfl, k7⟩,
    [v8], _, rfl, ⟨_, rfl, k8⟩, [v9], _, rfl, ⟨_, rfl, k9⟩, [v10], _, rfl, ⟨_, rfl, k10⟩, [v11], _, rfl, ⟨_, rfl, k11⟩, [v12], _, rfl, ⟨_, rfl, k12⟩, [v13], _, rfl, ⟨_, rfl, k13⟩, [_], [], rfl, ⟨rfl, rfl⟩, rfl⟩
end
end Ev
end Go.Proofs.YtefjcgbidillhaaGreat
