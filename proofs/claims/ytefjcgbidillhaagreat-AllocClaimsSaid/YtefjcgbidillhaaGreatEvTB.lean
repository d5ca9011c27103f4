/- Values of struct types compared: cell by cell. -/
import Derived.Test.YtefjcgbidillhaaGreatEvOG
import Derived.ChangeKeysEq
namespace Go.Proofs.YtefjcgbidillhaaGreat
open Go
namespace Ev
set_option linter.unusedVariables false

inductive K where
  | str
  | int
  | bool

def K.fits : K → Value → Bool
  | .str, .string _ => true
  | .int, .int .i64 _ => true
  | .bool, .bool _ => true
  | _, _ => false
def fitsL : List K → List Value → Bool
  | [], [] => true
  | k :: ks, v :: vs => k.fits v && fitsL ks vs
  | _, _ => false

def cellEq : Value → Value → Bool
  | .string a, .string b => a.toList == b.toList
  | .int _ a, .int _ b => a == b
  | .bool a, .bool b => a == b
  | _, _ => false
def cellsEq : List Value → List Value → Bool
  | [], [] => true
  | x :: xs, y :: ys => cellEq x y && cellsEq xs ys
  | _, _ => false

def isAggB (P : Program) (T : TypeId) : Bool :=
  match P.underlying T with
  | some (.struct _) | some (.array _ _) => true
  | _ => false

def kindsF (rec : TypeId → Option (List K)) : Nat → List Field → Option (List K)
  | _, [] => some []
  | off, f :: fs => if f.name ≠ "_" ∧ f.offset = off then match rec f.type with
      | some k => (kindsF rec (off + k.length) fs).map (k ++ ·)
      | none => none
    else none

def kindsT (P : Program) (rec : TypeId → Option (List K)) (T : TypeId) : Option (List K) :=
  match P.underlying T with
  | some .string => some [K.str]
  | some (.int .i64) => some [K.int]
  | some .bool => some [K.bool]
  | some (.struct fs) => if P.stoodInHeld T then none else kindsF rec 0 fs.toList
  | some (.array n e) => (rec e).map fun k => (List.replicate n k).flatten
  | _ => none

def kindsOf (P : Program) : Nat → TypeId → Option (List K)
  | 0, _ => none
  | d + 1, T => match P.info? T, kindsT P (kindsOf P d) T with
    | some inf, some k => if Nat.beq inf.size k.length then some k else none
    | _, _ => none

theorem fitsL_len : ∀ {ks : List K} {vs : List Value}, fitsL ks vs = true → vs.length = ks.length
  | [], [], _ => rfl
  | _ :: ks, _ :: vs, h => by
    simp only [fitsL, Bool.and_eq_true] at h
    simp [fitsL_len h.2]
  | [], _ :: _, h => by simp [fitsL] at h
  | _ :: _, [], h => by simp [fitsL] at h

theorem fitsL_split : ∀ {k ks : List K} {vs : List Value}, fitsL (k ++ ks) vs = true → fitsL k (vs.take k.length) = true ∧ fitsL ks (vs.drop k.length) = true
  | [], ks, vs, h => by simpa [fitsL] using h
  | _ :: k, ks, [], h => by simp [fitsL] at h
  | _ :: k, ks, v :: vs, h => by
    simp only [List.cons_append, fitsL, Bool.and_eq_true] at h
    obtain ⟨h1, h2⟩ := fitsL_split h.2
    simp [fitsL, h.1, h1, h2]

theorem cellsEq_append : ∀ {a b c d : List Value}, a.length = c.length → cellsEq (a ++ b) (c ++ d) = (cellsEq a c && cellsEq b d)
  | [], b, [], d, _ => by simp [cellsEq]
  | x :: a, b, y :: c, d, h => by
    simp only [List.cons_append, cellsEq]
    rw [cellsEq_append (by simpa using h), Bool.and_assoc]
  | [], _, _ :: _, _, h => by simp at h
  | _ :: _, _, [], _, h => by simp at h

section
variable {P : Program} {w : World}

def valT (P : Program) (T : TypeId) (cs : List Value) : Value := if isAggB P T then .agg cs.toArray else cs.headD undef

theorem run_isAggB {T : TypeId} {d : TypeDesc} (h : P.underlying T = some d) : (isAgg T).run P w = .ok (isAggB P T) w := by
  rw [run_isAgg h]
  simp only [isAggB, h]
  cases d <;> rfl

theorem part_ok {T : TypeId} {inf : TypeInfo} {d : TypeDesc} {off : Nat} {xs : List Value} (hi : P.info? T = some inf) (hu : P.underlying T = some d) (hl : inf.size ≤ xs.length - off) (h1 : isAggB P T = false → inf.size = 1) :
    (part T xs.toArray off).run P w = .ok (valT P T ((xs.drop off).take inf.size)) w := by
  unfold part valT
  simp only [Sem.run_bind, run_isAggB hu, Result.andThen_ok]
  cases hb : isAggB P T with
  | true =>
    simp only [if_true, Sem.run_bind, run_sizeOf hi, Result.andThen_ok, Sem.run_pure]
    congr 3
    simp [List.extract_eq_take_drop]
  | false =>
    have h1 := h1 hb
    rw [h1] at hl
    simp only [Bool.false_eq_true, if_false, List.getElem?_toArray]
    have hlt : off < xs.length := by omega
    rw [List.getElem?_eq_getElem hlt]
    simp only [Sem.run_pure]
    congr 1
    rw [h1, List.drop_eq_getElem_cons hlt]
    rfl

def EqT (P : Program) (T : TypeId) (ks : List K) (d : Nat) : Prop :=
  ∃ inf desc, P.info? T = some inf ∧ P.underlying T = some desc ∧ inf.size = ks.length ∧ (isAggB P T = false → ks.length = 1) ∧
  ∀ D, d ≤ D → ∀ (w : World) (xs ys : List Value), fitsL ks xs = true → fitsL ks ys = true → (Op.equalIn D T (valT P T xs) (valT P T ys)).run P w = .ok (cellsEq xs ys) w

theorem eqF_ok {rec : TypeId → Option (List K)} {d : Nat} (hrec : ∀ T ks, rec T = some ks → EqT P T ks d) (D : Nat) (hD : d ≤ D) (w : World) (xs ys : List Value) : ∀ (fs : List Field) (off : Nat) (ks : List K), kindsF rec off fs = some ks →
    fitsL ks (xs.drop off) = true → fitsL ks (ys.drop off) = true → (Op.eqFields D xs.toArray ys.toArray fs).run P w = .ok (cellsEq (xs.drop off) (ys.drop off)) w
  | [], off, ks, h, hx, hy => by
    simp only [kindsF, Option.some.injEq] at h
    subst h
    have h1 := fitsL_len hx
    have h2 := fitsL_len hy
    have e1 : xs.drop off = [] := List.eq_nil_of_length_eq_zero h1
    have e2 : ys.drop off = [] := List.eq_nil_of_length_eq_zero h2
    rw [e1, e2]
    simp [Op.eqFields, cellsEq]
  | f :: fs, off, ks, h, hx, hy => by
    simp only [kindsF] at h
    split at h
    · rename_i hf
      obtain ⟨hn, ho⟩ := hf
      split at h
      · rename_i k hk
        obtain ⟨ks', hks, rfl⟩ := Option.map_eq_some_iff.1 h
        obtain ⟨inf, desc, hi, hu, hsz, h1, heq⟩ := hrec _ _ hk
        obtain ⟨x1, x2⟩ := fitsL_split hx
        obtain ⟨y1, y2⟩ := fitsL_split hy
        have lx := fitsL_len hx
        have ly := fitsL_len hy
        simp only [List.length_append, List.length_drop] at lx ly
        have px := part_ok (w := w) (off := off) (xs := xs) hi hu (by omega) (by rw [hsz]; exact h1)
        have py := part_ok (w := w) (off := off) (xs := ys) hi hu (by omega) (by rw [hsz]; exact h1)
        rw [List.drop_drop] at x2 y2
        have hr := eqF_ok hrec D hD w xs ys fs (off + k.length) ks' hks x2 y2
        simp only [Op.eqFields, if_pos hn, Sem.run_bind, ho, px, py, Result.andThen_ok, hsz, heq D hD w _ _ x1 y1]
        have hx' : xs.drop off = (xs.drop off).take k.length ++ xs.drop (off + k.length) := by rw [← List.drop_drop, List.take_append_drop]
        have hy' : ys.drop off = (ys.drop off).take k.length ++ ys.drop (off + k.length) := by rw [← List.drop_drop, List.take_append_drop]
        have hc : cellsEq (xs.drop off) (ys.drop off) = (cellsEq ((xs.drop off).take k.length) ((ys.drop off).take k.length) && cellsEq (xs.drop (off + k.length)) (ys.drop (off + k.length))) := by
          conv => lhs; rw [hx', hy']
          exact cellsEq_append (by rw [fitsL_len x1, fitsL_len y1])
        rw [hc]
        cases cellsEq ((xs.drop off).take k.length) ((ys.drop off).take k.length) with
        | true => simpa using hr
        | false => simp
      · cases h
    · cases h

theorem eqI_ok {e : TypeId} {k : List K} {d : Nat} (he : EqT P e k d) (D : Nat) (hD : d ≤ D) (w : World) (xs ys : List Value) : ∀ (n i : Nat), fitsL (List.replicate n k).flatten (xs.drop (i * k.length)) = true → fitsL (List.replicate n k).flatten (ys.drop (i * k.length)) = true →
    (Op.eqItems D e k.length xs.toArray ys.toArray (List.range' i n)).run P w = .ok (cellsEq (xs.drop (i * k.length)) (ys.drop (i * k.length))) w
  | 0, i, hx, hy => by
    have e1 : xs.drop (i * k.length) = [] := List.eq_nil_of_length_eq_zero (by simpa using fitsL_len hx)
    have e2 : ys.drop (i * k.length) = [] := List.eq_nil_of_length_eq_zero (by simpa using fitsL_len hy)
    rw [e1, e2]
    simp [Op.eqItems, cellsEq]
  | n + 1, i, hx, hy => by
    obtain ⟨inf, desc, hi, hu, hsz, h1, heq⟩ := id he
    rw [List.replicate_succ, List.flatten_cons] at hx hy
    obtain ⟨x1, x2⟩ := fitsL_split hx
    obtain ⟨y1, y2⟩ := fitsL_split hy
    have lx := fitsL_len hx
    have ly := fitsL_len hy
    simp only [List.length_append, List.length_drop] at lx ly
    have hle : k.length ≤ xs.length - i * k.length := by omega
    have hle' : k.length ≤ ys.length - i * k.length := by omega
    have px := part_ok (w := w) (off := i * k.length) (xs := xs) hi hu (by omega) (by rw [hsz]; exact h1)
    have py := part_ok (w := w) (off := i * k.length) (xs := ys) hi hu (by omega) (by rw [hsz]; exact h1)
    have hs : (i + 1) * k.length = i * k.length + k.length := by rw [Nat.add_mul]; omega
    rw [List.drop_drop] at x2 y2
    rw [← hs] at x2 y2
    have hr := eqI_ok he D hD w xs ys n (i + 1) x2 y2
    simp only [List.range'_succ, Op.eqItems, Sem.run_bind, px, py, Result.andThen_ok, hsz, heq D hD w _ _ x1 y1]
    have hx' : xs.drop (i * k.length) = (xs.drop (i * k.length)).take k.length ++ xs.drop ((i + 1) * k.length) := by rw [hs, ← List.drop_drop, List.take_append_drop]
    have hy' : ys.drop (i * k.length) = (ys.drop (i * k.length)).take k.length ++ ys.drop ((i + 1) * k.length) := by rw [hs, ← List.drop_drop, List.take_append_drop]
    have hc : cellsEq (xs.drop (i * k.length)) (ys.drop (i * k.length)) = (cellsEq ((xs.drop (i * k.length)).take k.length) ((ys.drop (i * k.length)).take k.length) && cellsEq (xs.drop ((i + 1) * k.length)) (ys.drop ((i + 1) * k.length))) := by
      conv => lhs; rw [hx', hy']
      exact cellsEq_append (by rw [fitsL_len x1, fitsL_len y1])
    rw [hc]
    cases cellsEq ((xs.drop (i * k.length)).take k.length) ((ys.drop (i * k.length)).take k.length) with
    | true => simpa using hr
    | false => simp

theorem eqT_ok : ∀ (d : Nat) (T : TypeId) (ks : List K), kindsOf P d T = some ks → EqT P T ks d
  | 0, T, ks, h => by simp [kindsOf] at h
  | d + 1, T, ks, h => by
    simp only [kindsOf] at h
    split at h
    · rename_i inf k hi hk
      split at h
      · rename_i hsz
        have hsz := Nat.eq_of_beq_eq_true hsz
        simp only [Option.some.injEq] at h
        subst h
        unfold kindsT at hk
        split at hk
        · rename_i hu
          cases hk
          refine ⟨inf, _, hi, hu, hsz, fun _ => rfl, fun D hD w xs ys hx hy => ?_⟩
          obtain ⟨D, rfl⟩ : ∃ D', D = D' + 1 := ⟨D - 1, by omega⟩
          match xs, ys, hx, hy with
          | [.string a], [.string b], _, _ =>
            simp only [valT, isAggB, hu, Bool.false_eq_true, if_false, List.headD_cons]
            rw [run_equalIn_string w D T a b hu]
            simp [cellsEq, cellEq]
        · rename_i hu
          cases hk
          refine ⟨inf, _, hi, hu, hsz, fun _ => rfl, fun D hD w xs ys hx hy => ?_⟩
          obtain ⟨D, rfl⟩ : ∃ D', D = D' + 1 := ⟨D - 1, by omega⟩
          match xs, ys, hx, hy with
          | [.int .i64 a], [.int .i64 b], _, _ =>
            simp only [valT, isAggB, hu, Bool.false_eq_true, if_false, List.headD_cons]
            rw [run_equalIn_int w D T .i64 .i64 a b hu]
            simp [cellsEq, cellEq]
        · rename_i hu
          cases hk
          refine ⟨inf, _, hi, hu, hsz, fun _ => rfl, fun D hD w xs ys hx hy => ?_⟩
          obtain ⟨D, rfl⟩ : ∃ D', D = D' + 1 := ⟨D - 1, by omega⟩
          match xs, ys, hx, hy with
          | [.bool a], [.bool b], _, _ =>
            simp only [valT, isAggB, hu, Bool.false_eq_true, if_false, List.headD_cons]
            rw [run_equalIn_bool' w D T a b hu]
            simp [cellsEq, cellEq]
        · rename_i fs hu
          split at hk
          · cases hk
          · rename_i hst
            refine ⟨inf, _, hi, hu, hsz, fun h => by simp [isAggB, hu] at h, fun D hD w xs ys hx hy => ?_⟩
            obtain ⟨D, rfl⟩ : ∃ D', D = D' + 1 := ⟨D - 1, by omega⟩
            have hfo : P.fieldsOf T = fs := by simp [Program.fieldsOf, hu]
            have := eqF_ok (fun T ks h => eqT_ok d T ks h) D (by omega) w xs ys fs.toList 0 k hk (by simpa using hx) (by simpa using hy)
            simp only [valT, isAggB, hu, if_true]
            rw [run_equalIn_struct w D T _ _ (by rw [hfo]; exact hu) (by simpa using hst), hfo]
            simpa using this
        · rename_i n e hu
          obtain ⟨ke, hke, rfl⟩ := Option.map_eq_some_iff.1 hk
          refine ⟨inf, _, hi, hu, hsz, fun h => by simp [isAggB, hu] at h, fun D hD w xs ys hx hy => ?_⟩
          obtain ⟨D, rfl⟩ : ∃ D', D = D' + 1 := ⟨D - 1, by omega⟩
          have he := eqT_ok d e ke hke
          obtain ⟨ie, _, hie, _, hse, _⟩ := id he
          have hco : P.cellsOf e = ke.length := by simp [Program.cellsOf, hie, hse]
          have := eqI_ok he D (by omega) w xs ys n 0 (by simpa using hx) (by simpa using hy)
          simp only [valT, isAggB, hu, if_true]
          rw [run_equalIn_array w D _ _ hu hie, hco, List.range_eq_range']
          simpa using this
        · cases hk
      · cases h
    · cases h

end

/-! ### things -/
def kKey : List K := [.str, .str, .str, .int]
def kLine : List K := [.str, .int, .int, .int, .int, .int]
def Ty.kinds : Ty → List K
  | .str => [.str] | .int => [.int] | .bool => [.bool] | .byte => []
  | .key => kKey | .unit => [.str, .int]
  | .item => [.str] ++ (List.replicate 4 [K.str, .int]).flatten ++ [.int, .int, .bool, .bool, .bool]
  | .lot => [.str, .str, .int] | .zone => [.str, .str] | .bin => [.str, .str, .int, .int, .int, .int, .int, .bool]
  | .quant => kKey ++ [.int, .int] | .rule => [.str, .str, .int] | .line => kLine
  | .notice => [.str, .str] ++ (List.replicate 8 kLine).flatten ++ [.bool]
  | .order => [.str, .str] ++ (List.replicate 8 kLine).flatten
  | .claim => [.str, .int] ++ kKey ++ [.int, .int]
  | .task => [.int, .int, .str, .int] ++ kKey ++ [.str, .int, .str]
  | .parcel => [.str, .str] | .sent => [.str, .str, .str, .int, .int] | .counted => kKey ++ [.int]
  | .total => [.str, .str, .int, .int, .int, .int] | .take => kKey ++ [.int] | .entry => kKey ++ [.str, .int, .int, .int]

theorem fitsL_append : ∀ {k ks : List K} {v vs : List Value}, fitsL k v = true → fitsL ks vs = true → fitsL (k ++ ks) (v ++ vs) = true
  | [], _, [], _, _, h => h
  | _ :: k, _, _ :: v, _, h1, h2 => by
    simp only [List.cons_append, fitsL, Bool.and_eq_true] at h1 ⊢
    exact ⟨h1.1, fitsL_append h1.2 h2⟩
  | [], _, _ :: _, _, h, _ => by simp [fitsL] at h
  | _ :: _, _, [], _, h, _ => by simp [fitsL] at h

theorem fitsL_flat {α : Type} {f : α → List Value} {k : List K} (h : ∀ x, fitsL k (f x) = true) : ∀ (l : List α), fitsL (List.replicate l.length k).flatten (l.flatMap f) = true
  | [] => rfl
  | x :: l => by
    simp only [List.length_cons, List.replicate_succ, List.flatten_cons, List.flatMap_cons]
    exact fitsL_append (h x) (fitsL_flat h l)

theorem Ty.fits (t : Ty) (x : t.D) (h : t.ok x) (hb : t ≠ .byte) : fitsL t.kinds (t.enc x) = true := by
  cases t <;> first | rfl | exact absurd rfl hb | skip
  case item =>
    have h : x.units.length = 4 := h
    have := fitsL_flat (f := encUnit) (k := [.str, .int]) (fun _ => rfl) x.units
    rw [h] at this
    exact fitsL_append (fitsL_append rfl this) rfl
  case notice =>
    have h : x.lines.length = 8 := h
    have := fitsL_flat (f := encLine) (k := kLine) (fun _ => rfl) x.lines
    rw [h] at this
    exact fitsL_append (fitsL_append rfl this) rfl
  case order =>
    have h : x.lines.length = 8 := h
    have := fitsL_flat (f := encLine) (k := kLine) (fun _ => rfl) x.lines
    rw [h] at this
    exact fitsL_append rfl this

theorem bytes_eq {a b : Str} : (a.toList == b.toList) = decide (a = b) := by
  rw [Bool.eq_iff_iff]
  simp only [beq_iff_eq, decide_eq_true_eq]
  constructor
  · intro h
    rw [ByteArray.toList_eq, ByteArray.toList_eq] at h
    obtain ⟨⟨x⟩⟩ := a
    obtain ⟨⟨y⟩⟩ := b
    simp at h
    rw [h]
  · intro h; rw [h]

theorem cellsEq_flat {α : Type} [DecidableEq α] {f : α → List Value} {n : Nat} (hl : ∀ x, (f x).length = n) (h : ∀ x y, cellsEq (f x) (f y) = decide (x = y)) : ∀ (l m : List α), l.length = m.length → cellsEq (l.flatMap f) (m.flatMap f) = decide (l = m)
  | [], [], _ => rfl
  | x :: l, y :: m, hlm => by
    simp only [List.flatMap_cons]
    rw [cellsEq_append (by rw [hl, hl]), h, cellsEq_flat hl h l m (by simpa using hlm)]
    by_cases e : x = y <;> by_cases e' : l = m <;> simp [e, e']
  | [], _ :: _, h => by simp at h
  | _ :: _, [], h => by simp at h

theorem encLine_eq (x y : Line) : cellsEq (encLine x) (encLine y) = decide (x = y) := by
  cases x; cases y
  rw [Bool.eq_iff_iff]
  simp [encLine, cellsEq, cellEq, bytes_eq]
theorem encUnit_eq (x y : Unt) : cellsEq (encUnit x) (encUnit y) = decide (x = y) := by
  cases x; cases y
  rw [Bool.eq_iff_iff]
  simp [encUnit, cellsEq, cellEq, bytes_eq]
theorem encKey_eq (x y : Key) : cellsEq (encKey x) (encKey y) = decide (x = y) := by
  cases x; cases y
  rw [Bool.eq_iff_iff]
  simp [encKey, cellsEq, cellEq, bytes_eq]

theorem keyExt (x y : Key) : x = y ↔ x.bin = y.bin ∧ x.item = y.item ∧ x.lot = y.lot ∧ x.status = y.status := by
  cases x; cases y; simp

theorem Ty.enc_eq (t : Ty) (x y : t.D) (hx : t.ok x) (hy : t.ok y) : cellsEq (t.enc x) (t.enc y) = t.eqb x y := by
  have kk := encKey_eq
  cases t
  case item =>
    have hx : x.units.length = 4 := hx
    have hy : y.units.length = 4 := hy
    cases x; cases y
    simp only [Ty.enc, Ty.eqb, List.append_assoc, List.cons_append, List.nil_append, cellsEq]
    rw [cellsEq_append (by rw [flat_len encUnit 2 (fun _ => rfl), flat_len encUnit 2 (fun _ => rfl), hx, hy]), cellsEq_flat (n := 2) (fun _ => rfl) encUnit_eq _ _ (by rw [hx, hy])]
    rw [Bool.eq_iff_iff]
    simp [cellsEq, cellEq, bytes_eq]
  case notice =>
    have hx : x.lines.length = 8 := hx
    have hy : y.lines.length = 8 := hy
    cases x; cases y
    simp only [Ty.enc, Ty.eqb, List.append_assoc, List.cons_append, List.nil_append, cellsEq]
    rw [cellsEq_append (by rw [flat_len encLine 6 (fun _ => rfl), flat_len encLine 6 (fun _ => rfl), hx, hy]), cellsEq_flat (n := 6) (fun _ => rfl) encLine_eq _ _ (by rw [hx, hy])]
    rw [Bool.eq_iff_iff]
    simp [cellsEq, cellEq, bytes_eq]
  case order =>
    have hx : x.lines.length = 8 := hx
    have hy : y.lines.length = 8 := hy
    cases x; cases y
    simp only [Ty.enc, Ty.eqb, List.append_assoc, List.cons_append, List.nil_append, cellsEq]
    rw [cellsEq_flat (n := 6) (fun _ => rfl) encLine_eq _ _ (by rw [hx, hy])]
    rw [Bool.eq_iff_iff]
    simp [cellsEq, cellEq, bytes_eq]
  all_goals first
    | (simp [Ty.enc, Ty.eqb, cellsEq, cellEq]; done)
    | exact encKey_eq x y
    | exact encLine_eq x y
    | exact encUnit_eq x y
    | (cases x; cases y; rw [Bool.eq_iff_iff]; simp [Ty.enc, Ty.eqb, encKey, cellsEq, cellEq, bytes_eq, keyExt, and_assoc]; done)
    | skip

end Ev
end Go.Proofs.YtefjcgbidillhaaGreat
