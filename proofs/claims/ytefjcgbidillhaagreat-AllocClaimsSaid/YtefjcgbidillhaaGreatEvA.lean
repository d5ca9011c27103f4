/- The data of the houses, typed, and the abstract evaluator: what it computes of the model's code. Definitions alone; nothing is claimed here. -/
import Derived.Laws.AppendOwn
import Derived.Laws.OwnMore
import Derived.Laws.MakeOwn
import Derived.Laws.StructEq
import Derived.Orders
import Derived.Below
import Derived.KernelRfl
namespace Go.Proofs.YtefjcgbidillhaaGreat
open Go
namespace Ev

abbrev Str := ByteArray

structure Key where
  bin : Str
  item : Str
  lot : Str
  status : Int
  deriving DecidableEq
structure Unt where
  name : Str
  factor : Int
  deriving DecidableEq
structure Itm where
  code : Str
  units : List Unt
  volume : Int
  weight : Int
  lots : Bool
  serial : Bool
  check : Bool
  deriving DecidableEq
structure Lott where
  item : Str
  code : Str
  expiry : Int
  deriving DecidableEq
structure Zon where
  code : Str
  site : Str
  deriving DecidableEq
structure Binn where
  code : Str
  zone : Str
  kind : Int
  aisle : Int
  place : Int
  volume : Int
  weight : Int
  frozen : Bool
  deriving DecidableEq
structure Quant where
  key : Key
  qty : Int
  held : Int
  deriving DecidableEq
structure Rul where
  item : Str
  zone : Str
  rank : Int
  deriving DecidableEq
structure Line where
  item : Str
  asked : Int
  done : Int
  back : Int
  packed : Int
  out : Int
  deriving DecidableEq
structure Notice where
  code : Str
  site : Str
  lines : List Line
  shut : Bool
  deriving DecidableEq
structure Order where
  code : Str
  site : Str
  lines : List Line
  deriving DecidableEq
structure Claim where
  order : Str
  line : Int
  key : Key
  qty : Int
  task : Int
  deriving DecidableEq
structure Task where
  number : Int
  kind : Int
  order : Str
  line : Int
  «from» : Key
  to : Str
  qty : Int
  who : Str
  deriving DecidableEq
structure Parcel where
  bin : Str
  order : Str
  deriving DecidableEq
structure Sent where
  order : Str
  item : Str
  lot : Str
  qty : Int
  back : Int
  deriving DecidableEq
structure Counted where
  key : Key
  qty : Int
  deriving DecidableEq
structure Total where
  item : Str
  lot : Str
  inn : Int
  out : Int
  back : Int
  fixed : Int
  deriving DecidableEq
structure Take where
  key : Key
  qty : Int
  deriving DecidableEq
structure Entry where
  key : Key
  site : Str
  day : Int
  opn : Int
  seat : Int
  deriving DecidableEq

inductive Ty where
  | str | int | bool | byte | key | unit | item | lot | zone | bin | quant | rule | line | notice | order | claim | task | parcel | sent | counted | total | take | entry
  deriving DecidableEq

@[reducible] def Ty.D : Ty → Type
  | .str => Str | .int => Int | .bool => Bool | .byte => Int
  | .key => Key | .unit => Unt | .item => Itm | .lot => Lott | .zone => Zon | .bin => Binn | .quant => Quant | .rule => Rul | .line => Line
  | .notice => Notice | .order => Order | .claim => Claim | .task => Task | .parcel => Parcel | .sent => Sent | .counted => Counted | .total => Total
  | .take => Take | .entry => Entry

/-- How many cells a thing takes. -/
def Ty.size : Ty → Nat
  | .str | .int | .bool | .byte => 1
  | .key => 4 | .unit => 2 | .item => 14 | .lot => 3 | .zone => 2 | .bin => 8 | .quant => 6 | .rule => 3 | .line => 6
  | .notice => 51 | .order => 50 | .claim => 8 | .task => 11 | .parcel => 2 | .sent => 5 | .counted => 5 | .total => 6
  | .take => 5 | .entry => 8

/-- The same thing? -/
def Ty.eqb : (t : Ty) → t.D → t.D → Bool
  | .str, a, b => a.toList == b.toList
  | .int, a, b => a == b
  | .bool, a, b => a == b
  | .byte, a, b => a == b
  | .key, a, b => decide (a = b)
  | .unit, a, b => decide (a = b)
  | .item, a, b => decide (a = b)
  | .lot, a, b => decide (a = b)
  | .zone, a, b => decide (a = b)
  | .bin, a, b => decide (a = b)
  | .quant, a, b => decide (a = b)
  | .rule, a, b => decide (a = b)
  | .line, a, b => decide (a = b)
  | .notice, a, b => decide (a = b)
  | .order, a, b => decide (a = b)
  | .claim, a, b => decide (a = b)
  | .task, a, b => decide (a = b)
  | .parcel, a, b => decide (a = b)
  | .sent, a, b => decide (a = b)
  | .counted, a, b => decide (a = b)
  | .total, a, b => decide (a = b)
  | .take, a, b => decide (a = b)
  | .entry, a, b => decide (a = b)

abbrev vs (s : Str) : Value := .string s
abbrev vi (n : Int) : Value := .int .i64 n
abbrev vb (b : Bool) : Value := .bool b

def encKey (k : Key) : List Value := [vs k.bin, vs k.item, vs k.lot, vi k.status]
def encUnit (u : Unt) : List Value := [vs u.name, vi u.factor]
def encLine (l : Line) : List Value := [vs l.item, vi l.asked, vi l.done, vi l.back, vi l.packed, vi l.out]

/-- The cells of a thing. -/
def Ty.enc : (t : Ty) → t.D → List Value
  | .str, s => [vs s]
  | .int, n => [vi n]
  | .bool, b => [vb b]
  | .byte, n => [.int .u8 n]
  | .key, k => encKey k
  | .unit, u => encUnit u
  | .item, x => [vs x.code] ++ x.units.flatMap encUnit ++ [vi x.volume, vi x.weight, vb x.lots, vb x.serial, vb x.check]
  | .lot, x => [vs x.item, vs x.code, vi x.expiry]
  | .zone, x => [vs x.code, vs x.site]
  | .bin, x => [vs x.code, vs x.zone, vi x.kind, vi x.aisle, vi x.place, vi x.volume, vi x.weight, vb x.frozen]
  | .quant, x => encKey x.key ++ [vi x.qty, vi x.held]
  | .rule, x => [vs x.item, vs x.zone, vi x.rank]
  | .line, x => encLine x
  | .notice, x => [vs x.code, vs x.site] ++ x.lines.flatMap encLine ++ [vb x.shut]
  | .order, x => [vs x.code, vs x.site] ++ x.lines.flatMap encLine
  | .claim, x => [vs x.order, vi x.line] ++ encKey x.key ++ [vi x.qty, vi x.task]
  | .task, x => [vi x.number, vi x.kind, vs x.order, vi x.line] ++ encKey x.from ++ [vs x.to, vi x.qty, vs x.who]
  | .parcel, x => [vs x.bin, vs x.order]
  | .sent, x => [vs x.order, vs x.item, vs x.lot, vi x.qty, vi x.back]
  | .counted, x => encKey x.key ++ [vi x.qty]
  | .total, x => [vs x.item, vs x.lot, vi x.inn, vi x.out, vi x.back, vi x.fixed]
  | .take, x => encKey x.key ++ [vi x.qty]
  | .entry, x => encKey x.key ++ [vs x.site, vi x.day, vi x.opn, vi x.seat]

/-- The arrays in a thing have their lengths. -/
def Ty.ok : (t : Ty) → t.D → Prop
  | .item, x => x.units.length = 4
  | .notice, x => x.lines.length = 8
  | .order, x => x.lines.length = 8
  | _, _ => True

theorem Ty.size_pos (t : Ty) : 0 < t.size := by cases t <;> decide

theorem flat_len {α : Type} (f : α → List Value) (n : Nat) (h : ∀ x, (f x).length = n) (l : List α) : (l.flatMap f).length = l.length * n := by
  induction l with
  | nil => simp
  | cons a l ih => simp [List.flatMap_cons, ih, h, Nat.add_mul]; omega

theorem Ty.enc_len (t : Ty) (x : t.D) (h : t.ok x) : (t.enc x).length = t.size := by
  cases t <;> first
    | rfl
    | (have hx := h
       simp only [Ty.ok] at hx
       simp only [Ty.enc, Ty.size, List.length_append, flat_len encUnit 2 (fun _ => rfl), flat_len encLine 6 (fun _ => rfl), hx]
       rfl)

theorem mem_flat_one {α : Type} (f : α → List Value) (h : ∀ x, ∀ v ∈ f x, v.oneCell' = true) (l : List α) : ∀ v ∈ l.flatMap f, v.oneCell' = true := by
  intro v hv
  obtain ⟨x, _, hx⟩ := List.mem_flatMap.1 hv
  exact h x v hx

theorem encKey_one (k : Key) : ∀ v ∈ encKey k, v.oneCell' = true := by simp [encKey, Value.oneCell']
theorem encUnit_one (k : Unt) : ∀ v ∈ encUnit k, v.oneCell' = true := by simp [encUnit, Value.oneCell']
theorem encLine_one (k : Line) : ∀ v ∈ encLine k, v.oneCell' = true := by simp [encLine, Value.oneCell']

theorem Ty.enc_one (t : Ty) (x : t.D) : ∀ v ∈ t.enc x, v.oneCell' = true := by
  cases t <;> intro v hv <;> simp only [Ty.enc, List.mem_append, List.mem_cons, List.not_mem_nil, or_false] at hv
  all_goals first
    | (rcases hv with h | h | h | h | h | h | h | h <;> subst h <;> rfl)
    | (rcases hv with h | h | h | h | h | h <;> subst h <;> rfl)
    | (rcases hv with h | h | h | h | h <;> subst h <;> rfl)
    | (rcases hv with h | h | h <;> subst h <;> rfl)
    | (rcases hv with h | h <;> subst h <;> rfl)
    | (subst hv; rfl)
    | exact encKey_one _ v hv
    | exact encUnit_one _ v hv
    | exact encLine_one _ v hv
    | (rcases hv with (h | h) | h | h | h | h | h
       · subst h; rfl
       · exact mem_flat_one encUnit encUnit_one _ v h
       all_goals (subst h; rfl))
    | (rcases hv with h | h | h
       · exact encKey_one _ v h
       all_goals (subst h; rfl))
    | (rcases hv with h | h
       · exact encKey_one _ v h
       all_goals (subst h; rfl))
    | (rcases hv with ((h | h) | h) | h
       · subst h; rfl
       · subst h; rfl
       · exact mem_flat_one encLine encLine_one _ v h
       all_goals (subst h; rfl))
    | (rcases hv with (h | h) | h
       · subst h; rfl
       · subst h; rfl
       · exact mem_flat_one encLine encLine_one _ v h)
    | (rcases hv with ((h | h) | h) | h | h
       · subst h; rfl
       · subst h; rfl
       · exact encKey_one _ v h
       all_goals (subst h; rfl))
    | (rcases hv with ((h | h | h | h) | h) | h | h | h
       · subst h; rfl
       · subst h; rfl
       · subst h; rfl
       · subst h; rfl
       · exact encKey_one _ v h
       all_goals (subst h; rfl))
    | (rcases hv with h | h | h | h | h
       · exact encKey_one _ v h
       all_goals (subst h; rfl))

end Ev
end Go.Proofs.YtefjcgbidillhaaGreat
