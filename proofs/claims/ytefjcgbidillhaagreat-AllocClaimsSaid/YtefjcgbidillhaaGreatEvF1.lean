/- FUNCTIONS OF THE SEAT: comparisons. -/
import Derived.Test.YtefjcgbidillhaaGreatEvTE
import Derived.Test.YtefjcgbidillhaaGreatEvTS
namespace Go.Proofs.YtefjcgbidillhaaGreat
open Go
namespace Ev
set_option linter.unusedVariables false

theorem mixed0 : Tryz.prog.follows .mixedOrders = true := by kernel_rfl
noncomputable def E0 : Env := tabs.env Tryz.prog
theorem ok0 : AllOK Tryz.prog E0 where
  env := Tabs.env_ok mixed0 tabs_ok rfl rfl rfl rfl rfl rfl
  own := ⟨fun f g h => by simp [E0, Tabs.env] at h, fun f g h => by simp [E0, Tabs.env] at h⟩
  sum := fun f fn c _ _ p _ g h => by simp [E0, Tabs.env] at h
  gam := fun f g h => by simp [E0, Tabs.env] at h

structure House where
  items : List Itm
  lots : List Lott
  zones : List Zon
  bins : List Binn
  quants : List Quant
  rules : List Rul
  notices : List Notice
  orders : List Order
  claims : List Claim
  tasks : List Task
  parcels : List Parcel
  sent : List Sent
  counted : List Counted
  totals : List Total
  last : Int
def hC (h : House) : List C := [.list .item h.items [], .list .lot h.lots [], .list .zone h.zones [], .list .bin h.bins [], .list .quant h.quants [], .list .rule h.rules [], .list .notice h.notices [], .list .order h.orders [], .list .claim h.claims [], .list .task h.tasks [], .list .parcel h.parcels [], .list .sent h.sent [], .list .counted h.counted [], .list .total h.totals [], ci h.last]


/-- Houses whose lists have something behind their ends. -/
def hB (h b : House) : List C := [.list .item h.items b.items, .list .lot h.lots b.lots, .list .zone h.zones b.zones, .list .bin h.bins b.bins, .list .quant h.quants b.quants, .list .rule h.rules b.rules, .list .notice h.notices b.notices, .list .order h.orders b.orders, .list .claim h.claims b.claims, .list .task h.tasks b.tasks, .list .parcel h.parcels b.parcels, .list .sent h.sent b.sent, .list .counted h.counted b.counted, .list .total h.totals b.totals, ci h.last]

instance : Inhabited ByteArray := ⟨ByteArray.empty⟩
instance : Inhabited Key := ⟨Ty.zero .key⟩
instance : Inhabited Unt := ⟨Ty.zero .unit⟩
instance : Inhabited Itm := ⟨Ty.zero .item⟩
instance : Inhabited Lott := ⟨Ty.zero .lot⟩
instance : Inhabited Zon := ⟨Ty.zero .zone⟩
instance : Inhabited Binn := ⟨Ty.zero .bin⟩
instance : Inhabited Quant := ⟨Ty.zero .quant⟩
instance : Inhabited Rul := ⟨Ty.zero .rule⟩
instance : Inhabited Line := ⟨Ty.zero .line⟩
instance : Inhabited Notice := ⟨Ty.zero .notice⟩
instance : Inhabited Order := ⟨Ty.zero .order⟩
instance : Inhabited Claim := ⟨Ty.zero .claim⟩
instance : Inhabited Task := ⟨Ty.zero .task⟩
instance : Inhabited Parcel := ⟨Ty.zero .parcel⟩
instance : Inhabited Sent := ⟨Ty.zero .sent⟩
instance : Inhabited Counted := ⟨Ty.zero .counted⟩
instance : Inhabited Total := ⟨Ty.zero .total⟩
instance : Inhabited Take := ⟨Ty.zero .take⟩
instance : Inhabited Entry := ⟨Ty.zero .entry⟩
def house0 : House := ⟨[], [], [], [], [], [], [], [], [], [], [], [], [], [], 0⟩
instance : Inhabited House := ⟨house0⟩

abbrev aS (s : Str) : A := .s (cs s)
abbrev aI (n : Int) : A := .s (ci n)
abbrev aB (b : Bool) : A := .s (cb b)
abbrev aE (t : Ty) (x : t.D) : A := .g [.el t x]
abbrev aL (t : Ty) (l : List t.D) : A := .s (.list t l [])
abbrev M0 : Mem := ⟨[], []⟩

def sLt (a b : Str) : Bool := Op.bytesLess a.toList b.toList
def sEq (a b : Str) : Bool := a.toList == b.toList
def cmpS (a b : Str) : Int := match sLt a b with
  | true => -1
  | false => match !(sLt a b || sEq a b) with
    | true => 1
    | false => 0
def cmpI (a b : Int) : Int := match decide (a < b) with
  | true => -1
  | false => match decide (b < a) with
    | true => 1
    | false => 0

def F164 : List A → Option (Bool × A)
  | [.s (.v (.string a))] => some (true, aB false)
  | _ => none
theorem k164 (a : Str) : runA (withN E0 0) 0 164 [aS a] M0 = some (aB (!sEq a a)) := by kernel_rfl
noncomputable def E164 : Env := withG E0 164 (gOf E0 [9] F164)
theorem ok164 : AllOK Tryz.prog E164 := ok0.f 0 (fun l r e _ => by
  unfold F164 at e
  split at e
  · rename_i a
    cases e
    exact ⟨0, by rw [k164]; simp [sEq]⟩
  · cases e) (by kernel_rfl)

def F176 : List A → Option (Bool × A)
  | [.s (.v (.int .i64 a))] => some (true, aB false)
  | _ => none
theorem k176 (a : Int) : runA (withN E164 0) 0 176 [aI a] M0 = some (aB (!decide (a = a))) := by kernel_rfl
noncomputable def E176 : Env := withG E164 176 (gOf E164 [3] F176)
theorem ok176 : AllOK Tryz.prog E176 := ok164.f 0 (fun l r e _ => by
  unfold F176 at e
  split at e
  · rename_i a
    cases e
    exact ⟨0, by rw [k176]; simp⟩
  · cases e) (by kernel_rfl)

def F108 : List A → Option (Bool × A)
  | [.s (.v (.string a)), .s (.v (.string b))] => some (true, aI (cmpS a b))
  | _ => none
theorem k108 (a b : Str) : runA (withN E176 0) 1 108 [aS a, aS b] M0 = match sLt a b with
  | true => some (aI (-1))
  | false => match !(sLt a b || sEq a b) with
    | true => some (aI 1)
    | false => some (aI 0) := by kernel_rfl
noncomputable def E108 : Env := withG E176 108 (gOf E176 [9, 9] F108)
theorem ok108 : AllOK Tryz.prog E108 := ok176.f 1 (fun l r e _ => by
  unfold F108 at e
  split at e
  · rename_i a b
    cases e
    exact ⟨0, by rw [k108]; unfold cmpS; split; rfl; split <;> rfl⟩
  · cases e) (by kernel_rfl)

def F126 : List A → Option (Bool × A)
  | [.s (.v (.int .i64 a)), .s (.v (.int .i64 b))] => some (true, aI (cmpI a b))
  | _ => none
theorem k126 (a b : Int) : runA (withN E108 0) 1 126 [aI a, aI b] M0 = match decide (a < b) with
  | true => some (aI (-1))
  | false => match decide (b < a) with
    | true => some (aI 1)
    | false => some (aI 0) := by kernel_rfl
noncomputable def E126 : Env := withG E108 126 (gOf E108 [3, 3] F126)
theorem ok126 : AllOK Tryz.prog E126 := ok108.f 1 (fun l r e _ => by
  unfold F126 at e
  split at e
  · rename_i a b
    cases e
    exact ⟨0, by rw [k126]; unfold cmpI; split; rfl; split <;> rfl⟩
  · cases e) (by kernel_rfl)

def orI : List Int → Int
  | [] => 0
  | a :: l => match a != 0 with
    | true => a
    | false => orI l
def F125 : List A → Option (Bool × A)
  | [.s (.list .int [a, b] [])] => some (true, aI (orI [a, b]))
  | [.s (.list .int [a, b, c] [])] => some (true, aI (orI [a, b, c]))
  | [.s (.list .int [a, b, c, d] [])] => some (true, aI (orI [a, b, c, d]))
  | [.s (.list .int [a, b, c, d, e] [])] => some (true, aI (orI [a, b, c, d, e]))
  | _ => none
theorem k125_2 (a b : Int) : runA (withN E126 9) 1 125 [aL .int [a, b]] M0 = match a != 0 with
  | true => some (aI a)
  | false => match b != 0 with
    | true => some (aI b)
    | false => some (aI 0) := by kernel_rfl
theorem e125_2 (a b : Int) : runA (withN E126 9) 1 125 [aL .int [a, b]] M0 = some (aI (orI [a, b])) := by
  rw [k125_2]
  simp only [orI]
  repeat' split
  all_goals first | rfl | (simp_all; done)
theorem k125_3 (a b c : Int) : runA (withN E126 9) 1 125 [aL .int [a, b, c]] M0 = match a != 0 with
  | true => some (aI a)
  | false => match b != 0 with
    | true => some (aI b)
    | false => match c != 0 with
      | true => some (aI c)
      | false => some (aI 0) := by kernel_rfl
theorem e125_3 (a b c : Int) : runA (withN E126 9) 1 125 [aL .int [a, b, c]] M0 = some (aI (orI [a, b, c])) := by
  rw [k125_3]
  simp only [orI]
  repeat' split
  all_goals first | rfl | (simp_all; done)
theorem k125_4 (a b c d : Int) : runA (withN E126 9) 1 125 [aL .int [a, b, c, d]] M0 = match a != 0 with
  | true => some (aI a)
  | false => match b != 0 with
    | true => some (aI b)
    | false => match c != 0 with
      | true => some (aI c)
      | false => match d != 0 with
        | true => some (aI d)
        | false => some (aI 0) := by kernel_rfl
theorem e125_4 (a b c d : Int) : runA (withN E126 9) 1 125 [aL .int [a, b, c, d]] M0 = some (aI (orI [a, b, c, d])) := by
  rw [k125_4]
  simp only [orI]
  repeat' split
  all_goals first | rfl | (simp_all; done)
theorem k125_5 (a b c d e : Int) : runA (withN E126 9) 1 125 [aL .int [a, b, c, d, e]] M0 = match a != 0 with
  | true => some (aI a)
  | false => match b != 0 with
    | true => some (aI b)
    | false => match c != 0 with
      | true => some (aI c)
      | false => match d != 0 with
        | true => some (aI d)
        | false => match e != 0 with
          | true => some (aI e)
          | false => some (aI 0) := by kernel_rfl
theorem e125_5 (a b c d e : Int) : runA (withN E126 9) 1 125 [aL .int [a, b, c, d, e]] M0 = some (aI (orI [a, b, c, d, e])) := by
  rw [k125_5]
  simp only [orI]
  repeat' split
  all_goals first | rfl | (simp_all; done)
noncomputable def E125 : Env := withG E126 125 (gOf E126 [65] F125)
theorem ok125 : AllOK Tryz.prog E125 := ok126.f 1 (fun l r e _ => by
  unfold F125 at e
  split at e
  · cases e; exact ⟨9, e125_2 _ _⟩
  · cases e; exact ⟨9, e125_3 _ _ _⟩
  · cases e; exact ⟨9, e125_4 _ _ _ _⟩
  · cases e; exact ⟨9, e125_5 _ _ _ _ _⟩
  · cases e) (by kernel_rfl)
end Ev
end Go.Proofs.YtefjcgbidillhaaGreat
