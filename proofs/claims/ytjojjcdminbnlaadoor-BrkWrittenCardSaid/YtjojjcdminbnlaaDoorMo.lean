/-
  Conditions: what their reader reads, in plain words.
-/
import Derived.Test.YtjojjcdminbnlaaDoorLib
import Derived.Lib.ItoaNum
import Derived.Lib.TrimByte
import Derived.IntWalk
namespace Go.Proofs.YtjojjcdminbnlaaDoor

inductive Ex where
  | bad
  | num (n : Int)
  | var (w : List UInt8)
  | un (op : UInt8) (x : Ex)
  | bin (op : UInt8) (x y : Ex)
deriving Inhabited
def digB (b : UInt8) : Bool := decide (48 ≤ b.toNat) && decide (b.toNat ≤ 57)
def letB (b : UInt8) : Bool := decide (97 ≤ b.toNat) && decide (b.toNat ≤ 122)
def alB (b : UInt8) : Bool := digB b || letB b
def ranksM : Nat → List UInt8
  | 0 => [124]
  | 1 => [38]
  | 2 => [61, 60]
  | 3 => [43, 45]
  | _ => [42]
def signM (set s : List UInt8) (bad : Bool) : UInt8 × List UInt8 :=
  match trimM s with
  | [] => (0, [])
  | b :: t => if bad || !set.contains b then (0, b :: t) else (b, t)
/-- The number of digits (and letters), as the machine reckons it. -/
def numM (w : List UInt8) : Int := w.foldl (fun n c => IntKind.i64.wrap (IntKind.i64.wrap (10 * n) + IntKind.i64.wrap (IntKind.u8.wrap ((c.toNat : Int) - 48)))) 0
def leafM (s : List UInt8) (bad : Bool) : Ex × List UInt8 × Bool :=
  match s.takeWhile alB with
  | [] => (.bad, s, true)
  | c :: w => if bad then (.bad, s, true) else
    let t := s.drop (w.length + 1)
    if letB c then (.var (c :: w), t, decide (19 < w.length + 1)) else (.num (numM (c :: w)), t, (c :: w).any (fun b => !digB b) || decide (9 < w.length + 1))
inductive Md where
  | bin (k : Nat)
  | loop (k : Nat) (x : Ex)
  | un
/-- The reader, by fuel. -/
def rd : Nat → Md → List UInt8 → Bool → Option (Ex × List UInt8 × Bool)
  | 0, _, _, _ => none
  | f + 1, .bin k, s, b => if k = 5 then rd f .un s b else
    (rd f (.bin (k + 1)) s b).bind fun r => rd f (.loop k r.1) r.2.1 r.2.2
  | f + 1, .loop k x, s, b =>
    if (signM (ranksM k) s b).1 = 0 then some (x, (signM (ranksM k) s b).2, b) else
      (rd f (.bin (k + 1)) (signM (ranksM k) s b).2 b).bind fun r =>
        if k = 2 then some (.bin (signM (ranksM k) s b).1 x r.1, r.2.1, r.2.2) else rd f (.loop k (.bin (signM (ranksM k) s b).1 x r.1)) r.2.1 r.2.2
  | f + 1, .un, s, b =>
    if (signM [33, 45] s b).1 = 33 then (rd f .un (signM [33, 45] s b).2 b).bind fun r => some (.un 33 r.1, r.2.1, r.2.2)
    else if (signM [33, 45] s b).1 = 45 then (rd f .un (signM [33, 45] s b).2 b).bind fun r => some (.un 126 r.1, r.2.1, r.2.2)
    else if (signM [40] (signM [33, 45] s b).2 b).1 = 0 then some (leafM (signM [40] (signM [33, 45] s b).2 b).2 b)
    else (rd f (.bin 0) (signM [40] (signM [33, 45] s b).2 b).2 b).bind fun r =>
      if r.2.2 then some (r.1, r.2.1, true) else some (r.1, (signM [41] r.2.1 false).2, decide ((signM [41] r.2.1 false).1 = 0))
def maxI (a b : Int) : Int := if a < b then b else a
/-- How deep, as the machine reckons it. -/
def Ex.deepI : Ex → Int
  | .bad => 0
  | .num _ => 1
  | .var _ => 1
  | .un _ x => IntKind.i64.wrap (maxI 0 x.deepI + 1)
  | .bin _ x y => IntKind.i64.wrap (maxI (maxI 0 x.deepI) y.deepI + 1)
def Ex.deep : Ex → Nat
  | .bad => 0
  | .num _ => 1
  | .var _ => 1
  | .un _ x => x.deep + 1
  | .bin _ x y => max x.deep y.deep + 1
def truthM (b : Bool) : Int := if b then 1 else 0
def unV (op : UInt8) (a : Int) : Int := if op = 33 then truthM (a == 0) else IntKind.i64.wrap (0 - a)
def binV (op : UInt8) (a b : Int) : Int :=
  if op = 124 then truthM (a != 0 || b != 0) else if op = 38 then truthM (a != 0 && b != 0) else if op = 61 then truthM (a == b) else if op = 60 then truthM (decide (a < b))
  else if op = 43 then IntKind.i64.wrap (a + b) else if op = 45 then IntKind.i64.wrap (a - b) else IntKind.i64.wrap (a * b)
def Ex.val (of : List UInt8 → Int × Bool) : Ex → Int × Bool
  | .bad => (0, true)
  | .num n => (n, true)
  | .var w => of w
  | .un op x => if (x.val of).2 then (unV op (x.val of).1, true) else (0, false)
  | .bin op x y => if (x.val of).2 then if (y.val of).2 then (binV op (x.val of).1 (y.val of).1, true) else (0, false) else (0, false)
def rankM (op : UInt8) : Nat :=
  if op = 124 then 0 else if op = 38 then 1 else if op = 61 ∨ op = 60 then 2 else if op = 43 ∨ op = 45 then 3 else if op = 42 then 4 else if op = 33 ∨ op = 126 then 5 else 6
def Ex.op : Ex → UInt8
  | .bad => 0
  | .num _ => 110
  | .var _ => 118
  | .un op _ => op
  | .bin op _ _ => op
def brM (r least : Nat) (out : List UInt8) : List UInt8 := if r < least then 40 :: (out ++ [41]) else out
def Ex.wr : Ex → Nat → List UInt8
  | .bad, _ => []
  | .num n, least => brM 6 least (Lib.itoa n)
  | .var w, least => brM 6 least w
  | .un op x, least => brM 5 least ((if op = 126 then 45 else 33) :: x.wr 5)
  | .bin op x y, least => if rankM op = 2 then brM 2 least (x.wr 3 ++ op :: y.wr 3) else brM (rankM op) least (x.wr (rankM op) ++ op :: y.wr (rankM op + 1))
/-- Of which signs it is. -/
def Ex.ok : Ex → Prop
  | .bad => False
  | .num n => 0 ≤ n ∧ n ≤ 999999999
  | .var w => w ≠ [] ∧ w.length ≤ 19 ∧ (∀ b ∈ w, alB b = true) ∧ letB (w.headD 0) = true
  | .un op x => (op = 33 ∨ op = 126) ∧ x.ok
  | .bin op x y => (op = 124 ∨ op = 38 ∨ op = 61 ∨ op = 60 ∨ op = 43 ∨ op = 45 ∨ op = 42) ∧ x.ok ∧ y.ok
/-- What is parsed: 1 too large, 4 no condition. -/
def parseM (text : List UInt8) : Ex × Int :=
  if 200 < text.length then (.bad, 2) else
  match rd (12 * text.length + 12) (.bin 0) text false with
  | none => (.bad, 0)
  | some (x, s, b) => if b || !(trimM s).isEmpty then (.bad, 4) else if 20 < x.deepI then (.bad, 2) else (x, 0)
def lookM (name : List UInt8) : List (List UInt8 × Int) → Int × Bool
  | [] => (0, false)
  | v :: l => if v.1 = name then (v.2, true) else lookM name l
def valueM (text : List UInt8) (l : List (List UInt8 × Int)) : Int × Int :=
  if (parseM text).2 ≠ 0 then (0, (parseM text).2) else
  let r := (parseM text).1.val fun n => lookM n l
  if r.2 then (r.1, 0) else (0, 5)
def writeM (text : List UInt8) : List UInt8 × Int := if (parseM text).2 ≠ 0 then ([], (parseM text).2) else ((parseM text).1.wr 0, 0)
end Go.Proofs.YtjojjcdminbnlaaDoor
