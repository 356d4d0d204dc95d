/- What the library's functions on the road compute, over trees. -/
import Derived.Test.YtcndhbamkipifaaDoorPsR
namespace Go.Ps

/-- The decimal digits, with as many rounds as there may be digits. -/
def digK : Nat → Nat → List UInt8 → List UInt8
  | 0, _, acc => acc
  | k + 1, u, acc => if u < 10 then UInt8.ofNat (48 + u) :: acc else digK k (u / 10) (UInt8.ofNat (48 + u % 10) :: acc)

def itoaK (n : Int) : List UInt8 := if n < 0 then 45 :: digK 20 n.natAbs [] else digK 20 n.toNat []

def itoaX : List T → Option T
  | [.int .i64 n] => if -9223372036854775808 ≤ n ∧ n ≤ 9223372036854775807 then some (.str (itoaK n)) else none
  | _ => none

def strsX : List T → Option (List (List UInt8))
  | [] => some []
  | .str s :: r => match strsX r with
    | some l => some (s :: l)
    | none => none
  | _ => none

def joinL (sep : List UInt8) : List (List UInt8) → List UInt8
  | [] => []
  | [x] => x
  | x :: y :: r => x ++ sep ++ joinL sep (y :: r)

def joinX : List T → Option T
  | [.nils, .str _] => some (.str [])
  | [.sl _ xs, .str sep] => match strsX xs with
    | some l => if (joinL sep l).length ≤ 140737488355328 ∧ l.length ≤ 140737488355328 then some (.str (joinL sep l)) else none
    | none => none
  | _ => none

def bytesX : List T → Option (List UInt8)
  | [] => some []
  | .int .u8 n :: r => match bytesX r with
    | some l => if 0 ≤ n ∧ n < 256 then some (UInt8.ofNat n.toNat :: l) else none
    | none => none
  | _ => none

def copyX (tB : TypeId) : List T → Hp → Option (T × Hp)
  | [.ptr l 0], H => match H.get l with
    | some o => match o.cells with
      | [.nilp, v] => if o.elem = tB ∧ o.sz = 0 then some (.tup [], H.put l { o with cells := [.ptr l 0, v] }) else none
      | [.ptr l' 0, _] => if l' = l ∧ o.elem = tB ∧ o.sz = 0 then some (.tup [], H) else none
      | _ => none
    | none => none
  | _, _ => none

def strX (tB tE : TypeId) : List T → Hp → Option (T × Hp)
  | [.ptr l 0], H => match H.get l with
    | some o => if o.elem = tB ∧ o.sz = 0 then match o.cells with
      | [_, .nils] => some (.str [], H)
      | [_, .osl l2 1 0 len] => match H.get l2 with
        | some o2 => if o2.elem = tE ∧ o2.sz = 1 ∧ o2.cells.length = len ∧ len ≠ 0 then match bytesX o2.cells with
          | some bs => some (.str bs, H.drop l2)
          | none => none
          else none
        | none => none
      | _ => none
      else none
    | none => none
  | _, _ => none

end Go.Ps
