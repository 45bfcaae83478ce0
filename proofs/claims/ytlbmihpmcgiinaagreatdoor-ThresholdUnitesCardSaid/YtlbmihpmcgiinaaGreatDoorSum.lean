/- Chapter 39: the summary of (threshold.set).list: the sorted keys of a map, where its keys are numbers' texts. -/
import Derived.Test.YtlbmihpmcgiinaaGreatDoorEngA
open Go
namespace Go.Proofs.YtlbmihpmcgiinaaGreatDoor.Own

def digB (b : UInt8) : Bool := Nat.ble 48 b.toNat && Nat.ble b.toNat 57
def leadB : List UInt8 → Bool
  | [] => false
  | b :: r => Nat.ble 49 b.toNat && digB b && r.all digB
def canonB : List UInt8 → Bool
  | [] => false
  | b :: r => match Nat.beq b.toNat 45 with
    | true => leadB r
    | false => match Nat.beq b.toNat 48 with
      | true => r.isEmpty
      | false => leadB (b :: r)

def entryB (clock : Nat) (e : MapEntry) : Bool := match e.key, e.val with
  | .string s, .bool _ => canonB s.data.toList && Nat.ble s.size 4096 && Nat.blt e.born clock
  | _, _ => false

def apartB (e x : MapEntry) : Bool := !(Nat.beq e.born x.born) && !(decide (decInt (strOf e.key) = decInt (strOf x.key)))

def distinctB : List MapEntry → Bool
  | [] => true
  | e :: es => es.all (apartB e) && distinctB es

/-- The sorted keys, if the map's keys are numbers' texts. -/
def sumKeysG (elem : TypeId) (args : List Value) (H : AH) : Option (Value × AH) :=
  match args with
  | [.map (some r)] => match H.get r with
    | some (.map es clock) => match es.all (entryB clock) && distinctB es && Nat.ble es.length 100000 with
      | true => sumKeys elem args H
      | false => none
    | _ => none
  | _ => none

end Go.Proofs.YtlbmihpmcgiinaaGreatDoor.Own
