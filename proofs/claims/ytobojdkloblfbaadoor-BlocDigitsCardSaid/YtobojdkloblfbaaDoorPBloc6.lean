/- Plain laws on block scalars: digits in headers. -/
import Derived.Test.YtobojdkloblfbaaDoorPBloc2
namespace Go.Proofs.YtobojdkloblfbaaDoor
namespace U
open Go

def digH (d s : Nat) : List UInt8 := if s = 0 then [124, UInt8.ofNat (48 + d)] else if s = 1 then [124, 43, UInt8.ofNat (48 + d)] else [124, UInt8.ofNat (48 + d), 43]
def digW (d c : Nat) : Nat := d + (c - 1)
def digS (d c m s : Nat) : List UInt8 := digH d s ++ [10] ++ List.replicate (digW d c + m) 32 ++ [97, 10] ++ List.replicate (digW d c) 32 ++ [98, 10]
def digT (d c m s : Nat) : List UInt8 := digS d c m s ++ List.replicate (digW d c - 1) 32 ++ [99, 10]
def digOk (d c m s : Nat) : Bool := decide ((blocM (digT d c m s) 0 ((c : Int) - 1)).1.text = List.replicate m 32 ++ [97, 10, 98, 10] ∧ (blocM (digT d c m s) 0 ((c : Int) - 1)).2 = (((digS d c m s).length : Int), 0))
theorem dig_all : ∀ d < 9, ∀ c < 4, ∀ m < 4, ∀ s < 3, digOk (1 + d) c m s = true := by decide +kernel
