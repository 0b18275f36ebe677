-- The kit's printed words (print.sh) for this seat, as far as this claim needs them: not written by this session.
import Derived.Test.YtmlddeogmckgmaaGreatDoorZCommandOwnUWTab
namespace Go.Proofs.YtmlddeogmckgmaaGreatDoorW.PrintLast
def up (b : Nat → Bool) (i : Nat) : Nat → Bool := fun j => if j = i then true else b j
section
variable {P : Program} {ops : Array Oper} {Q : Exit → Act → World → Prop} {md : Region.Mode} {T : Bool × List (List Nat × List Nat)} {B : List Nat} {O : List Nat} {b : Nat → Bool} {i j n : Nat}
end
end Go.Proofs.YtmlddeogmckgmaaGreatDoorW.PrintLast
