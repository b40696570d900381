/- The table of this seat's types; no condition. -/
import Derived.Test.YtbkhhfekdpkhbaaAcB
import Derived.Test.YtbkhhfekdpkhbaaProg
namespace Go.Proofs.Ytbkhhfekdpkhbaa.Ab
open Go

def badT : List Nat := [0, 46, 48, 59, 65, 75, 90, 98, 132, 168, 173, 175, 179, 195, 199, 201, 205, 213, 223, 226, 228, 239, 240]
def dtT : List (Nat × DT) := [(5, .u8), (3, .int .i64), (45, .int .i64), (117, .int .u32), (24, .bytes), (33, .ua), (113, .comp), (72, .en), (63, .sta), (78, .sta), (88, .stp)]
def lookD : List (Nat × DT) → Nat → Option DT
  | [], _ => none
  | (t, x) :: l, q => bif Nat.beq t q then some x else lookD l q
end Go.Proofs.Ytbkhhfekdpkhbaa.Ab
