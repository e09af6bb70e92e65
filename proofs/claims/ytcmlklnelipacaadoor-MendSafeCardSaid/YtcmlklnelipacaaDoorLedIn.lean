import Derived.Test.YtcmlklnelipacaaDoorOpen
import Derived.Test.YtcmlklnelipacaaDoorTo
namespace Go.Proofs.YtcmlklnelipacaaDoor
open Go Plain
structure LedIn where
  b : Int
  m : Int
  c : Int
  s : Sl Permit
def encLedIn (l : LedIn) : List Value := [.int .i64 l.b, .int .i64 l.m, .int .i64 l.c, .slice l.s.ao l.s.xs.length l.s.c]
end Go.Proofs.YtcmlklnelipacaaDoor
