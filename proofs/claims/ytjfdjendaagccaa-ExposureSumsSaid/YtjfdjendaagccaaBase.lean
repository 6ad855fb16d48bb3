/-
  The seat's program for the abstract run: its tables, and how values are laid out.
-/
import Derived.Test.YtjfdjendaagccaaChecked
import Derived.Test.YtjfdjendaagccaaAeJ
namespace Go.Proofs.Ytjfdjendaagccaa
open Go Go.Proofs Go.Proofs.Ae

def liveTab : FuncId → Nat → Option (List Nat)
  | 3, 7 => some [3, 4, 5, 6, 7]
  | 3, 16 => some [3, 4, 5, 6, 7, 8, 10, 11, 12]
  | 7, 3 => some [0, 3, 4]
  | 8, 3 => some [2, 3, 8, 9, 10]
  | 8, 6 => some [2, 3, 8, 9, 10, 15, 16, 17]
  | _, _ => none

noncomputable def C0 : Cfg := cfgOf Try.prog liveTab (fun f => [10, 11, 12, 14, 15, 16, 17, 18, 19, 21, 22, 25, 27, 28].contains f)

theorem ok0 : C0.Ok := cfgOf_ok (by kernel_rfl) _ _

theorem awake0 (h : AHeap) : aCore (aCall C0 400) 4 [] h = some (.ret (.sc (.bool true)), []) := by kernel_rfl

theorem awake_core (m : Nat) (h : AHeap) : aCore (aCall C0 (m + 400)) 4 [] h = some (.ret (.sc (.bool true)), []) := aCore_mono (aCall_mono C0 (by omega)) (awake0 h)

end Go.Proofs.Ytjfdjendaagccaa
