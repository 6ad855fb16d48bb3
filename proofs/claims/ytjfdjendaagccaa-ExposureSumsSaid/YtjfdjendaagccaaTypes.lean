/-
  What the abstract run does with the types of the seat.
-/
import Derived.Test.YtjfdjendaagccaaBase
import Derived.Test.YtjfdjendaagccaaAeK
namespace Go.Proofs.Ytjfdjendaagccaa
open Go Go.Proofs Go.Proofs.Ae

theorem ld3 (h : AHeap) (a : AVal) : aLoad C0 h 3 a = loadV h false 1 a := load_of (by kernel_rfl) h a
theorem ld5 (h : AHeap) (a : AVal) : aLoad C0 h 5 a = loadV h false 1 a := load_of (by kernel_rfl) h a
theorem ld22 (h : AHeap) (a : AVal) : aLoad C0 h 22 a = loadV h false 1 a := load_of (by kernel_rfl) h a
theorem ld27 (h : AHeap) (a : AVal) : aLoad C0 h 27 a = loadV h true 7 a := load_of (by kernel_rfl) h a
theorem ld29 (h : AHeap) (a : AVal) : aLoad C0 h 29 a = loadV h false 1 a := load_of (by kernel_rfl) h a
theorem ld37 (h : AHeap) (a : AVal) : aLoad C0 h 37 a = loadV h true 7 a := load_of (by kernel_rfl) h a
theorem ld43 (h : AHeap) (a : AVal) : aLoad C0 h 43 a = loadV h true 2 a := load_of (by kernel_rfl) h a
theorem so3 (h : AHeap) (a x : AVal) : aStore C0 h 3 a x = storeW h 1 a x := store_of (by kernel_rfl) h a x
theorem so27 (h : AHeap) (a x : AVal) : aStore C0 h 27 a x = storeW h 7 a x := store_of (by kernel_rfl) h a x
theorem so37 (h : AHeap) (a x : AVal) : aStore C0 h 37 a x = storeW h 7 a x := store_of (by kernel_rfl) h a x
theorem so43 (h : AHeap) (a x : AVal) : aStore C0 h 43 a x = storeW h 2 a x := store_of (by kernel_rfl) h a x
theorem fa45_0 (a : AVal) : aFieldAddr C0 45 a 0 = fieldAddrV 0 1 a := fieldAddr_of (g := false) (by kernel_rfl) a
theorem fa45_1 (a : AVal) : aFieldAddr C0 45 a 1 = fieldAddrV 1 1 a := fieldAddr_of (g := false) (by kernel_rfl) a
theorem fa37_1 (a : AVal) : aFieldAddr C0 37 a 1 = fieldAddrV 6 1 a := fieldAddr_of (g := false) (by kernel_rfl) a
theorem fa43_0 (a : AVal) : aFieldAddr C0 43 a 0 = fieldAddrV 0 1 a := fieldAddr_of (g := false) (by kernel_rfl) a
theorem fa43_1 (a : AVal) : aFieldAddr C0 43 a 1 = fieldAddrV 1 1 a := fieldAddr_of (g := false) (by kernel_rfl) a
theorem ix22 (x i : AVal) : aIndexAddr C0 22 x i = idxS 1 x i := idxS_of (by' := 1) (g := false) (by kernel_rfl) x i
theorem ix26 (x i : AVal) : aIndexAddr C0 26 x i = idxS 7 x i := idxS_of (by' := 80) (g := true) (by kernel_rfl) x i
theorem ix29 (x i : AVal) : aIndexAddr C0 29 x i = idxS 2 x i := idxS_of (by' := 16) (g := true) (by kernel_rfl) x i
theorem ix27 (x i : AVal) : aIndexAddr C0 27 x i = idxA 7 1 x i := idxA_of (by' := 8) (g := false) (by kernel_rfl) x i
theorem ln22 (x : AVal) : aLen C0 22 x = lenS x := lenS_of (sz := 1) (by' := 1) (g := false) (by kernel_rfl) x
theorem ln26 (x : AVal) : aLen C0 26 x = lenS x := lenS_of (sz := 7) (by' := 80) (g := true) (by kernel_rfl) x
theorem ln29 (x : AVal) : aLen C0 29 x = lenS x := lenS_of (sz := 2) (by' := 16) (g := true) (by kernel_rfl) x
theorem sl22 (x : AVal) (lo hi mx : Option AVal) : aSlice C0 22 x lo hi mx = sliceW 1 x lo hi mx := slice_of (by' := 1) (g := false) (by kernel_rfl) x lo hi mx
theorem sl26 (x : AVal) (lo hi mx : Option AVal) : aSlice C0 26 x lo hi mx = sliceW 7 x lo hi mx := slice_of (by' := 80) (g := true) (by kernel_rfl) x lo hi mx
theorem ap26 (h : AHeap) (s : Option Nat) (x y : AVal) : aAppend C0 h s 26 26 x y = appendV h s 7 80 x y := append_of (sz' := 7) (by'' := 80) (g := true) (g' := true) (by kernel_rfl) (by kernel_rfl) (by kernel_rfl) h s x y
theorem ap29 (h : AHeap) (s : Option Nat) (x y : AVal) : aAppend C0 h s 29 29 x y = appendV h s 2 16 x y := append_of (sz' := 2) (by'' := 16) (g := true) (g' := true) (by kernel_rfl) (by kernel_rfl) (by kernel_rfl) h s x y
theorem al27 (h : AHeap) (s : Option Nat) : aAlloc C0 h s 27 = aNew h s [.sc (.int .i64 0), .sc (.int .i64 0), .sc (.int .i64 0), .sc (.int .i64 0), .sc (.int .i64 0), .sc (.int .i64 0), .sc (.int .i64 0)] := by kernel_rfl
theorem al37 (h : AHeap) (s : Option Nat) : aAlloc C0 h s 37 = aNew h s [.sc (.int .i64 0), .sc (.int .i64 0), .sc (.int .i64 0), .sc (.bool false), .sc (.string .empty), .sc (.int .i64 0), .sc (.slice none 0 0)] := by kernel_rfl
theorem al43 (h : AHeap) (s : Option Nat) : aAlloc C0 h s 43 = aNew h s [.sc (.int .i64 0), .sc (.int .i64 0)] := by kernel_rfl
theorem cv53 (k : IntKind) (n : Int) : convV C0 5 3 (.sc (.int k n)) = some (.sc (.int .i64 (IntKind.i64.wrap n))) := by kernel_rfl
theorem bd43 (a b : Int) : aBuild C0 43 [(0, .sc (.int .i64 a)), (1, .sc (.int .i64 b))] = some (.agg [.sc (.int .i64 a), .sc (.int .i64 b)]) := by kernel_rfl
theorem bd45 (cs : List AVal) (n : Nat) (c : Option Nat) : aBuild C0 45 [(0, .fs cs n c)] = some (.agg [.fs cs n c, .sc (.int .i64 0)]) := by kernel_rfl
theorem bd37 (cs : List AVal) (n : Nat) (c : Option Nat) : aBuild C0 37 [(1, .fs cs n c)] = some (.agg [.sc (.int .i64 0), .sc (.int .i64 0), .sc (.int .i64 0), .sc (.bool false), .sc (.string .empty), .sc (.int .i64 0), .fs cs n c]) := by kernel_rfl
theorem bs29 (h : AHeap) (s : Option Nat) (a b : Int) : aBuildSlice C0 h s 29 1 [(0, .agg [.sc (.int .i64 a), .sc (.int .i64 b)])] = newSlice h s [.sc (.int .i64 a), .sc (.int .i64 b)] 1 2 1 true := by kernel_rfl
theorem bs26 (h : AHeap) (s : Option Nat) (c0 c1 c2 c3 c4 c5 c6 : AVal) : aBuildSlice C0 h s 26 1 [(0, .agg [c0, c1, c2, c3, c4, c5, c6])] = newSlice h s [c0, c1, c2, c3, c4, c5, c6] 1 7 1 true := by kernel_rfl

end Go.Proofs.Ytjfdjendaagccaa
