/-
  Calls whose one argument is a slice that the caller has made: it is frozen, and handed over.
-/
import Derived.Test.YtjfdjendaagccaaAeK
namespace Go.Proofs.Ae
open Go

theorem prep_ms {C : Cfg} {g : FuncId} {h : AHeap} {l len sz lo : Nat} {ex w : Bool} {cells : List AVal} (hb : C.byRef g = false) (ho : h[l]? = some (.arr cells w)) (hl : cells.length = len * sz)
    (hf : FixL cells) (hn : locsL cells = []) : prep C g [.ms l 0 len sz lo ex] h = ([.fs cells len none], if w = true then [(l, .arr cells false)] else []) := by
  have hA : (h.map unW)[l]? = some (.arr cells false) := by simp [ho, unW]
  have hr : reach 4 h [l] = [l] := reach_done fun x hx => by
    simp only [List.mem_singleton] at hx
    subst hx
    simp only [olocs, ho, objLocs, hn]
  have hlt := (List.getElem?_eq_some_iff.1 ho).1
  have hm : markP h [l] = if w = true then [(l, .arr cells false)] else [] := by
    simp only [markP, ho]
    cases w <;> rfl
  have h1 : (applyP h (if w = true then [(l, .arr cells false)] else []))[l]? = some (.arr cells false) := by
    cases w with
    | false => simpa [applyP] using ho
    | true => simp [applyP, hlt]
  unfold prep
  have hloc : locs (.ms l 0 len sz lo ex) = [l] := rfl
  simp only [hb, locsL, hloc, List.append_nil, List.isEmpty_cons, Bool.or_self, Bool.false_eq_true, if_false, List.filter_cons, Bool.not_false, frz_ms_all hA hl hf, Option.isSome_some, Bool.and_self, if_true,
    List.filter_nil, List.flatMap_cons, List.flatMap_nil, nub, List.foldl_cons, List.foldl_nil, addN, List.contains_nil, List.nil_append, hr, hm, List.map_cons, List.map_nil, frz_ms_all h1 hl hf]

theorem aInvoke_ms {C : Cfg} {call : CallF} {g : FuncId} {h : AHeap} {l len sz lo : Nat} {ex w : Bool} {cells : List AVal} (hb : C.byRef g = false) (ho : h[l]? = some (.arr cells w)) (hl : cells.length = len * sz)
    (hf : FixL cells) (hn : locsL cells = []) {e : AEnd} {p : Patch} (hc : ∀ h', aCore call g [.fs cells len none] h' = some (e, p)) :
    aInvoke C call g [.ms l 0 len sz lo ex] h = some (e, (if w = true then [(l, .arr cells false)] else []) ++ p) := by
  unfold aInvoke
  simp only [prep_ms hb ho hl hf hn, hc]

theorem aCoreP_ms {C : Cfg} {call : CallF} {g : FuncId} {h : AHeap} {l len sz lo : Nat} {ex w : Bool} {cells : List AVal} (hb : C.byRef g = false) (ho : h[l]? = some (.arr cells w)) (hl : cells.length = len * sz)
    (hf : FixL cells) (hn : locsL cells = []) {v : AVal} (hv : Fix v) (hc : ∀ h', aCore call g [.fs cells len none] h' = some (.ret v, [])) :
    aCore (callP C call) g [.ms l 0 len sz lo ex] h = some (.ret v, [(l, .arr cells false)]) := by
  have hp : pos [l] l = some 0 := by simp [pos]
  rw [aCore_one (lo := l) (o2 := .arr cells w) (args2 := [.ms 0 0 len sz lo ex]) rfl ho (by simp) (by simpa [objLocs] using hn) (by simp [mapVL, mapV, relocIn, hp]) (mapObj_id rfl (by simp) (by simpa [objLocs] using hn))]
  have hi := aInvoke_ms (C := C) (call := call) (g := g) (h := [.arr cells w]) (l := 0) (lo := lo) (ex := ex) hb rfl hl hf hn hc
  have hcp : callP C call g [.ms 0 0 len sz lo ex] [.arr cells w] = some (.ret v, [.arr cells false]) := by
    unfold callP
    rw [hi]
    cases w <;> rfl
  rw [hcp]
  exact aBack_one (by simp only [mapEnd, hv _ (show (relocOut true [l] h.length false [.arr cells false]).cn = true from rfl)]) (mapObj_id rfl (by simp) (by simpa [objLocs] using hn))

/-- a call in a drawn region whose arguments name no object -/
theorem aCoreP_nil {C : Cfg} {call : CallF} {g : FuncId} {args args2 : List AVal} {h : AHeap} (hl : locsL args = []) (hm : mapVL (relocIn true []) args = some args2) (hl2 : locsL args2 = [])
    {v : AVal} (hv : Fix v) (hc : ∀ h', aCore call g args2 h' = some (.ret v, [])) : aCore (callP C call) g args h = some (.ret v, []) := by
  rw [aCore_nil hl hm]
  have hi : aInvoke C call g args2 [] = aCore call g args2 [] := by
    unfold aInvoke prep
    simp only [hl2, List.isEmpty_nil, Bool.or_true, if_true, applyP]
    cases aCore call g args2 [] with
    | none => rfl
    | some x => rfl
  have hcp : callP C call g args2 [] = some (.ret v, []) := by
    unfold callP
    rw [hi, hc]
    rfl
  rw [hcp]
  exact aBack_nil (by simp only [mapEnd, hv _ (show (relocOut true [] h.length false _).cn = true from rfl)])

end Go.Proofs.Ae
