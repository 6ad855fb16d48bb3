/-
  An operation of a drawn region depends on nothing but what it looks at.
-/
import Derived.Test.YtjfdjendaagccaaAeF
namespace Go.Proofs.Ae
open Go

section
variable {h h' : AHeap} {s : Option Nat}

theorem freeIdx_congr (hl : h'.length = h.length) (hs : ∀ l, l ∈ s.toList → h'[l]? = h[l]?) : freeIdx h' s = freeIdx h s := by
  cases s with
  | none => rfl
  | some k => simp only [freeIdx, hs k (by simp), hl]

theorem aNew_congr (hl : h'.length = h.length) (hs : ∀ l, l ∈ s.toList → h'[l]? = h[l]?) (cells : List AVal) : aNew h' s cells = aNew h s cells := by
  unfold aNew; rw [freeIdx_congr hl hs]

theorem newSlice_congr (hl : h'.length = h.length) (hs : ∀ l, l ∈ s.toList → h'[l]? = h[l]?) (cells : List AVal) (len sz lo : Nat) (ex : Bool) :
    newSlice h' s cells len sz lo ex = newSlice h s cells len sz lo ex := by
  unfold newSlice; rw [freeIdx_congr hl hs]

theorem srcCells_congr {x : AVal} (hx : ∀ l, l ∈ locs x → h'[l]? = h[l]?) (sz : Nat) : srcCells h' sz x = srcCells h sz x := by
  cases x with
  | ms l off len sz' lo ex => simp only [srcCells, hx l (by simp [locs])]
  | sc v =>
    cases v with
    | slice a n c => cases a <;> rfl
    | _ => rfl
  | _ => rfl

theorem aLoad_congr (C : Cfg) (t : TypeId) {a : AVal} (hx : ∀ l, l ∈ locs a → h'[l]? = h[l]?) : aLoad C h' t a = aLoad C h t a := by
  cases a with
  | ptr l off lim => simp only [aLoad, hx l (by simp [locs])]
  | _ => rfl

theorem aStore_congr (C : Cfg) (t : TypeId) {a x : AVal} (hx : ∀ l, l ∈ locs a → h'[l]? = h[l]?) : aStore C h' t a x = aStore C h t a x := by
  cases a with
  | ptr l off lim => simp only [aStore, hx l (by simp [locs])]
  | _ => rfl

theorem aToString_congr (C : Cfg) (a b : TypeId) {x : AVal} (hx : ∀ l, l ∈ locs x → h'[l]? = h[l]?) : aToString C h' a b x = aToString C h a b x := by
  unfold aToString; rw [srcCells_congr hx]

theorem aAppend_congr (C : Cfg) (hl : h'.length = h.length) (hs : ∀ l, l ∈ s.toList → h'[l]? = h[l]?) (sT xT : TypeId) {y x : AVal} (hy : ∀ l, l ∈ locs y → h'[l]? = h[l]?)
    (hx : ∀ l, l ∈ locs x → h'[l]? = h[l]?) : aAppend C h' s sT xT y x = aAppend C h s sT xT y x := by
  have key : ∀ sz, srcCells h' sz x = srcCells h sz x := srcCells_congr hx
  cases y with
  | ms l off len sz lo ex =>
    have := hy l (by simp [locs])
    simp only [aAppend, key, newSlice_congr hl hs, this]
  | sc v =>
    simp only [aAppend, key, newSlice_congr hl hs]
    cases v with
    | slice a n c =>
      cases a with
      | some a => rfl
      | none =>
        cases n with
        | succ n => rfl
        | zero => cases c <;> rfl
    | _ => rfl
  | fs cells len cap =>
    simp only [aAppend, key, newSlice_congr hl hs]
    cases cap <;> rfl
  | _ => simp only [aAppend, key]

theorem aCopy_congr (C : Cfg) (dT : TypeId) {y x : AVal} (hy : ∀ l, l ∈ locs y → h'[l]? = h[l]?) (hx : ∀ l, l ∈ locs x → h'[l]? = h[l]?) : aCopy C h' dT y x = aCopy C h dT y x := by
  have key : ∀ sz, srcCells h' sz x = srcCells h sz x := srcCells_congr hx
  cases y with
  | ms l off len sz lo ex =>
    have := hy l (by simp [locs])
    simp only [aCopy, key, this]
  | sc v =>
    simp only [aCopy, key]
    cases v with
    | slice a n c => cases a <;> rfl
    | _ => rfl
  | _ => simp only [aCopy, key]

theorem aClear_congr (C : Cfg) (t : TypeId) {x : AVal} (hx : ∀ l, l ∈ locs x → h'[l]? = h[l]?) : aClear C h' t x = aClear C h t x := by
  cases x with
  | ms l off len sz lo ex =>
    have := hx l (by simp [locs])
    cases len with
    | zero => rfl
    | succ n => simp only [aClear, this]
  | sc v =>
    cases v with
    | slice a n c => cases a <;> rfl
    | _ => rfl
  | fs cells len cap => cases len <;> rfl
  | _ => rfl

/-! ### what a call reaches -/
theorem addN_sub (acc : List Nat) (x : Nat) : ∀ y, y ∈ acc → y ∈ addN acc x := fun y hy => by
  unfold addN; split
  · exact hy
  · simp [hy]

theorem foldl_addN_sub : ∀ (l acc : List Nat) (y : Nat), y ∈ acc → y ∈ l.foldl addN acc
  | [], _, _, h => h
  | x :: l, acc, y, h => foldl_addN_sub l _ y (addN_sub acc x y h)

theorem reach_sub : ∀ (n : Nat) (h : AHeap) (L : List Nat) (x : Nat), x ∈ L → x ∈ reach n h L
  | 0, _, _, _, hx => hx
  | n + 1, h, L, x, hx => by
    simp only [reach]
    split
    · exact hx
    · exact reach_sub n h _ x (foldl_addN_sub _ _ x hx)

theorem flatMap_congr' {f g : Nat → List Nat} : ∀ (l : List Nat), (∀ x, x ∈ l → f x = g x) → l.flatMap f = l.flatMap g
  | [], _ => rfl
  | x :: l, h => by
    simp only [List.flatMap_cons]
    rw [h x List.mem_cons_self, flatMap_congr' l fun y hy => h y (List.mem_cons_of_mem _ hy)]

theorem reach_congr : ∀ (n : Nat) (L : List Nat), (∀ x, x ∈ reach n h L → h'[x]? = h[x]?) → reach n h' L = reach n h L
  | 0, _, _ => rfl
  | n + 1, L, ha => by
    have hL : ∀ x, x ∈ L → h'[x]? = h[x]? := fun x hx => ha x (reach_sub (n + 1) h L x hx)
    have hf : L.flatMap (olocs h') = L.flatMap (olocs h) := flatMap_congr' L fun x hx => by unfold olocs; rw [hL x hx]
    simp only [reach, hf]
    by_cases hc : ((L.flatMap (olocs h)).foldl addN L).length = L.length
    · rw [if_pos hc, if_pos hc]
    · rw [if_neg hc, if_neg hc]
      refine reach_congr n _ fun x hx => ha x ?_
      simp only [reach]
      rw [if_neg hc]
      exact hx

theorem subHeap_congr {L : List Nat} : ∀ (ls : List Nat), (∀ x, x ∈ ls → h'[x]? = h[x]?) → subHeap h' L ls = subHeap h L ls
  | [], _ => rfl
  | l :: ls, ha => by
    simp only [subHeap]
    rw [ha l List.mem_cons_self, subHeap_congr ls fun x hx => ha x (List.mem_cons_of_mem _ hx)]

theorem aCore_congr (call : CallF) (g : FuncId) (args : List AVal) (hl : h'.length = h.length) (ha : ∀ x, x ∈ reach 8 h (nub (locsL args)) → h'[x]? = h[x]?) : aCore call g args h' = aCore call g args h := by
  unfold aCore
  rw [reach_congr 8 _ ha, hl]
  simp only
  rw [subHeap_congr _ ha]
end

theorem eval_congr {t t' : List AVal} {x : Operand} (hx : ∀ d, x = .tmp d → t'[d]? = t[d]?) : aEval t' x = aEval t x := by
  cases x with
  | tmp d => simp only [aEval, List.getD_eq_getElem?_getD]; rw [hx d rfl]
  | _ => rfl

theorem map_eval {t t' : List AVal} {ops : Array Operand} (hx : ∀ x, x ∈ ops → aEval t' x = aEval t x) : ops.toList.map (aEval t') = ops.toList.map (aEval t) :=
  List.map_congr_left fun x h => hx x (by simpa using h)

theorem special_eval {C : Cfg} {h : AHeap} {s : Option Nat} {t t' : List AVal} {op : Op} (ha : ∀ x, x ∈ op.operands → aEval t' x = aEval t x) :
    aSpecial C h s (aEval t') op = aSpecial C h s (aEval t) op := by
  cases op with
  | move x => simp only [aSpecial, ha x (by simp [Op.operands])]
  | assign x => simp only [aSpecial, ha x (by simp [Op.operands])]
  | pick c x y => simp only [aSpecial, ha c (by simp [Op.operands]), ha x (by simp [Op.operands]), ha y (by simp [Op.operands])]
  | alloc ty => simp only [aSpecial]
  | box ty x => simp only [aSpecial, ha x (by simp [Op.operands])]
  | build ty ps =>
    have : (ps.toList.map fun p => (p.1, aEval t' p.2)) = ps.toList.map fun p => (p.1, aEval t p.2) :=
      List.map_congr_left fun p hp => by
        rw [ha p.2 (by simp only [Op.operands]; simp; exact ⟨p.1, by simpa using hp⟩)]
    simp only [aSpecial, this]
  | buildSlice ty n ps =>
    have : (ps.toList.map fun p => (p.1, aEval t' p.2)) = ps.toList.map fun p => (p.1, aEval t p.2) :=
      List.map_congr_left fun p hp => by
        rw [ha p.2 (by simp only [Op.operands]; simp; exact ⟨p.1, by simpa using hp⟩)]
    simp only [aSpecial, this]
  | load ty x => simp only [aSpecial, ha x (by simp [Op.operands])]
  | store ty x y => simp only [aSpecial, ha x (by simp [Op.operands]), ha y (by simp [Op.operands])]
  | nilCheck x => simp only [aSpecial, ha x (by simp [Op.operands])]
  | fieldAddr ty x f => simp only [aSpecial, ha x (by simp [Op.operands])]
  | field ty x f => simp only [aSpecial, ha x (by simp [Op.operands])]
  | indexAddr ty x i => simp only [aSpecial, ha x (by simp [Op.operands]), ha i (by simp [Op.operands])]
  | index ty x i => simp only [aSpecial, ha x (by simp [Op.operands]), ha i (by simp [Op.operands])]
  | slice ty x lo hi mx =>
    have h0 := ha x (by simp [Op.operands])
    have hlo : lo.map (aEval t') = lo.map (aEval t) := by cases lo <;> simp; exact ha _ (by simp [Op.operands])
    have hhi : hi.map (aEval t') = hi.map (aEval t) := by cases hi <;> simp; exact ha _ (by simp [Op.operands])
    have hmx : mx.map (aEval t') = mx.map (aEval t) := by cases mx <;> simp; exact ha _ (by simp [Op.operands])
    simp only [aSpecial, h0, hlo, hhi, hmx]
  | extract x i => simp only [aSpecial, ha x (by simp [Op.operands])]
  | makeInterface ty x => simp only [aSpecial, ha x (by simp [Op.operands])]
  | makeFunc fn fi ca =>
    simp only [aSpecial, map_eval (ops := fi) fun x hx => ha x (by simp [Op.operands, hx]), map_eval (ops := ca) fun x hx => ha x (by simp [Op.operands, hx])]
  | makeSlice ty x y => simp only [aSpecial, ha x (by simp [Op.operands]), ha y (by simp [Op.operands])]
  | convert a b x => simp only [aSpecial, ha x (by simp [Op.operands])]
  | binOp op ty x y yt =>
    have h1 := ha x (by simp [Op.operands])
    have h2 := ha y (by simp [Op.operands])
    cases op <;> simp only [aSpecial, h1, h2]
  | call c =>
    unfold aSpecial
    split <;> rename_i heq <;> (try (simp at heq; done)) <;> (try rfl)
    · cases heq
      rename_i s' x' _ _
      rw [ha s' (by simp [Op.operands, Call.operands]), ha x' (by simp [Op.operands, Call.operands])]
    · cases heq
      rename_i s' x' _ _
      rw [ha s' (by simp [Op.operands, Call.operands]), ha x' (by simp [Op.operands, Call.operands])]
    · cases heq
      rename_i x' _
      rw [ha x' (by simp [Op.operands, Call.operands])]
    · cases heq
      rename_i x' _
      rw [ha x' (by simp [Op.operands, Call.operands])]
  | _ => simp only [aSpecial]

theorem fast_eval {C : Cfg} {t t' : List AVal} {op : Op} (ha : ∀ x, x ∈ op.operands → aEval t' x = aEval t x) : aFast C (aEval t') op = aFast C (aEval t) op := by
  cases op with
  | convert a b x => simp only [aFast, ha x (by simp [Op.operands])]
  | unOp a b x => simp only [aFast, ha x (by simp [Op.operands])]
  | binOp op ty x y yt => simp only [aFast, ha x (by simp [Op.operands]), ha y (by simp [Op.operands])]
  | _ => rfl

theorem conc_eval {C : Cfg} {t t' : List AVal} {o : Oper} (hns : ∀ cs b, o.op ≠ .select cs b) (ha : ∀ x, x ∈ o.op.operands → aEval t' x = aEval t x) : aConc C o t' = aConc C o t := by
  have hall : o.op.operands.toList.all (fun x => (conc (aEval t' x)).isSome) = o.op.operands.toList.all (fun x => (conc (aEval t x)).isSome) := by
    rw [Bool.eq_iff_iff, List.all_eq_true, List.all_eq_true]
    constructor
    · intro k x hx; rw [← ha x (by simpa using hx)]; exact k x hx
    · intro k x hx; rw [ha x (by simpa using hx)]; exact k x hx
  have hex : execOp (concEval t') o = execOp (concEval t) o := execOp_congr o hns fun x hx => by simp only [concEval, ha x hx]
  unfold aConc
  rw [hall, hex]

theorem special_heap {C : Cfg} {h h' : AHeap} {s : Option Nat} {t : List AVal} {o : Oper} (hl : h'.length = h.length) (hf : ∀ l, l ∈ (foot h s t o).1 ∨ l ∈ (foot h s t o).2 → h'[l]? = h[l]?) :
    aSpecial C h' s (aEval t) o.op = aSpecial C h s (aEval t) o.op := by
  obtain ⟨dst, op, type, pos, after, guard⟩ := o
  simp only [foot] at hf
  cases op <;> simp only [] at hf ⊢
  case alloc ty =>
    have hs : ∀ l, l ∈ s.toList → h'[l]? = h[l]? := fun l hl => hf l (.inr hl)
    simp only [aSpecial, aAlloc, aNew_congr hl hs]
  case box ty x =>
    have hs : ∀ l, l ∈ s.toList → h'[l]? = h[l]? := fun l hl => hf l (.inr hl)
    simp only [aSpecial, aBox, aNew_congr hl hs]
  case buildSlice ty n ps =>
    have hs : ∀ l, l ∈ s.toList → h'[l]? = h[l]? := fun l hl => hf l (.inr hl)
    simp only [aSpecial, aBuildSlice, newSlice_congr hl hs]
  case makeSlice ty x y =>
    have hs : ∀ l, l ∈ s.toList → h'[l]? = h[l]? := fun l hl => hf l (.inr hl)
    simp only [aSpecial, aMakeSlice, newSlice_congr hl hs]
  case load ty x => simp only [aSpecial, aLoad_congr C ty fun l hl => hf l (.inl hl)]
  case store ty x y => simp only [aSpecial, aStore_congr C ty fun l hl => hf l (.inr hl)]
  case convert a b x =>
    have hs : ∀ l, l ∈ s.toList → h'[l]? = h[l]? := fun l hl => hf l (.inr hl)
    have hx : ∀ l, l ∈ locs (aEval t x) → h'[l]? = h[l]? := fun l hl => hf l (.inl hl)
    simp only [aSpecial]
    split <;> rename_i heq <;> (try rfl)
    · split
      · simp only [aToBytes, newSlice_congr hl hs]
      · rfl
    all_goals
      rw [← heq, aToString_congr C a b hx]
  case call c =>
    unfold aSpecial
    split <;> rename_i heq <;> (try (simp at heq; done)) <;> (try rfl)
    · cases heq
      simp only [] at hf
      refine aAppend_congr C hl (fun l hl => hf l (.inr (by simp [hl]))) _ _ (fun l hl => hf l (.inr (by simp [hl]))) (fun l hl => hf l (.inr (by simp [hl])))
    · cases heq
      simp only [] at hf
      exact aCopy_congr C _ (fun l hl => hf l (.inr (by simp [hl]))) (fun l hl => hf l (.inr (by simp [hl])))
    · cases heq
      simp only [] at hf
      exact aClear_congr C _ (fun l hl => hf l (.inr (by simp [hl])))
  case binOp op ty x y yt => cases op <;> rfl
  all_goals rfl

theorem step_frame {C : Cfg} {call : CallF} {ops : Array Oper} {h h' : AHeap} {s : Option Nat} {t t' : List AVal} {o : Oper} {r : AEnd × Patch} (hr : aStep C call true h s t o = some r)
    (ht : ∀ x, x ∈ o.looksAt ops → t'[x]? = t[x]?) (hl : h'.length = h.length) (hf : ∀ l, l ∈ (foot h s t o).1 ∨ l ∈ (foot h s t o).2 → h'[l]? = h[l]?) :
    aStep C call true h' s t' o = some r := by
  have ha : ∀ x, x ∈ o.op.operands → aEval t' x = aEval t x := fun x hx => eval_congr fun d hd => ht d (by
    subst hd
    exact List.mem_append_left _ (List.mem_filterMap.2 ⟨.tmp d, by simpa using hx, rfl⟩))
  have hop : (∀ cs b, o.op ≠ .select cs b) → aOp C h' s t' o = aOp C h s t o := fun hns => by
    unfold aOp
    rw [fast_eval ha, special_eval ha, special_heap hl hf, conc_eval hns ha]
  rw [← hr]
  obtain ⟨dst, op, type, pos, after, guard⟩ := o
  unfold aStep
  simp only
  split
  · rename_i f args argTs
    have hfe : aEval t' f = aEval t f := ha f (by simp [Op.operands, Call.operands])
    have hae : args.toList.map (aEval t') = args.toList.map (aEval t) := map_eval fun x hx => ha x (by simp [Op.operands, Call.operands, hx])
    simp only [hfe, hae]
    split
    · rename_i g fi ca hcl
      split
      · simp only [if_true]
        refine aCore_congr _ g _ hl fun x hx => hf x (.inr ?_)
        simp only [foot, hcl]
        exact hx
      · rfl
    · rfl
  · rename_i x
    simp only [ha x (by simp [Op.operands])]
  · rfl
  · rename_i hn1 hn2 hn3
    have := hop (fun cs b hh => hn3 cs b hh)
    rw [this]

theorem wanted_congr {ops : Array Oper} {t t' : List AVal} {o : Oper} (ht : ∀ x, x ∈ o.looksAt ops → t'[x]? = t[x]?) : aWanted ops t' o = aWanted ops t o := by
  unfold aWanted
  cases hg : o.guard with
  | none => rfl
  | some gw =>
    obtain ⟨j, want⟩ := gw
    simp only
    cases hj : ops[j]? with
    | none => rfl
    | some x =>
      simp only
      cases hd : x.dst with
      | none => rfl
      | some d =>
        have : d ∈ o.looksAt ops := by simp [Oper.looksAt, hg, hj, hd]
        simp only [ht d this]

end Go.Proofs.Ae
