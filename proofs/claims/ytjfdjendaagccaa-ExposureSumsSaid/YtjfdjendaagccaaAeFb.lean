/-
  A region whose order is drawn comes, in every order that its edges allow, to what the first run said.
-/
import Derived.Test.YtjfdjendaagccaaAeFa
namespace Go.Proofs.Ae
open Go

theorem replayT_look : ∀ (es : List Ent) (i : Nat) (t : List AVal) (S : Nat → Bool), (∀ (k : Nat) (e : Ent), es[k]? = some e → dstOk t e.dst = true) → (∀ k, k < es.length → S (i + k) = true) →
    ∀ x, (replayT es t)[x]? = repF updT S i es (fun y => t[y]?) x
  | [], _, _, _, _, _, _ => rfl
  | e :: es, i, t, S, hd, hS, x => by
    simp only [replayT, repF]
    have hs : S i = true := by have := hS 0 (by simp); simpa using this
    have hd0 := hd 0 e (by simp)
    rw [replayT_look es (i + 1) _ S (fun k e' hk => by
      have := hd (k + 1) e' (by simpa using hk)
      unfold dstOk at this ⊢
      rw [aPut_length]; exact this) (fun k hk => by have := hS (k + 1) (by simp; omega); rwa [show i + 1 + k = i + (k + 1) by omega])]
    refine repF_agree updT es (i + 1) _ _ ?_ (fun k e' _ hne => absurd rfl hne)
    simp only [hs, if_true, updT]
    rw [aPut_look hd0]
    split <;> rfl

theorem replayH_look : ∀ (es : List Ent) (i : Nat) (h : AHeap) (S : Nat → Bool), (∀ (k : Nat) (e : Ent), es[k]? = some e → ∀ x, x ∈ e.p → x.1 < h.length) → (∀ k, k < es.length → S (i + k) = true) →
    (replayH es h).length = h.length ∧ ∀ x : Nat, (replayH es h)[x]? = repF updH S i es (fun y => h[y]?) x
  | [], _, _, _, _, _ => ⟨rfl, fun _ => rfl⟩
  | e :: es, i, h, S, hp, hS => by
    have hs : S i = true := by have := hS 0 (by simp); simpa using this
    obtain ⟨a1, a2⟩ := applyP_look e.p h (hp 0 e (by simp))
    obtain ⟨b1, b2⟩ := replayH_look es (i + 1) (applyP h e.p) S (fun k e' hk x hx => by rw [a1]; exact hp (k + 1) e' (by simpa using hk) x hx)
      (fun k hk => by have := hS (k + 1) (by simp; omega); rwa [show i + 1 + k = i + (k + 1) by omega])
    simp only [replayH, repF]
    refine ⟨by rw [b1, a1], fun x => ?_⟩
    rw [b2]
    refine repF_agree updH es (i + 1) _ _ ?_ (fun k e' _ hne => absurd rfl hne)
    simp only [hs, if_true, updH]
    rw [a2]
    cases lookP e.p x <;> rfl

theorem replayH_length : ∀ (es : List Ent) (h : AHeap), (∀ (k : Nat) (e : Ent), es[k]? = some e → ∀ x, x ∈ e.p → x.1 < h.length) → (replayH es h).length = h.length := fun es h hp =>
  (replayH_look es 0 h (fun _ => true) hp (fun _ _ => rfl)).1

/-- the first j entries alone, as a set -/
theorem repF_take {α : Type} (u : Ent → Nat → Option α) (x : Nat) : ∀ (es : List Ent) (i j : Nat) (f : Nat → Option α),
    repF u (fun _ => true) i (es.take j) f x = repF u (fun k => decide (k < i + j)) i es f x
  | [], _, _, _ => by simp [repF]
  | e :: es, i, 0, f => by
    simp only [List.take_zero]
    have : ∀ (es : List Ent) (i0 i : Nat) (f : Nat → Option α), i0 ≤ i → repF u (fun k => decide (k < i0 + 0)) i es f x = f x := by
      intro es
      induction es with
      | nil => intro i0 i f _; rfl
      | cons e es ih =>
        intro i0 i f hi
        simp only [repF]
        rw [ih i0 (i + 1) _ (by omega)]
        have : decide (i < i0 + 0) = false := by simp; omega
        simp only [this, Bool.false_eq_true, if_false]
    rw [this (e :: es) i i f (Nat.le_refl _)]
    rfl
  | e :: es, i, j + 1, f => by
    simp only [List.take_succ_cons, repF]
    rw [repF_take u x es (i + 1) j]
    have h1 : i < i + (j + 1) := by omega
    have h2 : (fun k => decide (k < i + 1 + j)) = (fun k => decide (k < i + (j + 1))) := by funext k; rw [show i + 1 + j = i + (j + 1) by omega]
    rw [h2]
    simp [h1]

structure DrawInv (C : Cfg) (ops : Array Oper) (es : List Ent) (T0 : List AVal) (H0 : AHeap) (E0 : Env) (h0 : AHeap) (w0 : World) (ds : List Deferred) (S : Nat → Bool) (a : Act) (w : World) : Prop where
  ex : ∃ t h E, Good E h w.heap ∧ RvL E t a.tmps.toList ∧ a.defers = ds ∧ Ext E0 h0 w0.heap E h w.heap ∧ WSame w0 w ∧ t.length = T0.length ∧ h.length = H0.length ∧
    (∀ x, t[x]? = repF updT S 0 es (fun y => T0[y]?) x) ∧ (∀ x : Nat, h[x]? = repF updH S 0 es (fun y => H0[y]?) x)

theorem count_set {listed : Array Bool} {i : Nat} (hi : listed.getD i true = false) : ((listed.setIfInBounds i true).toList.filter (· == false)).length + 1 = (listed.toList.filter (· == false)).length := by
  have hlt : i < listed.size := by
    rcases Nat.lt_or_ge i listed.size with h | h
    · exact h
    · rw [Array.getD_eq_getD_getElem?, Array.getElem?_eq_none h] at hi; simp at hi
  have hv : listed.toList[i]? = some false := by
    rw [Array.getD_eq_getD_getElem?, Array.getElem?_eq_getElem hlt] at hi
    simp only [Option.getD_some] at hi
    simp [hlt, hi]
  rw [Array.toList_setIfInBounds]
  generalize listed.toList = l at hv
  clear hi hlt
  induction l generalizing i with
  | nil => simp at hv
  | cons b l ih =>
    cases i with
    | zero =>
      simp only [List.getElem?_cons_zero, Option.some.injEq] at hv
      subst hv
      simp
    | succ i =>
      have := ih (by simpa using hv)
      cases b
      · simp only [List.set_cons_succ, List.filter_cons, beq_self_eq_true, if_true, List.length_cons]; omega
      · simp only [List.set_cons_succ, List.filter_cons]; simpa using this

theorem draw_any {C : Cfg} (ok : C.Ok) {call : CallF} (hcall : CallOk C.P call) {ops : Array Oper} {t : List AVal} {H0 h : AHeap} {es : List Ent} {n0 : Nat}
    (hgo : drawGo C call ops (withSlots C n0 ops.toList) t H0 = some es) (hedge : edgesOk 0 ops.toList = true) (hpairs : pairsOk (befM ops.toList []) 0 es = true)
    {E : Env} {w0 : World} {ds : List Deferred} : ∀ (fuel : Nat) (listed : Array Bool) (a : Act) (w : World), listed.size = ops.size →
      (listed.toList.filter (· == false)).length = fuel →
      (∀ k, listed.getD k false = true → ∀ m, ((befM ops.toList []).getD k 0).testBit m = true → listed.getD m false = true) →
      DrawInv C ops es t H0 E h w0 ds (fun k => listed.getD k false) a w →
      wpAny C.P .any ops (CPost E h w0 ds .normal (replayT es t) (replayH es H0)) fuel listed a w := by
  obtain ⟨hlen0, hspec⟩ := drawGo_spec hgo
  have hlen : es.length = ops.size := by rw [hlen0, withSlots_length]; simp
  -- what is known of each operation
  have ent : ∀ (j : Nat) (o : Oper), ops[j]? = some o → ∃ s e, es[j]? = some e ∧ EntOk C call ops o s e (replayT (es.take j) t) (replayH (es.take j) H0) := fun j o hj => by
    obtain ⟨s, hs⟩ := withSlots_get C ops.toList n0 j o (by simpa using hj)
    obtain ⟨e, h1, h2⟩ := hspec j o s hs
    exact ⟨s, e, h1, h2⟩
  have entOf : ∀ (j : Nat) (e : Ent), es[j]? = some e → ∃ o s, ops[j]? = some o ∧ EntOk C call ops o s e (replayT (es.take j) t) (replayH (es.take j) H0) := fun j e hj => by
    have hjl : j < ops.size := by rw [← hlen]; exact (List.getElem?_eq_some_iff.1 hj).1
    obtain ⟨s, e', h1, h2⟩ := ent j ops[j] (Array.getElem?_eq_getElem hjl)
    rw [hj] at h1
    simp only [Option.some.injEq] at h1
    subst h1
    exact ⟨_, s, Array.getElem?_eq_getElem hjl, h2⟩
  have hdst : ∀ (j : Nat) (e : Ent), es[j]? = some e → dstOk t e.dst = true := fun j e hj => by
    obtain ⟨o, s, _, k⟩ := entOf j e hj
    have := k.ok
    unfold dstOk at this ⊢
    rw [replayT_length] at this
    rw [k.dst]; exact this
  have hpl : ∀ (j : Nat) (e : Ent), es[j]? = some e → ∀ x, x ∈ e.p → x.1 < H0.length := by
    intro j
    induction j using Nat.strongRecOn with
    | _ j ih =>
      intro e hj x hx
      obtain ⟨o, s, _, k⟩ := entOf j e hj
      have := (k.inWr x hx).2
      rwa [replayH_length] at this
      intro i e' hi
      have hij : i < j := by
        have := (List.getElem?_eq_some_iff.1 hi).1
        simp at this; omega
      rw [List.getElem?_take_of_lt hij] at hi
      exact ih i hij e' hi
  have canonT : ∀ j x, (replayT (es.take j) t)[x]? = repF updT (fun k => decide (k < j)) 0 es (fun y => t[y]?) x := fun j x => by
    rw [replayT_look (es.take j) 0 t (fun _ => true) (fun k e hk => by
      have hkj : k < j := by
        have := (List.getElem?_eq_some_iff.1 hk).1
        simp at this; omega
      rw [List.getElem?_take_of_lt hkj] at hk
      exact hdst k e hk) (fun _ _ => rfl), repF_take, Nat.zero_add]
  have canonH : ∀ j, (replayH (es.take j) H0).length = H0.length ∧ ∀ x : Nat, (replayH (es.take j) H0)[x]? = repF updH (fun k => decide (k < j)) 0 es (fun y => H0[y]?) x := fun j => by
    have hb := replayH_look (es.take j) 0 H0 (fun _ => true) (fun k e hk => by
      have hkj : k < j := by
        have := (List.getElem?_eq_some_iff.1 hk).1
        simp at this; omega
      rw [List.getElem?_take_of_lt hkj] at hk
      exact hpl k e hk) (fun _ _ => rfl)
    exact ⟨hb.1, fun x => by rw [hb.2, repF_take, Nat.zero_add]⟩
  -- the end: all are done
  have finish : ∀ (S : Nat → Bool) (a : Act) (w : World), (∀ k, k < ops.size → S k = true) → DrawInv C ops es t H0 E h w0 ds S a w →
      CPost E h w0 ds .normal (replayT es t) (replayH es H0) .normal a w := by
    intro S a w hall ⟨t1, h1, E1, g1, g2, g3, g4, g5, g6, g7, g8, g9⟩
    have e1 : t1 = replayT es t := by
      apply List.ext_getElem?
      intro x
      rw [g8, replayT_look es 0 t S hdst (fun k hk => by rw [Nat.zero_add]; exact hall k (by omega))]
    have hH := replayH_look es 0 H0 S hpl (fun k hk => by rw [Nat.zero_add]; exact hall k (by omega))
    have e2 : h1 = replayH es H0 := by
      apply List.ext_getElem?
      intro x
      rw [g9, hH.2]
    subst e1; subst e2
    exact ⟨E1, .normal, g2, g3, g1, g4, g5⟩
  -- nothing is ready only where all are done
  have allDone : ∀ (listed : Array Bool), listed.size = ops.size → Region.ready .any ops listed = [] → ∀ k, k < ops.size → listed.getD k false = true := by
    intro listed hsz hr k
    induction k using Nat.strongRecOn with
    | _ k ih =>
      intro hk
      cases hl : listed.getD k false with
      | true => rfl
      | false =>
        have hmem : k ∈ Region.ready .any ops listed := by
          rw [mem_ready]
          refine ⟨?_, ops[k], Array.getElem?_eq_getElem hk, fun e he hb => ?_⟩
          · rw [Array.getD_eq_getD_getElem?, Array.getElem?_eq_getElem (by omega)] at hl ⊢
            exact hl
          · have hon := edgesOk_get ops.toList 0 hedge k ops[k] (by simp [hk]) e (by simpa using he) hb
            rw [Nat.zero_add] at hon
            exact ih e.on hon (by omega)
        rw [hr] at hmem
        simp at hmem
  intro fuel
  induction fuel with
  | zero =>
    intro listed a w hsz hc hcl hinv
    have hall : ∀ k, k < ops.size → listed.getD k false = true := fun k hk => by
      have hkl : k < listed.size := by omega
      rw [Array.getD_eq_getD_getElem?, Array.getElem?_eq_getElem hkl]
      simp only [Option.getD_some]
      cases hb : listed[k] with
      | true => rfl
      | false =>
        have : false ∈ listed.toList.filter (· == false) := List.mem_filter.2 ⟨by rw [← hb]; simp, rfl⟩
        rw [List.eq_nil_of_length_eq_zero hc] at this
        simp at this
    refine ⟨?_, finish _ a w hall hinv⟩
    cases hr : Region.ready .any ops listed with
    | nil => rfl
    | cons x xs =>
      have hx : x ∈ Region.ready .any ops listed := by rw [hr]; exact List.mem_cons_self
      rw [mem_ready] at hx
      obtain ⟨h1, o, h2, _⟩ := hx
      have hxl := (Array.getElem?_eq_some_iff.1 h2).1
      have := hall x hxl
      rw [Array.getD_eq_getD_getElem?, Array.getElem?_eq_getElem (by omega)] at this h1
      simp only [Option.getD_some] at this h1
      rw [this] at h1
      simp at h1
  | succ fuel ih =>
    intro listed a w hsz hc hcl hinv
    refine ⟨fun hr => finish _ a w (allDone listed hsz hr) hinv, fun i hi => ?_⟩
    rw [mem_ready] at hi
    obtain ⟨hi0, o, ho, hedges⟩ := hi
    have hil := (Array.getElem?_eq_some_iff.1 ho).1
    have hiF : listed.getD i false = false := by
      rw [Array.getD_eq_getD_getElem?, Array.getElem?_eq_getElem (by omega)] at hi0 ⊢
      exact hi0
    obtain ⟨s, e, hei, hent⟩ := ent i o ho
    -- who comes before i is done
    have hbef : ∀ m, ((befM ops.toList []).getD i 0).testBit m = true → listed.getD m false = true := by
      intro m hm
      have := befM_spec ops.toList [] hedge i o (by simpa using ho) m (by simpa using hm)
      obtain ⟨ed, h1, h2, h3, h4⟩ := this
      have hd := hedges ed (by simpa using h1) h2
      rcases h4 with rfl | h4
      · exact hd
      · exact hcl _ hd m h4
    -- who differs from the first run lies apart
    have apartK : ∀ (k : Nat) (ek : Ent), es[k]? = some ek → k ≠ i → (listed.getD k false) ≠ decide (k < i) → ApartS ek e ∨ ApartS e ek := by
      intro k ek hk hne hdiff
      rcases Nat.lt_or_gt_of_ne hne with hlt | hgt
      · have hkF : listed.getD k false = false := by
          cases hb : listed.getD k false with
          | false => rfl
          | true => rw [hb] at hdiff; simp [hlt] at hdiff
        rcases pairsOk_get _ es 0 hpairs k i ek e hlt hk hei with h1 | h1
        · rw [Nat.zero_add, Nat.zero_add] at h1
          have := hbef k h1
          rw [hkF] at this; simp at this
        · exact .inl (apart_spec h1)
      · have hkT : listed.getD k false = true := by
          cases hb : listed.getD k false with
          | true => rfl
          | false => rw [hb] at hdiff; simp at hdiff; omega
        rcases pairsOk_get _ es 0 hpairs i k e ek hgt hei hk with h1 | h1
        · rw [Nat.zero_add, Nat.zero_add] at h1
          have := hcl k hkT i h1
          rw [hiF] at this; simp at this
        · exact .inr (apart_spec h1)
    obtain ⟨t1, h1, E1, g1, g2, g3, g4, g5, g6, g7, g8, g9⟩ := hinv
    have wrP : ∀ (k : Nat) (ek : Ent), es[k]? = some ek → ∀ l o', updH ek l = some o' → l ∈ ek.wr := fun k ek hk l o' hl => by
      obtain ⟨x, hx1, hx2⟩ := lookP_mem hl
      obtain ⟨_, _, _, kk⟩ := entOf k ek hk
      rw [← hx2]; exact (kk.inWr x hx1).1
    -- the slots and objects that the operation looks at are as in the first run
    have agreeT : ∀ x, x ∈ o.looksAt ops → t1[x]? = (replayT (es.take i) t)[x]? := fun x hx => by
      rw [g8, canonT]
      refine repF_agree updT es 0 _ _ rfl fun k ek hk hne => ?_
      rw [Nat.zero_add] at hne
      have hki : k ≠ i := fun h => by subst h; rw [hiF] at hne; simp at hne
      unfold updT
      split
      · rename_i hd
        rcases apartK k ek hk hki hne with hA | hA
        · have := (hA.dl x hd).1; rw [hent.looks] at this; exact absurd hx this
        · have := hA.ld x hd; rw [hent.looks] at this; exact absurd hx this
      · rfl
    have agreeH : ∀ l, l ∈ e.rd ∨ l ∈ e.wr → h1[l]? = (replayH (es.take i) H0)[l]? := fun l hl => by
      rw [g9, (canonH i).2]
      refine repF_agree updH es 0 _ _ rfl fun k ek hk hne => ?_
      rw [Nat.zero_add] at hne
      have hki : k ≠ i := fun h => by subst h; rw [hiF] at hne; simp at hne
      cases hu : updH ek l with
      | none => rfl
      | some o' =>
        have hw := wrP k ek hk l o' hu
        rcases apartK k ek hk hki hne with hA | hA
        · have := hA.w l hw
          rcases hl with hl | hl
          · exact absurd hl this.1
          · exact absurd hl this.2
        · rcases hl with hl | hl
          · exact absurd hw (hA.r l hl)
          · exact absurd hw (hA.w l hl).2
    -- nobody of those that are done, and come later, writes what this one writes
    have laterT : ∀ x, e.dst = some x → ∀ (k : Nat) (ek : Ent), es[k]? = some ek → i < k → (listed.setIfInBounds i true).getD k false = true → updT ek x = none := by
      intro x hx k ek hk hlt hS
      rw [getD_set_ne false (by omega)] at hS
      have hne : listed.getD k false ≠ decide (k < i) := by rw [hS]; simp; omega
      unfold updT
      split
      · rename_i hd
        rcases apartK k ek hk (by omega) hne with hA | hA
        · exact absurd hx (hA.dl x hd).2
        · exact absurd hd (hA.dl x hx).2
      · rfl
    have laterH : ∀ l o', updH e l = some o' → ∀ (k : Nat) (ek : Ent), es[k]? = some ek → i < k → (listed.setIfInBounds i true).getD k false = true → updH ek l = none := by
      intro l o' hl k ek hk hlt hS
      rw [getD_set_ne false (by omega)] at hS
      have hne : listed.getD k false ≠ decide (k < i) := by rw [hS]; simp; omega
      have hw := wrP i e hei l o' hl
      cases hu : updH ek l with
      | none => rfl
      | some o'' =>
        have hw' := wrP k ek hk l o'' hu
        rcases apartK k ek hk (by omega) hne with hA | hA
        · exact absurd hw (hA.w l hw').2
        · exact absurd hw' (hA.w l hw).2
    have setT : (listed.setIfInBounds i true).getD i false = true := by
      rw [Array.getD_eq_getD_getElem?]; simp [show i < listed.size by omega]
    -- what the next state is
    have next : ∀ (u : Value) (w' : World) (E' : Env), Rv E' e.v u → Good E' (applyP h1 e.p) w'.heap → Ext E1 h1 w.heap E' (applyP h1 e.p) w'.heap → WSame w w' →
        wpAny C.P .any ops (CPost E h w0 ds .normal (replayT es t) (replayH es H0)) fuel (listed.setIfInBounds i true) (a.put o.dst u) w' := by
      intro u w' E' hu hg hx hs
      obtain ⟨q1, q2⟩ := applyP_look e.p h1 (fun x hx => by rw [g7]; exact hpl i e hei x hx)
      refine ih _ _ _ (by simpa using hsz) (by have := count_set hi0; omega) ?_ ⟨aPut t1 o.dst e.v, applyP h1 e.p, E', hg, rvl_put (RvL.mono hx.le g2) o.dst hu, by rw [put_defers]; exact g3, g4.trans hx, g5.trans hs,
        by rw [aPut_length]; exact g6, by rw [q1]; exact g7, fun x => ?_, fun l => ?_⟩
      · intro k hk m hm
        by_cases hki : k = i
        · subst hki; exact getD_set_true (hbef m hm)
        · rw [getD_set_ne false (Ne.symm hki)] at hk
          exact getD_set_true (hcl k hk m hm)
      · have hdo : dstOk t1 o.dst = true := by
          have := hdst i e hei
          rw [hent.dst] at this
          unfold dstOk at this ⊢
          rw [g6]; exact this
        rw [aPut_look hdo]
        by_cases hxd : o.dst = some x
        · rw [if_pos hxd]
          exact (repF_last updT es 0 _ i e hei (by rw [Nat.zero_add]; exact setT) (by simp [updT, hent.dst, hxd])
            fun k ek hk hlt hS => laterT x (by rw [hent.dst]; exact hxd) k ek hk hlt (by rwa [Nat.zero_add] at hS)).symm
        · rw [if_neg hxd, g8]
          refine repF_agree updT es 0 _ _ rfl fun k ek hk hne => ?_
          rw [Nat.zero_add] at hne
          by_cases hki : k = i
          · subst hki
            rw [hei] at hk
            simp only [Option.some.injEq] at hk
            subst hk
            simp [updT, hent.dst, hxd]
          · rw [getD_set_ne false (Ne.symm hki)] at hne
            exact absurd rfl hne
      · rw [q2]
        cases hl : lookP e.p l with
        | some o' =>
          exact (repF_last updH es 0 _ i e hei (by rw [Nat.zero_add]; exact setT) hl fun k ek hk hlt hS => laterH l o' hl k ek hk hlt (by rwa [Nat.zero_add] at hS)).symm
        | none =>
          simp only
          rw [g9]
          refine repF_agree updH es 0 _ _ rfl fun k ek hk hne => ?_
          rw [Nat.zero_add] at hne
          by_cases hki : k = i
          · subst hki
            rw [hei] at hk
            simp only [Option.some.injEq] at hk
            subst hk
            exact hl
          · rw [getD_set_ne false (Ne.symm hki)] at hne
            exact absurd rfl hne
    unfold wpOp
    simp only [ho]
    rcases hent.run with ⟨r1, r2, r3⟩ | ⟨r1, r2, r3⟩
    · have hw := wanted_rel (wanted_congr (ops := ops) (o := o) agreeT ▸ r1) g2
      rw [if_neg (by rw [hw]; simp)]
      have := next undef w E1 (by rw [r2]; exact rv_undef) (by rw [r3]; exact g1) (by rw [r3]; exact .refl _ _ _) (.refl _)
      exact this
    · have hw := wanted_rel (wanted_congr (ops := ops) (o := o) agreeT ▸ r1) g2
      rw [if_pos hw]
      refine .inl ?_
      have hst := step_frame (ops := ops) (h' := h1) (t' := t1) r2 agreeT (by rw [(canonH i).1]; exact g7) (fun l hl => by rw [r3] at hl; exact agreeH l hl)
      refine sound_step ok hcall g1 hst g2 (fun v' u w' E' hv hu hg hx hs => ?_) (fun v' u w' E' hv => by simp at hv)
      simp only [AEnd.ret.injEq] at hv
      subst hv
      exact next u w' E' hu hg hx hs

theorem live_dead {h : AHeap} {n l : Nat} : Live (h ++ List.replicate n .dead) l ↔ Live h l := by
  constructor
  · rintro ⟨o, h1, h2⟩
    by_cases hl : l < h.length
    · rw [List.getElem?_append_left hl] at h1; exact ⟨o, h1, h2⟩
    · rw [List.getElem?_append_right (by omega), List.getElem?_replicate] at h1
      split at h1
      · simp at h1; exact absurd h1.symm h2
      · simp at h1
  · rintro ⟨o, h1, h2⟩
    have hl : l < h.length := (List.getElem?_eq_some_iff.1 h1).1
    exact ⟨o, by rw [List.getElem?_append_left hl]; exact h1, h2⟩

theorem good_dead {E : Env} {h : AHeap} {H : Array Obj} (g : Good E h H) (n : Nat) : Good E (h ++ List.replicate n .dead) H ∧ Ext E h H E (h ++ List.replicate n .dead) H := by
  have get : ∀ (l : Nat) (o : AObj), o ≠ .dead → (h ++ List.replicate n .dead)[l]? = some o → h[l]? = some o := fun l o ho e => by
    obtain ⟨o', h1, h2⟩ := live_dead.1 ⟨o, e, ho⟩
    have hl : l < h.length := (List.getElem?_eq_some_iff.1 h1).1
    rwa [List.getElem?_append_left hl] at e
  exact ⟨⟨g.fm, fun l cells wr e => g.arr l cells wr (get l _ (by simp) e), fun l es e => g.mp l es (get l _ (by simp) e), fun l l' h1 h2 => g.inj l l' (live_dead.1 h1) (live_dead.1 h2),
    fun l hd => g.dead l fun hl => hd (live_dead.2 hl)⟩, .refl E, Nat.le_refl _, by simp, fun _ _ _ => ⟨rfl, rfl⟩, fun l hl => .inl ⟨live_dead.1 hl, rfl⟩⟩

theorem sound_draw {C : Cfg} (ok : C.Ok) {call : CallF} (hcall : CallOk C.P call) {ops : Array Oper} {id : Nat} {t : List AVal} {h : AHeap} {x : AExit} {t' : List AVal} {h' : AHeap}
    (hr : aDraw C call ops t h = some (x, t', h')) {E : Env} {w : World} {a : Act} (g : Good E h w.heap) (ht : RvL E t a.tmps.toList) :
    (Code.region id ops true).wp C.P (CPost E h w a.defers x t' h') a w := by
  unfold aDraw at hr
  simp only at hr
  split at hr
  · rename_i es hgo
    split at hr
    · rename_i hc
      simp only [Bool.and_eq_true] at hc
      simp only [Option.some.injEq, Prod.mk.injEq] at hr
      obtain ⟨rfl, rfl, rfl⟩ := hr
      obtain ⟨gd, gx⟩ := good_dead g (nSlots C ops.toList)
      refine wp_region_any ok.mixed ?_
      refine draw_any ok hcall hgo hc.1 hc.2 ops.size _ a _ (by simp) (by simp) ?_ ⟨t, _, E, gd, ht, rfl, gx, ⟨rfl, rfl, rfl⟩, rfl, rfl, fun x => ?_, fun l => ?_⟩
      · intro k hk
        rw [Array.getD_eq_getD_getElem?, Array.getElem?_replicate] at hk
        split at hk <;> simp at hk
      · have : ∀ (es : List Ent) (i : Nat) (f : Nat → Option AVal), repF updT (fun k => (Array.replicate ops.size false).getD k false) i es f x = f x := by
          intro es
          induction es with
          | nil => intro i f; rfl
          | cons e es ih =>
            intro i f
            simp only [repF]
            rw [ih]
            have : (Array.replicate ops.size false).getD i false = false := by
              rw [Array.getD_eq_getD_getElem?, Array.getElem?_replicate]; split <;> rfl
            simp [this]
        rw [this]
      · have : ∀ (es : List Ent) (i : Nat) (f : Nat → Option AObj), repF updH (fun k => (Array.replicate ops.size false).getD k false) i es f l = f l := by
          intro es
          induction es with
          | nil => intro i f; rfl
          | cons e es ih =>
            intro i f
            simp only [repF]
            rw [ih]
            have : (Array.replicate ops.size false).getD i false = false := by
              rw [Array.getD_eq_getD_getElem?, Array.getElem?_replicate]; split <;> rfl
            simp [this]
        rw [this]
    · simp at hr
  · simp at hr

end Go.Proofs.Ae
