/-
  The statement ExposureSums holds: of any codes it returns true, and leaves its argument as it was. No further condition.
-/
import Derived.Test.YtjfdjendaagccaaRows
import Derived.Test.YtjfdjendaagccaaLift
import Derived.ProofKit
import Derived.ChangeSlices
namespace Go.Proofs.Ytjfdjendaagccaa
open Go.ChangeShapes Go.WideShapes Go.ChangeAt Go.RowKit
open Go Go.Proofs Go.Proofs.Ae
set_option linter.unusedSimpArgs false
set_option linter.unusedVariables false
set_option linter.unnecessarySimpa false

theorem Try.own : ownKnob Try.prog.godebug = none := by kernel_rfl
theorem Try.laidOut : laidOutB Try.prog = true := by kernel_rfl

theorem rv_bytes {W : World} {a : Addr} {len cap : Nat} {zs : List Int} (hl : len ≤ cap) (hz : len ≤ zs.length) (hw : ∀ n, n ∈ zs → 0 ≤ n ∧ n < 256)
    (hc : ∀ i, i < zs.length → W.cell? (a.add i) = some (.int .u8 (zs.getD i 0))) :
    ∃ (E : Env) (L : List UInt8), Ae.Good E [] W.heap ∧ Rv E (.fs (encB L) L.length none) (.slice (some a) len cap) := by
  by_cases h0 : len = 0
  · subst h0
    exact ⟨env0, [], good_env0 _, .fs0 a none cap fun c h => by simp at h⟩
  · obtain ⟨b, off, spot⟩ := a
    have hfirst := hc 0 (by omega)
    have hsp : spot = none := by
      have : (⟨b, off, spot⟩ : Addr).add 0 = ⟨b, off, spot⟩ := by simp [Addr.add]
      rw [this] at hfirst
      simp only [World.cell?] at hfirst
      split at hfirst
      · cases spot with
        | none => rfl
        | some s => simp at hfirst
      · simp at hfirst
    subst hsp
    have hblock : ∃ c T fr, W.heap[b]? = some (.cells c T fr) := by
      rw [add_flat] at hfirst
      simp only [World.cell?] at hfirst
      split at hfirst
      · exact ⟨_, _, _, by assumption⟩
      · simp at hfirst
    obtain ⟨c, T, fr, hb⟩ := hblock
    have hget : ∀ i, i < zs.length → c[off + i]? = some (.int .u8 (zs.getD i 0)) := fun i hi => by
      have := hc i hi
      rwa [add_flat, cell_at hb] at this
    let L : List UInt8 := (zs.take len).map fun n => UInt8.ofNat n.toNat
    have hLl : L.length = len := by simp [L]; omega
    have hvs : (L.map fun x => Value.int .u8 (x.toNat : Int)) <+: c.toList.drop off := by
      rw [List.prefix_iff_eq_take]
      apply List.ext_getElem?
      intro i
      by_cases hi : i < len
      · have h1 : (L.map fun x => Value.int .u8 (x.toNat : Int))[i]? = some (.int .u8 (zs.getD i 0)) := by
          have hzi : i < zs.length := by omega
          have hm := hw zs[i] (List.getElem_mem hzi)
          have e1 : ((UInt8.ofNat zs[i].toNat).toNat : Int) = zs[i] := by
            rw [UInt8.toNat_ofNat', Nat.mod_eq_of_lt (by omega)]
            omega
          simp only [L, List.getElem?_map, List.getElem?_take_of_lt hi, List.getElem?_eq_getElem hzi, Option.map_some, e1]
          simp [List.getD_eq_getElem?_getD, hzi]
        rw [h1, List.getElem?_take_of_lt (by simp [hLl]; exact hi), List.getElem?_drop]
        have := hget i (by omega)
        rw [← this]
        simp
      · rw [List.getElem?_eq_none (by simp [hLl]; omega), List.getElem?_eq_none (by simp [hLl]; omega)]
    refine ⟨env1 b c.toList, L, good_env1 hb, ?_⟩
    rw [← hLl]
    refine .fs _ _ none b off cap c.toList _ (by omega) (fun c h => by simp at h) (by simp [env1]) hvs ?_
    have := RvL.map_sc (E := (env1 b c.toList).pure) (L.map fun x => Value.int .u8 (x.toNat : Int))
    rwa [List.map_map] at this

set_option maxRecDepth 100000 in
theorem f_lifted (os : Os) (started : os.Started) (H : Type) (enc : TypeId × Value → H) :
    ReturnsInHanded {} Try.checked os 3 .any (Rows.exposureSumsSpec.pre6 enc Try.prog Try.f3 Rows.exposureSumsRow.domain false) (Rows.exposureSumsSpec.post enc Try.prog Try.f3 false true false false) := by
  refine returnsInHanded_of_change (C := Try.checked) Try.own started (by kernel_rfl) Try.func3
    (ChangeSpec.witness6 (enc := enc) (C := Try.checked) false ⟨#[], #[.slice none 0 0], []⟩ 8 (by kernel_rfl) (by kernel_rfl) (by kernel_rfl) (by kernel_rfl)) ?_
  intro W base args ds gs before hval0 hW hcnd _
  have hval : ∀ (j : Nat) t v, Try.f3.params[j]? = some t → args[j]? = some v → Value.okWide Try.prog W .any base t v := hval0
  have hW' := hW
  obtain ⟨p, q, hA0, hV, rfl, hfz, hnd⟩ := hW
  have hA : DataW.TrodAll enc Try.prog W 0 (fun _ => true) true Try.f3.params.toList args.toList ds p := hA0
  rw [Try.params3] at hA hval
  obtain ⟨v0, d0, rfl, rfl, h0⟩ := trodAll_one hA
  obtain ⟨rfl, rfl⟩ := trodVars_none hV
  obtain ⟨a0, len, cap, rfl⟩ := okWide_slice Try.underlying22 (hval 0 22 v0 rfl rfl)
  have h0k := h0
  obtain ⟨fuel, hf⟩ := h0
  clear hA0 hval0
  simp only [List.append_nil] at hW'
  have hlt : ∀ x ∈ p, x.block < W.heap.size := fun x hx => by simpa using hW'.lt x hx
  have hargs : ∀ (W' : World), Below W.heap.size W W' → DataW.Trod enc Try.prog W' 0 (fun b => decide (b < W.heap.size)) true 22 (.slice a0 len cap) d0 p :=
    fun W' hn => Below.trod Try.laidOut (by kernel_rfl) (of_decide_eq_true (by kernel_rfl)) h0k hn hlt
  have run : ∃ (E : Env) (L : List UInt8), Ae.Good E [] W.heap ∧ Rv E (.fs (encB L) L.length none) (.slice a0 len cap) := by
    rcases open_ints Try.underlying22 Try.underlying5 (by kernel_rfl) hf with ⟨hcs, hx⟩ | ⟨a, len', cap', zs, hcs, _, hl, hm, hz, hx, hcell, hwz⟩
    · simp [Value.cells] at hcs
      obtain ⟨rfl, rfl, rfl⟩ := hcs
      exact ⟨env0, [], good_env0 _, .fsn none fun c h => by simp at h⟩
    · simp [Value.cells] at hcs
      obtain ⟨rfl, rfl, rfl⟩ := hcs
      simp only [if_true] at hz
      exact rv_bytes hl (by omega) (fun n hn => by have := hwz n hn; simp [Lit.wf, IntKind.min, IntKind.max, IntKind.signed, IntKind.bits] at this; omega) hcell
  obtain ⟨E, L, hg, hv⟩ := run
  refine (sums_of hg hv).mono fun e W' ⟨he, hsz, hbl, hsame⟩ => ?_
  subst he
  have hbel : Below W.heap.size W W' := ⟨hsame.os, hsame.tape, hsame.output, hsz, hbl⟩
  refine ⟨_, rfl, ?_⟩
  refine ⟨_, _, _, [], p, [], hW', ?_, ?_, rfl, hbel.frame _, fun h => by cases h⟩
  · exact trodAll_mk1 (shut_bool Try.underlying4 true)
  · exact trodAll_mk1 (hargs _ hbel)

theorem exposureSums_holds : Rows.ExposureSumsSaid :=
  OpenClaim.holds_of_wide 3 Try.f3 rfl rfl rfl rfl rfl rfl rfl ⟨rfl, rfl, rfl, rfl, rfl⟩ rfl rfl rfl rfl rfl (by kernel_rfl) Try.func3 (by kernel_rfl)
    (of_decide_eq_true (by kernel_rfl)) (by unfold Func.isWrapper; first | (rw [if_pos (by decide +kernel)]; kernel_rfl) | (rw [if_neg (by decide +kernel)]; exact ⟨rfl, rfl⟩))
    (fun os started H enc _ => f_lifted os started H enc)

end Go.Proofs.Ytjfdjendaagccaa
