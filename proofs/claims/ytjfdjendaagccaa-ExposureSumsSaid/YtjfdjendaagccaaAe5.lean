/-
  Addresses, slices, parts of values, composite values.
-/
import Derived.Test.YtjfdjendaagccaaAe4
namespace Go.Proofs.Ae
open Go

/-- a prefix of a prefix, further on -/
theorem sub_prefix {α : Type} {vs c : List α} {off : Nat} (h : vs <+: c.drop off) (o n : Nat) : (vs.drop o).take n <+: c.drop (off + o) := by
  have := drop_prefix h o
  rw [List.drop_drop] at this
  exact (List.take_prefix _ _).trans this

theorem Rv.fs0_ite {E : Env} {c : Prop} [Decidable c] {a a' : Addr} {cap : Option Nat} {cap' : Nat} (hc : ∀ c, cap = some c → cap' = c) :
    Rv E (.fs [] 0 cap) (.slice (if c then some a else some a') 0 cap') := by
  by_cases h : c
  · rw [if_pos h]; exact .fs0 _ _ _ hc
  · rw [if_neg h]; exact .fs0 _ _ _ hc

def aFieldAddr (C : Cfg) (s : TypeId) (a : AVal) (f : Nat) : Option AVal :=
  match C.ty s with
  | some i => match i.desc with
    | .struct fields => match fields[f]? with
      | some fd => match C.ty fd.type with
        | some fi =>
          if fi.size = 0 then none else match a with
          | .ptr l off lim => if off + fd.offset + fi.size ≤ lim then some (.ptr l (off + fd.offset) (off + fd.offset + fi.size)) else none
          | .fp cells => some (.fp ((cells.drop fd.offset).take fi.size))
          | _ => none
        | none => none
      | none => none
    | _ => none
  | none => none

theorem run_fieldAddr {C : Cfg} (ok : C.Ok) {E : Env} {s : TypeId} {a r : AVal} {f : Nat} {v : Value} (hr : aFieldAddr C s a f = some r) (ha : Rv E a v) (w : World) :
    ∃ u, (Instr.fieldAt s v f).run C.P w = .ok u w ∧ Rv E r u := by
  unfold aFieldAddr at hr
  split at hr
  · rename_i i hi
    split at hr
    · rename_i fields hd
      split at hr
      · rename_i fd hfd
        split at hr
        · rename_i fi hfi
          split at hr
          · simp at hr
          · rename_i hz
            have hu : (underlying s).run C.P w = .ok (.struct fields) w := by rw [← hd]; exact run_underlying ok hi w
            split at hr
            · rename_i l off lim
              split at hr
              · rename_i hle
                simp only [Option.some.injEq] at hr
                subst hr
                cases ha with
                | ptr _ _ _ b n tot hm hn =>
                  refine ⟨.pointer (some ⟨b, off + fd.offset, none⟩), ?_, .ptr _ _ _ _ _ _ hm (by omega)⟩
                  simp [Instr.fieldAt, hu, hfd, Instr.sureAddr, fieldPlace, run_sizeOf ok hfi w, hz, add_flat]
              · simp at hr
            · rename_i cells
              simp only [Option.some.injEq] at hr
              subst hr
              cases ha with
              | fp _ b off c vs hb hp hv =>
                refine ⟨.pointer (some ⟨b, off + fd.offset, none⟩), ?_, .fp _ _ _ _ _ hb (sub_prefix hp fd.offset fi.size) ((hv.drop _).take _)⟩
                simp [Instr.fieldAt, hu, hfd, Instr.sureAddr, fieldPlace, run_sizeOf ok hfi w, hz, add_flat]
            · simp at hr
        · simp at hr
      · simp at hr
    · simp at hr
  · simp at hr

def aIndexAddr (C : Cfg) (t : TypeId) (x ix : AVal) : Option AVal :=
  match ix with
  | .sc (.int _ i) => match C.ty t with
    | some ti => match ti.desc with
      | .slice elem => match C.ty elem with
        | some ei => match x with
          | .fs cells len _ => if 0 ≤ i ∧ i < len then some (.fp ((cells.drop (i.toNat * ei.size)).take ei.size)) else none
          | .ms l off len sz _ _ => if 0 ≤ i ∧ i < len ∧ sz = ei.size then some (.ptr l (off + i.toNat * sz) (off + i.toNat * sz + sz)) else none
          | _ => none
        | none => none
      | .array n elem => match C.ty elem with
        | some ei => match x with
          | .ptr l off lim => if 0 ≤ i ∧ i < n ∧ off + i.toNat * ei.size + ei.size ≤ lim then some (.ptr l (off + i.toNat * ei.size) (off + i.toNat * ei.size + ei.size)) else none
          | .fp cells => if 0 ≤ i ∧ i < n then some (.fp ((cells.drop (i.toNat * ei.size)).take ei.size)) else none
          | _ => none
        | none => none
      | _ => none
    | none => none
  | _ => none

theorem run_indexAddr {C : Cfg} (ok : C.Ok) {E : Env} {t : TypeId} {x ix r : AVal} {v u : Value} (hr : aIndexAddr C t x ix = some r) (hx : Rv E x v) (hi : Rv E ix u) (w : World) :
    ∃ y, (Instr.indexAt t v u).run C.P w = .ok y w ∧ Rv E r y := by
  unfold aIndexAddr at hr
  split at hr
  · rename_i k i
    cases hi
    split at hr
    · rename_i ti hti
      split at hr
      · rename_i elem hd
        have hu : (underlying t).run C.P w = .ok (.slice elem) w := by rw [← hd]; exact run_underlying ok hti w
        split at hr
        · rename_i ei hei
          split at hr
          · rename_i cells len cap
            split at hr
            · rename_i hb
              simp only [Option.some.injEq] at hr
              subst hr
              cases hx with
              | fs0 => simp at hb; omega
              | fsn => simp at hb; omega
              | fs _ _ _ b off cap' c vs hl hc hfm hp hv =>
                refine ⟨.pointer (some ⟨b, off + i.toNat * ei.size, none⟩), ?_, .fp _ _ _ _ _ hfm (sub_prefix hp _ _) ((hv.drop _).take _)⟩
                simp [Instr.indexAt, asIntOf, hu, run_sizeOf ok hei w, hb, add_flat]
            · simp at hr
          · rename_i l off len sz lo ex
            split at hr
            · rename_i hb
              simp only [Option.some.injEq] at hr
              subst hr
              obtain ⟨h0, h1, rfl⟩ := hb
              cases hx with
              | ms _ _ _ _ _ _ b n tot cap' hm hn ht hl hlo hc =>
                refine ⟨.pointer (some ⟨b, off + i.toNat * ei.size, none⟩), ?_, .ptr _ _ _ _ _ _ hm ?_⟩
                · simp [Instr.indexAt, asIntOf, hu, run_sizeOf ok hei w, h0, h1, add_flat]
                · have : (i.toNat + 1) * ei.size ≤ len * ei.size := Nat.mul_le_mul_right _ (by omega)
                  rw [Nat.add_mul, Nat.one_mul] at this
                  omega
            · simp at hr
          · simp at hr
        · simp at hr
      · rename_i n elem hd
        have hu : (underlying t).run C.P w = .ok (.array n elem) w := by rw [← hd]; exact run_underlying ok hti w
        split at hr
        · rename_i ei hei
          split at hr
          · rename_i l off lim
            split at hr
            · rename_i hb
              simp only [Option.some.injEq] at hr
              subst hr
              obtain ⟨h0, h1, h2⟩ := hb
              cases hx with
              | ptr _ _ _ b n' tot hm hn =>
                refine ⟨.pointer (some ⟨b, off + i.toNat * ei.size, none⟩), ?_, .ptr _ _ _ _ _ _ hm (by omega)⟩
                simp [Instr.indexAt, asIntOf, hu, run_sizeOf ok hei w, h0, h1, add_flat, Instr.sureAddr]
            · simp at hr
          · rename_i cells
            split at hr
            · rename_i hb
              simp only [Option.some.injEq] at hr
              subst hr
              obtain ⟨h0, h1⟩ := hb
              cases hx with
              | fp _ b off c vs hfm hp hv =>
                refine ⟨.pointer (some ⟨b, off + i.toNat * ei.size, none⟩), ?_, .fp _ _ _ _ _ hfm (sub_prefix hp _ _) ((hv.drop _).take _)⟩
                simp [Instr.indexAt, asIntOf, hu, run_sizeOf ok hei w, h0, h1, add_flat, Instr.sureAddr]
            · simp at hr
          · simp at hr
        · simp at hr
      · simp at hr
    · simp at hr
  · simp at hr

/-! ### slicing -/
def bnd : Option AVal → Option (Option Nat)
  | none => some none
  | some (.sc (.int _ i)) => if 0 ≤ i then some (some i.toNat) else none
  | _ => none

def aSlice (C : Cfg) (t : TypeId) (x : AVal) (lo hi mx : Option AVal) : Option AVal :=
  match C.ty t, bnd lo, bnd hi, bnd mx with
  | some ti, some lo, some hi, some mx => match ti.desc with
    | .slice elem => match C.ty elem with
      | some ei => match x with
        | .ms l off len sz l0 ex =>
          if sz = ei.size ∧ (mx.isSome = true → hi.isSome = true) ∧ mx.getD l0 ≤ l0 ∧ hi.getD len ≤ mx.getD l0 ∧ hi.getD len ≤ len ∧ lo.getD 0 ≤ hi.getD len then
            (if lo.getD 0 = 0 then some (.ms l off (hi.getD len) sz (mx.getD l0) (mx.isSome || ex))
            else if lo.getD 0 < hi.getD len then some (.ms l (off + lo.getD 0 * sz) (hi.getD len - lo.getD 0) sz (mx.getD l0 - lo.getD 0) (mx.isSome || ex))
            else some (.fs [] 0 (if (mx.isSome || ex) = true then some (mx.getD l0 - lo.getD 0) else none)))
          else none
        | .fs cells len cap =>
          if (mx.isSome = true → hi.isSome = true) ∧ mx.getD len ≤ len ∧ hi.getD len ≤ mx.getD len ∧ lo.getD 0 ≤ hi.getD len then
            some (.fs ((cells.drop (lo.getD 0 * ei.size)).take ((hi.getD len - lo.getD 0) * ei.size)) (hi.getD len - lo.getD 0)
              (match mx with | some m => some (m - lo.getD 0) | none => cap.map (· - lo.getD 0)))
          else none
        | .sc (.slice none 0 0) => if (mx.isSome = true → hi.isSome = true) ∧ mx.getD 0 = 0 ∧ hi.getD 0 = 0 ∧ lo.getD 0 = 0 then some (.sc (.slice none 0 0)) else none
        | _ => none
      | none => none
    | _ => none
  | _, _, _, _ => none

theorem run_sliceBound {P : Program} {w : World} {k : IntKind} {i : Int} {y : Nat} {code : BoundsCode} (h0 : 0 ≤ i) (h1 : i.toNat ≤ y) :
    (Instr.sliceBound (.int k i) y code).run P w = .ok i.toNat w := by
  have : i ≤ y := by omega
  simp [Instr.sliceBound, asIntOf, h0, this]

theorem bnd_some {E : Env} {a : AVal} {v : Value} {n : Option Nat} (h : bnd (some a) = some n) (hv : Rv E a v) : ∃ k i, v = .int k i ∧ 0 ≤ i ∧ n = some i.toNat := by
  unfold bnd at h
  split at h
  · simp at *
  · rename_i heq
    simp only [Option.some.injEq] at heq
    subst heq
    split at h
    · rename_i hi
      cases hv
      exact ⟨_, _, rfl, hi, by simpa using h.symm⟩
    · simp at h
  · simp at h

inductive RvO (E : Env) : Option AVal → Option Value → Prop
  | none : RvO E none none
  | some {a : AVal} {v : Value} (h : Rv E a v) : RvO E (some a) (some v)

/-- the three bounds, where they lie within a length and a capacity -/
theorem run_sliceBounds {P : Program} {w : World} {E : Env} {lo hi mx : Option AVal} {vlo vhi vmx : Option Value} {nlo nhi nmx : Option Nat} {len cap : Nat}
    (hlo : bnd lo = some nlo) (hhi : bnd hi = some nhi) (hmx : bnd mx = some nmx) (rlo : RvO E lo vlo) (rhi : RvO E hi vhi) (rmx : RvO E mx vmx)
    (h1 : nmx.isSome = true → nhi.isSome = true) (h2 : nmx.getD cap ≤ cap) (h3 : nhi.getD len ≤ nmx.getD cap) (h4 : nlo.getD 0 ≤ nhi.getD len) :
    (Instr.sliceBounds true len cap vlo vhi vmx).run P w = .ok (nlo.getD 0, nhi.getD len, nmx.getD cap) w := by
  cases rmx with
  | none =>
    simp only [bnd, Option.some.injEq] at hmx
    subst hmx
    cases rhi with
    | none =>
      simp only [bnd, Option.some.injEq] at hhi
      subst hhi
      cases rlo with
      | none =>
        simp only [bnd, Option.some.injEq] at hlo
        subst hlo
        simp [Instr.sliceBounds]
      | some g =>
        obtain ⟨k, i, rfl, hi0, rfl⟩ := bnd_some hlo g
        simp only [Option.getD_some, Option.getD_none] at *
        simp [Instr.sliceBounds, run_sliceBound hi0 h4]
    | some g =>
      obtain ⟨k, i, rfl, hi0, rfl⟩ := bnd_some hhi g
      cases rlo with
      | none =>
        simp only [bnd, Option.some.injEq] at hlo
        subst hlo
        simp only [Option.getD_some, Option.getD_none] at *
        simp [Instr.sliceBounds, run_sliceBound hi0 h3]
      | some g' =>
        obtain ⟨k', i', rfl, hi0', rfl⟩ := bnd_some hlo g'
        simp only [Option.getD_some, Option.getD_none] at *
        simp [Instr.sliceBounds, run_sliceBound hi0 h3, run_sliceBound hi0' h4]
  | some gm =>
    obtain ⟨km, im, rfl, him, rfl⟩ := bnd_some hmx gm
    cases rhi with
    | none =>
      simp only [bnd, Option.some.injEq] at hhi
      subst hhi
      simp at h1
    | some g =>
      obtain ⟨k, i, rfl, hi0, rfl⟩ := bnd_some hhi g
      cases rlo with
      | none =>
        simp only [bnd, Option.some.injEq] at hlo
        subst hlo
        simp only [Option.getD_some, Option.getD_none] at *
        simp [Instr.sliceBounds, run_sliceBound him h2, run_sliceBound hi0 h3]
      | some g' =>
        obtain ⟨k', i', rfl, hi0', rfl⟩ := bnd_some hlo g'
        simp only [Option.getD_some, Option.getD_none] at *
        simp [Instr.sliceBounds, run_sliceBound him h2, run_sliceBound hi0 h3, run_sliceBound hi0' h4]

theorem run_slice {C : Cfg} (ok : C.Ok) {E : Env} {t : TypeId} {x r : AVal} {lo hi mx : Option AVal} {v : Value} {vlo vhi vmx : Option Value} (hr : aSlice C t x lo hi mx = some r)
    (hx : Rv E x v) (rlo : RvO E lo vlo) (rhi : RvO E hi vhi) (rmx : RvO E mx vmx) (w : World) :
    ∃ y, (Instr.sliceAt t v vlo vhi vmx).run C.P w = .ok y w ∧ Rv E r y := by
  unfold aSlice at hr
  split at hr
  · rename_i ti nlo nhi nmx hti hlo hhi hmx
    split at hr
    · rename_i elem hd
      have hu : (underlying t).run C.P w = .ok (.slice elem) w := by rw [← hd]; exact run_underlying ok hti w
      split at hr
      · rename_i ei hei
        split at hr
        · rename_i l off len sz l0 ex
          split at hr
          · rename_i hb
            obtain ⟨rfl, h1, h2, h3, h4, h5⟩ := hb
            cases hx with
            | ms _ _ _ _ _ _ b n tot cap' hm hn ht hl hlo' hc =>
              have hm1 : nmx.getD cap' ≤ cap' := by cases nmx <;> simp at * <;> omega
              have hm2 : nhi.getD len ≤ nmx.getD cap' := by cases nmx <;> simp at * <;> omega
              have hrun := run_sliceBounds (P := C.P) (w := w) hlo hhi hmx rlo rhi rmx h1 hm1 hm2 h5
              have hm3 : nmx.getD l0 ≤ nmx.getD cap' := by
                cases nmx with
                | none => exact hlo'
                | some m => exact Nat.le_refl _
              have hm4 : (nmx.isSome || ex) = true → nmx.getD cap' = nmx.getD l0 := by
                intro hx
                cases nmx with
                | none => exact hc (by simpa using hx)
                | some m => rfl
              have hmul : ∀ a c : Nat, a ≤ c → a * ei.size ≤ c * ei.size := fun a c h => Nat.mul_le_mul_right _ h
              refine ⟨.slice (if nmx.getD cap' = nlo.getD 0 then some ⟨b, off, none⟩ else some ⟨b, off + nlo.getD 0 * ei.size, none⟩) (nhi.getD len - nlo.getD 0) (nmx.getD cap' - nlo.getD 0), ?_, ?_⟩
              · simp only [Instr.sliceAt, Instr.slice, Sem.run_bind, hu, Result.andThen_ok, hrun, run_sizeOf ok hei w, Option.map_some, add_flat]
                rfl
              · split at hr
                · rename_i h0
                  simp only [Option.some.injEq] at hr
                  subst hr
                  rw [h0]
                  have : (if nmx.getD cap' = 0 then some (⟨b, off, none⟩ : Addr) else some ⟨b, off + 0 * ei.size, none⟩) = some ⟨b, off, none⟩ := by simp
                  rw [this]
                  have e1 := hmul _ _ h4
                  have e2 := hmul _ _ hm1
                  simp only [Nat.sub_zero]
                  exact .ms _ _ _ _ _ _ _ _ _ _ hm (by omega) (by omega) h3 hm3 hm4
                · rename_i h0
                  split at hr
                  · rename_i hlt
                    simp only [Option.some.injEq] at hr
                    subst hr
                    have hne : nmx.getD cap' ≠ nlo.getD 0 := by omega
                    rw [if_neg hne]
                    have e1 := hmul _ _ h4
                    have e2 := hmul _ _ hm1
                    have e3 : nlo.getD 0 * ei.size + (nhi.getD len - nlo.getD 0) * ei.size = nhi.getD len * ei.size := by rw [← Nat.add_mul]; congr 1; omega
                    have e4 : nlo.getD 0 * ei.size + (nmx.getD cap' - nlo.getD 0) * ei.size = nmx.getD cap' * ei.size := by rw [← Nat.add_mul]; congr 1; omega
                    exact .ms _ _ _ _ _ _ _ _ _ _ hm (by omega) (by omega) (by omega) (by omega) (fun h => by rw [hm4 h])
                  · rename_i hlt
                    simp only [Option.some.injEq] at hr
                    subst hr
                    have heq : nhi.getD len - nlo.getD 0 = 0 := by omega
                    rw [heq]
                    have hcap : ∀ c, (if (nmx.isSome || ex) = true then some (nmx.getD l0 - nlo.getD 0) else none) = some c → nmx.getD cap' - nlo.getD 0 = c := by
                      intro c hcc
                      split at hcc
                      · rename_i hx
                        rw [hm4 hx]; simpa using hcc
                      · simp at hcc
                    exact Rv.fs0_ite hcap
          · simp at hr
        · rename_i cells len cap
          split at hr
          · rename_i hb
            obtain ⟨h1, h2, h3, h4⟩ := hb
            simp only [Option.some.injEq] at hr
            subst hr
            have key : ∀ (a : Addr) (cap' : Nat), len ≤ cap' → (∀ c, cap = some c → cap' = c) → v = .slice (some a) len cap' → a.spot = none →
                (Instr.sliceAt t v vlo vhi vmx).run C.P w = .ok (.slice (if nmx.getD cap' = nlo.getD 0 then some a else some ⟨a.block, a.off + nlo.getD 0 * ei.size, none⟩) (nhi.getD len - nlo.getD 0) (nmx.getD cap' - nlo.getD 0)) w ∧
                  ∀ c, (match nmx with | some m => some (m - nlo.getD 0) | none => cap.map (· - nlo.getD 0)) = some c → nmx.getD cap' - nlo.getD 0 = c := by
              rintro ⟨b, off, sp⟩ cap' hl hc rfl rfl
              have hm1 : nmx.getD cap' ≤ cap' := by cases nmx <;> simp at * <;> omega
              have hm2 : nhi.getD len ≤ nmx.getD cap' := by cases nmx <;> simp at * <;> omega
              have hrun := run_sliceBounds (P := C.P) (w := w) hlo hhi hmx rlo rhi rmx h1 hm1 hm2 h4
              refine ⟨?_, ?_⟩
              · simp only [Instr.sliceAt, Instr.slice, Sem.run_bind, hu, Result.andThen_ok, hrun, run_sizeOf ok hei w, Option.map_some, add_flat]
                rfl
              · intro c hcc
                cases nmx with
                | none =>
                  cases cap with
                  | none => simp at hcc
                  | some c0 => simp at hcc; simp [hc c0 rfl, hcc]
                | some m => simpa using hcc
            cases hx with
            | fsn _ hc =>
              have hm1 : nmx.getD 0 = 0 := by cases nmx <;> simp at * <;> omega
              have hh : nhi.getD 0 = 0 := by cases nhi <;> cases nmx <;> simp at * <;> omega
              have hl0 : nlo.getD 0 = 0 := by omega
              have hrun := run_sliceBounds (P := C.P) (w := w) (cap := 0) (len := 0) hlo hhi hmx rlo rhi rmx h1 (by omega) (by omega) h4
              refine ⟨.slice none 0 0, ?_, ?_⟩
              · simp only [Instr.sliceAt, Instr.slice, Sem.run_bind, hu, Result.andThen_ok, hrun, run_sizeOf ok hei w]
                simp [hm1, hh, hl0]
              · simp only [hh, hl0, Nat.sub_self, Nat.zero_mul, List.drop_nil, List.take_nil]
                refine .fsn _ fun c hcc => ?_
                cases nmx with
                | none =>
                  cases cap with
                  | none => simp at hcc
                  | some c0 => simp at hcc; have := hc c0 rfl; omega
                | some m => simp at hcc hm1; omega
            | fs0 a _ cap' hc =>
              have hh : nhi.getD 0 = 0 := by cases nhi <;> cases nmx <;> simp at * <;> omega
              have hl0 : nlo.getD 0 = 0 := by omega
              cases hsp : a.spot with
              | none =>
                obtain ⟨k1, k2⟩ := key a cap' (Nat.zero_le _) hc rfl hsp
                refine ⟨_, k1, ?_⟩
                simp only [hh, hl0, Nat.sub_self, Nat.zero_mul, List.drop_nil, List.take_nil, Nat.sub_zero] at k2 ⊢
                exact Rv.fs0_ite k2
              | some sp =>
                have hm1 : nmx.getD cap' ≤ cap' := by cases nmx <;> simp at * <;> omega
                have hm2 : nhi.getD 0 ≤ nmx.getD cap' := by omega
                have hrun := run_sliceBounds (P := C.P) (w := w) hlo hhi hmx rlo rhi rmx h1 hm1 hm2 h4
                refine ⟨.slice (if nmx.getD cap' = nlo.getD 0 then some a else some (a.add (nlo.getD 0 * ei.size))) (nhi.getD 0 - nlo.getD 0) (nmx.getD cap' - nlo.getD 0), ?_, ?_⟩
                · simp only [Instr.sliceAt, Instr.slice, Sem.run_bind, hu, Result.andThen_ok, hrun, run_sizeOf ok hei w, Option.map_some]
                  rfl
                · have k2 : ∀ c, (match nmx with | some m => some (m - nlo.getD 0) | none => cap.map (· - nlo.getD 0)) = some c → nmx.getD cap' - nlo.getD 0 = c := by
                    intro c hcc
                    cases nmx with
                    | none =>
                      cases cap with
                      | none => simp at hcc
                      | some c0 => simp at hcc; simp [hc c0 rfl, hcc]
                    | some m => simpa using hcc
                  simp only [hh, hl0, Nat.sub_self, Nat.zero_mul, List.drop_nil, List.take_nil, Nat.sub_zero] at k2 ⊢
                  exact Rv.fs0_ite k2
            | fs _ _ _ b off cap' c vs hl hc hfm hp hv =>
              obtain ⟨k1, k2⟩ := key ⟨b, off, none⟩ cap' hl hc rfl rfl
              refine ⟨_, k1, ?_⟩
              have hm2 : nhi.getD len ≤ nmx.getD cap' := by cases nmx <;> simp at * <;> omega
              by_cases h0 : nhi.getD len - nlo.getD 0 = 0
              · rw [h0, Nat.zero_mul, List.take_zero]
                exact Rv.fs0_ite k2
              · have hne : nmx.getD cap' ≠ nlo.getD 0 := by omega
                rw [if_neg hne]
                exact .fs _ _ _ _ _ _ _ _ (by omega) k2 hfm (sub_prefix hp _ _) ((hv.drop _).take _)
          · simp at hr
        · split at hr
          · rename_i hb
            obtain ⟨h1, h2, h3, h4⟩ := hb
            simp only [Option.some.injEq] at hr
            subst hr
            cases hx
            have hrun := run_sliceBounds (P := C.P) (w := w) (cap := 0) (len := 0) hlo hhi hmx rlo rhi rmx h1 (by omega) (by omega) (by omega)
            refine ⟨.slice none 0 0, ?_, .sc _⟩
            simp only [Instr.sliceAt, Instr.slice, Sem.run_bind, hu, Result.andThen_ok, hrun, run_sizeOf ok hei w]
            simp [h2, h3, h4]
          · simp at hr
        · simp at hr
      · simp at hr
    · simp at hr
  · simp at hr

end Go.Proofs.Ae
