/-
  One operation of a region, but for calls of functions.
-/
import Derived.Test.YtjfdjendaagccaaAe9
namespace Go.Proofs.Ae
open Go

def aLen (C : Cfg) (t : TypeId) (x : AVal) : Option AVal :=
  match C.ty t with
  | some i => match i.desc, x with
    | .slice _, .fs _ n _ => some (.sc (.int .i64 n))
    | .slice _, .ms _ _ n _ _ _ => some (.sc (.int .i64 n))
    | .slice _, .sc (.slice none n _) => some (.sc (.int .i64 n))
    | .array n _, _ => some (.sc (.int .i64 n))
    | _, _ => none
  | none => none

theorem sound_len {C : Cfg} (ok : C.Ok) {E : Env} {h : AHeap} {w : World} (g : Good E h w.heap) {t t' : TypeId} {x r : AVal} {vx : Value} (hr : aLen C t x = some r) (hx : Rv E x vx) :
    Sound C.P (fun E v => Rv E r v) (Builtin.len_ #[t] t' #[vx]) E h w h := by
  unfold aLen at hr
  split at hr
  · rename_i i hi
    have hu := run_underlying ok hi w
    split at hr
    · rename_i hd
      simp only [Option.some.injEq] at hr
      subst hr
      rw [hd] at hu
      cases hx <;> exact .same g (by simp [Builtin.len_, hu, goInt]) (.sc _)
    · rename_i hd
      simp only [Option.some.injEq] at hr
      subst hr
      rw [hd] at hu
      cases hx
      exact .same g (by simp [Builtin.len_, hu, goInt]) (.sc _)
    · rename_i hd
      simp only [Option.some.injEq] at hr
      subst hr
      rw [hd] at hu
      cases hx
      exact .same g (by simp [Builtin.len_, hu, goInt]) (.sc _)
    · rename_i n el hd
      simp only [Option.some.injEq] at hr
      subst hr
      rw [hd] at hu
      exact .same g (by simp [Builtin.len_, hu, goInt]) (.sc _)
    · simp at hr
  · simp at hr

def quiet (r : Option AVal) : Option (AVal × Patch) :=
  match r with
  | some x => some (x, [])
  | none => none

def aSpecial (C : Cfg) (h : AHeap) (slot : Option Nat) (e : Operand → AVal) : Op → Option (AVal × Patch)
  | .move x => some (e x, [])
  | .assign x => some (e x, [])
  | .pick c a b => match e c with
    | .sc (.bool t) => some (if t then e a else e b, [])
    | _ => none
  | .alloc t => aAlloc C h slot t
  | .box _ x => aBox h slot (e x)
  | .build t ps => quiet (aBuild C t (ps.toList.map fun p => (p.1, e p.2)))
  | .buildSlice t n ps => aBuildSlice C h slot t n (ps.toList.map fun p => (p.1, e p.2))
  | .load t a => quiet (aLoad C h t (e a))
  | .store t a x => match aStore C h t (e a) (e x) with
    | some p => some (.tup [], p)
    | none => none
  | .nilCheck x => match e x with
    | .ptr l off lim => some (.ptr l off lim, [])
    | .fp cells => some (.fp cells, [])
    | .ifc t v => some (.ifc t v, [])
    | .clo (.func f) fi ca => some (.clo (.func f) fi ca, [])
    | _ => none
  | .fieldAddr t x f => quiet (aFieldAddr C t (e x) f)
  | .field t x f => quiet (aField C t (e x) f)
  | .indexAddr t x ix => quiet (aIndexAddr C t (e x) (e ix))
  | .index t x ix => quiet (aIndex C t (e x) (e ix))
  | .slice t x lo hi mx => quiet (aSlice C t (e x) (lo.map e) (hi.map e) (mx.map e))
  | .extract x i => match e x with
    | .tup vs => quiet vs[i]?
    | _ => none
  | .makeInterface t x => match C.ty t with
    | some i => match i.desc with
      | .interface _ => none
      | _ => some (.ifc t (e x), [])
    | none => none
  | .makeFunc fn fi ca => some (.clo fn (fi.toList.map e) (ca.toList.map e), [])
  | .makeSlice t l c => aMakeSlice C h slot t (e l) (e c)
  | .convert s d x => match e x with
    | .sc (.string b) => match C.ty s with
      | some _ => aToBytes C h slot d (.sc (.string b))
      | none => none
    | .fs cells len cap => quiet (aToString C h s d (.fs cells len cap))
    | .ms l off len sz lo ex => quiet (aToString C h s d (.ms l off len sz lo ex))
    | .sc (.slice none a b) => quiet (aToString C h s d (.sc (.slice none a b)))
    | _ => none
  | .binOp .eql t x y _ => if aNilEq C t (e x) (e y) = true then some (.sc (.bool false), []) else none
  | .binOp .neq t x y _ => if aNilEq C t (e x) (e y) = true then some (.sc (.bool true), []) else none
  | .call { callee := .builtin .append, args := ⟨[s, x]⟩, argTypes := ⟨[sT, xT]⟩ } => aAppend C h slot sT xT (e s) (e x)
  | .call { callee := .builtin .copy, args := ⟨[d, x]⟩, argTypes := ⟨[dT, _]⟩ } => aCopy C h dT (e d) (e x)
  | .call { callee := .builtin .clear, args := ⟨[x]⟩, argTypes := ⟨[t]⟩ } => aClear C h t (e x)
  | .call { callee := .builtin .len, args := ⟨[x]⟩, argTypes := ⟨[t]⟩ } => quiet (aLen C t (e x))
  | _ => none

theorem quiet_some {r : Option AVal} {x : AVal} {p : Patch} (h : quiet r = some (x, p)) : r = some x ∧ p = [] := by
  cases r with
  | none => simp [quiet] at h
  | some y => simp [quiet] at h; obtain ⟨rfl, rfl⟩ := h; exact ⟨rfl, rfl⟩

theorem SoundN.silent {C : Cfg} {s : Sem Value} {E : Env} {h : AHeap} {w : World} {r : AVal} (g : Good E h w.heap) (k : ∃ y, s.run C.P w = .ok y w ∧ Rv E r y) :
    SoundN C.P (do pure (.value (← s))) E h w r h := by
  obtain ⟨y, h1, h2⟩ := k
  exact .same (v := y) g (by simp [h1]) h2

section
variable {C : Cfg} (ok : C.Ok) {E : Env} {h : AHeap} {w : World} (g : Good E h w.heap) {slot : Option Nat} {tmps : List AVal} {a : Act} {r : AVal} {p : Patch}
    (ht : RvL E tmps a.tmps.toList) {dst : Option Tmp} {type : TypeId} {pos : String} {after : Array Edge} {guard : Option (Nat × Bool)}
include ok g ht

theorem sp_move {x : Operand} (hr : aSpecial C h slot (aEval tmps) (.move x) = some (r, p)) :
    SoundN C.P (execOp a.eval ⟨dst, .move x, type, pos, after, guard⟩) E h w r (applyP h p) := by
  have _ok := ok
  have he := rv_eval ht
  simp only [aSpecial] at hr
  simp only [Option.some.injEq, Prod.mk.injEq] at hr
  obtain ⟨rfl, rfl⟩ := hr
  exact .same (v := a.eval x) g (by simp [execOp]) (he _)

theorem sp_assign {x : Operand} (hr : aSpecial C h slot (aEval tmps) (.assign x) = some (r, p)) :
    SoundN C.P (execOp a.eval ⟨dst, .assign x, type, pos, after, guard⟩) E h w r (applyP h p) := by
  have _ok := ok
  have he := rv_eval ht
  simp only [aSpecial] at hr
  simp only [Option.some.injEq, Prod.mk.injEq] at hr
  obtain ⟨rfl, rfl⟩ := hr
  exact .same (v := a.eval x) g (by simp [execOp]) (he _)

theorem sp_pick {c x y : Operand} (hr : aSpecial C h slot (aEval tmps) (.pick c x y) = some (r, p)) :
    SoundN C.P (execOp a.eval ⟨dst, .pick c x y, type, pos, after, guard⟩) E h w r (applyP h p) := by
  have _ok := ok
  have he := rv_eval ht
  simp only [aSpecial] at hr
  split at hr
  · rename_i t hc
    simp only [Option.some.injEq, Prod.mk.injEq] at hr
    obtain ⟨rfl, rfl⟩ := hr
    have := he c
    rw [hc] at this
    have hcv : a.eval c = .bool t := by generalize a.eval c = z at this; cases this; rfl
    cases t
    · exact .same (v := a.eval y) g (by simp [execOp, hcv, asBool]) (he y)
    · exact .same (v := a.eval x) g (by simp [execOp, hcv, asBool]) (he x)
  · simp at hr

theorem sp_alloc {t : TypeId} (hr : aSpecial C h slot (aEval tmps) (.alloc t) = some (r, p)) :
    SoundN C.P (execOp a.eval ⟨dst, .alloc t, type, pos, after, guard⟩) E h w r (applyP h p) := by
  have he := rv_eval ht
  simp only [aSpecial] at hr
  simp only [execOp]
  exact SoundN.of (sound_alloc ok g hr)

theorem sp_box {t : TypeId} {x : Operand} (hr : aSpecial C h slot (aEval tmps) (.box t x) = some (r, p)) :
    SoundN C.P (execOp a.eval ⟨dst, .box t x, type, pos, after, guard⟩) E h w r (applyP h p) := by
  have _ok := ok
  have he := rv_eval ht
  simp only [aSpecial] at hr
  simp only [execOp]
  exact SoundN.of (sound_box g hr (he _))

theorem sp_build {t : TypeId} {ps : Array (Nat × Operand)} (hr : aSpecial C h slot (aEval tmps) (.build t ps) = some (r, p)) :
    SoundN C.P (execOp a.eval ⟨dst, .build t ps, type, pos, after, guard⟩) E h w r (applyP h p) := by
  have he := rv_eval ht
  simp only [aSpecial] at hr
  obtain ⟨h1, rfl⟩ := quiet_some hr
  simp only [execOp]
  exact SoundN.silent g (run_build ok h1 (by
    have := rvp_evals ht ps.toList
    simpa using this) w)

theorem sp_buildSlice {t : TypeId} {n : Nat} {ps : Array (Nat × Operand)} (hr : aSpecial C h slot (aEval tmps) (.buildSlice t n ps) = some (r, p)) :
    SoundN C.P (execOp a.eval ⟨dst, .buildSlice t n ps, type, pos, after, guard⟩) E h w r (applyP h p) := by
  have he := rv_eval ht
  simp only [aSpecial] at hr
  simp only [execOp]
  exact SoundN.of (sound_buildSlice ok g hr (by
    have := rvp_evals ht ps.toList
    simpa using this))

theorem sp_load {t : TypeId} {x : Operand} (hr : aSpecial C h slot (aEval tmps) (.load t x) = some (r, p)) :
    SoundN C.P (execOp a.eval ⟨dst, .load t x, type, pos, after, guard⟩) E h w r (applyP h p) := by
  have he := rv_eval ht
  simp only [aSpecial] at hr
  obtain ⟨h1, rfl⟩ := quiet_some hr
  simp only [execOp, applyP]
  exact SoundN.of (sound_load ok g h1 (he _))

theorem sp_store {t : TypeId} {x y : Operand} (hr : aSpecial C h slot (aEval tmps) (.store t x y) = some (r, p)) :
    SoundN C.P (execOp a.eval ⟨dst, .store t x y, type, pos, after, guard⟩) E h w r (applyP h p) := by
  have he := rv_eval ht
  simp only [aSpecial] at hr
  split at hr
  · rename_i p' hp
    simp only [Option.some.injEq, Prod.mk.injEq] at hr
    obtain ⟨rfl, rfl⟩ := hr
    simp only [execOp]
    exact SoundN.ofUnit (sound_store ok g hp (he _) (he _))
  · simp at hr

theorem sp_nilCheck {x : Operand} (hr : aSpecial C h slot (aEval tmps) (.nilCheck x) = some (r, p)) :
    SoundN C.P (execOp a.eval ⟨dst, .nilCheck x, type, pos, after, guard⟩) E h w r (applyP h p) := by
  have _ok := ok
  have he := rv_eval ht
  simp only [aSpecial] at hr
  have hx := he x
  split at hr <;> (try (simp at hr; done))
  all_goals
    rename_i hc
    simp only [Option.some.injEq, Prod.mk.injEq] at hr
    obtain ⟨rfl, rfl⟩ := hr
    rw [hc] at hx
    refine .same (v := a.eval x) g ?_ hx
    simp only [execOp]
    generalize a.eval x = z at hx
    cases hx <;> rfl

theorem sp_fieldAddr {t : TypeId} {x : Operand} {f : Nat} (hr : aSpecial C h slot (aEval tmps) (.fieldAddr t x f) = some (r, p)) :
    SoundN C.P (execOp a.eval ⟨dst, .fieldAddr t x f, type, pos, after, guard⟩) E h w r (applyP h p) := by
  have he := rv_eval ht
  simp only [aSpecial] at hr
  obtain ⟨h1, rfl⟩ := quiet_some hr
  simp only [execOp, applyP]
  exact SoundN.silent g (run_fieldAddr ok h1 (he _) w)

theorem sp_field {t : TypeId} {x : Operand} {f : Nat} (hr : aSpecial C h slot (aEval tmps) (.field t x f) = some (r, p)) :
    SoundN C.P (execOp a.eval ⟨dst, .field t x f, type, pos, after, guard⟩) E h w r (applyP h p) := by
  have he := rv_eval ht
  simp only [aSpecial] at hr
  obtain ⟨h1, rfl⟩ := quiet_some hr
  simp only [execOp, applyP]
  exact SoundN.silent g (run_field ok h1 (he _) w)

theorem sp_indexAddr {t : TypeId} {x i : Operand} (hr : aSpecial C h slot (aEval tmps) (.indexAddr t x i) = some (r, p)) :
    SoundN C.P (execOp a.eval ⟨dst, .indexAddr t x i, type, pos, after, guard⟩) E h w r (applyP h p) := by
  have he := rv_eval ht
  simp only [aSpecial] at hr
  obtain ⟨h1, rfl⟩ := quiet_some hr
  simp only [execOp, applyP]
  exact SoundN.silent g (run_indexAddr ok h1 (he _) (he _) w)

theorem sp_index {t : TypeId} {x i : Operand} (hr : aSpecial C h slot (aEval tmps) (.index t x i) = some (r, p)) :
    SoundN C.P (execOp a.eval ⟨dst, .index t x i, type, pos, after, guard⟩) E h w r (applyP h p) := by
  have he := rv_eval ht
  simp only [aSpecial] at hr
  obtain ⟨h1, rfl⟩ := quiet_some hr
  simp only [execOp, applyP]
  exact SoundN.silent g (run_index ok h1 (he _) (he _) w)

theorem sp_slice {t : TypeId} {x : Operand} {lo hi mx : Option Operand} (hr : aSpecial C h slot (aEval tmps) (.slice t x lo hi mx) = some (r, p)) :
    SoundN C.P (execOp a.eval ⟨dst, .slice t x lo hi mx, type, pos, after, guard⟩) E h w r (applyP h p) := by
  have he := rv_eval ht
  simp only [aSpecial] at hr
  obtain ⟨h1, rfl⟩ := quiet_some hr
  simp only [execOp, applyP]
  exact SoundN.silent g (run_slice ok h1 (he _) (rvo_eval ht _) (rvo_eval ht _) (rvo_eval ht _) w)

theorem sp_extract {x : Operand} {i : Nat} (hr : aSpecial C h slot (aEval tmps) (.extract x i) = some (r, p)) :
    SoundN C.P (execOp a.eval ⟨dst, .extract x i, type, pos, after, guard⟩) E h w r (applyP h p) := by
  have _ok := ok
  have he := rv_eval ht
  simp only [aSpecial] at hr
  split at hr
  · rename_i vs hc
    obtain ⟨h1, rfl⟩ := quiet_some hr
    have hx := he x
    rw [hc] at hx
    simp only [execOp, applyP]
    refine SoundN.silent g ?_
    generalize a.eval x = z at hx
    cases hx with
    | tup _ vv hv =>
      obtain ⟨u, k1, k2⟩ := hv.get i r h1
      have k1' : vv[i]? = some u := by simpa using k1
      exact ⟨u, by simp [Instr.extract, k1'], k2⟩
  · simp at hr

theorem sp_makeInterface {t : TypeId} {x : Operand} (hr : aSpecial C h slot (aEval tmps) (.makeInterface t x) = some (r, p)) :
    SoundN C.P (execOp a.eval ⟨dst, .makeInterface t x, type, pos, after, guard⟩) E h w r (applyP h p) := by
  have he := rv_eval ht
  simp only [aSpecial] at hr
  split at hr
  · rename_i i hi
    have hu := run_underlying ok hi w
    split at hr
    · simp at hr
    · rename_i hd
      simp only [Option.some.injEq, Prod.mk.injEq] at hr
      obtain ⟨rfl, rfl⟩ := hr
      simp only [execOp, applyP]
      refine SoundN.silent g ⟨.iface t (a.eval x), ?_, .ifc _ _ _ (he x)⟩
      simp only [Instr.makeInterface, Sem.run_bind, hu, Result.andThen_ok]
      cases hdd : i.desc <;> first | exact absurd hdd (hd _) | simp
  · simp at hr

theorem sp_makeFunc {fn : Fn} {fi ca : Array Operand} (hr : aSpecial C h slot (aEval tmps) (.makeFunc fn fi ca) = some (r, p)) :
    SoundN C.P (execOp a.eval ⟨dst, .makeFunc fn fi ca, type, pos, after, guard⟩) E h w r (applyP h p) := by
  have _ok := ok
  have he := rv_eval ht
  simp only [aSpecial] at hr
  simp only [Option.some.injEq, Prod.mk.injEq] at hr
  obtain ⟨rfl, rfl⟩ := hr
  simp only [execOp, applyP]
  refine SoundN.silent g ⟨.func fn (fi.map a.eval) (ca.map a.eval), ?_, .clo _ _ _ _ _ ?_ ?_⟩
  · simp [Instr.makeFunc]
  · have := rvl_evals ht fi.toList; simpa using this
  · have := rvl_evals ht ca.toList; simpa using this

theorem sp_makeSlice {t : TypeId} {x y : Operand} (hr : aSpecial C h slot (aEval tmps) (.makeSlice t x y) = some (r, p)) :
    SoundN C.P (execOp a.eval ⟨dst, .makeSlice t x y, type, pos, after, guard⟩) E h w r (applyP h p) := by
  have he := rv_eval ht
  simp only [aSpecial] at hr
  simp only [execOp]
  exact SoundN.of (sound_makeSlice ok g hr (he _) (he _))

theorem sp_convert {s d : TypeId} {x : Operand} (hr : aSpecial C h slot (aEval tmps) (.convert s d x) = some (r, p)) :
    SoundN C.P (execOp a.eval ⟨dst, .convert s d x, type, pos, after, guard⟩) E h w r (applyP h p) := by
  have he := rv_eval ht
  simp only [aSpecial] at hr
  have hx := he x
  split at hr
  · rename_i b hc
    split at hr
    · rename_i si hsi
      rw [hc] at hx
      simp only [execOp]
      exact SoundN.of (sound_toBytes ok g hsi hr hx)
    · simp at hr
  · rename_i cells len cap hc
    obtain ⟨h1, rfl⟩ := quiet_some hr
    rw [hc] at hx
    simp only [execOp, applyP]
    refine SoundN.of (sound_toString ok g h1 hx ?_)
    generalize a.eval x = z at hx
    cases hx <;> exact ⟨_, _, _, rfl⟩
  · rename_i l off len sz lo ex hc
    obtain ⟨h1, rfl⟩ := quiet_some hr
    rw [hc] at hx
    simp only [execOp, applyP]
    refine SoundN.of (sound_toString ok g h1 hx ?_)
    generalize a.eval x = z at hx
    cases hx <;> exact ⟨_, _, _, rfl⟩
  · rename_i b c hc
    obtain ⟨h1, rfl⟩ := quiet_some hr
    rw [hc] at hx
    simp only [execOp, applyP]
    refine SoundN.of (sound_toString ok g h1 hx ?_)
    generalize a.eval x = z at hx
    cases hx <;> exact ⟨_, _, _, rfl⟩
  · simp at hr

theorem sp_eql {t yt : TypeId} {x y : Operand} (hr : aSpecial C h slot (aEval tmps) (.binOp .eql t x y yt) = some (r, p)) :
    SoundN C.P (execOp a.eval ⟨dst, .binOp .eql t x y yt, type, pos, after, guard⟩) E h w r (applyP h p) := by
  have he := rv_eval ht
  simp only [aSpecial] at hr
  split at hr
  · rename_i hn
    simp only [Option.some.injEq, Prod.mk.injEq] at hr
    obtain ⟨rfl, rfl⟩ := hr
    simp only [execOp, applyP]
    exact SoundN.silent g ⟨_, (run_nilEq ok hn (he x) (he y) w x y).1, .sc _⟩
  · simp at hr

theorem sp_neq {t yt : TypeId} {x y : Operand} (hr : aSpecial C h slot (aEval tmps) (.binOp .neq t x y yt) = some (r, p)) :
    SoundN C.P (execOp a.eval ⟨dst, .binOp .neq t x y yt, type, pos, after, guard⟩) E h w r (applyP h p) := by
  have he := rv_eval ht
  simp only [aSpecial] at hr
  split at hr
  · rename_i hn
    simp only [Option.some.injEq, Prod.mk.injEq] at hr
    obtain ⟨rfl, rfl⟩ := hr
    simp only [execOp, applyP]
    exact SoundN.silent g ⟨_, (run_nilEq ok hn (he x) (he y) w x y).2, .sc _⟩
  · simp at hr

theorem sp_append {s x : Operand} {sT xT : TypeId} (hr : aSpecial C h slot (aEval tmps) (.call { callee := .builtin .append, args := ⟨[s, x]⟩, argTypes := ⟨[sT, xT]⟩ }) = some (r, p)) :
    SoundN C.P (execOp a.eval ⟨dst, .call { callee := .builtin .append, args := ⟨[s, x]⟩, argTypes := ⟨[sT, xT]⟩ }, type, pos, after, guard⟩) E h w r (applyP h p) := by
  have he := rv_eval ht
  simp only [aSpecial] at hr
  have e : execOp a.eval ⟨dst, .call { callee := .builtin .append, args := ⟨[s, x]⟩, argTypes := ⟨[sT, xT]⟩ }, type, pos, after, guard⟩ = (do pure (.value (← Builtin.append_ #[sT, xT] type #[a.eval s, a.eval x]))) := by
    simp [execOp, resolve, invoke, builtin]
  rw [e]
  exact SoundN.of (sound_append ok g hr (he s) (he x))


theorem sp_copy {d x : Operand} {dT xT : TypeId} (hr : aSpecial C h slot (aEval tmps) (.call { callee := .builtin .copy, args := ⟨[d, x]⟩, argTypes := ⟨[dT, xT]⟩ }) = some (r, p)) :
    SoundN C.P (execOp a.eval ⟨dst, .call { callee := .builtin .copy, args := ⟨[d, x]⟩, argTypes := ⟨[dT, xT]⟩ }, type, pos, after, guard⟩) E h w r (applyP h p) := by
  have he := rv_eval ht
  simp only [aSpecial] at hr
  have e : execOp a.eval ⟨dst, .call { callee := .builtin .copy, args := ⟨[d, x]⟩, argTypes := ⟨[dT, xT]⟩ }, type, pos, after, guard⟩ = (do pure (.value (← Builtin.copy_ #[dT, xT] type #[a.eval d, a.eval x]))) := by
    simp [execOp, resolve, invoke, builtin]
  rw [e]
  exact SoundN.of (sound_copy ok g hr (he d) (he x))


theorem sp_clear {x : Operand} {t : TypeId} (hr : aSpecial C h slot (aEval tmps) (.call { callee := .builtin .clear, args := ⟨[x]⟩, argTypes := ⟨[t]⟩ }) = some (r, p)) :
    SoundN C.P (execOp a.eval ⟨dst, .call { callee := .builtin .clear, args := ⟨[x]⟩, argTypes := ⟨[t]⟩ }, type, pos, after, guard⟩) E h w r (applyP h p) := by
  have he := rv_eval ht
  simp only [aSpecial] at hr
  have e : execOp a.eval ⟨dst, .call { callee := .builtin .clear, args := ⟨[x]⟩, argTypes := ⟨[t]⟩ }, type, pos, after, guard⟩ = (do pure (.value (← Builtin.clear_ #[t] type #[a.eval x]))) := by
    simp [execOp, resolve, invoke, builtin]
  rw [e]
  exact SoundN.of (sound_clear ok g hr (he x))


theorem sp_len {x : Operand} {t : TypeId} (hr : aSpecial C h slot (aEval tmps) (.call { callee := .builtin .len, args := ⟨[x]⟩, argTypes := ⟨[t]⟩ }) = some (r, p)) :
    SoundN C.P (execOp a.eval ⟨dst, .call { callee := .builtin .len, args := ⟨[x]⟩, argTypes := ⟨[t]⟩ }, type, pos, after, guard⟩) E h w r (applyP h p) := by
  have he := rv_eval ht
  simp only [aSpecial] at hr
  obtain ⟨h1, rfl⟩ := quiet_some hr
  have e : execOp a.eval ⟨dst, .call { callee := .builtin .len, args := ⟨[x]⟩, argTypes := ⟨[t]⟩ }, type, pos, after, guard⟩ = (do pure (.value (← Builtin.len_ #[t] type #[a.eval x]))) := by
    simp [execOp, resolve, invoke, builtin]
  rw [e]
  exact SoundN.of (sound_len ok g h1 (he x))


end

theorem sound_special {C : Cfg} (ok : C.Ok) {E : Env} {h : AHeap} {w : World} (g : Good E h w.heap) {slot : Option Nat} {o : Oper} {tmps : List AVal} {a : Act} {r : AVal} {p : Patch}
    (hr : aSpecial C h slot (aEval tmps) o.op = some (r, p)) (ht : RvL E tmps a.tmps.toList) : SoundN C.P (execOp a.eval o) E h w r (applyP h p) := by
  obtain ⟨dst, op, type, pos, after, guard⟩ := o
  simp only at hr
  cases op with
  | move x => exact sp_move ok g ht hr
  | assign x => exact sp_assign ok g ht hr
  | pick c x y => exact sp_pick ok g ht hr
  | alloc t => exact sp_alloc ok g ht hr
  | box t x => exact sp_box ok g ht hr
  | build t ps => exact sp_build ok g ht hr
  | buildSlice t n ps => exact sp_buildSlice ok g ht hr
  | load t x => exact sp_load ok g ht hr
  | store t x y => exact sp_store ok g ht hr
  | nilCheck x => exact sp_nilCheck ok g ht hr
  | fieldAddr t x f => exact sp_fieldAddr ok g ht hr
  | field t x f => exact sp_field ok g ht hr
  | indexAddr t x i => exact sp_indexAddr ok g ht hr
  | index t x i => exact sp_index ok g ht hr
  | slice t x lo hi mx => exact sp_slice ok g ht hr
  | extract x i => exact sp_extract ok g ht hr
  | makeInterface t x => exact sp_makeInterface ok g ht hr
  | makeFunc fn fi ca => exact sp_makeFunc ok g ht hr
  | makeSlice t x y => exact sp_makeSlice ok g ht hr
  | convert s d x => exact sp_convert ok g ht hr
  | binOp op t x y yt => cases op <;> first | exact sp_eql ok g ht hr | exact sp_neq ok g ht hr | (simp [aSpecial] at hr)
  | call c =>
    unfold aSpecial at hr
    split at hr <;> rename_i heq <;> (try (simp at heq; done))
    · cases heq; exact sp_append (slot := slot) ok g ht hr
    · cases heq; exact sp_copy (slot := slot) ok g ht hr
    · cases heq; exact sp_clear (slot := slot) ok g ht hr
    · cases heq; exact sp_len (slot := slot) ok g ht hr
    · simp at hr
  | _ => simp [aSpecial] at hr

/-! ### numbers -/
def intBin (op : BinOp) (k : IntKind) (a b : Int) : Option AVal := match op with
  | .add => some (.sc (.int k (k.wrap (a + b))))
  | .sub => some (.sc (.int k (k.wrap (a - b))))
  | .mul => some (.sc (.int k (k.wrap (a * b))))
  | .quo => if b = 0 then none else some (.sc (.int k (k.wrap (a.tdiv b))))
  | .rem => if b = 0 then none else some (.sc (.int k (a.tmod b)))
  | .lss => some (.sc (.bool (decide (a < b))))
  | .leq => some (.sc (.bool (decide (a ≤ b))))
  | .gtr => some (.sc (.bool (decide (a > b))))
  | .geq => some (.sc (.bool (decide (a ≥ b))))
  | .eql => some (.sc (.bool (a == b)))
  | .neq => some (.sc (.bool (a != b)))
  | _ => none

def aFast (C : Cfg) (e : Operand → AVal) : Op → Option AVal
  | .binOp op _ x y _ => match e x, e y with
    | .sc (.int k a), .sc (.int k' b) => if k = k' then intBin op k a b else none
    | _, _ => none
  | .unOp op _ x => match op, e x with
    | .not, .sc (.bool b) => some (.sc (.bool !b))
    | .neg, .sc (.int k n) => some (.sc (.int k (k.wrap (0 - n))))
    | _, _ => none
  | .convert s d x => match e x with
    | .sc (.int _ n) => match C.ty s, C.ty d with
      | some _, some i => match i.desc with
        | .int k => some (.sc (.int k (k.wrap n)))
        | _ => none
      | _, _ => none
    | _ => none
  | _ => none

theorem sound_intBin {op : BinOp} {k : IntKind} {a b : Int} {r : AVal} (h : intBin op k a b = some r) (P : Program) (t : TypeId) (x y : Operand) (w : World) :
    ∃ v, r = .sc v ∧ (do eqGuard op t x y (.int k a) (.int k b); binOp op t (.int k a) (.int k b) : Sem Value).run P w = .ok v w := by
  cases op <;> simp only [intBin, Option.some.injEq] at h <;> try (simp at h; done)
  all_goals first
    | (subst h; exact ⟨_, rfl, by simp [eqGuard, binOp, Op.intArith, Op.intCmp]⟩)
    | (split at h
       · simp at h
       · rename_i hb
         simp only [Option.some.injEq] at h
         subst h
         exact ⟨_, rfl, by simp [eqGuard, binOp, Op.intDiv, hb]⟩)

theorem sound_fast {C : Cfg} (ok : C.Ok) {E : Env} {h : AHeap} {w : World} (g : Good E h w.heap) {o : Oper} {tmps : List AVal} {a : Act} {r : AVal}
    (hr : aFast C (aEval tmps) o.op = some r) (ht : RvL E tmps a.tmps.toList) : SoundN C.P (execOp a.eval o) E h w r h := by
  have he := rv_eval ht
  obtain ⟨dst, op, type, pos, after, guard⟩ := o
  cases op with
  | binOp op t x y yt =>
    simp only [aFast] at hr
    split at hr
    · rename_i k n k' n' hx hy
      split at hr
      · rename_i hk
        subst hk
        have h1 := he x
        have h2 := he y
        rw [hx] at h1
        rw [hy] at h2
        generalize hz1 : a.eval x = z1 at h1
        generalize hz2 : a.eval y = z2 at h2
        cases h1
        cases h2
        obtain ⟨v, rfl, hv⟩ := sound_intBin hr C.P t x y w
        simp only [execOp, hz1, hz2]
        exact SoundN.silent g ⟨v, hv, .sc _⟩
      · simp at hr
    · simp at hr
  | unOp op t x =>
    simp only [aFast] at hr
    split at hr
    · rename_i b hx
      have h1 := he x
      rw [hx] at h1
      generalize hz1 : a.eval x = z1 at h1
      cases h1
      simp only [Option.some.injEq] at hr
      subst hr
      simp only [execOp, hz1]
      exact SoundN.silent g ⟨_, by simp only [Op.unary]; rfl, .sc _⟩
    · rename_i k n hx
      have h1 := he x
      rw [hx] at h1
      generalize hz1 : a.eval x = z1 at h1
      cases h1
      simp only [Option.some.injEq] at hr
      subst hr
      simp only [execOp, hz1]
      exact SoundN.silent g ⟨_, by simp only [Op.unary, Op.intArith]; rfl, .sc _⟩
    · simp at hr
  | convert s d x =>
    simp only [aFast] at hr
    split at hr
    · rename_i k n hx
      split at hr
      · rename_i si di hs hd
        split at hr
        · rename_i k' hk
          have h1 := he x
          rw [hx] at h1
          generalize hz1 : a.eval x = z1 at h1
          cases h1
          simp only [Option.some.injEq] at hr
          subst hr
          simp only [execOp, hz1]
          refine SoundN.silent g ⟨_, ?_, .sc _⟩
          have u1 := run_underlying ok hs w
          have u2 := run_underlying ok hd w
          rw [hk] at u2
          simp only [convert, Sem.run_bind, u1, u2, Result.andThen_ok]
          cases si.desc <;> rfl
        · simp at hr
      · simp at hr
    · simp at hr
  | _ => simp [aFast] at hr

/-- an operation that calls no function of the program -/
def aOp (C : Cfg) (h : AHeap) (slot : Option Nat) (tmps : List AVal) (o : Oper) : Option (AVal × Patch) :=
  match aFast C (aEval tmps) o.op with
  | some v => some (v, [])
  | none => match aSpecial C h slot (aEval tmps) o.op with
    | some r => some r
    | none => quiet (aConc C o tmps)

theorem sound_op {C : Cfg} (ok : C.Ok) {E : Env} {h : AHeap} {w : World} (g : Good E h w.heap) {slot : Option Nat} {o : Oper} {tmps : List AVal} {a : Act} {r : AVal} {p : Patch}
    (hns : ∀ cs b, o.op ≠ .select cs b) (hr : aOp C h slot tmps o = some (r, p)) (ht : RvL E tmps a.tmps.toList) : SoundN C.P (execOp a.eval o) E h w r (applyP h p) := by
  unfold aOp at hr
  split at hr
  · rename_i v hv
    simp only [Option.some.injEq, Prod.mk.injEq] at hr
    obtain ⟨rfl, rfl⟩ := hr
    exact sound_fast ok g hv ht
  · split at hr
    · rename_i x hx
      simp only [Option.some.injEq] at hr
      subst hr
      exact sound_special ok g hx ht
    · obtain ⟨h1, rfl⟩ := quiet_some hr
      exact sound_conc g hns h1 ht

end Go.Proofs.Ae
