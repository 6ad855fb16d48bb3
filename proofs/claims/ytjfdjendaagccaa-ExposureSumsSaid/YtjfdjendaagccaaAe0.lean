/-
  Abstract values: what a value of Go is, read without memory (slices by their cells), and the relation between such a value and the model's.
-/
import Derived.Calls
import Derived.Orders
import GoSem.Dispatch
namespace Go.Proofs.Ae
open Go

/-- what a run of a computation gives that neither looks at the world nor changes it -/
def pv {α : Type} (P : Program) : Sem α → Option α
  | .pure a => some a
  | .program k => pv P (k P)
  | .mark _ k => pv P k
  | _ => none

theorem pv_run {α : Type} {P : Program} {s : Sem α} {a : α} (h : pv P s = some a) (w : World) : s.run P w = .ok a w := by
  induction s with
  | pure b => simp only [pv, Option.some.injEq] at h; subst h; rfl
  | program k ih => exact ih P h
  | mark m k ih => exact ih h
  | _ => simp [pv] at h

inductive AVal where
  | sc (v : Value)
  | fs (cells : List AVal) (len : Nat) (cap : Option Nat)
  | fp (cells : List AVal)
  | ms (l off len sz lo : Nat) (ex : Bool)
  | ptr (l off lim : Nat)
  | mp (l : Nat)
  | agg (cs : List AVal)
  | tup (cs : List AVal)
  | ifc (t : TypeId) (v : AVal)
  | clo (fn : Fn) (first captured : List AVal)
  | top
  deriving Inhabited

structure Env where
  fm : Nat → Option (List Value)
  rho : Nat → List (Nat × Nat × Nat)
  blk : Nat → Nat

/-- the same frozen memory, and no object -/
def Env.pure (E : Env) : Env := { E with rho := fun _ => [], blk := fun _ => 0 }
theorem Env.pure_pure (E : Env) : E.pure.pure = E.pure := rfl

mutual
inductive Rv : Env → AVal → Value → Prop
  | sc {E : Env} (v : Value) : Rv E (.sc v) v
  | fs0 {E : Env} (a : Addr) (cap : Option Nat) (cap' : Nat) (hc : ∀ c, cap = some c → cap' = c) : Rv E (.fs [] 0 cap) (.slice (some a) 0 cap')
  | fsn {E : Env} (cap : Option Nat) (hc : ∀ c, cap = some c → 0 = c) : Rv E (.fs [] 0 cap) (.slice none 0 0)
  | top {E : Env} (v : Value) : Rv E .top v
  | fs {E : Env} (cells : List AVal) (len : Nat) (cap : Option Nat) (b off cap' : Nat) (c vs : List Value) (hl : len ≤ cap') (hc : ∀ c, cap = some c → cap' = c)
      (hb : E.fm b = some c) (hp : vs <+: c.drop off) (hv : RvL E.pure cells vs) : Rv E (.fs cells len cap) (.slice (some ⟨b, off, none⟩) len cap')
  | fp {E : Env} (cells : List AVal) (b off : Nat) (c vs : List Value) (hb : E.fm b = some c) (hp : vs <+: c.drop off) (hv : RvL E.pure cells vs) :
      Rv E (.fp cells) (.pointer (some ⟨b, off, none⟩))
  | ms {E : Env} (l off len sz lo : Nat) (ex : Bool) (b n tot cap' : Nat) (hr : (b, n, tot) ∈ E.rho l) (hn : off + len * sz ≤ n) (ht : off + cap' * sz ≤ tot)
      (hl : len ≤ lo) (hlo : lo ≤ cap') (hc : ex = true → cap' = lo) : Rv E (.ms l off len sz lo ex) (.slice (some ⟨b, off, none⟩) len cap')
  | ptr {E : Env} (l off lim : Nat) (b n tot : Nat) (hr : (b, n, tot) ∈ E.rho l) (hn : lim ≤ n) : Rv E (.ptr l off lim) (.pointer (some ⟨b, off, none⟩))
  | mp {E : Env} (l b : Nat) (hr : (b, 0, 0) ∈ E.rho l) : Rv E (.mp l) (.map (some b))
  | agg {E : Env} (cs : List AVal) (vs : Array Value) (h : RvL E cs vs.toList) : Rv E (.agg cs) (.agg vs)
  | tup {E : Env} (cs : List AVal) (vs : Array Value) (h : RvL E cs vs.toList) : Rv E (.tup cs) (.tuple vs)
  | ifc {E : Env} (t : TypeId) (a : AVal) (v : Value) (h : Rv E a v) : Rv E (.ifc t a) (.iface t v)
  | clo {E : Env} (fn : Fn) (fa ca : List AVal) (fv cv : Array Value) (hf : RvL E fa fv.toList) (hc : RvL E ca cv.toList) : Rv E (.clo fn fa ca) (.func fn fv cv)
inductive RvL : Env → List AVal → List Value → Prop
  | nil {E : Env} : RvL E [] []
  | cons {E : Env} {a : AVal} {as : List AVal} {v : Value} {vs : List Value} (h : Rv E a v) (hs : RvL E as vs) : RvL E (a :: as) (v :: vs)
end

/-! lists -/
theorem RvL.length {E : Env} : ∀ {as : List AVal} {vs : List Value}, RvL E as vs → as.length = vs.length
  | [], [], _ => rfl
  | _ :: _, _ :: _, .cons _ h => by simp [RvL.length h]

theorem RvL.get {E : Env} : ∀ {as : List AVal} {vs : List Value}, RvL E as vs → ∀ (i : Nat) (a : AVal), as[i]? = some a → ∃ v, vs[i]? = some v ∧ Rv E a v
  | _ :: _, _ :: _, .cons h _, 0, a, e => by simp at e; subst e; exact ⟨_, by simp, h⟩
  | _ :: _, _ :: _, .cons _ h, i + 1, a, e => by simpa using RvL.get h i a (by simpa using e)

theorem RvL.append {E : Env} : ∀ {as bs : List AVal} {vs us : List Value}, RvL E as vs → RvL E bs us → RvL E (as ++ bs) (vs ++ us)
  | [], _, [], _, _, h => h
  | _ :: _, _, _ :: _, _, .cons h h', g => .cons h (RvL.append h' g)

theorem RvL.take {E : Env} : ∀ {as : List AVal} {vs : List Value} (n : Nat), RvL E as vs → RvL E (as.take n) (vs.take n)
  | [], [], n, _ => by simp; exact .nil
  | _ :: _, _ :: _, 0, _ => by simp; exact .nil
  | _ :: _, _ :: _, n + 1, .cons h h' => by simp; exact .cons h (RvL.take n h')

theorem RvL.drop {E : Env} : ∀ {as : List AVal} {vs : List Value} (n : Nat), RvL E as vs → RvL E (as.drop n) (vs.drop n)
  | [], [], n, _ => by simp; exact .nil
  | _ :: _, _ :: _, 0, h => by simpa using h
  | _ :: _, _ :: _, n + 1, .cons _ h' => by simpa using RvL.drop n h'

theorem RvL.set {E : Env} : ∀ {as : List AVal} {vs : List Value} (i : Nat) {a : AVal} {v : Value}, RvL E as vs → Rv E a v → RvL E (as.set i a) (vs.set i v)
  | [], [], _, _, _, _, _ => by simp; exact .nil
  | _ :: _, _ :: _, 0, _, _, .cons _ h', g => .cons g h'
  | _ :: _, _ :: _, i + 1, _, _, .cons h h', g => by simpa using RvL.cons h (RvL.set i h' g)

theorem RvL.map_sc {E : Env} : ∀ (vs : List Value), RvL E (vs.map .sc) vs
  | [] => .nil
  | v :: vs => .cons (.sc v) (RvL.map_sc vs)

theorem RvL.replicate {E : Env} {a : AVal} {v : Value} (h : Rv E a v) : ∀ n, RvL E (List.replicate n a) (List.replicate n v)
  | 0 => .nil
  | n + 1 => .cons h (RvL.replicate h n)

theorem RvL.of_get {E : Env} : ∀ {as : List AVal} {vs : List Value}, as.length = vs.length →
    (∀ (i : Nat) (a : AVal) (v : Value), as[i]? = some a → vs[i]? = some v → Rv E a v) → RvL E as vs
  | [], [], _, _ => .nil
  | a :: as, v :: vs, hl, h => .cons (h 0 a v (by simp) (by simp))
      (RvL.of_get (by simpa using hl) fun i x y hx hy => h (i + 1) x y (by simpa using hx) (by simpa using hy))
  | [], _ :: _, hl, _ => by simp at hl
  | _ :: _, [], hl, _ => by simp at hl

theorem RvL.append_inv {E : Env} : ∀ {as bs : List AVal} {us : List Value}, RvL E (as ++ bs) us → RvL E as (us.take as.length) ∧ RvL E bs (us.drop as.length)
  | [], bs, us, h => ⟨by simpa using .nil, by simpa using h⟩
  | a :: as, bs, _ :: us, .cons h h' => by
    obtain ⟨g1, g2⟩ := RvL.append_inv h'
    exact ⟨by simpa using RvL.cons h g1, by simpa using g2⟩

/-! later environments -/
structure Env.Le (E E' : Env) : Prop where
  fm : ∀ b c, E.fm b = some c → ∃ c', E'.fm b = some c' ∧ c <+: c'
  rho : ∀ l x, x ∈ E.rho l → x ∈ E'.rho l

theorem Env.Le.refl (E : Env) : E.Le E := ⟨fun _ c h => ⟨c, h, List.prefix_refl c⟩, fun _ _ h => h⟩
theorem Env.Le.trans {E F G : Env} (h : E.Le F) (g : F.Le G) : E.Le G :=
  ⟨fun b c hc => by
    obtain ⟨c1, h1, p1⟩ := h.fm b c hc
    obtain ⟨c2, h2, p2⟩ := g.fm b c1 h1
    exact ⟨c2, h2, p1.trans p2⟩, fun l x hx => g.rho l x (h.rho l x hx)⟩

theorem Env.Le.pure {E E' : Env} (h : E.Le E') : E.pure.Le E'.pure := ⟨h.fm, fun _ _ h => h⟩
theorem Env.pure_le (E : Env) : E.pure.Le E := ⟨fun _ c h => ⟨c, h, List.prefix_refl c⟩, fun _ _ h => by simp [Env.pure] at h⟩

theorem drop_prefix {α : Type} {c c' : List α} (h : c <+: c') (off : Nat) : c.drop off <+: c'.drop off := by
  obtain ⟨t, rfl⟩ := h
  by_cases hl : off ≤ c.length
  · rw [List.drop_append_of_le_length hl]; exact List.prefix_append _ _
  · rw [List.drop_eq_nil_of_le (by omega)]; exact List.nil_prefix

mutual
theorem Rv.mono : ∀ {E E' : Env} {a : AVal} {v : Value}, E.Le E' → Rv E a v → Rv E' a v
  | _, _, _, _, h, .sc v => .sc v
  | _, _, _, _, h, .fs0 a cap cap' hc => .fs0 a cap cap' hc
  | _, _, _, _, h, .fsn cap hc => .fsn cap hc
  | _, _, _, _, h, .top v => .top v
  | _, _, _, _, h, .fs cells len cap b off cap' c vs hl hc hb hp hv =>
    let ⟨c', hb', hcc⟩ := h.fm b c hb
    .fs cells len cap b off cap' c' vs hl hc hb' (hp.trans (drop_prefix hcc off)) (RvL.mono h.pure hv)
  | _, _, _, _, h, .fp cells b off c vs hb hp hv =>
    let ⟨c', hb', hcc⟩ := h.fm b c hb
    .fp cells b off c' vs hb' (hp.trans (drop_prefix hcc off)) (RvL.mono h.pure hv)
  | _, _, _, _, h, .ms l off len sz lo ex b n tot cap' hr hn ht hl hlo hc => .ms l off len sz lo ex b n tot cap' (h.rho _ _ hr) hn ht hl hlo hc
  | _, _, _, _, h, .ptr l off lim b n tot hr hn => .ptr l off lim b n tot (h.rho _ _ hr) hn
  | _, _, _, _, h, .mp l b hr => .mp l b (h.rho _ _ hr)
  | _, _, _, _, h, .agg cs vs g => .agg cs vs (RvL.mono h g)
  | _, _, _, _, h, .tup cs vs g => .tup cs vs (RvL.mono h g)
  | _, _, _, _, h, .ifc t a v g => .ifc t a v (Rv.mono h g)
  | _, _, _, _, h, .clo fn fa ca fv cv hf hc => .clo fn fa ca fv cv (RvL.mono h hf) (RvL.mono h hc)
theorem RvL.mono : ∀ {E E' : Env} {as : List AVal} {vs : List Value}, E.Le E' → RvL E as vs → RvL E' as vs
  | _, _, _, _, h, .nil => .nil
  | _, _, _, _, h, .cons g gs => .cons (Rv.mono h g) (RvL.mono h gs)
end

/-! values without addresses -/
mutual
def conc : AVal → Option Value
  | .sc v => some v
  | .agg cs => match concL cs with
    | some l => some (.agg l.toArray)
    | none => none
  | .tup cs => match concL cs with
    | some l => some (.tuple l.toArray)
    | none => none
  | .ifc t a => match conc a with
    | some v => some (.iface t v)
    | none => none
  | .clo fn fa ca => match concL fa, concL ca with
    | some f, some c => some (.func fn f.toArray c.toArray)
    | _, _ => none
  | _ => none
def concL : List AVal → Option (List Value)
  | [] => some []
  | a :: as => match conc a, concL as with
    | some v, some vs => some (v :: vs)
    | _, _ => none
end

mutual
theorem Rv.of_conc {E : Env} : ∀ {a : AVal} {u v : Value}, conc a = some u → Rv E a v → v = u
  | .sc x, u, _, h, .sc _ => by simp [conc] at h; exact h
  | .agg cs, u, _, h, .agg _ vs g => by
    simp only [conc] at h
    split at h
    · rename_i l hl
      have := RvL.of_conc hl g
      simp only [Option.some.injEq] at h
      subst h
      rw [← this]
    · simp at h
  | .tup cs, u, _, h, .tup _ vs g => by
    simp only [conc] at h
    split at h
    · rename_i l hl
      have := RvL.of_conc hl g
      simp only [Option.some.injEq] at h
      subst h
      rw [← this]
    · simp at h
  | .ifc t a, u, _, h, .ifc _ _ v g => by
    simp only [conc] at h
    split at h
    · rename_i l hl
      have := Rv.of_conc hl g
      simp only [Option.some.injEq] at h
      subst h
      rw [← this]
    · simp at h
  | .clo fn fa ca, u, _, h, .clo _ _ _ fv cv hf hc => by
    simp only [conc] at h
    split at h
    · rename_i l l' hl hl'
      have h1 := RvL.of_conc hl hf
      have h2 := RvL.of_conc hl' hc
      simp only [Option.some.injEq] at h
      subst h
      rw [← h1, ← h2]
    · simp at h
theorem RvL.of_conc {E : Env} : ∀ {as : List AVal} {us vs : List Value}, concL as = some us → RvL E as vs → vs = us
  | [], us, _, h, .nil => by simp [concL] at h; exact h.symm
  | a :: as, us, _, h, .cons g gs => by
    simp only [concL] at h
    split at h
    · rename_i v vs hv hvs
      have h1 := Rv.of_conc hv g
      have h2 := RvL.of_conc hvs gs
      simp only [Option.some.injEq] at h
      subst h
      rw [h1, h2]
    · simp at h
end

def ofVal1 : Value → AVal
  | .agg cs => .agg (cs.toList.map .sc)
  | .tuple cs => .tup (cs.toList.map .sc)
  | .func fn f c => .clo fn (f.toList.map .sc) (c.toList.map .sc)
  | v => .sc v
def ofVal : Value → AVal
  | .tuple cs => .tup (cs.toList.map ofVal1)
  | .iface t v => .ifc t (ofVal1 v)
  | v => ofVal1 v

theorem rv_ofVal1 {E : Env} (v : Value) : Rv E (ofVal1 v) v := by
  cases v <;> first | exact .sc _ | exact .agg _ _ (RvL.map_sc _) | exact .tup _ _ (RvL.map_sc _) | exact .clo _ _ _ _ _ (RvL.map_sc _) (RvL.map_sc _)

theorem rvl_ofVal1 {E : Env} : ∀ vs : List Value, RvL E (vs.map ofVal1) vs
  | [] => .nil
  | v :: vs => .cons (rv_ofVal1 v) (rvl_ofVal1 vs)

theorem rv_ofVal {E : Env} (v : Value) : Rv E (ofVal v) v := by
  cases v <;> first | exact .tup _ _ (rvl_ofVal1 _) | exact .ifc _ _ _ (rv_ofVal1 _) | (simp only [ofVal]; exact rv_ofVal1 _)

/-! the cells of a value -/
def AVal.cells : AVal → List AVal
  | .agg cs => cs
  | .sc (.agg cs) => cs.toList.map .sc
  | v => [v]

/-- is anything known of it? -/
def AVal.known : AVal → Bool
  | .top => false
  | _ => true

theorem Rv.cells {E : Env} {a : AVal} {v : Value} (h : Rv E a v) (hk : a.known = true) : RvL E a.cells v.cells.toList := by
  cases h with
  | sc v => cases v <;> first | exact RvL.map_sc _ | exact .cons (.sc _) .nil
  | agg cs vs g => exact g
  | fs0 => exact .cons (.fs0 _ _ _ (by assumption)) .nil
  | fsn => exact .cons (.fsn _ (by assumption)) .nil
  | top v => simp [AVal.known] at hk
  | fs => exact .cons (.fs _ _ _ _ _ _ _ _ (by assumption) (by assumption) (by assumption) (by assumption) (by assumption)) .nil
  | fp => exact .cons (.fp _ _ _ _ _ (by assumption) (by assumption) (by assumption)) .nil
  | ms => exact .cons (.ms _ _ _ _ _ _ _ _ _ _ (by assumption) (by assumption) (by assumption) (by assumption) (by assumption) (by assumption)) .nil
  | ptr => exact .cons (.ptr _ _ _ _ _ _ (by assumption) (by assumption)) .nil
  | mp => exact .cons (.mp _ _ (by assumption)) .nil
  | tup => exact .cons (.tup _ _ (by assumption)) .nil
  | ifc => exact .cons (.ifc _ _ _ (by assumption)) .nil
  | clo => exact .cons (.clo _ _ _ _ _ (by assumption) (by assumption)) .nil

/-- may it lie in one cell? -/
def AVal.oneCell : AVal → Bool
  | .agg _ | .tup _ | .sc (.agg _) | .sc (.tuple _) | .top => false
  | _ => true

def Value.oneCell : Value → Bool
  | .agg _ | .tuple _ => false
  | _ => true

theorem AVal.known_of_one {x : AVal} (h : x.cells.all AVal.oneCell = true) : x.known = true := by
  cases x <;> first | rfl | simp [AVal.cells, AVal.oneCell] at h

theorem Rv.oneCell {E : Env} {a : AVal} {v : Value} (h : Rv E a v) (ho : a.oneCell = true) : Value.oneCell v = true := by
  cases h with
  | sc => cases v <;> first | rfl | (simp [AVal.oneCell] at ho)
  | agg => simp [AVal.oneCell] at ho
  | tup => simp [AVal.oneCell] at ho
  | top => simp [AVal.oneCell] at ho
  | _ => rfl

end Go.Proofs.Ae
