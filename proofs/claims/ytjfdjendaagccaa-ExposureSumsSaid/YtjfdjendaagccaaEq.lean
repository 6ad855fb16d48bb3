/-
  Two rows of seven numbers compared, where they are the same.
-/
import Derived.Test.YtjfdjendaagccaaTypes
namespace Go.Proofs.Ytjfdjendaagccaa
open Go Go.Proofs Go.Proofs.Ae
set_option linter.unusedSimpArgs false
set_option linter.unusedVariables false
set_option linter.unnecessarySimpa false

theorem pv_bind {α β : Type} (P : Program) (s : Sem α) (f : α → Sem β) : pv P (s >>= f) = (pv P s).bind fun a => pv P (f a) := by
  show pv P (Sem.bind s f) = _
  induction s with
  | pure a => rfl
  | program k ih => simpa only [Sem.bind, pv] using ih P
  | mark m k ih => simpa only [Sem.bind, pv] using ih
  | _ => rfl

theorem pv_pure {α : Type} (P : Program) (a : α) : pv P (pure a : Sem α) = some a := rfl

theorem pv_u27 : pv Try.prog (underlying 27) = some (.array 7 3) := by kernel_rfl
theorem pv_u3 : pv Try.prog (underlying 3) = some (.int .i64) := by kernel_rfl
theorem pv_s3 : pv Try.prog (sizeOf 3) = some 1 := by kernel_rfl

theorem eq_int (d : Nat) (c : Int) : pv Try.prog (Op.equalIn (d + 1) 3 (.int .i64 c) (.int .i64 c)) = some true := by
  simp only [Op.equalIn, pv_bind, pv_u3, Option.bind_some, if_true, pv_pure, beq_self_eq_true]

theorem pv_part {xs : Array Value} {i : Nat} {v : Value} (h : xs[i]? = some v) : pv Try.prog (part 3 xs i) = some v := by
  have h1 : pv Try.prog (isAgg 3) = some false := by kernel_rfl
  simp only [part, pv_bind, h1, Option.bind_some]
  simp [h, pv_pure]

theorem eq_go (d : Nat) (xs : Array Value) : ∀ l : List Nat, (∀ i, i ∈ l → ∃ c, xs[i]? = some (.int .i64 c)) →
    pv Try.prog (forIn l ((none : Option Bool), ()) fun i _ => do
      let a ← part 3 xs i
      let b ← part 3 xs i
      let r ← Op.equalIn (d + 1) 3 a b
      if (!r) = true then pure (ForInStep.done (some false, ())) else pure (ForInStep.yield ((none : Option Bool), ()))) = some (none, ())
  | [], _ => by simp only [List.forIn_nil, pv_pure]
  | i :: l, h => by
    obtain ⟨c, hc⟩ := h i (by simp)
    simp only [List.forIn_cons, pv_bind, pv_part hc, Option.bind_some, eq_int d c, Bool.not_true, Bool.false_eq_true, if_false, pv_pure]
    exact eq_go d xs l fun j hj => h j (by simp [hj])

theorem eq_row (d : Nat) (xs : Array Value) (hx : ∀ i, i < 7 → ∃ c, xs[i]? = some (.int .i64 c)) : pv Try.prog (Op.equalIn (d + 2) 27 (.agg xs) (.agg xs)) = some true := by
  rw [Op.equalIn]
  simp only [pv_bind, pv_u27, Option.bind_some, pv_s3, Nat.mul_one]
  rw [Std.Legacy.Range.forIn_eq_forIn_range']
  have hr : List.range' 0 7 1 = [0, 1, 2, 3, 4, 5, 6] := rfl
  simp only [Std.Legacy.Range.size, Nat.sub_zero, Nat.reduceAdd, Nat.reduceSub, Nat.div_one, hr]
  rw [eq_go d xs [0, 1, 2, 3, 4, 5, 6] (fun i hi => hx i (by simp at hi; omega))]
  rfl

theorem guard_row (x y : Operand) (xs : Array Value) : pv Try.prog (eqGuard .eql 27 x y (.agg xs) (.agg xs)) = some () := by kernel_rfl

theorem conc_ints : ∀ l : List Int, concL (l.map fun n => .sc (.int .i64 n)) = some (l.map (Value.int .i64))
  | [] => rfl
  | a :: l => by simp [concL, conc, conc_ints l]

/-- the comparison, where both rows are the same -/
theorem st_eq27 {call : CallF} {d : Bool} {h : AHeap} {s : Option Nat} {t : List AVal} {dst : Option Tmp} {tt yt : TypeId} {ps : String} {af : Array Edge} {g : Option (Nat × Bool)} {x y : Operand} {l : List Int}
    (hl : l.length = 7) (hx : aEval t x = .agg (l.map fun n => .sc (.int .i64 n))) (hy : aEval t y = .agg (l.map fun n => .sc (.int .i64 n))) :
    aStep C0 call d h s t ⟨dst, .binOp .eql 27 x y yt, tt, ps, af, g⟩ = some (.ret (.sc (.bool true)), []) := by
  have hc : conc (.agg (l.map fun n => .sc (.int .i64 n))) = some (.agg (l.map (Value.int .i64)).toArray) := by simp only [conc, conc_ints]
  have hn : aNilEq C0 27 (.agg (l.map fun n => .sc (.int .i64 n))) (.agg (l.map fun n => .sc (.int .i64 n))) = false := by kernel_rfl
  have hrow := eq_row 9998 (l.map (Value.int .i64)).toArray (fun i hi => ⟨l[i]'(by omega), by simp [hl ▸ hi]⟩)
  have hex : pv Try.prog (execOp (concEval t) ⟨dst, .binOp .eql 27 x y yt, tt, ps, af, g⟩) = some (.value (.bool true)) := by
    simp only [execOp, concEval, hx, hy, hc, Option.getD_some, pv_bind, guard_row, Option.bind_some, binOp, Op.equal, Op.maxDepth, hrow, pv_pure]
  simp only [aStep, aOp, aFast, hx, hy, aSpecial, hn, Bool.false_eq_true, if_false, aConc, Op.operands]
  have hall : ([x, y].all fun o => (conc (aEval t o)).isSome) = true := by simp [hx, hy, hc]
  have hP : C0.P = Try.prog := rfl
  simp only [hall, if_true, hP, hex, ofVal, ofVal1, quiet]

end Go.Proofs.Ytjfdjendaagccaa
