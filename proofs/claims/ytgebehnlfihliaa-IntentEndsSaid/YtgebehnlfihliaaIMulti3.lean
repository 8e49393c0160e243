/- The operations of an assignment to several variables, one law for each kind. -/
import Derived.Test.YtgebehnlfihliaaIMulti2
namespace Go.Proofs.Ytgebehnlfihliaa.Hd
open Go.RowKit Go.Sort
section
variable {P : Program} {Q : Exit → Act → World → Prop} {ops : List Oper} {ks : List Mk} {w0 : World} {a0 : Act}
theorem eval_of {a : Act} {i : Nat} {v : Value} (h : a.tmps[i]? = some v) : a.eval (.tmp i) = v := by
  simp [Act.eval, h]
/-- a struct or an array -/
def wide : TypeDesc → Bool
  | .struct _ | .array _ _ => true
  | _ => false
/-- a whole variable that was there is loaded -/
theorem obl_load {dst : Option Tmp} {τ : TypeId} {i n : Nat} {c : Array Value} {ty : TypeId} {pos : String} {after : Array Edge} {guard : Option (Nat × Bool)} (hd : dstB ops i = false) (hp : a0.tmps[i]? = some (.pointer (some ⟨n, 0, none⟩)))
    (hh : w0.heap[n]? = some (.cells c τ)) (hu : ((P.underlying τ).any wide) = true) (hi : (P.info? τ).map (·.size) = some c.size) :
    Obl P Q ops ks w0 a0 { dst, op := .load τ (.tmp i), type := ty, pos, after, guard } (.q (.agg c)) := by
  intro a W hb h0 _ X hX
  have hW : W.heap[n]? = some (.cells c τ) := (hb.block n (Array.getElem?_eq_some_iff.1 hh).1).trans hh
  have hr : (execOp a.eval { dst, op := .load τ (.tmp i), type := ty, pos, after, guard }).run P W = .ok (.value (.agg c)) W := by
    show (do pure (Next.value (← Instr.loadAt τ (a.eval (.tmp i)))) : Sem Next).run P W = _
    rw [eval_of ((h0 i hd).trans hp)]
    obtain ⟨d, hd, hw⟩ : ∃ d, P.underlying τ = some d ∧ wide d = true := by
      cases h : P.underlying τ with
      | none => rw [h] at hu; cases hu
      | some d => exact ⟨d, rfl, by rw [h] at hu; simpa using hu⟩
    have := run_loadVar_row (P := P) W n τ τ c (0, 0) d hW hd (by cases d <;> first | rfl | cases hw) hi
    simp only [Instr.loadAt, Instr.sureAddr, Sem.run_bind, Sem.run_pure, Result.andThen_ok, this]
  unfold Oper.wp
  rw [hr]
  exact hX W (Below.refl _ _)
/-- a function of the program is called, which leaves what was there -/
theorem obl_call {dst : Option Tmp} {f : FuncId} {xs : Array Operand} {ats : Array TypeId} {ty : TypeId} {pos : String} {after : Array Edge} {guard : Option (Nat × Bool)} {v : Value} (args : Array Value)
    (hx : ∀ a : Act, (∀ d : Nat, dstB ops d = false → a.tmps[d]? = a0.tmps[d]?) →
      (∀ (j d : Nat) (v' : Value), (after.any fun e => Region.binds .any e && e.on == j) = true → (ops[j]?).bind (·.dst) = some d → ks[j]? = some (.q v') → a.tmps[d]? = some v') → xs.map a.eval = args)
    (hf : ((P.funcs[f]?).any fun fn => fn.name != "runtime.NumGoroutine" && fn.body.isSome) = true) (hc : ∀ W : World, RowKit.Below w0.heap.size w0 W → Calls P f args W fun e W' => e = .returned v ∧ RowKit.Below W.heap.size W W') :
    Obl P Q ops ks w0 a0 { dst, op := .call { callee := .value (.func f), args := xs, argTypes := ats }, type := ty, pos, after, guard } (.q v) := by
  intro a W hb h0 hd X hX
  unfold Oper.wp
  rw [execOp_call_go, hx a h0 hd]
  have hf' : (callFunc f args).run P W = .ok (.enter f args) W := by
    cases hq : P.funcs[f]? with
    | none => rw [hq] at hf; cases hf
    | some fn =>
      rw [hq] at hf
      simp only [Option.any_some, Bool.and_eq_true, bne_iff_ne, ne_eq] at hf
      obtain ⟨c, hc⟩ := Option.isSome_iff_exists.1 hf.2
      simp [callFunc, hq, hf.1, hc]
  rw [show (#[] ++ args ++ #[] : Array Value) = args by simp, hf']
  refine (hc W hb).mono ?_
  rintro e W' ⟨rfl, hb'⟩
  exact hX W' hb'
/-- a variable is made -/
theorem obl_alloc {dst : Option Tmp} {τ : TypeId} {z : Array Value} {ty : TypeId} {pos : String} {after : Array Edge} {guard : Option (Nat × Bool)} (hz : (P.info? τ).map (·.zero) = some (some (.agg z))) :
    Obl P Q ops ks w0 a0 { dst, op := .alloc τ, type := ty, pos, after, guard } (.al τ z) := by
  intro a W
  cases hq : P.info? τ with
  | none => simp [hq] at hz
  | some i =>
    have hi : i.zero = some (.agg z) := by simpa [hq] using hz
    simp [go_sem, zeroValue, typeInfo, hq, hi]
/-- a value is laid into it -/
theorem obl_store {dst : Option Tmp} {τ : TypeId} {j q dj dq : Nat} {z c : Array Value} {ty : TypeId} {pos : String} {after : Array Edge} {guard : Option (Nat × Bool)} (hj : ks[j]? = some (.al τ z)) (hq : ks[q]? = some (.q (.agg c))) (hs : c.size = z.size)
    (hdj : (ops[j]?).bind (·.dst) = some dj) (hdq : (ops[q]?).bind (·.dst) = some dq) (hi : (P.info? τ).map (·.size) = some c.size) (h1 : c.all (·.oneCell') = true) :
    Obl P Q ops ks w0 a0 { dst, op := .store τ (.tmp dj) (.tmp dq), type := ty, pos, after, guard } (.st j q τ c) := by
  refine ⟨z, .agg c, hj, hq, hs, fun a W k dj' dq' c0 e1 e2 e3 e4 e5 e6 => ?_⟩
  rw [hdj] at e1; cases e1
  rw [hdq] at e2; cases e2
  show (do Instr.storeAt τ (a.eval (.tmp dj)) (a.eval (.tmp dq)); pure Next.skip : Sem Next).run P W = _
  rw [eval_of e3, eval_of e4]
  have := run_storeVar_row (P := P) W k τ τ c0 c e5 hi (by omega) h1
  simp only [Instr.storeAt, Instr.sureAddr, Sem.run_bind, Sem.run_pure, Result.andThen_ok, this]
end
end Go.Proofs.Ytgebehnlfihliaa.Hd
