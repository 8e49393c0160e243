/- Delta: the operations of drawn regions that change a table. -/
import Derived.Test.YtdmakcfgcgioeaaRst
import Derived.Test.YtdmakcfgcgioeaaDApply
import Derived.Deep.MidRow
import Derived.Deep.WholeRow
namespace Go.Proofs.Ytdmakcfgcgioeaa
open Go.RowKit Go.Maps
set_option linter.unusedSimpArgs false
set_option linter.unusedVariables false
set_option maxRecDepth 100000
theorem siz53 : (Try.prog.info? 53).map (·.size) = some 12 := by kernel_rfl
/-- a load and a store of a rule, each under a name of its own. -/
def ld53 (p : Value) : Sem Next := do pure (.value (← Instr.loadAt 53 p))
def st53 (p v : Value) : Sem Next := do Instr.storeAt 53 p v; pure .skip
theorem execOp_ld53 (ρ : Operand → Value) (dst : Option Tmp) (x : Operand) (ty : TypeId) (pos : String) (after : Array Edge) (guard : Option (Nat × Bool)) :
    execOp ρ { dst, op := .load 53 x, type := ty, pos, after, guard } = ld53 (ρ x) := rfl
theorem execOp_st53 (ρ : Operand → Value) (dst : Option Tmp) (x y : Operand) (ty : TypeId) (pos : String) (after : Array Edge) (guard : Option (Nat × Bool)) :
    execOp ρ { dst, op := .store 53 x y, type := ty, pos, after, guard } = st53 (ρ x) (ρ y) := rfl
theorem run_ld53 {W : World} {b o : Nat} {y : Ru} (h : W.rangeAt b o (ceR y)) : (ld53 (.pointer (some ⟨b, o, none⟩))).run Try.prog W = .ok (.value (.agg (ceR y).toArray)) W := by
  obtain ⟨d, hu, hd⟩ := wide_of (t := 53) (by kernel_rfl)
  have := run_loadAt_mid (P := Try.prog) W b o 53 (ceR y) d h hu (by cases d <;> first | rfl | (simp at hd)) siz53
  simp only [ld53, Sem.run_bind, this, Result.andThen_ok, Sem.run_pure]
theorem run_st53 {W : World} {b o : Nat} {y : Ru} (h : W.there b o (ceR y).length) : (st53 (.pointer (some ⟨b, o, none⟩)) (.agg (ceR y).toArray)).run Try.prog W = .ok .skip (W.setCells b o (ceR y)) := by
  have := run_storeAt_mid (P := Try.prog) W b o 53 (ceR y).toArray (by simpa using h) siz53 (all_oneCell_toArray (oneR y))
  simp only [st53, Sem.run_bind, this, Result.andThen_ok, Sem.run_pure]
theorem siz55 : (Try.prog.info? 55).map (·.size) = some 16 := by kernel_rfl
def ld55 (p : Value) : Sem Next := do pure (.value (← Instr.loadAt 55 p))
def st55 (p v : Value) : Sem Next := do Instr.storeAt 55 p v; pure .skip
theorem execOp_ld55 (ρ : Operand → Value) (dst : Option Tmp) (x : Operand) (ty : TypeId) (pos : String) (after : Array Edge) (guard : Option (Nat × Bool)) :
    execOp ρ { dst, op := .load 55 x, type := ty, pos, after, guard } = ld55 (ρ x) := rfl
theorem execOp_st55 (ρ : Operand → Value) (dst : Option Tmp) (x y : Operand) (ty : TypeId) (pos : String) (after : Array Edge) (guard : Option (Nat × Bool)) :
    execOp ρ { dst, op := .store 55 x y, type := ty, pos, after, guard } = st55 (ρ x) (ρ y) := rfl
theorem run_ld55 {W : World} {b o : Nat} {y : Ed} (h : W.rangeAt b o (ceE y)) : (ld55 (.pointer (some ⟨b, o, none⟩))).run Try.prog W = .ok (.value (.agg (ceE y).toArray)) W := by
  obtain ⟨d, hu, hd⟩ := wide_of (t := 55) (by kernel_rfl)
  have := run_loadAt_mid (P := Try.prog) W b o 55 (ceE y) d h hu (by cases d <;> first | rfl | (simp at hd)) siz55
  simp only [ld55, Sem.run_bind, this, Result.andThen_ok, Sem.run_pure]
theorem run_ld55' {W : World} {b o : Nat} {cs : List Value} (hl : cs.length = 16) (h : W.rangeAt b o cs) : (ld55 (.pointer (some ⟨b, o, none⟩))).run Try.prog W = .ok (.value (.agg cs.toArray)) W := by
  obtain ⟨d, hu, hd⟩ := wide_of (t := 55) (by kernel_rfl)
  have := run_loadAt_mid (P := Try.prog) W b o 55 cs d h hu (by cases d <;> first | rfl | (simp at hd)) (by rw [hl]; exact siz55)
  simp only [ld55, Sem.run_bind, this, Result.andThen_ok, Sem.run_pure]
theorem run_ld55b {W : World} {b : Nat} {cs : List Value} {fr : Nat × Nat} (hl : cs.length = 16) (h : W.heap[b]? = some (.cells cs.toArray 55 fr)) : (ld55 (.pointer (some ⟨b, 0, none⟩))).run Try.prog W = .ok (.value (.agg cs.toArray)) W :=
  run_ld55' hl fun j v hv => by rw [cell_b h, Nat.zero_add]; simpa using hv
theorem st55_new (n : Nat) (W : World) (hn : n = W.heap.size) (c : Array Value) (hc : c.size = 16) (s t a : Int) (g : Bool) (r0 r1 r2 r3 r4 r5 r6 r7 r8 r9 r10 r11 : Int) :
    (st55 (.pointer (some ⟨n, 0, none⟩)) (.agg #[.int .i64 s, .int .i64 t, .int .i64 a, .bool g, .int .i64 r0, .int .u64 r1, .int .u64 r2, .int .u64 r3, .int .u64 r4, .int .i64 r5, .int .i64 r6, .int .i64 r7, .int .u64 r8, .int .u64 r9, .int .u64 r10, .int .u64 r11])).run Try.prog (W.alloc (.cells c 55)) = .ok .skip (W.alloc (.cells #[.int .i64 s, .int .i64 t, .int .i64 a, .bool g, .int .i64 r0, .int .u64 r1, .int .u64 r2, .int .u64 r3, .int .u64 r4, .int .i64 r5, .int .i64 r6, .int .i64 r7, .int .u64 r8, .int .u64 r9, .int .u64 r10, .int .u64 r11] 55)) := by
  subst hn
  have := run_storeAt_new (P := Try.prog) W 55 c #[.int .i64 s, .int .i64 t, .int .i64 a, .bool g, .int .i64 r0, .int .u64 r1, .int .u64 r2, .int .u64 r3, .int .u64 r4, .int .i64 r5, .int .i64 r6, .int .i64 r7, .int .u64 r8, .int .u64 r9, .int .u64 r10, .int .u64 r11] siz55 hc (all_oneCell_toArray (oneE ⟨s, t, a, g, ⟨r0, r1, r2, r3, r4, r5, r6, r7, r8, r9, r10, r11⟩⟩))
  simp only [st55, Sem.run_bind, this, Result.andThen_ok, Sem.run_pure]
theorem rangeAt_below {W W' : World} {b o : Nat} {cs : List Value} (h : W.rangeAt b o cs) (hb : RowKit.Below W.heap.size W W') : W'.rangeAt b o cs := fun j v hv => cell_below hb (h j v hv)
section
variable {Q : Exit → Act → World → Prop} {ops : List Oper} {ks : List Rws.Mk} {w0 : World} {a0 : Act} {ix : Nat}
theorem obl_fldT {dst : Option Tmp} {i g : Nat} {ty : TypeId} {pos : String} {after : Array Edge} {guard : Option (Nat × Bool)} (hl : Rws.leftB ops ix i = true) (hp : a0.tmps[i]? = some (.pointer (some ⟨g, 0, none⟩))) :
    Rws.Obl Try.prog Q ops ks w0 a0 ix { dst, op := .fieldAddr 31 (.tmp i) 2, type := ty, pos, after, guard } (.q (.pointer (some ⟨g, 4, none⟩))) := by
  refine Rws.obl_q (fun a W hbW h0 hd => ?_)
  have e1 := (h0 i hl).trans hp
  simp [go_sem, e1]
theorem obl_fldE {dst : Option Tmp} {i g f : Nat} {ty : TypeId} {pos : String} {after : Array Edge} {guard : Option (Nat × Bool)} (hl : Rws.leftB ops ix i = true) (hp : a0.tmps[i]? = some (.pointer (some ⟨g, 0, none⟩))) (hf : f = 0 ∨ f = 1 ∨ f = 2 ∨ f = 3 ∨ f = 4) :
    Rws.Obl Try.prog Q ops ks w0 a0 ix { dst, op := .fieldAddr 55 (.tmp i) f, type := ty, pos, after, guard } (.q (.pointer (some ⟨g, f, none⟩))) := by
  refine Rws.obl_q (fun a W hbW h0 hd => ?_)
  have e1 := (h0 i hl).trans hp
  rcases hf with rfl | rfl | rfl | rfl | rfl <;> simp [go_sem, e1]
theorem obl_ldI {dst : Option Tmp} {i jA g f : Nat} {x : Int} {ty : TypeId} {pos : String} {after : Array Edge} {guard : Option (Nat × Bool)} (bA : (after.any fun e => Region.binds .any e && e.on == jA) = true) (dA : (ops[jA]?).bind (·.dst) = some i) (kA : ks[jA]? = some (.q (.pointer (some ⟨g, f, none⟩))))
    (hc : w0.cell? ⟨g, f, none⟩ = some (.int .i64 x)) :
    Rws.Obl Try.prog Q ops ks w0 a0 ix { dst, op := .load 3 (.tmp i), type := ty, pos, after, guard } (.q (.int .i64 x)) := by
  refine Rws.obl_q (fun a W hbW h0 hd => ?_)
  have e1 := hd jA i _ bA dA kA
  have e2 := cell_below hbW hc
  simp [go_sem, e1, e2]
theorem obl_ldS {dst : Option Tmp} {i jA g f t : Nat} {o : Option Addr} {n c : Nat} {ty : TypeId} {pos : String} {after : Array Edge} {guard : Option (Nat × Bool)} (ht : t = 29 ∨ t = 43 ∨ t = 44) (bA : (after.any fun e => Region.binds .any e && e.on == jA) = true) (dA : (ops[jA]?).bind (·.dst) = some i) (kA : ks[jA]? = some (.q (.pointer (some ⟨g, f, none⟩))))
    (hc : w0.cell? ⟨g, f, none⟩ = some (.slice o n c)) :
    Rws.Obl Try.prog Q ops ks w0 a0 ix { dst, op := .load t (.tmp i), type := ty, pos, after, guard } (.q (.slice o n c)) := by
  refine Rws.obl_q (fun a W hbW h0 hd => ?_)
  have e1 := hd jA i _ bA dA kA
  have e2 := cell_below hbW hc
  rcases ht with rfl | rfl | rfl <;> simp [go_sem, e1, e2]
theorem obl_ldR {dst : Option Tmp} {i jA g f : Nat} {y : Ru} {ty : TypeId} {pos : String} {after : Array Edge} {guard : Option (Nat × Bool)} (bA : (after.any fun e => Region.binds .any e && e.on == jA) = true) (dA : (ops[jA]?).bind (·.dst) = some i) (kA : ks[jA]? = some (.q (.pointer (some ⟨g, f, none⟩))))
    (hc : w0.rangeAt g f (ceR y)) :
    Rws.Obl Try.prog Q ops ks w0 a0 ix { dst, op := .load 53 (.tmp i), type := ty, pos, after, guard } (.q (.agg (ceR y).toArray)) := by
  refine Rws.obl_q (fun a W hbW h0 hd => ?_)
  have e1 := hd jA i _ bA dA kA
  rw [execOp_ld53, Rws.eval_of e1]
  exact run_ld53 (rangeAt_below hc hbW)
theorem obl_ix {dst : Option Tmp} {i k jA jB g n c t j : Nat} {ty : TypeId} {pos : String} {after : Array Edge} {guard : Option (Nat × Bool)} (ht : t = 29 ∨ t = 43) (hj : j < n) (bA : (after.any fun e => Region.binds .any e && e.on == jA) = true) (dA : (ops[jA]?).bind (·.dst) = some i) (kA : ks[jA]? = some (.q (.slice (some ⟨g, 0, none⟩) n c))) (bB : (after.any fun e => Region.binds .any e && e.on == jB) = true) (dB : (ops[jB]?).bind (·.dst) = some k) (kB : ks[jB]? = some (.q (.int .i64 (j : Int)))) :
    Rws.Obl Try.prog Q ops ks w0 a0 ix { dst, op := .indexAddr t (.tmp i) (.tmp k), type := ty, pos, after, guard } (.q (.pointer (some ⟨g, j, none⟩))) := by
  refine Rws.obl_q (fun a W hbW h0 hd => ?_)
  have e1 := hd jA i _ bA dA kA
  have e2 := hd jB k _ bB dB kB
  have hjI : (j : Int) < (n : Int) := by omega
  rcases ht with rfl | rfl <;> simp [go_sem, e1, e2, hj, hjI]
theorem obl_ixR {dst : Option Tmp} {i k jA jB g n c j : Nat} {ty : TypeId} {pos : String} {after : Array Edge} {guard : Option (Nat × Bool)} (hj : j < n) (bA : (after.any fun e => Region.binds .any e && e.on == jA) = true) (dA : (ops[jA]?).bind (·.dst) = some i) (kA : ks[jA]? = some (.q (.slice (some ⟨g, 0, none⟩) n c))) (bB : (after.any fun e => Region.binds .any e && e.on == jB) = true) (dB : (ops[jB]?).bind (·.dst) = some k) (kB : ks[jB]? = some (.q (.int .i64 (j : Int)))) :
    Rws.Obl Try.prog Q ops ks w0 a0 ix { dst, op := .indexAddr 44 (.tmp i) (.tmp k), type := ty, pos, after, guard } (.q (.pointer (some ⟨g, j * 12, none⟩))) := by
  refine Rws.obl_q (fun a W hbW h0 hd => ?_)
  have e1 := hd jA i _ bA dA kA
  have e2 := hd jB k _ bB dB kB
  have hjI : (j : Int) < (n : Int) := by omega
  simp [go_sem, e1, e2, hj, hjI]
theorem obl_inc {dst : Option Tmp} {i jA j : Nat} {ty : TypeId} {pos : String} {after : Array Edge} {guard : Option (Nat × Bool)} (hj : j ≤ 1466015503701) (bA : (after.any fun e => Region.binds .any e && e.on == jA) = true) (dA : (ops[jA]?).bind (·.dst) = some i) (kA : ks[jA]? = some (.q (.int .i64 (j : Int)))) :
    Rws.Obl Try.prog Q ops ks w0 a0 ix { dst, op := .binOp .add 3 (.tmp i) (.const (.int .i64 1)) 3, type := ty, pos, after, guard } (.q (.int .i64 ((j : Int) + 1))) := by
  refine Rws.obl_q (fun a W hbW h0 hd => ?_)
  have e1 := hd jA i _ bA dA kA
  simp [go_sem, e1]
  rw [IntKind.wrap_i64]
  omega
theorem obl_hi {dst : Option Tmp} {i k jA jB g n cap j : Nat} {ty : TypeId} {pos : String} {after : Array Edge} {guard : Option (Nat × Bool)} (hn : j ≤ n) (hc : n ≤ cap) (bA : (after.any fun e => Region.binds .any e && e.on == jA) = true) (dA : (ops[jA]?).bind (·.dst) = some i) (kA : ks[jA]? = some (.q (.slice (some ⟨g, 0, none⟩) n cap))) (bB : (after.any fun e => Region.binds .any e && e.on == jB) = true) (dB : (ops[jB]?).bind (·.dst) = some k) (kB : ks[jB]? = some (.q (.int .i64 (j : Int)))) :
    Rws.Obl Try.prog Q ops ks w0 a0 ix { dst, op := .slice 44 (.tmp i) none (some (.tmp k)) none, type := ty, pos, after, guard } (.q (.slice (some ⟨g, 0, none⟩) j cap)) := by
  refine Rws.obl_q (fun a W hbW h0 hd => ?_)
  have e1 := hd jA i _ bA dA kA
  have e2 := hd jB k _ bB dB kB
  simp [go_sem, e1, e2]
  intro hcc
  omega
theorem obl_hi0 {dst : Option Tmp} {i k jA jB : Nat} {ty : TypeId} {pos : String} {after : Array Edge} {guard : Option (Nat × Bool)} (bA : (after.any fun e => Region.binds .any e && e.on == jA) = true) (dA : (ops[jA]?).bind (·.dst) = some i) (kA : ks[jA]? = some (.q (.slice none 0 0))) (bB : (after.any fun e => Region.binds .any e && e.on == jB) = true) (dB : (ops[jB]?).bind (·.dst) = some k) (kB : ks[jB]? = some (.q (.int .i64 ((0 : Nat) : Int)))) :
    Rws.Obl Try.prog Q ops ks w0 a0 ix { dst, op := .slice 44 (.tmp i) none (some (.tmp k)) none, type := ty, pos, after, guard } (.q (.slice none 0 0)) := by
  refine Rws.obl_q (fun a W hbW h0 hd => ?_)
  have e1 := hd jA i _ bA dA kA
  have e2 := hd jB k _ bB dB kB
  simp [go_sem, e1, e2]
theorem obl_lo {dst : Option Tmp} {i k jA jB g n cap j : Nat} {ty : TypeId} {pos : String} {after : Array Edge} {guard : Option (Nat × Bool)} (hn : j ≤ n) (hc : n ≤ cap) (bA : (after.any fun e => Region.binds .any e && e.on == jA) = true) (dA : (ops[jA]?).bind (·.dst) = some i) (kA : ks[jA]? = some (.q (.slice (some ⟨g, 0, none⟩) n cap))) (bB : (after.any fun e => Region.binds .any e && e.on == jB) = true) (dB : (ops[jB]?).bind (·.dst) = some k) (kB : ks[jB]? = some (.q (.int .i64 (j : Int)))) :
    Rws.Obl Try.prog Q ops ks w0 a0 ix { dst, op := .slice 44 (.tmp i) (some (.tmp k)) none none, type := ty, pos, after, guard } (.q (.slice (some ⟨g, if cap = j then 0 else j * 12, none⟩) (n - j) (cap - j))) := by
  refine Rws.obl_q (fun a W hbW h0 hd => ?_)
  have e1 := hd jA i _ bA dA kA
  have e2 := hd jB k _ bB dB kB
  have hnj : ((n - j : Nat) : Int) = (n : Int) - (j : Int) := by omega
  simp [go_sem, e1, e2]
  rw [if_pos (by omega)]
  split <;> rfl
theorem obl_lo1 {dst : Option Tmp} {i k jA jB g n cap j : Nat} {ty : TypeId} {pos : String} {after : Array Edge} {guard : Option (Nat × Bool)} (hn : j + 1 ≤ n) (hc : n ≤ cap) (bA : (after.any fun e => Region.binds .any e && e.on == jA) = true) (dA : (ops[jA]?).bind (·.dst) = some i) (kA : ks[jA]? = some (.q (.slice (some ⟨g, 0, none⟩) n cap))) (bB : (after.any fun e => Region.binds .any e && e.on == jB) = true) (dB : (ops[jB]?).bind (·.dst) = some k) (kB : ks[jB]? = some (.q (.int .i64 ((j : Int) + 1)))) :
    Rws.Obl Try.prog Q ops ks w0 a0 ix { dst, op := .slice 44 (.tmp i) (some (.tmp k)) none none, type := ty, pos, after, guard } (.q (.slice (some ⟨g, if cap = j + 1 then 0 else (j + 1) * 12, none⟩) (n - (j + 1)) (cap - (j + 1)))) :=
  obl_lo (jA := jA) (jB := jB) hn hc bA dA kA bB dB (by rw [kB]; rfl)
theorem obl_lo0 {dst : Option Tmp} {i k jA jB : Nat} {ty : TypeId} {pos : String} {after : Array Edge} {guard : Option (Nat × Bool)} (bA : (after.any fun e => Region.binds .any e && e.on == jA) = true) (dA : (ops[jA]?).bind (·.dst) = some i) (kA : ks[jA]? = some (.q (.slice none 0 0))) (bB : (after.any fun e => Region.binds .any e && e.on == jB) = true) (dB : (ops[jB]?).bind (·.dst) = some k) (kB : ks[jB]? = some (.q (.int .i64 ((0 : Nat) : Int)))) :
    Rws.Obl Try.prog Q ops ks w0 a0 ix { dst, op := .slice 44 (.tmp i) (some (.tmp k)) none none, type := ty, pos, after, guard } (.q (.slice none 0 0)) := by
  refine Rws.obl_q (fun a W hbW h0 hd => ?_)
  have e1 := hd jA i _ bA dA kA
  have e2 := hd jB k _ bB dB kB
  simp [go_sem, e1, e2]
/-- a literal of one rule. -/
theorem obl_litR {dst : Option Tmp} {jA d : Nat} {y : Ru} {ty : TypeId} {pos : String} {after : Array Edge} {guard : Option (Nat × Bool)} (bA : (after.any fun e => Region.binds .any e && e.on == jA) = true) (dA : (ops[jA]?).bind (·.dst) = some d) (kA : ks[jA]? = some (.q (.agg (ceR y).toArray))) :
    Rws.Obl Try.prog Q ops ks w0 a0 ix { dst, op := .buildSlice 44 1 #[(0, .tmp d)], type := ty, pos, after, guard } (.row 53 12 1 (ceR y) none none) := by
  intro a W νc νs hb h0 hd hc hs X hX
  unfold Oper.wp
  obtain ⟨i, hi1, hi2, hi3, _⟩ := info_parts inf53
  have hv := hd jA d _ bA dA kA
  have : (execOp a.eval { dst, op := .buildSlice 44 1 #[(0, .tmp d)], type := ty, pos, after, guard }).run Try.prog W = .ok (.value (.slice (some ⟨W.heap.size, 0, none⟩) 1 1)) (W.alloc (.cells (ceR y).toArray 53)) := by
    simp [go_sem, run_underlying und44, sizeOf, zeroValue, typeInfo, hi1, hi2, hi3, Instr.fill, hv, ceR]
  rw [this]
  refine hX _ _ ⟨⟨by simp [lenR], .inr ⟨W.heap.size, 1, (ceR y).toArray, rfl, hb.size, heap_alloc_new W _, Nat.le_refl _, by decide, by simp [lenR], by simp [lenR]; rw [← lenR y, List.take_length]⟩⟩, rfl⟩ (World.grownBy_alloc _ _ _) (fun g hg => ?_)
  simp [Value.ownBlock] at hg
  exact .inr (by omega)
theorem Ow.ofR {w : World} {base sz n : Nat} {e : TypeId} {v : Value} {xs : List Value} (h : w.ownsRow base e sz v n xs) : Ow w (fun g => base ≤ g) e sz v n xs := by
  refine ⟨h.1, h.2.imp id ?_⟩
  rintro ⟨g, cap, cur, h1, h2, h3, h4, h5, h6, h7⟩
  exact ⟨g, cap, cur, h1, h2, h3, h4, h5, by omega, h7⟩
/-- append of nothing. -/
theorem obl_app0 {dst : Option Tmp} {c dc dx jA n : Nat} {xs : List Value} {ty : TypeId} {pos : String} {after : Array Edge} {guard : Option (Nat × Bool)} {c1 s1 : Option Nat} (hc : ks[c]? = some (.row 53 12 n xs c1 s1)) (hdc : (ops[c]?).bind (·.dst) = some dc) (bA : (after.any fun e => Region.binds .any e && e.on == jA) = true) (dA : (ops[jA]?).bind (·.dst) = some dx) (kA : ks[jA]? = some (.q (.slice none 0 0))) :
    Rws.Obl Try.prog Q ops ks w0 a0 ix { dst, op := .call { callee := .builtin .append, args := #[.tmp dc, .tmp dx], argTypes := #[44, 44] }, type := ty, pos, after, guard } (.row 53 12 n xs (some c) none) := by
  intro a W νc νs hb h0 hd hcr hs X hX
  obtain ⟨i, hi1, hi2, hi3, _⟩ := info_parts inf53
  obtain ⟨hrow, hslot⟩ := hcr c rfl
  obtain ⟨hown, hsome⟩ := hrow _ _ _ _ _ _ hc
  have hown' : Ow W (fun g => w0.heap.size ≤ g) 53 12 νc n xs := Ow.ofR hown
  obtain ⟨o', cap', rfl⟩ := hown'.form
  have hr := run_append_nothing W 44 44 ty 53 i und44 hi1 o' n cap' hown'.rd.1 _ (Src.ofNil W und44 0)
  unfold Oper.wp execOp
  simp only [resolve, invoke, builtin, Sem.run_bind, Sem.run_pure, Result.andThen_ok, List.map_toArray, List.map_cons, List.map_nil, Rws.eval_of (hslot dc hdc), Rws.eval_of (hd jA dx _ bA dA kA), hr]
  exact hX _ W ⟨hown, hsome⟩ ⟨rfl, rfl, rfl, Nat.le_refl _, fun _ _ _ => rfl⟩ (fun g hg => .inl ⟨rfl, hg⟩)
/-- append of rules that lie there. -/
theorem obl_appR {dst : Option Tmp} {c dc dx jA n m cap : Nat} {g o : Nat} {xs : List Value} {l : List Ru} {ty : TypeId} {pos : String} {after : Array Edge} {guard : Option (Nat × Bool)} {c1 s1 : Option Nat} (hc : ks[c]? = some (.row 53 12 n xs c1 s1)) (hdc : (ops[c]?).bind (·.dst) = some dc) (bA : (after.any fun e => Region.binds .any e && e.on == jA) = true) (dA : (ops[jA]?).bind (·.dst) = some dx) (kA : ks[jA]? = some (.q (.slice (some ⟨g, o, none⟩) m cap)))
    (hl : l.length = m) (hx : ∀ (j : Nat) (u : Value), (l.flatMap ceR)[j]? = some u → w0.cell? ⟨g, o + j, none⟩ = some u) (h63 : n + m ≤ 1466015503701) :
    Rws.Obl Try.prog Q ops ks w0 a0 ix { dst, op := .call { callee := .builtin .append, args := #[.tmp dc, .tmp dx], argTypes := #[44, 44] }, type := ty, pos, after, guard } (.row 53 12 (n + m) (xs ++ l.flatMap ceR) (some c) none) :=
  Rws.obl_app (ad := ⟨g, o, none⟩) (m := m) (cap := cap) und44 inf53 rfl (by decide) hc hdc (fun a h0 hd => hd jA dx _ bA dA kA) (by rw [flat_len lenR, hl]) (fun W hbW i u hu => by rw [Addr.add_lit]; exact cell_below hbW (hx i u hu)) (flat_one oneR l) (by unfold maxLen; omega) (by omega)
end
end Go.Proofs.Ytdmakcfgcgioeaa
