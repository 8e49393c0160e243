/- Agenda: the operations of the law's regions. -/
import Derived.Test.YtlaagbnclkhbjaaALDue2
namespace Go.Proofs.Ytlaagbnclkhbjaa
open Go.RowKit Go.Maps
set_option linter.unusedSimpArgs false
set_option linter.unusedVariables false
set_option maxRecDepth 100000
section
variable {Q : Exit → Act → World → Prop} {ops : List Oper} {ks : List Rws.Mk} {w0 : World} {a0 : Act} {ix : Nat}
theorem obl_sl_hi {dst : Option Tmp} {i k jA jB g n cap j : Nat} {ty : TypeId} {pos : String} {after : Array Edge} {guard : Option (Nat × Bool)} (hn : j ≤ n) (hc : n ≤ cap)
    (bA : (after.any fun e => Region.binds .any e && e.on == jA) = true) (dA : (ops[jA]?).bind (·.dst) = some i) (kA : ks[jA]? = some (.q (.slice (some ⟨g, 0, none⟩) n cap)))
    (bB : (after.any fun e => Region.binds .any e && e.on == jB) = true) (dB : (ops[jB]?).bind (·.dst) = some k) (kB : ks[jB]? = some (.q (.int .i64 (j : Int)))) :
    Rws.Obl Try.prog Q ops ks w0 a0 ix { dst, op := .slice 26 (.tmp i) none (some (.tmp k)) none, type := ty, pos, after, guard } (.q (.slice (some ⟨g, 0, none⟩) j cap)) := by
  refine Rws.obl_q (fun a W hbW h0 hd => ?_)
  have e1 := hd jA i _ bA dA kA
  have e2 := hd jB k _ bB dB kB
  simp [go_sem, e1, e2]
  intro hcc
  omega
theorem obl_sl_lo {dst : Option Tmp} {i k jA jB g n cap j : Nat} {ty : TypeId} {pos : String} {after : Array Edge} {guard : Option (Nat × Bool)} (hn : j + 1 ≤ n) (hc : n ≤ cap)
    (bA : (after.any fun e => Region.binds .any e && e.on == jA) = true) (dA : (ops[jA]?).bind (·.dst) = some i) (kA : ks[jA]? = some (.q (.slice (some ⟨g, 0, none⟩) n cap)))
    (bB : (after.any fun e => Region.binds .any e && e.on == jB) = true) (dB : (ops[jB]?).bind (·.dst) = some k) (kB : ks[jB]? = some (.q (.int .i64 ((j : Int) + 1)))) :
    Rws.Obl Try.prog Q ops ks w0 a0 ix { dst, op := .slice 26 (.tmp i) (some (.tmp k)) none none, type := ty, pos, after, guard } (.q (.slice (some ⟨g, if cap = j + 1 then 0 else (j + 1) * 2, none⟩) (n - (j + 1)) (cap - (j + 1)))) := by
  refine Rws.obl_q (fun a W hbW h0 hd => ?_)
  have e1 := hd jA i _ bA dA kA
  have e2 := hd jB k _ bB dB kB
  have hnj : ((n - (j + 1) : Nat) : Int) = (n : Int) - ((j : Int) + 1) := by omega
  simp [go_sem, e1, e2]
  rw [if_pos (by omega)]
  split <;> rfl
theorem obl_inc {dst : Option Tmp} {i jA j : Nat} {ty : TypeId} {pos : String} {after : Array Edge} {guard : Option (Nat × Bool)} (hj : j ≤ 100000000)
    (bA : (after.any fun e => Region.binds .any e && e.on == jA) = true) (dA : (ops[jA]?).bind (·.dst) = some i) (kA : ks[jA]? = some (.q (.int .i64 (j : Int)))) :
    Rws.Obl Try.prog Q ops ks w0 a0 ix { dst, op := .binOp .add 3 (.tmp i) (.const (.int .i64 1)) 3, type := ty, pos, after, guard } (.q (.int .i64 ((j : Int) + 1))) := by
  refine Rws.obl_q (fun a W hbW h0 hd => ?_)
  have e1 := hd jA i _ bA dA kA
  simp [go_sem, e1]
  rw [IntKind.wrap_i64]
  omega
theorem obl_fld {dst : Option Tmp} {i g f : Nat} {ty : TypeId} {pos : String} {after : Array Edge} {guard : Option (Nat × Bool)} (hl : Rws.leftB ops ix i = true) (hp : a0.tmps[i]? = some (.pointer (some ⟨g, 0, none⟩))) (hf : f = 1 ∨ f = 2) :
    Rws.Obl Try.prog Q ops ks w0 a0 ix { dst, op := .fieldAddr 28 (.tmp i) f, type := ty, pos, after, guard } (.q (.pointer (some ⟨g, f, none⟩))) := by
  refine Rws.obl_q (fun a W hbW h0 hd => ?_)
  have e1 := (h0 i hl).trans hp
  rcases hf with rfl | rfl <;> simp [go_sem, e1]
theorem obl_ld {dst : Option Tmp} {i jA g f : Nat} {x : Int} {ty : TypeId} {pos : String} {after : Array Edge} {guard : Option (Nat × Bool)}
    (bA : (after.any fun e => Region.binds .any e && e.on == jA) = true) (dA : (ops[jA]?).bind (·.dst) = some i) (kA : ks[jA]? = some (.q (.pointer (some ⟨g, f, none⟩))))
    (hg : g < w0.heap.size) (hc : w0.cell? ⟨g, f, none⟩ = some (.int .i64 x)) :
    Rws.Obl Try.prog Q ops ks w0 a0 ix { dst, op := .load 3 (.tmp i), type := ty, pos, after, guard } (.q (.int .i64 x)) := by
  refine Rws.obl_q (fun a W hbW h0 hd => ?_)
  have e1 := hd jA i _ bA dA kA
  have e2 : W.cell? ⟨g, f, none⟩ = some (.int .i64 x) := by rw [World.cell?_of_block (w := w0) (hbW.block g hg)]; exact hc
  simp [go_sem, e1, e2]
theorem obl_bld {dst : Option Tmp} {i k jA jB : Nat} {x y : Int} {ty : TypeId} {pos : String} {after : Array Edge} {guard : Option (Nat × Bool)}
    (bA : (after.any fun e => Region.binds .any e && e.on == jA) = true) (dA : (ops[jA]?).bind (·.dst) = some i) (kA : ks[jA]? = some (.q (.int .i64 x)))
    (bB : (after.any fun e => Region.binds .any e && e.on == jB) = true) (dB : (ops[jB]?).bind (·.dst) = some k) (kB : ks[jB]? = some (.q (.int .i64 y))) :
    Rws.Obl Try.prog Q ops ks w0 a0 ix { dst, op := .build 30 #[(0, .tmp i), (1, .tmp k)], type := ty, pos, after, guard } (.q (.agg #[.int .i64 x, .int .i64 y])) := by
  refine Rws.obl_q (fun a W hbW h0 hd => ?_)
  have e1 := hd jA i _ bA dA kA
  have e2 := hd jB k _ bB dB kB
  simp [go_sem, e1, e2, Instr.build, Instr.fill]
/-- the cells of a list's row, in whatever world of the region. -/
theorem lr_cells {g cap n : Nat} {l : List (Int × Int)} (hL : Lr w0 (.slice (some ⟨g, 0, none⟩) n cap) l) (W : World) (hbW : RowKit.Below w0.heap.size w0 W) (i : Nat) (u : Value) (hu : (flat l)[i]? = some u) : W.cell? ⟨g, i, none⟩ = some u := by
  have hadd : (⟨g, 0, none⟩ : Addr).add i = ⟨g, i, none⟩ := by unfold Addr.add; split <;> simp_all
  have h1 := hL.1.cells (g := g) rfl i u hu
  rw [hadd] at h1
  rw [World.cell?_of_block (w := w0) (hbW.block g (hL.lt g rfl).2)]
  exact h1
/-- l[:j] behind an empty literal -/
theorem obl_take {dst : Option Tmp} {c dc jx dx g cap n j : Nat} {l : List (Int × Int)} {ty : TypeId} {pos : String} {after : Array Edge} {guard : Option (Nat × Bool)} {c1 s1 : Option Nat}
    (hL : Lr w0 (.slice (some ⟨g, 0, none⟩) n cap) l) (hl : l.length ≤ 1000000) (hj : j ≤ l.length) (hc : ks[c]? = some (.row 30 2 0 [] c1 s1)) (hdc : (ops[c]?).bind (·.dst) = some dc)
    (bx : (after.any fun e => Region.binds .any e && e.on == jx) = true) (dx' : (ops[jx]?).bind (·.dst) = some dx) (kx : ks[jx]? = some (.q (.slice (some ⟨g, 0, none⟩) j cap))) :
    Rws.Obl Try.prog Q ops ks w0 a0 ix { dst, op := .call { callee := .builtin .append, args := #[.tmp dc, .tmp dx], argTypes := #[26, 26] }, type := ty, pos, after, guard } (.row 30 2 (0 + j) ([] ++ flat (l.take j)) (some c) none) := by
  have htl : (l.take j).length = j := by rw [List.length_take]; omega
  refine Rws.obl_app (ad := ⟨g, 0, none⟩) (m := j) (cap := cap) und26 i30 rfl (by decide) hc hdc (fun a h0 hd => hd jx dx _ bx dx' kx) (by rw [flat_len, htl]) (fun W hbW i u hu => ?_) (flat_one _) (by unfold maxLen; omega) (by omega)
  have hadd : (⟨g, 0, none⟩ : Addr).add i = ⟨g, i, none⟩ := by unfold Addr.add; split <;> simp_all
  rw [hadd]
  rw [flat_take, List.getElem?_take] at hu
  split at hu
  · exact lr_cells hL W hbW i u hu
  · cases hu
/-- l[j+1:] behind l[:j] -/
theorem obl_drop {dst : Option Tmp} {c dc jx dx g cap n j : Nat} {l : List (Int × Int)} {ty : TypeId} {pos : String} {after : Array Edge} {guard : Option (Nat × Bool)} {c1 s1 : Option Nat}
    (hL : Lr w0 (.slice (some ⟨g, 0, none⟩) n cap) l) (hnl : n = l.length) (hcap : n ≤ cap) (hl : l.length ≤ 1000000) (hj : j < l.length) (hc : ks[c]? = some (.row 30 2 (0 + j) ([] ++ flat (l.take j)) c1 s1)) (hdc : (ops[c]?).bind (·.dst) = some dc)
    (bx : (after.any fun e => Region.binds .any e && e.on == jx) = true) (dx' : (ops[jx]?).bind (·.dst) = some dx) (kx : ks[jx]? = some (.q (.slice (some ⟨g, if cap = j + 1 then 0 else (j + 1) * 2, none⟩) (n - (j + 1)) (cap - (j + 1))))) :
    Rws.Obl Try.prog Q ops ks w0 a0 ix { dst, op := .call { callee := .builtin .append, args := #[.tmp dc, .tmp dx], argTypes := #[26, 26] }, type := ty, pos, after, guard } (.row 30 2 (0 + j + (n - (j + 1))) ([] ++ flat (l.take j) ++ flat (l.drop (j + 1))) (some c) none) := by
  subst hnl
  have hdl : (l.drop (j + 1)).length = l.length - (j + 1) := List.length_drop
  refine Rws.obl_app (ad := ⟨g, if cap = j + 1 then 0 else (j + 1) * 2, none⟩) (m := l.length - (j + 1)) (cap := cap - (j + 1)) und26 i30 rfl (by decide) hc hdc (fun a h0 hd => hd jx dx _ bx dx' kx) (by rw [flat_len, hdl]) (fun W hbW i u hu => ?_) (flat_one _) (by unfold maxLen; omega) (by omega)
  rw [flat_drop, List.getElem?_drop] at hu
  have hi : (j + 1) * 2 + i < l.length * 2 := by
    have := (List.getElem?_eq_some_iff.1 hu).1
    rw [flat_len] at this
    exact this
  rw [if_neg (by omega)]
  have hadd : (⟨g, (j + 1) * 2, none⟩ : Addr).add i = ⟨g, (j + 1) * 2 + i, none⟩ := by unfold Addr.add; split <;> simp_all
  rw [hadd]
  exact lr_cells hL W hbW _ u hu
/-- l... behind an empty literal -/
theorem obl_all {dst : Option Tmp} {c dc jx dx g cap n : Nat} {l : List (Int × Int)} {ty : TypeId} {pos : String} {after : Array Edge} {guard : Option (Nat × Bool)} {c1 s1 : Option Nat}
    (hL : Lr w0 (.slice (some ⟨g, 0, none⟩) n cap) l) (hnl : n = l.length) (hl : l.length ≤ 1000000) (hc : ks[c]? = some (.row 30 2 0 [] c1 s1)) (hdc : (ops[c]?).bind (·.dst) = some dc)
    (bx : (after.any fun e => Region.binds .any e && e.on == jx) = true) (dx' : (ops[jx]?).bind (·.dst) = some dx) (kx : ks[jx]? = some (.q (.slice (some ⟨g, 0, none⟩) n cap))) :
    Rws.Obl Try.prog Q ops ks w0 a0 ix { dst, op := .call { callee := .builtin .append, args := #[.tmp dc, .tmp dx], argTypes := #[26, 26] }, type := ty, pos, after, guard } (.row 30 2 (0 + n) ([] ++ flat l) (some c) none) := by
  subst hnl
  refine Rws.obl_app (ad := ⟨g, 0, none⟩) (m := l.length) (cap := cap) und26 i30 rfl (by decide) hc hdc (fun a h0 hd => hd jx dx _ bx dx' kx) (flat_len _) (fun W hbW i u hu => ?_) (flat_one _) (by unfold maxLen; omega) (by omega)
  have hadd : (⟨g, 0, none⟩ : Addr).add i = ⟨g, i, none⟩ := by unfold Addr.add; split <;> simp_all
  rw [hadd]
  exact lr_cells hL W hbW i u hu
end
end Go.Proofs.Ytlaagbnclkhbjaa
