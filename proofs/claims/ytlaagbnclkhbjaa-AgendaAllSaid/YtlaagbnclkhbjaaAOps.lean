/- Agenda: heap.Push, Fix, Remove, Pop. -/
import Derived.Test.YtlaagbnclkhbjaaAPush
namespace Go.Proofs.Ytlaagbnclkhbjaa
open Go.RowKit
set_option linter.unusedSimpArgs false
set_option linter.unusedVariables false
set_option maxRecDepth 100000
theorem Hq.cslice {S : Nat → Prop} {w : World} {p n : Nat} {mv ov : Value} {κ : Nat → Nat} {A O I : Nat → Int} (h : Hq S w p n mv ov κ A O I) : ∃ a c, w.cell? ⟨p, 0, none⟩ = some (.slice a n c) := by
  obtain ⟨sl, h1, h2, h3⟩ := h.hd
  rcases h2.2 with ⟨rfl, rfl⟩ | ⟨g', cap, cur, rfl, _⟩
  · exact ⟨_, _, by rw [cell_b h1]; rfl⟩
  · exact ⟨_, _, by rw [cell_b h1]; rfl⟩
theorem Hp.weak {S S' : Nat → Prop} {w : World} {p r cap n : Nat} {mv ov : Value} {κ : Nat → Nat} {A O I : Nat → Int} (h : Hp S w p r cap n mv ov κ A O I) (hs : ∀ b, S b → S' b) : Hp S' w p r cap n mv ov κ A O I :=
  ⟨h.hd, h.row, h.nc, h.cm, h.it, h.inj, hs _ h.sr, fun i hi => hs _ (h.sk i hi)⟩
theorem Hq.weak {S S' : Nat → Prop} {w : World} {p n : Nat} {mv ov : Value} {κ : Nat → Nat} {A O I : Nat → Int} (h : Hq S w p n mv ov κ A O I) (hs : ∀ b, S b → S' b) : Hq S' w p n mv ov κ A O I := by
  obtain ⟨sl, h1, h2, h3⟩ := h.hd
  exact ⟨⟨sl, h1, h2, fun r hr => hs _ (h3 r hr)⟩, h.it, h.inj, fun i hi => hs _ (h.sk i hi)⟩
set_option maxHeartbeats 1000000 in
theorem Push_h {S : Nat → Prop} {w : World} {p n : Nat} {mv ov : Value} {κ : Nat → Nat} {A O I : Nat → Int} (h : Hq S w p n mv ov κ A O I) (hn : n ≤ 100000000) (k : Nat) (pl : Int)
    (hk : w.heap[k]? = some (.cells #[.int .i64 (A k), .int .i64 (O k), .int .i64 (I k), .int .i64 pl] 56 (0, 0))) (hkn : ∀ i, i < n → κ i ≠ k) (hSp : S p) (hSk : S k) :
    Calls Try.prog 18 #[.iface 58 (.pointer (some ⟨p, 0, none⟩)), .iface 54 (.pointer (some ⟨k, 0, none⟩))] w fun e w' => e = .returned (.tuple #[]) ∧ Hq (fun b => S b ∨ w.heap.size ≤ b) w' p (n + 1) mv ov (upF (bef A O) (pushF κ n k) n) A O I ∧ Fr S w w' := by
  have m1 := mPush
  go_enter Try.func18, Try.ntmps18
  go_wp2_with fail
  refine (Push_m h (by omega) k pl hk hkn hSp hSk).mono ?_
  rintro e w1 ⟨rfl, h1, hf1⟩
  obtain ⟨a, c, hc⟩ := h1.cslice
  have m2 := mLen w1 p _ hc
  go_wp2_with fail
  refine (Len_c a (n + 1) c w1).mono ?_
  rintro e w2 ⟨rfl, rfl⟩
  obtain ⟨r, cap, h2⟩ := h1.hp (by omega)
  have hz : (((n + 1 : Nat) : Int) - 1) = (n : Int) := by omega
  go_wp2_with fail
  refine (up_c h2 n (by omega)).mono ?_
  rintro e w3 ⟨rfl, h3, hf3⟩
  go_wp2_with fail
  go_end0
  exact ⟨rfl, h3.hq, hf1.trans' hf3 (fun x hx => hx)⟩
/-- where the items lie behind Fix. -/
def fixF (B : Nat → Nat → Bool) (n : Nat) (κ : Nat → Nat) (i : Nat) : Nat → Nat :=
  if i < (dnF B n n κ i).2 then (dnF B n n κ i).1 else upF B (dnF B n n κ i).1 i
set_option maxHeartbeats 1000000 in
theorem Fix_h {S : Nat → Prop} {w : World} {p n : Nat} {mv ov : Value} {κ : Nat → Nat} {A O I : Nat → Int} (h : Hq S w p n mv ov κ A O I) (hn : n ≤ 100000000) (i : Nat) (hi : i < n) :
    Calls Try.prog 19 #[.iface 58 (.pointer (some ⟨p, 0, none⟩)), .int .i64 (i : Int)] w fun e w' => e = .returned (.tuple #[]) ∧ Hq S w' p n mv ov (fixF (bef A O) n κ i) A O I ∧ Fr S w w' := by
  obtain ⟨r, cap, h0⟩ := h.hp (by omega)
  have m2 := mLen w p _ h0.cslice
  go_enter Try.func19, Try.ntmps19
  go_wp2_with fail
  refine (Len_c _ n cap w).mono ?_
  rintro e w2 ⟨rfl, rfl⟩
  go_wp2_with fail
  refine (down_c h0 i n (by omega) (Nat.le_refl _) (by omega)).mono ?_
  rintro e w1 ⟨rfl, h1, hf1⟩
  by_cases hb : i < (dnF (bef A O) n n κ i).2
  · rw [decide_eq_true hb]
    go_wp2_with fail
    go_end0
    unfold fixF
    rw [if_pos hb]
    exact ⟨rfl, h1.hq, hf1⟩
  · rw [decide_eq_false hb]
    go_wp2_with fail
    refine (up_c h1 i hi).mono ?_
    rintro e w3 ⟨rfl, h3, hf3⟩
    go_wp2_with fail
    go_end0
    unfold fixF
    rw [if_neg hb]
    exact ⟨rfl, h3.hq, hf1.trans hf3⟩
/-- where the items lie behind Remove; the one that is removed lies last. -/
def remF (B : Nat → Nat → Bool) (n : Nat) (κ : Nat → Nat) (i : Nat) : Nat → Nat :=
  if n = i then κ else fixF B n (swp κ i n) i
set_option maxHeartbeats 1000000 in
theorem Remove_h {S : Nat → Prop} {w : World} {p n : Nat} {mv ov : Value} {κ : Nat → Nat} {A O I : Nat → Int} (h : Hq S w p (n + 1) mv ov κ A O I) (hn : n ≤ 100000000) (i : Nat) (hi : i < n + 1) (hSp : S p) :
    Calls Try.prog 20 #[.iface 58 (.pointer (some ⟨p, 0, none⟩)), .int .i64 (i : Int)] w fun e w' => e = .returned (.iface 54 (.pointer (some ⟨remF (bef A O) n κ i n, 0, none⟩))) ∧ Hq S w' p n mv ov (remF (bef A O) n κ i) A O I ∧ Fr S w w' ∧ ∀ j, j < n → remF (bef A O) n κ i j ≠ remF (bef A O) n κ i n := by
  obtain ⟨r, cap, h0⟩ := h.hp (by omega)
  have m2 := mLen w p _ h0.cslice
  have m3 := mSwap w p _ h0.cslice
  have m4 := mPop
  have hz : (((n + 1 : Nat) : Int) - 1) = (n : Int) := by omega
  go_enter Try.func20, Try.ntmps20
  go_wp2_with fail
  refine (Len_c _ (n + 1) cap w).mono ?_
  rintro e w2 ⟨rfl, rfl⟩
  by_cases hni : n = i
  · subst hni
    go_wp2_with fail
    refine (Pop_m h (by omega) hSp).mono ?_
    rintro e w1 ⟨rfl, h1, hf1, _, hlast⟩
    go_wp2_with fail
    go_ret
    unfold remF
    rw [if_pos rfl]
    exact ⟨rfl, h1, hf1, hlast⟩
  · have hni' : ¬ ((n : Int) = (i : Int)) := by omega
    have er : Hid (remF (bef A O) n κ i = fixF (bef A O) n (swp κ i n) i) := by unfold remF; rw [if_neg hni]; exact rfl
    go_wp2_with fail
    refine (Swap_h h0 (i := i) (j := n) hi (by omega)).mono ?_
    rintro e w1 ⟨rfl, h1, hf1⟩
    go_wp2_with fail
    refine (down_c h1 i n (by omega) (by omega) (by omega)).mono ?_
    rintro e w2 ⟨rfl, h2, hf2⟩
    by_cases hb : i < (dnF (bef A O) n n (swp κ i n) i).2
    · rw [decide_eq_true hb]
      have ef : Hid (fixF (bef A O) n (swp κ i n) i = (dnF (bef A O) n n (swp κ i n) i).1) := by unfold fixF; rw [if_pos hb]; exact rfl
      go_wp2_with fail
      refine (Pop_m h2.hq (by omega) hSp).mono ?_
      rintro e w3 ⟨rfl, h3, hf3, _, hlast⟩
      go_wp2_with fail
      go_ret
      rw [er.out, ef.out]
      exact ⟨rfl, h3, (hf1.trans hf2).trans hf3, hlast⟩
    · rw [decide_eq_false hb]
      have ef : Hid (fixF (bef A O) n (swp κ i n) i = upF (bef A O) (dnF (bef A O) n n (swp κ i n) i).1 i) := by unfold fixF; rw [if_neg hb]; exact rfl
      go_wp2_with fail
      refine (up_c h2 i hi).mono ?_
      rintro e w3 ⟨rfl, h3, hf3⟩
      go_wp2_with fail
      refine (Pop_m h3.hq (by omega) hSp).mono ?_
      rintro e w4 ⟨rfl, h4, hf4, _, hlast⟩
      go_wp2_with fail
      go_ret
      rw [er.out, ef.out]
      exact ⟨rfl, h4, ((hf1.trans hf2).trans hf3).trans hf4, hlast⟩
/-- where the items lie behind Pop; the one that is taken lies last. -/
def popF (B : Nat → Nat → Bool) (n : Nat) (κ : Nat → Nat) : Nat → Nat := (dnF B n n (swp κ 0 n) 0).1
set_option maxHeartbeats 1000000 in
theorem Pop_h {S : Nat → Prop} {w : World} {p n : Nat} {mv ov : Value} {κ : Nat → Nat} {A O I : Nat → Int} (h : Hq S w p (n + 1) mv ov κ A O I) (hn : n ≤ 100000000) (hSp : S p) :
    Calls Try.prog 21 #[.iface 58 (.pointer (some ⟨p, 0, none⟩))] w fun e w' => e = .returned (.iface 54 (.pointer (some ⟨popF (bef A O) n κ n, 0, none⟩))) ∧ Hq S w' p n mv ov (popF (bef A O) n κ) A O I ∧ Fr S w w' ∧ (∀ j, j < n → popF (bef A O) n κ j ≠ popF (bef A O) n κ n) ∧ ∃ j : Nat, w'.heap[popF (bef A O) n κ n]? = some (.cells #[.int .i64 (A (popF (bef A O) n κ n)), .int .i64 (O (popF (bef A O) n κ n)), .int .i64 (I (popF (bef A O) n κ n)), .int .i64 (j : Int)] 56 (0, 0)) := by
  obtain ⟨r, cap, h0⟩ := h.hp (by omega)
  have m2 := mLen w p _ h0.cslice
  have m3 := mSwap w p _ h0.cslice
  have m4 := mPop
  have hz : (((n + 1 : Nat) : Int) - 1) = (n : Int) := by omega
  go_enter Try.func21, Try.ntmps21
  go_wp2_with fail
  refine (Len_c _ (n + 1) cap w).mono ?_
  rintro e w2 ⟨rfl, rfl⟩
  go_wp2_with fail
  have hS := Swap_h h0 (i := 0) (j := n) (by omega) (by omega)
  rw [show ((0 : Nat) : Int) = 0 from rfl] at hS
  refine hS.mono ?_
  rintro e w1 ⟨rfl, h1, hf1⟩
  go_wp2_with fail
  have hD := down_c h1 0 n (by omega) (by omega) (by omega)
  rw [show ((0 : Nat) : Int) = 0 from rfl] at hD
  refine hD.mono ?_
  rintro e w2 ⟨rfl, h2, hf2⟩
  go_wp2_with fail
  refine (Pop_m h2.hq (by omega) hSp).mono ?_
  rintro e w3 ⟨rfl, h3, hf3, hl, hlast⟩
  go_wp2_with fail
  go_ret
  exact ⟨rfl, h3, (hf1.trans hf2).trans hf3, hlast, n, hl.trans (h2.it n (by omega))⟩
end Go.Proofs.Ytlaagbnclkhbjaa
