/- Delta: deep. -/
import Derived.Test.YtdmakcfgcgioeaaDOwn
namespace Go.Proofs.Ytdmakcfgcgioeaa
open Go.RowKit Go.Maps
set_option linter.unusedSimpArgs false
set_option linter.unusedVariables false
set_option maxRecDepth 100000
theorem take_snoc {α : Type} (L : List α) (k : Nat) (hk : k < L.length) : L.take (k + 1) = L.take k ++ [L[k]] := by
  rw [List.take_add_one, List.getElem?_eq_getElem hk]; rfl
theorem inf58 : (Try.prog.info? 58).map (fun i => (i.zero, i.size, i.bytes)) = some (some (.slice none 0 0), 1, 24) := by kernel_rfl
set_option maxHeartbeats 2000000 in
theorem deepP (w : World) {v : Value} {L : List (List Pt)} (h : Rows (Sl ceP) w L v) (hn : L.length ≤ 5864062014805) (hl : ∀ l ∈ L, l.length ≤ 3518437208883) :
    Calls Try.prog 24 #[v] w fun e w' => ∃ v', e = .returned v' ∧ OR 58 (O1 ceP 73 5) w' (fun g => w.heap.size ≤ g) L v' ∧ RowKit.Below w.heap.size w w' := by
  obtain ⟨o, c, vs, rfl, h0, ⟨hr1, hr2, b, off, hr3, hr4⟩, hvl, hel⟩ := h
  obtain ⟨i0, hi, hz0, hz1, hz2⟩ := info_parts inf58
  obtain ⟨n, hnn⟩ : ∃ n, Hid (L.length = n) := ⟨_, rfl⟩
  have HEL : Hid (∀ i (hi : i < L.length), ∃ o c, vs[i]? = some (.slice o L[i].length c) ∧ (o = none → L[i].length = 0 ∧ c = 0) ∧ Rd w o L[i].length c (L[i].flatMap ceP) ∧ L[i].length ≤ 3518437208883) := fun i hi => by
    obtain ⟨u, h1, o, c, rfl, h2, h3⟩ := hel i hi
    exact ⟨o, c, h1, h2, h3, hl _ (List.getElem_mem hi)⟩
  have HR := Lib.hid hr4
  have H3 := Lib.hid hr3
  have H0 := Lib.hid h0
  clear hel hr4 hr3 h0 hl
  rw [hnn.out] at hn hvl hr1 H3 ⊢
  simp only [maxLen] at hr2
  go_enter Try.func24, Try.ntmps24
  go_wp2_with fail
  go_loopw [3, 8] (fun v3 v8 wr => ∃ k : Nat, v8 = .int .i64 (k : Int) ∧ k ≤ n ∧ OR 58 (O1 ceP 73 5) wr (fun g => w.heap.size ≤ g ∧ g < wr.heap.size) (L.take k) v3 ∧ RowKit.Below w.heap.size w wr) (fun _ v8 _ => n - (intOf v8).toNat)
  case atStart => exact ⟨0, rfl, Nat.zero_le _, ⟨_, _, OX.nil⟩, Below.refl _ _⟩
  case round =>
    obtain ⟨k, rfl, hk, ⟨ws, Ss, hox⟩, hbr⟩ := hrel
    have htl : (L.take k).length = k := by rw [List.length_take, hnn.out]; omega
    obtain ⟨o3, c3, e3⟩ := hox.row.form
    have hrow := hox.row
    rw [htl] at e3 hrow
    subst e3
    have HROW := Lib.hid hrow
    have HTL := Lib.hid htl
    have HOX := Lib.hid hox
    clear hox hrow htl
    by_cases hlt : k < n
    · have hltI : (k : Int) < (n : Int) := by omega
      obtain ⟨ou, cu, h1, h2, h3, h4⟩ := HEL.out k (by rw [hnn.out]; exact hlt)
      have HU0 := Lib.hid h2
      have HRD := Lib.hid (h3.below hbr)
      have x0 := cell_below hbr (HR.out k _ h1)
      have ho' := Lib.hid (H3.out (by omega))
      obtain ⟨lk, hlk⟩ : ∃ lk, Hid (L[k]'(by rw [hnn.out]; exact hlt) = lk) := ⟨_, Lib.hid rfl⟩
      rw [hlk.out] at HRD HU0 x0 h4
      have hcl := cloneP wr HRD.out HU0.out h4
      have htk := Lib.hid (take_snoc L k (by rw [hnn.out]; exact hlt))
      rw [hlk.out] at htk
      clear h1 h2 h3
      rw [ho'.out]
      go_wp2_with fail
      refine hcl.mono ?_
      rintro e w1 ⟨u, rfl, hou, hb1⟩
      obtain ⟨ou2, cu2, rfl⟩ := hou.form
      obtain ⟨hr5, hr6, _⟩ := hou.rd
      have hoc := clipP w1 (o := ou2) (n := lk.length) (c := cu2) (fun ho => by subst ho; rcases hou.2 with ⟨e, hn⟩ | ⟨g, c2, cur, e, _⟩; exact ⟨hn, by simp at e; exact e.2⟩; simp at e) hr5 hr6
      have HOU := Lib.hid hou.clip
      clear hou hr5 hr6 hcl
      go_wp2_with fail
      refine hoc.mono ?_
      rintro e w1 ⟨rfl, rfl⟩
      clear hoc
      have hp : k + 1 ≤ maxLen := by simp only [maxLen]; omega
      have hq : (k + 1) * 24 ≤ 140737488355328 := by omega
      have hsz := hbr.size
      have hsz1 := hb1.size
      go_wp2_with (first
        | (at_builtin; (refine wpList_app_ow rfl _ _ 22 rfl (fun g => w.heap.size ≤ g) 58 i0 (.slice none 0 0) 1 24 und22 hi hz0 hz1 hz2 rfl (by decide) (.slice o3 k c3) k ws (by simp [Act.eval, Act.put]) (some ⟨w1.heap.size, 0, none⟩) 1 1 [.slice ou2 lk.length lk.length] (by simp [Act.eval, Act.put]) ?_ rfl (fun _ => ⟨_, rfl, cell_one_new _ _ _⟩) (by intro u hu; simp at hu; subst hu; rfl) hp hq (by simp; omega) ?_))
        | fail)
      case refine_1 => exact (HROW.out.mono (fun g _ h => h.1)).keep fun g hg => (al_lt' (by have := (HROW.out.lt hg).2; omega)).trans (hb1.block g (HROW.out.lt hg).2)
      case refine_2 =>
        intro o' c' w3 hown hg hat hsm
        have hs3 := hg.size
        simp only [World.size_alloc] at hs3
        have hsn : OR 58 (O1 ceP 73 5) w3 (fun g => w.heap.size ≤ g ∧ g < w3.heap.size) (L.take k ++ [lk]) (.slice o' (k + 1) c') := HOX.out.snoc (good1 _ _ _) HOU.out (fun g hg => hg) hb1 (below_al (Below.refl _ _) _) (by rw [HTL.out]; exact hown) hg (by first | exact hat | simpa using hat) (fun g h hl => ⟨h.1, by omega⟩) (fun g h1 h2 => ⟨by omega, h2⟩)
        rw [← htk.out] at hsn
        have hbn := below_grown (below_al (below_st hbr hb1) _) (fun g hgv => (HROW.out.lt hgv).1.1) hg
        have HSN := Lib.hid hsn
        clear hown hat hsn hsm
        go_wp2_with fail
        go_roundw
        case rel => exact ⟨k + 1, by go_num, by omega, HSN.out, hbn⟩
        case measure => simp [intOf]; omega
    · obtain rfl : k = n := by omega
      have htk : L.take k = L := by rw [← hnn.out, List.take_length]
      have hox := HOX.out
      rw [htk] at hox
      have hoc := clipPP wr (o := o3) (n := k) (c := c3) (fun ho => by subst ho; rcases HROW.out.2 with ⟨e, hn⟩ | ⟨g, c2, cur, e, _⟩; exact ⟨hn, by simp at e; exact e.2⟩; simp at e) HROW.out.rd.1 HROW.out.rd.2.1
      have HC := Lib.hid (hox.clip hnn.out.symm)
      clear hox htk
      go_wp2_with fail
      refine hoc.mono ?_
      rintro e wr ⟨rfl, rfl⟩
      go_wp2_with fail
      go_ret
      exact ⟨_, rfl, (goodR (good1 _ _ _)).mono ⟨_, _, HC.out⟩ (fun g h _ => h.1), hbr⟩
theorem inf44 : (Try.prog.info? 44).map (fun i => (i.zero, i.size, i.bytes)) = some (some (.slice none 0 0), 1, 24) := by kernel_rfl
set_option maxHeartbeats 2000000 in
theorem deepR (w : World) {v : Value} {L : List (List Ru)} (h : Rows (Sl ceR) w L v) (hn : L.length ≤ 5864062014805) (hl : ∀ l ∈ L, l.length ≤ 1466015503701) :
    Calls Try.prog 29 #[v] w fun e w' => ∃ v', e = .returned v' ∧ OR 44 (O1 ceR 53 12) w' (fun g => w.heap.size ≤ g) L v' ∧ RowKit.Below w.heap.size w w' := by
  obtain ⟨o, c, vs, rfl, h0, ⟨hr1, hr2, b, off, hr3, hr4⟩, hvl, hel⟩ := h
  obtain ⟨i0, hi, hz0, hz1, hz2⟩ := info_parts inf44
  obtain ⟨n, hnn⟩ : ∃ n, Hid (L.length = n) := ⟨_, rfl⟩
  have HEL : Hid (∀ i (hi : i < L.length), ∃ o c, vs[i]? = some (.slice o L[i].length c) ∧ (o = none → L[i].length = 0 ∧ c = 0) ∧ Rd w o L[i].length c (L[i].flatMap ceR) ∧ L[i].length ≤ 1466015503701) := fun i hi => by
    obtain ⟨u, h1, o, c, rfl, h2, h3⟩ := hel i hi
    exact ⟨o, c, h1, h2, h3, hl _ (List.getElem_mem hi)⟩
  have HR := Lib.hid hr4
  have H3 := Lib.hid hr3
  have H0 := Lib.hid h0
  clear hel hr4 hr3 h0 hl
  rw [hnn.out] at hn hvl hr1 H3 ⊢
  simp only [maxLen] at hr2
  go_enter Try.func29, Try.ntmps29
  go_wp2_with fail
  go_loopw [3, 8] (fun v3 v8 wr => ∃ k : Nat, v8 = .int .i64 (k : Int) ∧ k ≤ n ∧ OR 44 (O1 ceR 53 12) wr (fun g => w.heap.size ≤ g ∧ g < wr.heap.size) (L.take k) v3 ∧ RowKit.Below w.heap.size w wr) (fun _ v8 _ => n - (intOf v8).toNat)
  case atStart => exact ⟨0, rfl, Nat.zero_le _, ⟨_, _, OX.nil⟩, Below.refl _ _⟩
  case round =>
    obtain ⟨k, rfl, hk, ⟨ws, Ss, hox⟩, hbr⟩ := hrel
    have htl : (L.take k).length = k := by rw [List.length_take, hnn.out]; omega
    obtain ⟨o3, c3, e3⟩ := hox.row.form
    have hrow := hox.row
    rw [htl] at e3 hrow
    subst e3
    have HROW := Lib.hid hrow
    have HTL := Lib.hid htl
    have HOX := Lib.hid hox
    clear hox hrow htl
    by_cases hlt : k < n
    · have hltI : (k : Int) < (n : Int) := by omega
      obtain ⟨ou, cu, h1, h2, h3, h4⟩ := HEL.out k (by rw [hnn.out]; exact hlt)
      have HU0 := Lib.hid h2
      have HRD := Lib.hid (h3.below hbr)
      have x0 := cell_below hbr (HR.out k _ h1)
      have ho' := Lib.hid (H3.out (by omega))
      obtain ⟨lk, hlk⟩ : ∃ lk, Hid (L[k]'(by rw [hnn.out]; exact hlt) = lk) := ⟨_, Lib.hid rfl⟩
      rw [hlk.out] at HRD HU0 x0 h4
      have hcl := cloneR wr HRD.out HU0.out h4
      have htk := Lib.hid (take_snoc L k (by rw [hnn.out]; exact hlt))
      rw [hlk.out] at htk
      clear h1 h2 h3
      rw [ho'.out]
      go_wp2_with fail
      refine hcl.mono ?_
      rintro e w1 ⟨u, rfl, hou, hb1⟩
      obtain ⟨ou2, cu2, rfl⟩ := hou.form
      obtain ⟨hr5, hr6, _⟩ := hou.rd
      have hoc := clipR w1 (o := ou2) (n := lk.length) (c := cu2) (fun ho => by subst ho; rcases hou.2 with ⟨e, hn⟩ | ⟨g, c2, cur, e, _⟩; exact ⟨hn, by simp at e; exact e.2⟩; simp at e) hr5 hr6
      have HOU := Lib.hid hou.clip
      clear hou hr5 hr6 hcl
      go_wp2_with fail
      refine hoc.mono ?_
      rintro e w1 ⟨rfl, rfl⟩
      clear hoc
      have hp : k + 1 ≤ maxLen := by simp only [maxLen]; omega
      have hq : (k + 1) * 24 ≤ 140737488355328 := by omega
      have hsz := hbr.size
      have hsz1 := hb1.size
      go_wp2_with (first
        | (at_builtin; (refine wpList_app_ow rfl _ _ 43 rfl (fun g => w.heap.size ≤ g) 44 i0 (.slice none 0 0) 1 24 und43 hi hz0 hz1 hz2 rfl (by decide) (.slice o3 k c3) k ws (by simp [Act.eval, Act.put]) (some ⟨w1.heap.size, 0, none⟩) 1 1 [.slice ou2 lk.length lk.length] (by simp [Act.eval, Act.put]) ?_ rfl (fun _ => ⟨_, rfl, cell_one_new _ _ _⟩) (by intro u hu; simp at hu; subst hu; rfl) hp hq (by simp; omega) ?_))
        | fail)
      case refine_1 => exact (HROW.out.mono (fun g _ h => h.1)).keep fun g hg => (al_lt' (by have := (HROW.out.lt hg).2; omega)).trans (hb1.block g (HROW.out.lt hg).2)
      case refine_2 =>
        intro o' c' w3 hown hg hat hsm
        have hs3 := hg.size
        simp only [World.size_alloc] at hs3
        have hsn : OR 44 (O1 ceR 53 12) w3 (fun g => w.heap.size ≤ g ∧ g < w3.heap.size) (L.take k ++ [lk]) (.slice o' (k + 1) c') := HOX.out.snoc (good1 _ _ _) HOU.out (fun g hg => hg) hb1 (below_al (Below.refl _ _) _) (by rw [HTL.out]; exact hown) hg (by first | exact hat | simpa using hat) (fun g h hl => ⟨h.1, by omega⟩) (fun g h1 h2 => ⟨by omega, h2⟩)
        rw [← htk.out] at hsn
        have hbn := below_grown (below_al (below_st hbr hb1) _) (fun g hgv => (HROW.out.lt hgv).1.1) hg
        have HSN := Lib.hid hsn
        clear hown hat hsn hsm
        go_wp2_with fail
        go_roundw
        case rel => exact ⟨k + 1, by go_num, by omega, HSN.out, hbn⟩
        case measure => simp [intOf]; omega
    · obtain rfl : k = n := by omega
      have htk : L.take k = L := by rw [← hnn.out, List.take_length]
      have hox := HOX.out
      rw [htk] at hox
      have hoc := clipRR wr (o := o3) (n := k) (c := c3) (fun ho => by subst ho; rcases HROW.out.2 with ⟨e, hn⟩ | ⟨g, c2, cur, e, _⟩; exact ⟨hn, by simp at e; exact e.2⟩; simp at e) HROW.out.rd.1 HROW.out.rd.2.1
      have HC := Lib.hid (hox.clip hnn.out.symm)
      clear hox htk
      go_wp2_with fail
      refine hoc.mono ?_
      rintro e wr ⟨rfl, rfl⟩
      go_wp2_with fail
      go_ret
      exact ⟨_, rfl, (goodR (good1 _ _ _)).mono ⟨_, _, HC.out⟩ (fun g h _ => h.1), hbr⟩
end Go.Proofs.Ytdmakcfgcgioeaa
