/- Agenda: Due. -/
import Derived.Test.YtlaagbnclkhbjaaADrop
namespace Go.Proofs.Ytlaagbnclkhbjaa
open Go.RowKit Go.Maps
set_option linter.unusedSimpArgs false
set_option linter.unusedVariables false
set_option maxRecDepth 100000
/-- what is due at a moment, in its order, and what is left. -/
inductive DueR (now : Int) : List (Int × Int) → List Int → List (Int × Int) → Prop
  | stop {l : List (Int × Int)} : (∀ y ∈ l, now < y.1) → DueR now l [] l
  | step {pre post : List (Int × Int)} {y : Int × Int} {out : List Int} {rest : List (Int × Int)} : y.1 ≤ now → (∀ z ∈ pre, y.1 < z.1) → (∀ z ∈ post, y.1 ≤ z.1) → DueR now (pre ++ post) out rest → DueR now (pre ++ y :: post) (y.2 :: out) rest
theorem AgB.head {S : Nat → Prop} {w : World} {p c m n : Nat} {κ : Nat → Nat} {A O I : Nat → Int} {L : List Nat} {cnt : Nat} {D : DU} (h : AgB S w p c m n κ A O I L cnt D) (hn : 0 < n) :
    ∃ pre post, L = pre ++ κ 0 :: post ∧ L.erase (κ 0) = pre ++ post ∧ (∀ z ∈ pre, A (κ 0) < A z) ∧ ∀ z ∈ post, A (κ 0) ≤ A z := by
  have hk0 : κ 0 ∈ L := (h.set _).2 ⟨0, hn, rfl⟩
  obtain ⟨pre, post, e⟩ := List.append_of_mem hk0
  have hnd := up_nodup h.up
  have hup := h.up
  rw [e, List.pairwise_append] at hup
  have hnp : κ 0 ∉ pre := fun hh => by
    have := hup.2.2 _ hh (κ 0) (by simp)
    omega
  refine ⟨pre, post, e, ?_, fun z hz => ?_, fun z hz => ?_⟩
  · rw [e, List.erase_append_right _ hnp, List.erase_cons_head]
  · have h1 := hup.2.2 z hz (κ 0) (by simp)
    have h2 := h.root (k := z) (by rw [e]; simp [hz])
    simp [bef, earlier] at h2
    omega
  · have h2 := h.root (k := z) (by rw [e]; simp [hz])
    simp [bef, earlier] at h2
    omega
def lenM (w : World) (p : Nat) : Nat := match w.cell? ⟨p, 0, none⟩ with
  | some (.slice _ n _) => n
  | _ => 0
theorem Ag.lenM {F : Nat → Prop} {w : World} {p c : Nat} {l : List (Int × Int)} (h : Ag F w p c l) : lenM w p = l.length := by
  obtain ⟨S, m, n, κ, A, O, I, L, cnt, D, hB, hSF, hFm, hFb, hl⟩ := h
  obtain ⟨a, cp, hc⟩ := hB.hq.cslice
  unfold Proofs.Ytlaagbnclkhbjaa.lenM
  rw [hc, hl, List.length_map]
  exact hB.len.symm
theorem und34 : Try.prog.underlying 34 = some (.slice 3) := by kernel_rfl
theorem i3 : (Try.prog.info? 3).map (fun i => (i.zero, i.size, i.bytes)) = some (some (.int .i64 0), 1, 8) := by kernel_rfl
def ints (l : List Int) : List Value := l.map (Value.int .i64)
set_option maxHeartbeats 4000000 in
theorem Due_c {F : Nat → Prop} {w : World} {p c : Nat} {l : List (Int × Int)} (h : Ag F w p c l) (hc : c ≤ 10000000) (now : Int) :
    Calls Try.prog 14 #[.pointer (some ⟨p, 0, none⟩), .int .i64 now] w fun e w' => ∃ v, e = .returned v ∧ ∃ out rest, DueR now l out rest ∧ w'.ownsRow w.heap.size 3 1 v out.length (ints out) ∧ Ag F w' p c rest ∧ Fr F w w' := by
  have hta := assert54
  obtain ⟨i0, hi, hz0, hz1, hz2⟩ := info_parts i3
  have hFb0 : ∀ b, F b → b < w.heap.size := by obtain ⟨S, m, n, κ, A, O, I, L, cnt, D, hB, hSF, hFm, hFb, hl⟩ := h; exact hFb
  have hll : l.length ≤ 10000000 := by
    obtain ⟨S, m, n, κ, A, O, I, L, cnt, D, hB, hSF, hFm, hFb, hl⟩ := h
    rw [hl, List.length_map, hB.len]
    have := hB.nb
    omega
  go_enter Try.func14, Try.ntmps14
  go_wp2_with fail
  refine (Next_c h).mono ?_
  rintro e w1 ⟨⟨a, b, rfl, hab⟩, he⟩
  obtain rfl := he.symm
  go_wp2_with fail
  go_loopw [5, 6, 7] (fun v va vb wr => ∃ (l1 : List (Int × Int)) (out1 : List Int) (a : Int) (b : Bool), va = .int .i64 a ∧ vb = .bool b ∧ Ag F wr p c l1 ∧ wr.ownsRow w.heap.size 3 1 v out1.length (ints out1) ∧ ((l1 = [] ∧ a = 0 ∧ b = false) ∨ (IsMin l1 a ∧ b = true)) ∧ (∀ o2 r, DueR now l1 o2 r → DueR now l (out1 ++ o2) r) ∧ Fr F w wr ∧ out1.length + l1.length = l.length) (fun _ _ _ wr => lenM wr p)
  case atStart => exact ⟨l, [], a, b, rfl, rfl, h, World.ownsRow_nil _ _ _ _, hab, fun o2 r hr => hr, Fr.refl _ _, by simp⟩
  case round =>
    obtain ⟨l1, out1, a1, b1, rfl, rfl, hAg, hown, hcase, hD, hFr, hlen⟩ := hrel
    have fin : (∀ y ∈ l1, now < y.1) → DueR now l out1 l1 := fun hh => by simpa using hD [] l1 (.stop hh)
    rcases hcase with ⟨rfl, rfl, rfl⟩ | ⟨hmin, rfl⟩
    · have hR := fin (by simp)
      go_wp2
      go_ret
      exact ⟨_, rfl, _, _, hR, hown, hAg, hFr⟩
    · by_cases hle : a1 ≤ now
      · have hAg0 := hAg
        obtain ⟨S, m, n, κ, A, O, I, L, cnt, D, hB, hSF, hFm, hFb, hl⟩ := hAg
        have hn : l1.length = n := by rw [hl, List.length_map]; exact hB.len
        have hn0 : 0 < n := by
          obtain ⟨⟨y, hy, _⟩, _⟩ := hmin
          have := List.length_pos_of_mem hy
          omega
        obtain ⟨n', rfl⟩ : ∃ n', n = n' + 1 := ⟨n - 1, by omega⟩
        have hnb := hB.nb
        obtain ⟨hsp, hpn⟩ := same_pop (bef A O) (n := n') κ
        have hPop := Pop_h hB.hq (by omega) hB.sp
        rw [hpn] at hPop
        have hk0 : κ 0 ∈ L := (hB.set _).2 ⟨0, by omega, rfl⟩
        obtain ⟨k, hk⟩ : ∃ k, Hid (k = κ 0) := ⟨_, rfl⟩
        rw [← hk.out] at hPop hpn hk0
        go_wp2_with fail
        refine hPop.mono ?_
        rintro e w1 ⟨rfl, h1, hf1, hlast, j, hkb⟩
        obtain ⟨sl1, hd1, _⟩ := h1.hd
        have c1 : w1.cell? ⟨p, 1, none⟩ = some (.map (some m)) := by rw [cell_b hd1]; rfl
        have k2 : w1.cell? ⟨k, 2, none⟩ = some (.int .i64 (I k)) := by rw [cell_b hkb]; rfl
        go_wp2_with fail
        go_still_tail 8, (by kernel_rfl)
        change wpList _ _ _ _ _ w1.drew
        obtain ⟨V, hV⟩ : ∃ V, V = w1.drew := ⟨_, rfl⟩
        rw [← hV]
        have hVh : V.heap = w1.heap := by rw [hV]; rfl
        have hVr : Ro w1 V := by rw [hV]; exact ⟨rfl, rfl, rfl⟩
        clear hV
        have hmlt : m < wr.heap.size := by obtain ⟨es, cl, hm⟩ := hB.heapm; exact (Array.getElem?_eq_some_iff.1 hm).1
        have hs1 := hf1.size
        have hs0 := hFr.size
        have homV : OM V m cnt D := owns_map hB.map (by rw [hVh]; exact hf1.same m hmlt hB.sm)
        have hwI : Wf (I k) := hB.iw k hk0
        refine wpList_delete_own _ rfl _ _ 49 3 rfl 54 law3 u49 ptrR m cnt D rfl homV _ _ rfl (key3 hwI) ?_
        intro w2 hom2 ht2
        have hg2 := ht2.grown
        have hk1 := (Array.getElem?_eq_some_iff.1 hkb).1
        have hmk : m ≠ k := fun e => by
          obtain ⟨es, cl, hm⟩ := hB.heapm
          have h9 := hf1.same m hmlt hB.sm
          rw [e, hkb, ← e, hm] at h9
          simp at h9
        have hkb2 : w2.heap[k]? = w1.heap[k]? := by rw [hg2.block k (by rw [hVh]; exact hk1) (by simpa using hmk.symm), hVh]
        have k2' : w2.cell? ⟨k, 2, none⟩ = some (.int .i64 (I k)) := by rw [cell_b (hkb2.trans hkb)]; rfl
        go_wp2_with (first
          | (at_builtin; refine wpList_append_own_at _ rfl _ _ 34 rfl w.heap.size 3 i0 (.int .i64 0) 1 8 und34 hi hz0 hz1 hz2 rfl (by decide) _ _ _ rfl (owns_of (w := wr) hown ?_) ⟨w2.heap.size, 0, none⟩ 1 1 [.int .i64 (I k)] rfl rfl (cell_one_new _ _ _) ?_ ?_ ?_ ?_ ?_)
          | fail)
        case refine_2 => intro u hu; simp at hu; subst hu; rfl
        case refine_3 => unfold maxLen; omega
        case refine_4 => omega
        case refine_5 =>
          have := hg2.size
          rw [hVh] at this
          simp only [World.size_alloc]
          omega
        case refine_1 =>
          intro g hg
          obtain ⟨g1, g2⟩ := hown.lt g hg
          have hs2 := hg2.size
          rw [hVh] at hs2
          have hnF : ¬ F g := fun hh => by have := hFb0 g hh; omega
          rw [al_lt' (by omega), hg2.block g (by rw [hVh]; omega) (fun e => by cases e; exact hnF hFm), hVh]
          exact hf1.same g g2 (fun hh => hnF (hSF g hh))
        case refine_6 =>
          intro v' w3 hown3 hg3 hnil hloc
          obtain ⟨ad', cp', rfl⟩ : ∃ ad' cp', v' = .slice ad' (out1.length + 1) cp' := by
            rcases hown3.2 with ⟨e1, e2⟩ | ⟨g', cap, cur, e1, _⟩
            · omega
            · exact ⟨_, _, e1⟩
          have hs2 := hg2.size
          rw [hVh] at hs2
          have hs3 := hg3.size
          simp only [World.size_alloc] at hs3
          have hapart : ∀ b, b < w.heap.size → some b ≠ u5.ownBlock := fun b hb e => by
            have := (hown.lt b e.symm).1
            omega
          have hk3 : ∀ b, b < w1.heap.size → b < w.heap.size → b ≠ m → w3.heap[b]? = w1.heap[b]? := fun b hb hbw hbm => by
            rw [hg3.block b (by simp only [World.size_alloc]; omega) (hapart b hbw), al_lt' (by omega), hg2.block b (by rw [hVh]; omega) (by simpa using hbm), hVh]
          have hq3 : Hq S w3 p n' (.map (some m)) (.int .i64 (c : Int)) (popF (bef A O) n' κ) A O I := by
            refine h1.turn (fun sl h => ?_) (fun b hb hbp hbs => hk3 b hb (hFb0 b (hSF b hbs)) (fun e => hB.sm (e ▸ hbs)))
            rw [hk3 p (Array.getElem?_eq_some_iff.1 h).1 (hFb0 p (hSF p hB.sp)) (fun e => hB.sm (e ▸ hB.sp))]
            exact h
          have hom3 : OM w3 m cnt (D.del (.int .i64 (I k))) := owns_map hom2 (by
            rw [hg3.block m (by simp only [World.size_alloc]; omega) (hapart m (hFb0 m hFm)), al_lt' (by omega)])
          have hR := hB.less w3 k hk0 (popF (bef A O) n' κ) hsp hpn (pop_ho (bef_ord A O) hB.ho) hlast hq3 hom3
          have hA3 : Ag F w3 p c ((L.erase k).map fun k => (A k, I k)) := ⟨S, m, n', _, A, O, I, _, cnt, _, hR, hSF, hFm, fun b hb => by have := hFb0 b hb; omega, rfl⟩
          have hmv : ∃ pre post, L = pre ++ k :: post ∧ L.erase k = pre ++ post ∧ (∀ z ∈ pre, A k < A z) ∧ ∀ z ∈ post, A k ≤ A z := by rw [hk.out]; exact hB.head (by omega)
          have hak : A k ≤ now := by
            obtain ⟨pre, post, e1, e2, e3, e4⟩ := hmv
            obtain ⟨⟨y, hy, hy2⟩, _⟩ := hmin
            rw [hl, List.mem_map] at hy
            obtain ⟨z, hz, rfl⟩ := hy
            rw [e1, List.mem_append, List.mem_cons] at hz
            rcases hz with hz | rfl | hz
            · have := e3 z hz; simp at hy2; omega
            · simp at hy2; omega
            · have := e4 z hz; simp at hy2; omega
          have hD3 : ∀ o2 r, DueR now ((L.erase k).map fun k => (A k, I k)) o2 r → DueR now l ((out1 ++ [I k]) ++ o2) r := fun o2 r hr => by
            obtain ⟨pre, post, e1, e2, e3, e4⟩ := hmv
            rw [List.append_assoc]
            refine hD _ _ ?_
            rw [hl, e1, List.map_append, List.map_cons]
            rw [e2, List.map_append] at hr
            refine DueR.step (y := (A k, I k)) hak (fun z hz => ?_) (fun z hz => ?_) hr
            · obtain ⟨q, hq, rfl⟩ := List.mem_map.1 hz; exact e3 q hq
            · obtain ⟨q, hq, rfl⟩ := List.mem_map.1 hz; exact e4 q hq
          have hF3 : Fr F w w3 := ⟨by omega, fun b hb hbF => by
            rw [hk3 b (by omega) hb (fun e => hbF (e ▸ hFm)), hf1.same b (by omega) (fun hh => hbF (hSF b hh))]
            exact hFr.same b hb hbF, (((hFr.ro.trans hf1.ro).trans hVr).trans (Ro.of_grown hg2)).trans ⟨hg3.os, hg3.tape, hg3.output⟩⟩
          have hrow3 : w3.ownsRow w.heap.size 3 1 (.slice ad' (out1.length + 1) cp') (out1 ++ [I k]).length (ints (out1 ++ [I k])) := by
            have e1 : (out1 ++ [I k]).length = out1.length + 1 := by simp
            have e2 : ints (out1 ++ [I k]) = ints out1 ++ [.int .i64 (I k)] := by simp [ints]
            rw [e1, e2]
            exact hown3
          have hlen3 : (out1 ++ [I k]).length + ((L.erase k).map fun k => (A k, I k)).length = l.length := by
            have hLl := hB.len
            have h5 : ((L.erase k).map fun k => (A k, I k)).length = n' := by rw [List.length_map]; exact hR.len
            rw [h5]
            simp
            omega
          have hmeas : lenM w3 p < lenM wr p := by
            rw [hA3.lenM, hAg0.lenM, List.length_map, hn, hR.len]
            omega
          generalize ((L.erase k).map fun k => (A k, I k)) = l2 at hA3 hD3 hlen3
          have HL := Lib.hid hlen3
          have HM := Lib.hid hmeas
          have HD := Lib.hid hD3
          clear hlen3 hmeas hD3 hnil hloc hown3 hl hn hmv hpn
          go_wp2_with fail
          refine (Next_c hA3).mono ?_
          rintro e w4 ⟨⟨a2, b2, rfl, hab2⟩, he2⟩
          obtain rfl := he2.symm
          go_wp2_with fail
          go_roundw
          case rel => exact ⟨l2, out1 ++ [I k], a2, b2, rfl, rfl, hA3, hrow3, hab2, HD.out, hF3, HL.out⟩
          case measure => exact HM.out
      · have hR := fin (fun y hy => by have := hmin.2 y hy; omega)
        go_wp2
        go_ret
        exact ⟨_, rfl, _, _, hR, hown, hAg, hFr⟩
end Go.Proofs.Ytlaagbnclkhbjaa
