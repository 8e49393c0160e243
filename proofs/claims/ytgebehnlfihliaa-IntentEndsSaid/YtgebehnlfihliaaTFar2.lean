/- Topo: Far of a sound topology. -/
import Derived.Test.YtgebehnlfihliaaTFar1
namespace Go.Proofs.Ytgebehnlfihliaa
open Go.RowKit Go.Maps
set_option linter.unusedSimpArgs false
set_option linter.unusedVariables false
set_option maxRecDepth 100000
def qlen (w : World) (p : Nat) : Nat := match w.cell? ⟨p, 0, none⟩ with
  | some (.slice _ n _) => n
  | _ => 0
theorem Qp.qlen {w : World} {p r cap n : Nat} {d : Nat → Int × Int} (h : Qp w p r cap n d) : qlen w p = n := by
  unfold Go.Proofs.Ytgebehnlfihliaa.qlen; rw [h.cslice]
def fOf (w : World) (g : Nat) : Nat → Int := fun i => match w.cell? ⟨g, i, none⟩ with
  | some (.int _ z) => z
  | _ => 0
theorem IA.fOf {w : World} {g n : Nat} {f : Nat → Int} (h : IA w g n f) {i : Nat} (hi : i < n) : fOf w g i = f i := by
  unfold Go.Proofs.Ytgebehnlfihliaa.fOf; rw [h.cell hi]
theorem IA.uns {w : World} {g n : Nat} {f : Nat → Int} (h : IA w g n f) : uns (Go.Proofs.Ytgebehnlfihliaa.fOf w g) n = uns f n := uns_congr fun i hi => h.fOf hi
/-- the world in the search. -/
structure FW (w wr : World) (o : Option Addr) (n cap gf gp : Nat) (f : Nat → Int) (r rc m : Nat) (κ : Nat → Int × Int) : Prop where
  bel : RowKit.Below w.heap.size w wr
  box : wr.heap[w.heap.size]? = some (.cells #[.slice o n cap] 24 (0, 0))
  ia : IA wr gf n f
  qp : Qp wr gp r rc m κ
  gf0 : w.heap.size < gf
  gp0 : gf < gp
  r0 : gf < r
theorem FW.alloc {w wr : World} {o : Option Addr} {n cap gf gp : Nat} {f : Nat → Int} {r rc m : Nat} {κ : Nat → Int × Int} (h : FW w wr o n cap gf gp f r rc m κ) (x : Obj) : FW w (wr.alloc x) o n cap gf gp f r rc m κ :=
  ⟨h.bel.alloc h.bel.size _, (al_lt' (Array.getElem?_eq_some_iff.1 h.box).1).trans h.box, h.ia.of (al_lt' h.ia.lt), h.qp.alloc x, h.gf0, h.gp0, h.r0⟩
set_option maxHeartbeats 4000000 in
theorem tfar_ok {o : Option Addr} {cap : Nat} {T : Tp} {w : World} (h : TA w o cap T) (hs : soundE T = 0) (a : Nat) (ha : a < T.n) (d : Nat → Int) (hd : IsFar (Lk T) a d) :
    Calls Try.prog 20 #[.agg #[.slice o T.n cap], .int .i64 (a : Int)] w fun e w' => ∃ g, e = .returned (.tuple #[.slice (some ⟨g, 0, none⟩) T.n T.n, .int .i64 0]) ∧ IA w' g T.n d ∧ w.heap.size ≤ g ∧ RowKit.Below w.heap.size w w' := by
  have hT := sd_of hs
  have hT1 := hT.n1
  have hT6 := hT.n6
  have hdN := far_le hT hd
  have HDN := Lib.hid hdN
  clear hdN
  have hc := tsound_c (h.below ((Below.refl w.heap.size w).alloc (Nat.le_refl _) (.cells #[.slice o T.n cap] 24)))
  rw [hs] at hc
  obtain ⟨b, off, ro, rcs, rb, rf, h1, h2, h3, h4, h5⟩ := h.ex
  obtain rfl := h1 (by omega)
  have H4 := Lib.hid h4
  have H5 := Lib.hid h5
  have HT := Lib.hid hT
  have HD := Lib.hid hd
  clear h1 h4 h5 h
  obtain ⟨n, hn⟩ : ∃ n, Hid (T.n = n) := ⟨_, rfl⟩
  rw [hn.out] at hc ha hT1 hT6 h2 ⊢
  clear hT hd
  have haI : ¬ (a : Int) < 0 := by omega
  have haI2 : ¬ (n : Int) ≤ (a : Int) := by omega
  have a0b : decide ((a : Int) < 0) = false := decide_eq_false haI
  have a1b : decide ((n : Int) ≤ (a : Int)) = false := decide_eq_false haI2
  have a2b : decide (n ≤ a) = false := decide_eq_false (by omega)
  have hmk := run_make_row' (P := Try.prog) 38 3 (.int .i64 0) 8 und38 inf3 rfl .i64 .i64 n (by omega) (by omega)
  have HMK := Lib.hid hmk
  clear hmk
  go_enter Try.func20, Try.ntmps20
  go_wp2_with fail
  refine hc.mono ?_
  rintro e w1 ⟨rfl, hb1⟩
  have hb := ((Below.refl w.heap.size w).alloc (Nat.le_refl _) (.cells #[.slice (some ⟨b, off, none⟩) n cap] 24)).trans (hb1.mono (by simp))
  have x0 := box_c hb1
  have hmk := HMK.out
  go_wp2_with fail
  have hsz1 : w.heap.size < w1.heap.size := by have := hb1.size; simp only [World.size_alloc] at this; omega
  have bx1 : w1.heap[w.heap.size]? = some (.cells #[.slice (some ⟨b, off, none⟩) n cap] 24 (0, 0)) := (hb1.block _ (by simp)).trans (heap_alloc_new w _)
  obtain ⟨gf, hgf⟩ : ∃ gf, Hid (gf = w1.heap.size) := ⟨_, rfl⟩
  rw [← hgf.out]
  have hgfw : w.heap.size < gf := by rw [hgf.out]; exact hsz1
  refine wp_world (fun W => RowKit.Below w.heap.size w W ∧ W.heap[w.heap.size]? = some (.cells #[.slice (some ⟨b, off, none⟩) n cap] 24 (0, 0)) ∧ IA W gf n (fun _ => 0)) ?_ ?_
  · refine ⟨hb.alloc (by omega) _, (al_lt' hsz1).trans bx1, ?_⟩
    rw [hgf.out]; exact ia_zero w1 n
  rintro W ⟨hbW, bxW, iaW⟩
  clear x0 bx1 hb hsz1 hb1 hmk hc
  have hgf' := Lib.hid hgfw
  clear hgf
  go_loopw [33] (fun v wr => ∃ (k : Nat) (f : Nat → Int), v = .int .i64 (k : Int) ∧ k ≤ n ∧ RowKit.Below w.heap.size w wr ∧ wr.heap[w.heap.size]? = some (.cells #[.slice (some ⟨b, off, none⟩) n cap] 24 (0, 0)) ∧ IA wr gf n f ∧ ∀ i, i < k → f i = -1) (fun v _ => n - (intOf v).toNat)
  case atStart => exact ⟨0, _, rfl, Nat.zero_le _, hbW, bxW, iaW, fun i hi => by omega⟩
  case round =>
    obtain ⟨k, f, rfl, hk, hbr, bxr, iar, hf⟩ := hrel
    have HF := Lib.hid hf
    clear hf iaW bxW hbW
    by_cases hlt : k < n
    · have hltI : (k : Int) < (n : Int) := by omega
      have z0 := iar.cell hlt
      have z1 := iar.froz k
      go_wp2_with fail
      go_roundw
      case rel => exact ⟨k + 1, _, rfl, by omega, hbr.setCell (Nat.le_of_lt hgfw) _, (sc_ne (by omega)).trans bxr, iar.set k (-1), fun i hi => by
        by_cases e : i = k
        · subst e; exact upd_at _ _ _
        · rw [upd_ne _ _ e]; exact HF.out i (by omega)⟩
      case measure => simp [intOf]; omega
    · have : k = n := by omega
      subst this
      have iar0 := iar.congr (f' := fun _ => -1) (fun j hj => (HF.out j hj).symm)
      have hgl := iar.lt
      obtain ⟨gb, hgb⟩ : ∃ gb, Hid (gb = wr.heap.size) := ⟨_, rfl⟩
      go_wp2_with fail
      refine wp_world (fun W => FW w W (some ⟨b, off, none⟩) k cap gf (gb + 1) (fun _ => -1) gb 1 1 (fun _ => ((a : Int), 0))) ?_ ?_
      · rw [hgb.out]
        have hws := hbr.size
        refine ⟨?_, ?_, ?_, ⟨?_, ⟨#[.int .i64 (a : Int), .int .i64 0], ?_, rfl, ?_⟩, Nat.le_refl _, by simp [maxLen]⟩, hgfw, by omega, by omega⟩
        · exact (hbr.alloc hws _).alloc (by simp only [World.size_alloc]; omega) _
        · rw [al_lt' (by simp only [World.size_alloc]; omega), al_lt' (by omega)]; exact bxr
        · exact iar0.of (by rw [al_lt' (by simp only [World.size_alloc]; omega), al_lt' hgl])
        · have := heap_alloc_new (wr.alloc (.cells #[.int .i64 (a : Int), .int .i64 0] 80)) (.cells #[.slice (some ⟨wr.heap.size, 0, none⟩) 1 1] 82)
          rw [World.size_alloc] at this
          exact this
        · rw [al_lt' (by simp only [World.size_alloc]; omega)]
          exact heap_alloc_new wr _
        · intro i hi
          have : i = 0 := by omega
          subst this
          exact ⟨rfl, rfl⟩
      have hgfb : gf ≤ gb := by rw [hgb.out]; omega
      rw [← hgb.out]
      rintro W2 hFW
      clear hgb iar0 iar bxr hbr HF hgl
      have hst : FJ T d a (fun _ => -1) (fun _ => ((a : Int), 0)) 1 T.ln := FJ.start (by rw [hn.out]; exact ha) HD.out
      have hus := uns_le (fun _ => -1) k
      go_loopw [] (fun wr => ∃ (f : Nat → Int) (r rc m : Nat) (κ : Nat → Int × Int), FW w wr (some ⟨b, off, none⟩) k cap gf (gb + 1) f r rc m κ ∧ FJ T d a f κ m T.ln ∧ 7 * uns f k + m ≤ 43) (fun wr => 7 * uns (fOf wr gf) k + qlen wr (gb + 1))
      case atStart => exact ⟨_, _, _, _, _, hFW, hst, by omega⟩
      case round =>
        obtain ⟨f, r, rc, m, κ, hF, hJ, hM⟩ := hrel
        clear hFW hst hus
        have c0 := hF.qp.cslice
        have HM := Lib.hid hM
        have HJ := Lib.hid hJ
        clear hM hJ
        go_wp2_with fail
        refine (qLen_c _ m rc wr).mono ?_
        rintro e w2 ⟨rfl, he⟩
        obtain rfl := he.symm
        by_cases m0 : m = 0
        · subst m0
          go_wp2_with fail
          go_ret2
          have hfin := (HJ.out).fin HT.out (by rw [hn.out]; exact ha) HD.out
          exact ⟨gf, rfl, hF.ia.congr (fun j hj => (hfin j (by rw [hn.out]; exact hj)).symm), Nat.le_of_lt hgfw, hF.bel⟩
        · obtain ⟨m', rfl⟩ : ∃ m', m = m' + 1 := ⟨m - 1, by omega⟩
          obtain ⟨x, hxn, hx, hx0, hxv, hv7⟩ := HJ.out.k3 (popG bf m' κ m') (me_pop.2 (.inl rfl))
          have hP := hPop_c hF.qp (by have := HM.out; omega)
          rw [hx] at hP
          obtain ⟨v, hv⟩ : ∃ v, Hid ((popG bf m' κ m').2 = v) := ⟨_, rfl⟩
          rw [hv.out] at hP hxv hv7
          have hmI : (0 : Int) < ((m' + 1 : Nat) : Int) := by omega
          go_wp2_with fail
          refine hP.mono ?_
          rintro e w3 ⟨rfl, hQ3, hf3⟩
          have hta := assert80
          have hgfr := hF.r0
          have bx3 : w3.heap[w.heap.size]? = some (.cells #[.slice (some ⟨b, off, none⟩) k cap] 24 (0, 0)) := (hf3.same _ (Array.getElem?_eq_some_iff.1 hF.box).1 (by omega)).trans hF.box
          have ia3 := hF.ia.of (hf3.same gf hF.ia.lt (by omega))
          have hbel3 := hf3.below hF.bel (Nat.le_trans hF.bel.size (Nat.le_refl _)) (fun y hy => by omega)
          rw [hn.out] at hxn
          have z0 := ia3.cell hxn
          have z1 := ia3.froz x
          have zl := ia3.lt
          have x0 : w3.cell? ⟨w.heap.size, 0, none⟩ = some (.slice (some ⟨b, off, none⟩) k cap) := by rw [cell_b bx3]; rfl
          have xl : w.heap.size < w3.heap.size := by omega
          have hxI : (x : Int) < (k : Int) := by omega
          by_cases hfx : 0 ≤ f x
          · have hfb : decide (0 ≤ f x) = true := decide_eq_true hfx
            go_wp2_with fail
            go_roundw
            case rel => exact ⟨f, r, rc, m', _, FW.alloc ⟨hbel3, bx3, ia3, hQ3, hF.gf0, hF.gp0, hF.r0⟩ _, (HJ.out).skip hx hfx, by have := HM.out; omega⟩
            case measure =>
              have hFa := FW.alloc (w := w) ⟨hbel3, bx3, ia3, hQ3, hF.gf0, hF.gp0, hF.r0⟩ (.cells #[.int .i64 (x : Int), .int .i64 v] 80)
              rw [hFa.ia.uns, hFa.qp.qlen, hF.ia.uns, hF.qp.qlen]
              omega
          · have hfb : decide (0 ≤ f x) = false := decide_eq_false hfx
            have hvd : v = d x := by rw [← hv.out]; exact (HJ.out).far HT.out (by rw [hn.out]; exact ha) HD.out hx (by omega)
            have hus := uns_upd (f := f) (n := k) (v := v) hxn (by omega) (show 0 ≤ v by omega)
            have hJ3 := (HJ.out).take HT.out (by rw [hn.out]; exact ha) HD.out hx (by omega)
            rw [← hvd] at hJ3
            have HJ3 := Lib.hid hJ3
            have HV := Lib.hid hvd
            have HU := Lib.hid hus
            clear hJ3 hvd hus
            have hgpl : gb + 1 < w3.heap.size := (Array.getElem?_eq_some_iff.1 hQ3.hd).1
            have hrl3 : r < w3.heap.size := by obtain ⟨cur, h1, _⟩ := hQ3.row; exact (Array.getElem?_eq_some_iff.1 h1).1
            have hFs : FW w (w3.setCell ⟨gf, x, none⟩ (.int .i64 v)) (some ⟨b, off, none⟩) k cap gf (gb + 1) (upd f x v) r rc m' (popG bf m' κ) := by
              refine ⟨hbel3.setCell (Nat.le_of_lt hgfw) _, (sc_ne (by omega)).trans bx3, ia3.set x v, ⟨(sc_ne (by omega)).trans hQ3.hd, ?_, hQ3.nc, hQ3.cm⟩, hF.gf0, hF.gp0, hF.r0⟩
              obtain ⟨cur, q1, q2⟩ := hQ3.row
              exact ⟨cur, (sc_ne (by omega)).trans q1, q2⟩
            have hFp := hFs.alloc (.cells #[.int .i64 (x : Int), .int .i64 v] 80)
            have hpl0 : ((w3.setCell ⟨gf, x, none⟩ (.int .i64 v)).alloc (.cells #[.int .i64 (x : Int), .int .i64 v] 80)).heap[w3.heap.size]? = some (.cells #[.int .i64 (x : Int), .int .i64 v] 80 (0, 0)) := by
              have := heap_alloc_new (w3.setCell ⟨gf, x, none⟩ (.int .i64 v)) (.cells #[.int .i64 (x : Int), .int .i64 v] 80)
              rwa [sc_size] at this
            obtain ⟨r1, r2, r3, r4⟩ := H4.out x (by rw [hn.out]; exact hxn)
            have y0 := cell_below hFp.bel r1
            obtain ⟨gl, hgl⟩ : ∃ gl, Hid (gl = w3.heap.size) := ⟨_, rfl⟩
            have hg1 : gb + 1 < gl := by rw [hgl.out]; exact hgpl
            have hg2 : r < gl := by rw [hgl.out]; exact hrl3
            obtain ⟨lx, hlx⟩ : ∃ lx, Hid (T.ln x = lx) := ⟨_, rfl⟩
            have hl6 : lx ≤ 6 := by rw [← hlx.out]; exact HT.out.l6 x (by rw [hn.out]; exact hxn)
            rw [hlx.out] at r2 r4 y0
            obtain ⟨ad, hade⟩ : ∃ ad, Hid (ro x = ad) := ⟨_, rfl⟩
            rw [hade.out] at r4 y0
            have HAD := Lib.hid r4
            clear r4
            generalize popG bf m' κ = κ' at HJ3 hFp
            go_wp2_with fail
            clear hta hmI
            refine wp_world (fun W => FW w W (some ⟨b, off, none⟩) k cap gf (gb + 1) (upd f x v) r rc m' κ' ∧ W.heap[gl]? = some (.cells #[.int .i64 (x : Int), .int .i64 v] 80 (0, 0))) ?_ ?_
            · exact ⟨hFp, by rw [hgl.out]; exact hpl0⟩
            rw [← hgl.out]
            rintro W4 ⟨hF4, hp4⟩
            have hmw : 7 * uns (fOf wr gf) k + qlen wr (gb + 1) = 7 * uns f k + (m' + 1) := by rw [hF.ia.uns, hF.qp.qlen]
            have HMW := Lib.hid hmw
            clear hmw hFp hFs hpl0 y0 x0 z0 z1 zl bx3 ia3 hQ3 hf3 hP xl hgpl hrl3 hgl hbel3 hF c0
            go_loopw [72] (fun v72 wr2 => ∃ (j r' rc' m2 : Nat) (κ2 : Nat → Int × Int), v72 = .int .i64 (j : Int) ∧ j ≤ lx ∧ FW w wr2 (some ⟨b, off, none⟩) k cap gf (gb + 1) (upd f x v) r' rc' m2 κ2 ∧ wr2.heap[gl]? = some (.cells #[.int .i64 (x : Int), .int .i64 v] 80 (0, 0)) ∧ r' ≠ gl ∧ FJ T d a (upd f x v) κ2 m2 (upd T.ln x j) ∧ m2 ≤ m' + j) (fun v72 _ => lx - (intOf v72).toNat)
            case atStart => exact ⟨0, _, _, _, _, rfl, Nat.zero_le _, hF4, hp4, by omega, HJ3.out, by omega⟩
            case round =>
              obtain ⟨j, r', rc', m2, κ2, rfl, hj, hFi, hpi, hrg, hJi, hm2⟩ := hrel
              have HJI := Lib.hid hJi
              clear hJi hF4 hp4 HJ3
              by_cases hjl : j < lx
              · obtain rfl := HAD.out (by omega)
                have hjI : (j : Int) < (lx : Int) := by omega
                have hxT : x < T.n := by rw [hn.out]; exact hxn
                have hjT : j < T.ln x := by rw [hlx.out]; exact hjl
                obtain ⟨p0, p1, p2, p3, p4⟩ := H5.out x j hxT hjT
                have hlk := (HT.out).lkp hxT hjT
                have hJs := fun hk h0 => (HJI.out).push (j := j) (HT.out) (HD.out) hxT hjT hk h0
                have hJp := (HJI.out).pass (j := j)
                obtain ⟨P, hP⟩ : ∃ P, Hid (P = T.pt x j) := ⟨_, rfl⟩
                rw [← hP.out] at p0 p1 p2 p3 p4 hJs hJp
                have HLK := Lib.hid hlk
                have HJS := Lib.hid hJs
                have HJP := Lib.hid hJp
                clear hlk hJs hJp
                obtain ⟨kind, ten, peer, at_, cost⟩ := P
                simp only at p0 p1 p2 p3 p4
                have p0' := cell_below hFi.bel p0
                have p1' := cell_below hFi.bel p1
                have p2' := cell_below hFi.bel p2
                have p3' := cell_below hFi.bel p3
                have p4' := cell_below hFi.bel p4
                clear p0 p1 p2 p3 p4
                have q0 : wr.cell? ⟨gl, 0, none⟩ = some (.int .i64 (x : Int)) := by rw [cell_b hpi]; rfl
                have q1 : wr.cell? ⟨gl, 1, none⟩ = some (.int .i64 v) := by rw [cell_b hpi]; rfl
                have ql : gl < wr.heap.size := (Array.getElem?_eq_some_iff.1 hpi).1
                by_cases k2 : kind = 2
                rotate_left
                · have k2b : (kind == 2) = false := by simpa using k2
                  go_wp2_with fail
                  (try go_quiet (fail))
                  go_wp2_with fail
                  go_roundw
                  case rel => exact ⟨j + 1, r', rc', m2, κ2, by go_num, by omega, hFi.alloc _, (al_lt' ql).trans hpi, hrg, HJP.out (fun hh => absurd hh k2), by omega⟩
                  case measure => simp [intOf]; omega
                subst k2
                have L := HLK.out (by rw [← hP.out])
                have c1 := L.c1
                have c2 := L.c2
                have l0 := L.p0
                have l1 := L.p1
                rw [← hP.out] at c1 c2 l0 l1
                rw [hn.out] at l1
                simp only at c1 c2 l0 l1
                clear L
                obtain ⟨pn, rfl⟩ : ∃ pn : Nat, peer = (pn : Int) := ⟨peer.toNat, by omega⟩
                have hpn : pn < k := by omega
                have hpnI : (pn : Int) < (k : Int) := by omega
                clear l1 l0
                have zf := hFi.ia.cell hpn
                have zl := hFi.ia.lt
                obtain ⟨fp, hfp⟩ : ∃ fp, Hid (upd f x v pn = fp) := ⟨_, rfl⟩
                rw [hfp.out] at zf
                by_cases hneg : fp < 0
                rotate_left
                · have hnb : decide (fp < 0) = false := decide_eq_false hneg
                  go_wp2_with fail
                  (try go_quiet (fail))
                  go_wp2_with fail
                  go_roundw
                  case rel => exact ⟨j + 1, r', rc', m2, κ2, by go_num, by omega, hFi.alloc _, (al_lt' ql).trans hpi, hrg, HJP.out (fun _ => by
                    show 0 ≤ upd f x v ((pn : Int).toNat)
                    rw [Int.toNat_natCast, hfp.out]; omega), by omega⟩
                  case measure => simp [intOf]; omega
                have hnb : decide (fp < 0) = true := decide_eq_true hneg
                have hq := hPush_c (hFi.alloc (.cells #[.int .i64 2, .int .i64 ten, .int .i64 (pn : Int), .int .i64 at_, .int .i64 cost] 35)).qp (by have := HM.out; omega) (pn : Int) (v + cost)
                have HQ := Lib.hid hq
                clear hq
                go_wp2_with fail
                (try go_quiet (fail))
                go_wp2_with fail
                refine (HQ.out).mono ?_
                rintro e w5 ⟨rfl, r5, cap5, hq5, hr5, hf5⟩
                have hFa := hFi.alloc (.cells #[.int .i64 2, .int .i64 ten, .int .i64 (pn : Int), .int .i64 at_, .int .i64 cost] 35)
                have hgl5 := (al_lt' (o := .cells #[.int .i64 2, .int .i64 ten, .int .i64 (pn : Int), .int .i64 at_, .int .i64 cost] 35) ql).trans hpi
                have hr0 := hFi.r0
                have hsa : wr.heap.size ≤ (wr.alloc (.cells #[.int .i64 2, .int .i64 ten, .int .i64 (pn : Int), .int .i64 at_, .int .i64 cost] 35)).heap.size := by simp
                have hF5 : FW w w5 (some ⟨b, off, none⟩) k cap gf (gb + 1) (upd f x v) r5 cap5 (m2 + 1) (upF bf (pushG κ2 m2 ((pn : Int), v + cost)) m2) := by
                  refine ⟨hf5.below hFa.bel (Nat.le_trans hFa.bel.size (Nat.le_refl _)) (fun y hy => by omega), (hf5.same _ (Array.getElem?_eq_some_iff.1 hFa.box).1 (by omega)).trans hFa.box, hFa.ia.of (hf5.same gf hFa.ia.lt (by omega)), hq5, hFi.gf0, hFi.gp0, by omega⟩
                have hg5 : w5.heap[gl]? = some (.cells #[.int .i64 (x : Int), .int .i64 v] 80 (0, 0)) := (hf5.same gl (by omega) (by omega)).trans hgl5
                have hJ5 := HJS.out trivial hx0
                rw [← HV.out] at hJ5
                have HJ5 := Lib.hid hJ5
                clear hJ5 hFa hf5 hq5
                go_wp2_with fail
                go_roundw
                case rel => exact ⟨j + 1, r5, cap5, m2 + 1, _, by go_num, by omega, hF5, hg5, by omega, HJ5.out, by omega⟩
                case measure => simp [intOf]; omega
              · have : j = lx := by omega
                subst this
                have hJc := HJI.out
                rw [← hlx.out] at hJc
                have HJC := Lib.hid hJc.close
                clear hJc
                go_wp2_with fail
                go_roundw
                case rel => exact ⟨_, r', rc', m2, κ2, hFi, HJC.out, by have := HM.out; have := HU.out; omega⟩
                case measure =>
                  rw [HMW.out, hFi.ia.uns, hFi.qp.qlen]
                  have := HU.out
                  omega
end Go.Proofs.Ytgebehnlfihliaa
