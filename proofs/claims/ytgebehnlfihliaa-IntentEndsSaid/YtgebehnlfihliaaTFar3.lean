/- Topo: the document's Far. -/
import Derived.Test.YtgebehnlfihliaaTFar1
import Derived.Test.YtgebehnlfihliaaTGraph3
namespace Go.Proofs.Ytgebehnlfihliaa
open Go.RowKit Go.Maps
set_option linter.unusedSimpArgs false
set_option linter.unusedVariables false
set_option maxRecDepth 100000
structure FR (w wr : World) (o : Option Addr) (n cap gf : Nat) (f : Nat → Int) : Prop where
  bel : RowKit.Below w.heap.size w wr
  box : wr.heap[w.heap.size]? = some (.cells #[.slice o n cap] 24 (0, 0))
  ia : IA wr gf n f
  gf0 : w.heap.size < gf
theorem FR.alloc {w wr : World} {o : Option Addr} {n cap gf : Nat} {f : Nat → Int} (h : FR w wr o n cap gf f) (x : Obj) : FR w (wr.alloc x) o n cap gf f :=
  ⟨h.bel.alloc h.bel.size _, (al_lt' (Array.getElem?_eq_some_iff.1 h.box).1).trans h.box, h.ia.of (al_lt' h.ia.lt), h.gf0⟩
theorem FR.set {w wr : World} {o : Option Addr} {n cap gf : Nat} {f : Nat → Int} (h : FR w wr o n cap gf f) (i : Nat) (v : Int) : FR w (wr.setCell ⟨gf, i, none⟩ (.int .i64 v)) o n cap gf (upd f i v) :=
  ⟨h.bel.setCell (Nat.le_of_lt h.gf0) _, (sc_ne (by have := h.gf0; omega)).trans h.box, h.ia.set i v, h.gf0⟩
theorem FR.redrawn {w wr : World} {o : Option Addr} {n cap gf : Nat} {f : Nat → Int} (h : FR w wr o n cap gf f) (q : Nat) : FR w (Go.redrawn wr q) o n cap gf f :=
  ⟨h.bel.trans ⟨rfl, rfl, rfl, Nat.le_refl _, fun _ _ => rfl⟩, h.box, h.ia, h.gf0⟩
theorem FR.same {w wr W : World} {o : Option Addr} {n cap gf : Nat} {f : Nat → Int} (h : FR w wr o n cap gf f) (e1 : W.heap = wr.heap) (e2 : W.os = wr.os) (e3 : W.tape = wr.tape) (e4 : W.output = wr.output) : FR w W o n cap gf f :=
  ⟨h.bel.trans ⟨e2, e3, e4, by rw [e1]; exact Nat.le_refl _, fun _ _ => by rw [e1]⟩, by rw [e1]; exact h.box, h.ia.of (by rw [e1]), h.gf0⟩
theorem FR.congr {w wr : World} {o : Option Addr} {n cap gf : Nat} {f f' : Nat → Int} (h : FR w wr o n cap gf f) (he : ∀ j, j < n → f' j = f j) : FR w wr o n cap gf f' := ⟨h.bel, h.box, h.ia.congr he, h.gf0⟩
theorem FR.x0 {w wr : World} {o : Option Addr} {n cap gf : Nat} {f : Nat → Int} (h : FR w wr o n cap gf f) : wr.cell? ⟨w.heap.size, 0, none⟩ = some (.slice o n cap) := by
  rw [cell_b h.box]; rfl
set_option maxHeartbeats 4000000 in
theorem rfar_ok {o : Option Addr} {cap : Nat} {T : Tp} {w : World} (h : TA w o cap T) (hs : soundE T = 0) (a : Nat) (ha : a < T.n) (d : Nat → Int) (hd : IsFar (Lk T) a d) :
    Calls Try.prog 22 #[.agg #[.slice o T.n cap], .int .i64 (a : Int)] w fun e w' => ∃ g, e = .returned (.slice (some ⟨g, 0, none⟩) T.n T.n) ∧ IA w' g T.n d ∧ w.heap.size ≤ g ∧ RowKit.Below w.heap.size w w' := by
  have hT := sd_of hs
  have hT1 := hT.n1
  have hT6 := hT.n6
  obtain ⟨b, off, ro, rcs, rb, rf, h1, h2, h3, h4, h5⟩ := h.ex
  obtain rfl := h1 (by omega)
  have H4 := Lib.hid h4
  have H5 := Lib.hid h5
  have HT := Lib.hid hT
  have HD := Lib.hid hd
  clear h1 h4 h5 h
  obtain ⟨n, hn⟩ : ∃ n, Hid (T.n = n) := ⟨_, rfl⟩
  rw [hn.out] at ha hT1 hT6 h2 ⊢
  clear hT hd hs
  have haI : ¬ (a : Int) < 0 := by omega
  have haI2 : (a : Int) < (n : Int) := by omega
  have hmk := run_make_row' (P := Try.prog) 38 3 (.int .i64 0) 8 und38 inf3 rfl .i64 .i64 n (by omega) (by omega)
  go_enter Try.func22, Try.ntmps22
  go_wp2_with fail
  obtain ⟨gf, hgf⟩ : ∃ gf, Hid (gf = w.heap.size + 1) := ⟨_, rfl⟩
  refine wp_world (fun W => FR w W (some ⟨b, off, none⟩) n cap gf (fun _ => 0)) ?_ ?_
  · rw [hgf.out]
    refine ⟨((Below.refl _ _).alloc (Nat.le_refl _) _).alloc (by simp) _, ?_, ?_, by omega⟩
    · rw [al_lt' (by simp)]; exact heap_alloc_new w _
    · have := ia_zero (w.alloc (.cells #[.slice (some ⟨b, off, none⟩) n cap] 24)) n
      rw [World.size_alloc] at this
      exact this
  rw [← hgf.out]
  rintro W hF0
  clear hmk
  go_loopw [6] (fun v wr => ∃ (k : Nat) (f : Nat → Int), v = .int .i64 (k : Int) ∧ k ≤ n ∧ FR w wr (some ⟨b, off, none⟩) n cap gf f ∧ ∀ i, i < k → f i = -1) (fun v _ => n - (intOf v).toNat)
  case atStart => exact ⟨0, _, rfl, Nat.zero_le _, hF0, fun i hi => by omega⟩
  case round =>
    obtain ⟨k, f, rfl, hk, hFr, hf⟩ := hrel
    have HF := Lib.hid hf
    clear hf hF0
    by_cases hlt : k < n
    · have hltI : (k : Int) < (n : Int) := by omega
      have z0 := hFr.ia.cell hlt
      have z1 := hFr.ia.froz k
      go_wp2_with fail
      go_roundw
      case rel => exact ⟨k + 1, _, by go_num, by omega, hFr.set k (-1), fun i hi => by
        by_cases e : i = k
        · subst e; exact upd_at _ _ _
        · rw [upd_ne _ _ e]; exact HF.out i (by omega)⟩
      case measure => simp [intOf]; omega
    · have : k = n := by omega
      subst this
      have z0 := hFr.ia.cell ha
      have z1 := hFr.ia.froz a
      have hFs := (hFr.set a 0).congr (f' := fun m => if m = a then 0 else -1) (fun j hj => by
        show (if j = a then (0 : Int) else -1) = upd f a 0 j
        by_cases e : j = a
        · subst e; rw [if_pos rfl, upd_at]
        · rw [if_neg e, upd_ne _ _ e, HF.out j hj])
      have hJ0 : RJ T d a (fun m => if m = a then 0 else -1) 0 0 0 := RJ.start HT.out HD.out (fun _ => rfl)
      go_wp2_with fail
      refine wp_world (fun W => FR w W (some ⟨b, off, none⟩) k cap gf (fun m => if m = a then 0 else -1)) hFs ?_
      rintro W2 hF2
      clear hFs hFr HF z0 z1
      go_loopw [7] (fun v wr => ∃ (rd : Nat) (f : Nat → Int), v = .int .i64 (rd : Int) ∧ rd ≤ k ∧ FR w wr (some ⟨b, off, none⟩) k cap gf f ∧ RJ T d a f rd 0 0) (fun v _ => k - (intOf v).toNat)
      case atStart => exact ⟨0, _, rfl, Nat.zero_le _, hF2, hJ0⟩
      case round =>
        obtain ⟨rd, f, rfl, hrd, hFr, hJ⟩ := hrel
        have HJ := Lib.hid hJ
        clear hJ hF2 hJ0
        by_cases hrl : rd < k
        rotate_left
        · have : rd = k := by omega
          subst this
          have hJf := HJ.out
          rw [← hn.out] at hJf
          have hfin := hJf.fin HT.out HD.out
          have hia := hFr.ia.congr (f' := d) (fun j _ => (hfin j).symm)
          have hbl := hFr.bel
          have hg0 := hFr.gf0
          clear hJf hfin
          go_wp2_with fail
          go_ret
          exact ⟨gf, rfl, hia, Nat.le_of_lt hg0, hbl⟩
        have hrdI : (rd : Int) < (k : Int) := by omega
        go_wp2_with fail
        go_loopw [8] (fun v wr => ∃ (y : Nat) (f : Nat → Int), v = .int .i64 (y : Int) ∧ y ≤ k ∧ FR w wr (some ⟨b, off, none⟩) k cap gf f ∧ RJ T d a f rd y 0) (fun v _ => k - (intOf v).toNat)
        case atStart => exact ⟨0, _, rfl, Nat.zero_le _, hFr, HJ.out⟩
        case round =>
          obtain ⟨y, f, rfl, hy, hFr, hJ⟩ := hrel
          clear HJ
          have HJ := Lib.hid hJ
          clear hJ
          have x0 := hFr.x0
          by_cases hyl : y < k
          rotate_left
          · have : y = k := by omega
            subst this
            have hJf := HJ.out
            rw [← hn.out] at hJf
            have HJR := Lib.hid (hJf.round HT.out HD.out)
            clear hJf
            go_wp2_with fail
            go_roundw
            case rel => exact ⟨rd + 1, f, by go_num, by omega, hFr, HJR.out⟩
            case measure => simp [intOf]; omega
          have hyI : (y : Int) < (k : Int) := by omega
          obtain ⟨r1, r2, r3, r4⟩ := H4.out y (by rw [hn.out]; exact hyl)
          obtain ⟨ly, hly⟩ : ∃ ly, Hid (T.ln y = ly) := ⟨_, rfl⟩
          have hl6 : ly ≤ 6 := by rw [← hly.out]; exact HT.out.l6 y (by rw [hn.out]; exact hyl)
          rw [hly.out] at r1 r2 r4
          obtain ⟨ad, hade⟩ : ∃ ad, Hid (ro y = ad) := ⟨_, rfl⟩
          rw [hade.out] at r4 r1
          have HAD := Lib.hid r4
          clear r4
          go_wp2_with fail
          go_loopw [9] (fun v wr => ∃ (j : Nat) (f : Nat → Int), v = .int .i64 (j : Int) ∧ j ≤ ly ∧ FR w wr (some ⟨b, off, none⟩) k cap gf f ∧ RJ T d a f rd y j) (fun v _ => ly - (intOf v).toNat)
          case atStart => exact ⟨0, _, rfl, Nat.zero_le _, hFr, HJ.out⟩
          case round =>
            obtain ⟨j, f, rfl, hj, hFr, hJ⟩ := hrel
            clear HJ x0
            have HJ := Lib.hid hJ
            clear hJ
            have x0 := hFr.x0
            have y0 := cell_below hFr.bel r1
            have zy := hFr.ia.cell hyl
            by_cases hjl : j < ly
            rotate_left
            · have : j = ly := by omega
              subst this
              have HJR := Lib.hid ((HJ.out).row HT.out HD.out hl6 (.inl (by rw [hly.out]; omega)))
              have hjb : decide (j < j) = false := decide_eq_false (by omega)
              go_wp2_with fail
              (try go_quiet (fail))
              go_wp2_with fail
              go_roundw
              case rel => exact ⟨y + 1, f, by go_num, by omega, hFr, HJR.out⟩
              case measure => simp [intOf]; omega
            have hjI : (j : Int) < (ly : Int) := by omega
            obtain ⟨fy, hfy⟩ : ∃ fy, Hid (f y = fy) := ⟨_, rfl⟩
            rw [hfy.out] at zy
            by_cases hneg : fy < 0
            · have hnb : decide (0 ≤ fy) = false := decide_eq_false (by omega)
              have HJR := Lib.hid ((HJ.out).row HT.out HD.out (by omega) (.inr (by rw [hfy.out]; omega)))
              go_wp2_with fail
              (try go_quiet (fail))
              go_wp2_with fail
              go_roundw
              case rel => exact ⟨y + 1, f, by go_num, by omega, hFr, HJR.out⟩
              case measure => simp [intOf]; omega
            have hnb : decide (0 ≤ fy) = true := decide_eq_true (by omega)
            obtain rfl := HAD.out (by omega)
            have hyT : y < T.n := by rw [hn.out]; exact hyl
            have hjT : j < T.ln y := by rw [hly.out]; exact hjl
            obtain ⟨p0, p1, p2, p3, p4⟩ := H5.out y j hyT hjT
            have hlk := (HT.out).lkp hyT hjT
            have hJs := fun h0 hk => (HJ.out).step (j := j) (HT.out) (HD.out) hyT hjT h0 hk
            have hJp := (HJ.out).pass (j := j)
            have hbd := (HJ.out).bd y
            rw [hfy.out] at hbd hJs
            obtain ⟨P, hP⟩ : ∃ P, Hid (P = T.pt y j) := ⟨_, rfl⟩
            rw [← hP.out] at p0 p1 p2 p3 p4 hJs hJp
            have HLK := Lib.hid hlk
            have HJS := Lib.hid hJs
            have HJP := Lib.hid hJp
            have HBD := Lib.hid hbd
            clear hlk hJs hJp hbd
            obtain ⟨kind, ten, peer, at_, cost⟩ := P
            simp only at p0 p1 p2 p3 p4
            have p0' := cell_below hFr.bel p0
            have p1' := cell_below hFr.bel p1
            have p2' := cell_below hFr.bel p2
            have p3' := cell_below hFr.bel p3
            have p4' := cell_below hFr.bel p4
            clear p0 p1 p2 p3 p4
            by_cases k2 : kind = 2
            rotate_left
            · have k2b : (kind == 2) = false := by simpa using k2
              go_wp2_with fail
              (try go_quiet (fail))
              go_wp2_with fail
              go_roundw
              case rel => exact ⟨j + 1, f, by go_num, by omega, (hFr.alloc _).same rfl rfl rfl rfl, HJP.out k2⟩
              case measure => simp [intOf]; omega
            subst k2
            have L := HLK.out (by rw [← hP.out])
            have c1 := L.c1
            have c2 := L.c2
            have l0 := L.p0
            have l1 := L.p1
            have l2 := L.pi
            rw [← hP.out] at c1 c2 l0 l1 l2
            rw [hn.out] at l1
            simp only at c1 c2 l0 l1 l2
            clear L
            obtain ⟨pn, rfl⟩ : ∃ pn : Nat, peer = (pn : Int) := ⟨peer.toNat, by omega⟩
            have hpn : pn < k := by omega
            have hpnI : (pn : Int) < (k : Int) := by omega
            have hpy : pn ≠ y := by omega
            clear l1 l0
            have zf := hFr.ia.cell hpn
            have zg := hFr.ia.froz pn
            have zl := hFr.ia.lt
            obtain ⟨fp, hfp⟩ : ∃ fp, Hid (f pn = fp) := ⟨_, rfl⟩
            rw [hfp.out] at zf
            have hfy2 : fy ≤ 1000000 := by have := HBD.out; omega
            have hFu := (hFr.alloc (.cells #[.int .i64 2, .int .i64 ten, .int .i64 (pn : Int), .int .i64 at_, .int .i64 cost] 35)).set pn (fy + cost)
            by_cases hcc : fp < 0 ∨ fy + cost < fp
            · have HJ5 := HJS.out (by omega) (by first | rfl | trivial)
              rw [Int.toNat_natCast, rlx_yes (by rw [hfp.out]; exact hcc)] at HJ5
              have HJ6 := Lib.hid HJ5
              clear HJ5
              obtain ⟨gq, hgq⟩ : ∃ gq, Hid (gq = wr.heap.size) := ⟨_, rfl⟩
              by_cases hc1 : fp < 0
              · have hc1b : decide (fp < 0) = true := decide_eq_true hc1
                go_wp2_with fail
                (try go_quiet (fail))
                go_wp2_with fail
                refine wp_world (fun W => FR w W (some ⟨b, off, none⟩) k cap gf f ∧ W.heap[wr.heap.size]? = some (.cells #[.int .i64 2, .int .i64 ten, .int .i64 (pn : Int), .int .i64 at_, .int .i64 cost] 35 (0, 0))) ⟨(hFr.alloc _).same rfl rfl rfl rfl, heap_alloc_new wr _⟩ ?_
                rw [← hgq.out]
                rintro W ⟨hFW, hW⟩
                clear x0 y0 zy zf zg zl p0' p1' p2' p3' p4'
                have s0 : W.cell? ⟨gq, 2, none⟩ = some (.int .i64 (pn : Int)) := by rw [cell_b hW]; rfl
                have s1 : W.cell? ⟨gq, 4, none⟩ = some (.int .i64 cost) := by rw [cell_b hW]; rfl
                have s2 := hFW.ia.cell hyl
                rw [hfy.out] at s2
                have s3 := hFW.ia.cell hpn
                have s4 := hFW.ia.froz pn
                have hFs := hFW.set pn (fy + cost)
                go_region
                all_goals go_wp2_with fail
                go_roundw
                case rel => exact ⟨j + 1, _, by go_num, by omega, hFs.same rfl rfl rfl rfl, HJ6.out⟩
                case measure => simp [intOf]; omega
              · have hc1b : decide (fp < 0) = false := decide_eq_false hc1
                have hc2 : fy + cost < fp := by omega
                have hc2b : decide (fy + cost < fp) = true := decide_eq_true hc2
                go_wp2_with fail
                (try go_quiet (fail))
                go_wp2_with fail
                refine wp_world (fun W => FR w W (some ⟨b, off, none⟩) k cap gf f ∧ W.heap[wr.heap.size]? = some (.cells #[.int .i64 2, .int .i64 ten, .int .i64 (pn : Int), .int .i64 at_, .int .i64 cost] 35 (0, 0))) ⟨(hFr.alloc _).same rfl rfl rfl rfl, heap_alloc_new wr _⟩ ?_
                rw [← hgq.out]
                rintro W ⟨hFW, hW⟩
                clear x0 y0 zy zf zg zl p0' p1' p2' p3' p4'
                have s0 : W.cell? ⟨gq, 2, none⟩ = some (.int .i64 (pn : Int)) := by rw [cell_b hW]; rfl
                have s1 : W.cell? ⟨gq, 4, none⟩ = some (.int .i64 cost) := by rw [cell_b hW]; rfl
                have s2 := hFW.ia.cell hyl
                rw [hfy.out] at s2
                have s3 := hFW.ia.cell hpn
                have s4 := hFW.ia.froz pn
                have hFs := hFW.set pn (fy + cost)
                go_region
                all_goals go_wp2_with fail
                go_roundw
                case rel => exact ⟨j + 1, _, by go_num, by omega, hFs.same rfl rfl rfl rfl, HJ6.out⟩
                case measure => simp [intOf]; omega
            · have hc1b : decide (fp < 0) = false := decide_eq_false (by omega)
              have hc2b : decide (fy + cost < fp) = false := decide_eq_false (by omega)
              have HJ5 := HJS.out (by omega) (by first | rfl | trivial)
              rw [Int.toNat_natCast, rlx_no (by rw [hfp.out]; exact hcc)] at HJ5
              have HJ6 := Lib.hid HJ5
              clear HJ5
              go_wp2_with fail
              (try go_quiet (fail))
              go_wp2_with fail
              go_roundw
              case rel => exact ⟨j + 1, f, by go_num, by omega, (hFr.alloc _).same rfl rfl rfl rfl, HJ6.out⟩
              case measure => simp [intOf]; omega
end Go.Proofs.Ytgebehnlfihliaa
