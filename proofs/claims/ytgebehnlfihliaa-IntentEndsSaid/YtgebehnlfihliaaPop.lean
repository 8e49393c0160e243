/- The count of bits that are 1, as package math/bits reckons it, is the sum of the bits: no program in sight. -/
import Derived.Test.YtgebehnlfihliaaPlain
namespace Go.Proofs.Ytgebehnlfihliaa.Plain

/-- f 0 + .. + f (n - 1) -/
def sumTo (f : Nat → Nat) : Nat → Nat
  | 0 => 0
  | n + 1 => sumTo f n + f n
theorem sumTo_first (f : Nat → Nat) : ∀ n, sumTo f (n + 1) = f 0 + sumTo (fun i => f (i + 1)) n
  | 0 => by simp [sumTo]
  | n + 1 => by rw [sumTo, sumTo_first f n, sumTo]; omega
theorem sumTo_congr {f g : Nat → Nat} : ∀ (n : Nat), (∀ i, i < n → f i = g i) → sumTo f n = sumTo g n
  | 0, _ => rfl
  | n + 1, h => by rw [sumTo, sumTo, sumTo_congr n (fun i hi => h i (by omega)), h n (by omega)]
theorem sumTo_add (f : Nat → Nat) (m : Nat) : ∀ n, sumTo f (m + n) = sumTo f m + sumTo (fun i => f (m + i)) n
  | 0 => by simp [sumTo]
  | n + 1 => by rw [← Nat.add_assoc, sumTo, sumTo_add f m n, sumTo]; omega
theorem sumTo_le (f : Nat → Nat) (h : ∀ i, f i ≤ 1) : ∀ n, sumTo f n ≤ n
  | 0 => Nat.le_refl _
  | n + 1 => by have := sumTo_le f h n; have := h n; rw [sumTo]; omega
/-- bit i of a number, as a number -/
def nb (x i : Nat) : Nat := x / 2 ^ i % 2
/-- bit i of a header, as a number -/
def hbit (X : BitVec 128) (i : Nat) : Nat := (X.getLsbD i).toNat
theorem hbit_le (X : BitVec 128) (i : Nat) : hbit X i ≤ 1 := by unfold hbit; cases X.getLsbD i <;> simp
theorem nb_bit (x i : Nat) : nb x i = (x.testBit i).toNat := by
  rw [nb, Nat.testBit_eq_decide_div_mod_eq]
  have := Nat.mod_two_eq_zero_or_one (x / 2 ^ i)
  rcases this with h | h <;> simp [h]

/-- byte by byte -/
def bm (f : Nat → Nat) : Nat → Nat → Nat
  | 0, _ => 0
  | n + 1, x => f (x % 256) + 256 * bm f n (x / 256)
theorem bm_mod {f : Nat → Nat} (hf : ∀ b, b < 256 → f b < 256) (n x : Nat) : bm f (n + 1) x % 256 = f (x % 256) := by
  have := hf (x % 256) (Nat.mod_lt _ (by decide)); rw [bm]; omega
theorem bm_div {f : Nat → Nat} (hf : ∀ b, b < 256 → f b < 256) (n x : Nat) : bm f (n + 1) x / 256 = bm f n (x / 256) := by
  have := hf (x % 256) (Nat.mod_lt _ (by decide)); rw [bm]; omega
/-- the mask whose every byte is q -/
def rep (q : Nat) : Nat → Nat
  | 0 => 0
  | n + 1 => q + 256 * rep q n
theorem and_mod256 (x y : Nat) : (x &&& y) % 256 = (x % 256) &&& (y % 256) := by
  have := @Nat.and_mod_two_pow x y 8; simpa using this
theorem and_div256 (x y : Nat) : (x &&& y) / 256 = (x / 256) &&& (y / 256) := by
  have := @Nat.and_div_two_pow x y 8; simpa using this
theorem split256 (x : Nat) : x = x % 256 + 256 * (x / 256) := by omega
/-- a masked shift by s bits, byte by byte: what comes down from the next byte is masked off -/
theorem shift_bm (q s : Nat) (hq : q < 256) (h8 : s = 0 ∨ s = 1 ∨ s = 2 ∨ s = 4) (hs : ∀ b, b < 256 → ∀ c, c < 2 ^ s → (b / 2 ^ s + c * 2 ^ (8 - s)) % 256 &&& q = (b / 2 ^ s) &&& q) : ∀ n x, (x / 2 ^ s) &&& rep q n = bm (fun b => (b / 2 ^ s) &&& q) n x
  | 0, x => by simp [rep, bm]
  | n + 1, x => by
    have h1 : ((x / 2 ^ s) &&& rep q (n + 1)) % 256 = ((x % 256) / 2 ^ s) &&& q := by
      rw [and_mod256, rep, show (q + 256 * rep q n) % 256 = q by omega, ← hs (x % 256) (Nat.mod_lt _ (by decide)) (x / 256 % 2 ^ s) (Nat.mod_lt _ (Nat.two_pow_pos s))]
      congr 1
      rcases h8 with rfl | rfl | rfl | rfl <;> simp <;> omega
    have h2 : ((x / 2 ^ s) &&& rep q (n + 1)) / 256 = bm (fun b => (b / 2 ^ s) &&& q) n (x / 256) := by
      rw [and_div256, rep, show (q + 256 * rep q n) / 256 = rep q n by omega, ← shift_bm q s hq h8 hs n (x / 256), Nat.div_div_eq_div_mul, Nat.mul_comm, ← Nat.div_div_eq_div_mul]
    rw [split256 ((x / 2 ^ s) &&& rep q (n + 1)), h1, h2, bm]
theorem bm_add (f g : Nat → Nat) : ∀ n x, bm f n x + bm g n x = bm (fun b => f b + g b) n x
  | 0, x => by simp [bm]
  | n + 1, x => by have := bm_add f g n (x / 256); simp only [bm]; omega
theorem bm_comp {f : Nat → Nat} (g : Nat → Nat) (hf : ∀ b, b < 256 → f b < 256) : ∀ n x, bm g n (bm f n x) = bm (fun b => g (f b)) n x
  | 0, x => by simp [bm]
  | n + 1, x => by rw [bm, bm_mod hf, bm_div hf, bm_comp g hf n, bm]
theorem bm_congr {f g : Nat → Nat} (h : ∀ b, b < 256 → f b = g b) : ∀ n x, bm f n x = bm g n x
  | 0, x => rfl
  | n + 1, x => by rw [bm, bm, h _ (Nat.mod_lt _ (by decide)), bm_congr h n]
theorem bm_lt {f : Nat → Nat} (hf : ∀ b, b < 256 → f b < 256) : ∀ n x, bm f n x < 256 ^ n
  | 0, x => by simp [bm]
  | n + 1, x => by
    have h1 := hf (x % 256) (Nat.mod_lt _ (by decide))
    have h2 := bm_lt hf n (x / 256)
    rw [bm, Nat.pow_succ]; omega

def f1 (b : Nat) : Nat := (b / 2 &&& 85) + (b &&& 85)
def f2 (b : Nat) : Nat := (b / 4 &&& 51) + (b &&& 51)
def f3 (b : Nat) : Nat := (b / 16 &&& 15) + (b &&& 15)
theorem f1_lt : ∀ b, b < 256 → f1 b < 256 := by decide +kernel
theorem f2_lt : ∀ b, b < 256 → f2 b < 256 := by decide +kernel
theorem f12_lt : ∀ b, b < 256 → f2 (f1 b) < 256 := by decide +kernel
theorem f123_lt : ∀ b, b < 256 → f3 (f2 (f1 b)) < 9 := by decide +kernel
theorem f12_nib : ∀ b, b < 256 → f2 (f1 b) / 16 < 8 ∧ f2 (f1 b) % 16 < 8 := by decide +kernel
theorem and_nat (a b : Nat) (ha : a < 18446744073709551616) (hb : b < 18446744073709551616) : bits .and .u64 (a : Int) (b : Int) = ((a &&& b : Nat) : Int) := u64_and_nat a b ha hb
theorem m1 : ((6148914691236517205 : Nat) : Int) = 6148914691236517205 := rfl
theorem m2 : ((3689348814741910323 : Nat) : Int) = 3689348814741910323 := rfl
theorem m3 : ((1085102592571150095 : Nat) : Int) = 1085102592571150095 := rfl
theorem r1 : rep 85 8 = 6148914691236517205 := by decide +kernel
theorem r2 : rep 51 8 = 3689348814741910323 := by decide +kernel
theorem r3 : rep 15 8 = 1085102592571150095 := by decide +kernel
theorem s10 : ∀ b, b < 256 → ∀ c, c < 2 ^ 0 → (b / 2 ^ 0 + c * 2 ^ (8 - 0)) % 256 &&& 85 = (b / 2 ^ 0) &&& 85 := by decide +kernel
theorem s11 : ∀ b, b < 256 → ∀ c, c < 2 ^ 1 → (b / 2 ^ 1 + c * 2 ^ (8 - 1)) % 256 &&& 85 = (b / 2 ^ 1) &&& 85 := by decide +kernel
theorem s20 : ∀ b, b < 256 → ∀ c, c < 2 ^ 0 → (b / 2 ^ 0 + c * 2 ^ (8 - 0)) % 256 &&& 51 = (b / 2 ^ 0) &&& 51 := by decide +kernel
theorem s22 : ∀ b, b < 256 → ∀ c, c < 2 ^ 2 → (b / 2 ^ 2 + c * 2 ^ (8 - 2)) % 256 &&& 51 = (b / 2 ^ 2) &&& 51 := by decide +kernel
theorem p8 : (256 : Nat) ^ 8 = 18446744073709551616 := by decide +kernel
theorem nat1 (x : Nat) : (x / 2 &&& 6148914691236517205) + (x &&& 6148914691236517205) = bm f1 8 x := by
  have e1 := shift_bm 85 1 (by decide) (by decide) s11 8 x
  have e0 := shift_bm 85 0 (by decide) (by decide) s10 8 x
  have h := bm_add (fun b => (b / 2 ^ 1) &&& 85) (fun b => (b / 2 ^ 0) &&& 85) 8 x
  rw [← e1, ← e0, r1, Nat.pow_one, Nat.pow_zero, Nat.div_one] at h
  rw [h]
  exact bm_congr (fun b _ => by rw [f1, Nat.div_one]) 8 x
theorem nat2 (x : Nat) : (x / 4 &&& 3689348814741910323) + (x &&& 3689348814741910323) = bm f2 8 x := by
  have e1 := shift_bm 51 2 (by decide) (by decide) s22 8 x
  have e0 := shift_bm 51 0 (by decide) (by decide) s20 8 x
  have h := bm_add (fun b => (b / 2 ^ 2) &&& 51) (fun b => (b / 2 ^ 0) &&& 51) 8 x
  rw [← e1, ← e0, r2, Nat.pow_zero, Nat.div_one] at h
  rw [show (4 : Nat) = 2 ^ 2 from rfl, h]
  exact bm_congr (fun b _ => by rw [f2, Nat.div_one]) 8 x
theorem step1 (x : Nat) (hx : x < 18446744073709551616) : IntKind.u64.wrap (bits .and .u64 ((x : Int) / 2) 6148914691236517205 + bits .and .u64 (x : Int) 6148914691236517205) = ((bm f1 8 x : Nat) : Int) := by
  have hl := bm_lt f1_lt 8 x
  rw [p8] at hl
  rw [show ((x : Int) / 2) = ((x / 2 : Nat) : Int) by omega, ← m1, and_nat (x / 2) 6148914691236517205 (by omega) (by decide), and_nat x 6148914691236517205 hx (by decide), ← Int.natCast_add, nat1]
  exact IntWalk.u64_in _ ⟨Int.natCast_nonneg _, by omega⟩
theorem step2 (x : Nat) (hx : x < 18446744073709551616) : IntKind.u64.wrap (bits .and .u64 ((x : Int) / 4) 3689348814741910323 + bits .and .u64 (x : Int) 3689348814741910323) = ((bm f2 8 x : Nat) : Int) := by
  have hl := bm_lt f2_lt 8 x
  rw [p8] at hl
  rw [show ((x : Int) / 4) = ((x / 4 : Nat) : Int) by omega, ← m2, and_nat (x / 4) 3689348814741910323 (by omega) (by decide), and_nat x 3689348814741910323 hx (by decide), ← Int.natCast_add, nat2]
  exact IntWalk.u64_in _ ⟨Int.natCast_nonneg _, by omega⟩

theorem nib (g : Nat → Nat) (hg : ∀ b, b < 256 → g b / 16 < 8 ∧ g b % 16 < 8) : ∀ n x, bm g n x % 16 < 8
  | 0, x => by simp [bm]
  | n + 1, x => by have := hg (x % 256) (Nat.mod_lt _ (by decide)); rw [bm]; omega
theorem nat3 (g : Nat → Nat) (hg : ∀ b, b < 256 → g b / 16 < 8 ∧ g b % 16 < 8) : ∀ n x, (bm g n x / 16 + bm g n x) &&& rep 15 n = bm (fun b => g b / 16 + g b % 16) n x
  | 0, x => by simp [rep, bm]
  | n + 1, x => by
    have hb := hg (x % 256) (Nat.mod_lt _ (by decide))
    have hn := nib g hg n (x / 256)
    have h1 : ((bm g (n + 1) x / 16 + bm g (n + 1) x) &&& rep 15 (n + 1)) % 256 = g (x % 256) / 16 + g (x % 256) % 16 := by
      rw [and_mod256, rep, show (15 + 256 * rep 15 n) % 256 = 15 by omega, show (15 : Nat) = 2 ^ 4 - 1 by decide, Nat.and_two_pow_sub_one_eq_mod, bm]
      omega
    have h2 : ((bm g (n + 1) x / 16 + bm g (n + 1) x) &&& rep 15 (n + 1)) / 256 = bm (fun b => g b / 16 + g b % 16) n (x / 256) := by
      rw [and_div256, rep, show (15 + 256 * rep 15 n) / 256 = rep 15 n by omega, ← nat3 g hg n (x / 256)]
      congr 1
      rw [bm]; omega
    rw [split256 ((bm g (n + 1) x / 16 + bm g (n + 1) x) &&& rep 15 (n + 1)), h1, h2, bm]
/-- how many of a byte's bits are 1 -/
def pb (b : Nat) : Nat := f2 (f1 b) / 16 + f2 (f1 b) % 16
theorem pb_eq : ∀ b, b < 256 → pb b = sumTo (nb b) 8 := by decide +kernel
theorem pb_lt : ∀ b, b < 256 → pb b < 9 := by decide +kernel
theorem bm_rep {g : Nat → Nat} (hg : ∀ b, b < 256 → g b / 16 < 8 ∧ g b % 16 < 8) : ∀ n x, bm g n x ≤ rep 119 n
  | 0, x => Nat.le_refl _
  | n + 1, x => by
    have h1 := hg (x % 256) (Nat.mod_lt _ (by decide))
    have h2 := bm_rep hg n (x / 256)
    rw [bm, rep]; omega
theorem r119 : rep 119 8 = 8608480567731124087 := by decide +kernel
theorem step3 (x : Nat) : bits .and .u64 (IntKind.u64.wrap (((bm f2 8 (bm f1 8 x) : Nat) : Int) / 16 + ((bm f2 8 (bm f1 8 x) : Nat) : Int))) 1085102592571150095 = ((bm pb 8 x : Nat) : Int) := by
  rw [bm_comp f2 f1_lt]
  have h := nat3 (fun b => f2 (f1 b)) f12_nib 8 x
  have hl := bm_rep f12_nib 8 x
  rw [r119] at hl
  generalize bm (fun b => f2 (f1 b)) 8 x = y at *
  rw [show ((y : Int) / 16 + (y : Int)) = ((y / 16 + y : Nat) : Int) by omega]
  rw [r3] at h
  have hy : y / 16 + y < 18446744073709551616 := by omega
  rw [IntWalk.u64_in _ ⟨Int.natCast_nonneg _, by omega⟩, ← m3, and_nat _ 1085102592571150095 hy (by decide), h]; rfl
/-- the sum of the eight bytes -/
theorem fold (c0 c1 c2 c3 c4 c5 c6 c7 : Nat) (h0 : c0 < 9) (h1 : c1 < 9) (h2 : c2 < 9) (h3 : c3 < 9) (h4 : c4 < 9) (h5 : c5 < 9) (h6 : c6 < 9) (h7 : c7 < 9) (y : Nat)
    (hy : y = c0 + 256 * (c1 + 256 * (c2 + 256 * (c3 + 256 * (c4 + 256 * (c5 + 256 * (c6 + 256 * c7))))))) :
    ((y + y / 256) + (y + y / 256) / 65536 + ((y + y / 256) + (y + y / 256) / 65536) / 4294967296) % 128 = c0 + c1 + c2 + c3 + c4 + c5 + c6 + c7 := by
  have e1 : y / 256 = c1 + 256 * (c2 + 256 * (c3 + 256 * (c4 + 256 * (c5 + 256 * (c6 + 256 * c7))))) := by rw [hy]; omega
  have e2 : y + y / 256 = (c0 + c1) + 256 * (c1 + c2) + 65536 * ((c2 + c3) + 256 * (c3 + c4) + 65536 * ((c4 + c5) + 256 * (c5 + c6) + 65536 * ((c6 + c7) + 256 * c7))) := by rw [e1, hy]; omega
  rw [e2]
  clear e1 e2 hy
  have e3 : ((c0 + c1) + 256 * (c1 + c2) + 65536 * ((c2 + c3) + 256 * (c3 + c4) + 65536 * ((c4 + c5) + 256 * (c5 + c6) + 65536 * ((c6 + c7) + 256 * c7)))) / 65536 = (c2 + c3) + 256 * (c3 + c4) + 65536 * ((c4 + c5) + 256 * (c5 + c6) + 65536 * ((c6 + c7) + 256 * c7)) := by
    rw [Nat.add_mul_div_left _ _ (by decide), Nat.div_eq_of_lt (by omega), Nat.zero_add]
  rw [e3]
  have e4 : (c0 + c1) + 256 * (c1 + c2) + 65536 * ((c2 + c3) + 256 * (c3 + c4) + 65536 * ((c4 + c5) + 256 * (c5 + c6) + 65536 * ((c6 + c7) + 256 * c7))) + ((c2 + c3) + 256 * (c3 + c4) + 65536 * ((c4 + c5) + 256 * (c5 + c6) + 65536 * ((c6 + c7) + 256 * c7))) =
      (c0 + c1 + c2 + c3) + 128 * (2 * (c1 + c2 + c3 + c4) + 512 * ((c2 + c3 + c4 + c5) + 256 * (c3 + c4 + c5 + c6))) + 4294967296 * ((c4 + c5 + c6 + c7) + 128 * (2 * (c5 + c6 + c7) + 512 * ((c6 + c7) + 256 * c7))) := by omega
  rw [e4]
  clear e3 e4
  have e5 : ((c0 + c1 + c2 + c3) + 128 * (2 * (c1 + c2 + c3 + c4) + 512 * ((c2 + c3 + c4 + c5) + 256 * (c3 + c4 + c5 + c6))) + 4294967296 * ((c4 + c5 + c6 + c7) + 128 * (2 * (c5 + c6 + c7) + 512 * ((c6 + c7) + 256 * c7)))) / 4294967296 = (c4 + c5 + c6 + c7) + 128 * (2 * (c5 + c6 + c7) + 512 * ((c6 + c7) + 256 * c7)) := by
    rw [Nat.add_mul_div_left _ _ (by decide), Nat.div_eq_of_lt (by omega), Nat.zero_add]
  rw [e5]
  generalize 2 * (c1 + c2 + c3 + c4) + 512 * ((c2 + c3 + c4 + c5) + 256 * (c3 + c4 + c5 + c6)) = p
  generalize 2 * (c5 + c6 + c7) + 512 * ((c6 + c7) + 256 * c7) = q
  omega

/-- package math/bits' seven steps -/
def w1 (x : Int) : Int := IntKind.u64.wrap (bits .and .u64 (x / 2) 6148914691236517205 + bits .and .u64 x 6148914691236517205)
def w2 (x : Int) : Int := IntKind.u64.wrap (bits .and .u64 (x / 4) 3689348814741910323 + bits .and .u64 x 3689348814741910323)
def w3 (x : Int) : Int := bits .and .u64 (IntKind.u64.wrap (x / 16 + x)) 1085102592571150095
def w4 (x : Int) : Int := IntKind.u64.wrap (x + x / 256)
def w5 (x : Int) : Int := IntKind.u64.wrap (x + x / 65536)
def w6 (x : Int) : Int := IntKind.u64.wrap (x + x / 4294967296)
def w7 (x : Int) : Int := bits .and .i64 (IntKind.i64.wrap x) 127
theorem bm_rep9 {g : Nat → Nat} (hg : ∀ b, b < 256 → g b < 9) : ∀ n x, bm g n x ≤ rep 8 n
  | 0, x => Nat.le_refl _
  | n + 1, x => by
    have h1 := hg (x % 256) (Nat.mod_lt _ (by decide))
    have h2 := bm_rep9 hg n (x / 256)
    rw [bm, rep]; omega
theorem r8 : rep 8 8 = 578721382704613384 := by decide +kernel
theorem and127 (x : Nat) (h : x < 9223372036854775808) : bits .and .i64 (x : Int) 127 = ((x % 128 : Nat) : Int) := by
  have e : BitVec.ofInt 64 (x : Int) &&& BitVec.ofInt 64 127 = BitVec.ofNat 64 (x % 128) := by
    apply BitVec.eq_of_toNat_eq
    rw [BitVec.toNat_and, show BitVec.ofInt 64 (x : Int) = BitVec.ofNat 64 x from rfl, show BitVec.ofInt 64 127 = BitVec.ofNat 64 127 from rfl, BitVec.toNat_ofNat, BitVec.toNat_ofNat, BitVec.toNat_ofNat, Nat.mod_eq_of_lt (show x < 2 ^ 64 by omega), Nat.mod_eq_of_lt (show 127 < 2 ^ 64 by omega), Nat.mod_eq_of_lt (show x % 128 < 2 ^ 64 by omega), show (127 : Nat) = 2 ^ 7 - 1 by decide, Nat.and_two_pow_sub_one_eq_mod]
  show IntKind.i64.wrap (BitVec.ofInt 64 (x : Int) &&& BitVec.ofInt 64 127).toNat = _
  rw [e, BitVec.toNat_ofNat, Nat.mod_eq_of_lt (show x % 128 < 2 ^ 64 by omega)]
  exact IntWalk.i64_in _ ⟨by omega, by omega⟩
theorem pop_bytes (x : Nat) (hx : x < 18446744073709551616) : w7 (w6 (w5 (w4 (w3 (w2 (w1 (x : Int))))))) = ((pb (x % 256) + pb (x / 256 % 256) + pb (x / 256 / 256 % 256) + pb (x / 256 / 256 / 256 % 256) + pb (x / 256 / 256 / 256 / 256 % 256) + pb (x / 256 / 256 / 256 / 256 / 256 % 256) + pb (x / 256 / 256 / 256 / 256 / 256 / 256 % 256) + pb (x / 256 / 256 / 256 / 256 / 256 / 256 / 256 % 256) : Nat) : Int) := by
  have hl1 := bm_lt f1_lt 8 x
  rw [p8] at hl1
  have e1 : w1 (x : Int) = ((bm f1 8 x : Nat) : Int) := step1 x hx
  have e2 : w2 ((bm f1 8 x : Nat) : Int) = ((bm f2 8 (bm f1 8 x) : Nat) : Int) := step2 _ hl1
  have e3 : w3 ((bm f2 8 (bm f1 8 x) : Nat) : Int) = ((bm pb 8 x : Nat) : Int) := step3 x
  rw [e1, e2, e3]
  have hl := bm_rep9 pb_lt 8 x
  rw [r8] at hl
  have hf := fold _ _ _ _ _ _ _ _ (pb_lt (x % 256) (Nat.mod_lt _ (by decide))) (pb_lt (x / 256 % 256) (Nat.mod_lt _ (by decide))) (pb_lt (x / 256 / 256 % 256) (Nat.mod_lt _ (by decide))) (pb_lt (x / 256 / 256 / 256 % 256) (Nat.mod_lt _ (by decide))) (pb_lt (x / 256 / 256 / 256 / 256 % 256) (Nat.mod_lt _ (by decide))) (pb_lt (x / 256 / 256 / 256 / 256 / 256 % 256) (Nat.mod_lt _ (by decide))) (pb_lt (x / 256 / 256 / 256 / 256 / 256 / 256 % 256) (Nat.mod_lt _ (by decide))) (pb_lt (x / 256 / 256 / 256 / 256 / 256 / 256 / 256 % 256) (Nat.mod_lt _ (by decide))) (bm pb 8 x) (by simp only [bm, Nat.mul_zero, Nat.add_zero])
  rw [← hf]
  generalize bm pb 8 x = y at hl
  have a4 : w4 (y : Int) = ((y + y / 256 : Nat) : Int) := by
    rw [w4, show ((y : Int) + (y : Int) / 256) = ((y + y / 256 : Nat) : Int) by omega]; exact IntWalk.u64_in _ ⟨by omega, by omega⟩
  rw [a4]
  have b4 : y + y / 256 ≤ 600000000000000000 := by omega
  generalize y + y / 256 = z at b4
  have a5 : w5 (z : Int) = ((z + z / 65536 : Nat) : Int) := by
    rw [w5, show ((z : Int) + (z : Int) / 65536) = ((z + z / 65536 : Nat) : Int) by omega]; exact IntWalk.u64_in _ ⟨by omega, by omega⟩
  rw [a5]
  have b5 : z + z / 65536 ≤ 700000000000000000 := by omega
  generalize z + z / 65536 = t at b5
  have a6 : w6 (t : Int) = ((t + t / 4294967296 : Nat) : Int) := by
    rw [w6, show ((t : Int) + (t : Int) / 4294967296) = ((t + t / 4294967296 : Nat) : Int) by omega]; exact IntWalk.u64_in _ ⟨by omega, by omega⟩
  rw [a6, w7, IntWalk.i64_in _ ⟨by omega, by omega⟩]
  exact and127 _ (by omega)
/-- .. is the sum of the 64 bits -/
theorem pop_sum (x : Nat) (hx : x < 18446744073709551616) : w7 (w6 (w5 (w4 (w3 (w2 (w1 (x : Int))))))) = ((sumTo (nb x) 64 : Nat) : Int) := by
  rw [pop_bytes x hx]
  have hs : ∀ y n, sumTo (nb y) (8 + n) = pb (y % 256) + sumTo (nb (y / 256)) n := by
    intro y n
    rw [sumTo_add, pb_eq _ (Nat.mod_lt _ (by decide))]
    have e1 : sumTo (nb y) 8 = sumTo (nb (y % 256)) 8 := sumTo_congr 8 fun i hi => by
      unfold nb
      have : i = 0 ∨ i = 1 ∨ i = 2 ∨ i = 3 ∨ i = 4 ∨ i = 5 ∨ i = 6 ∨ i = 7 := by omega
      rcases this with rfl | rfl | rfl | rfl | rfl | rfl | rfl | rfl <;> simp <;> omega
    have e2 : sumTo (fun i => nb y (8 + i)) n = sumTo (nb (y / 256)) n := sumTo_congr n fun i _ => by
      unfold nb
      rw [Nat.pow_add, ← Nat.div_div_eq_div_mul]
    rw [e1, e2]
  have h := hs x 56
  rw [hs (x / 256) 48, hs (x / 256 / 256) 40, hs (x / 256 / 256 / 256) 32, hs (x / 256 / 256 / 256 / 256) 24, hs (x / 256 / 256 / 256 / 256 / 256) 16, hs (x / 256 / 256 / 256 / 256 / 256 / 256) 8, hs (x / 256 / 256 / 256 / 256 / 256 / 256 / 256) 0, sumTo] at h
  rw [show 64 = 8 + 56 from rfl, h]
  congr 1
  omega
/-- both halves of a header -/
theorem ones_sum (X : BitVec 128) : sumTo (nb (hiOf X).toNat) 64 + sumTo (nb (loOf X).toNat) 64 = sumTo (hbit X) 128 := by
  have h := sumTo_add (hbit X) 64 64
  rw [show 128 = 64 + 64 from rfl, h, Nat.add_comm]
  congr 1
  · exact sumTo_congr 64 fun i hi => by rw [nb_bit, ← BitVec.getLsbD, loOf_bit, hbit, decide_eq_true hi, Bool.true_and]
  · exact sumTo_congr 64 fun i hi => by rw [nb_bit, ← BitVec.getLsbD, hiOf_bit, hbit, decide_eq_true hi, Bool.true_and]
end Go.Proofs.Ytgebehnlfihliaa.Plain
