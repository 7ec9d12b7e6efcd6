/- General lemmas, walks. -/
import Derived.RangeFuncBox
import Derived.RangeFuncLeaves
import Derived.RangeFuncFrom
import Derived.Shelf.Abstract
import Derived.WalkKit
import Derived.OwnWalkIn
import Derived.TacticsInMore
import Derived.LoopNIn
import Derived.LoopIn
import Derived.Shelf.RegionOpenPlain
import Derived.Deep.RegionLaw
import Derived.RegionIn
import Derived.Shelf.RegionOpen
import Derived.Test.YtmkplecnmklbfaaJ4PLost
set_option maxRecDepth 100000
set_option maxHeartbeats 1000000
set_option linter.unusedSimpArgs false
set_option linter.unusedVariables false
set_option linter.unnecessarySimpa false
set_option linter.unusedSectionVars false
namespace Go.Sx
open Go.Mi Go.RowKit
theorem wrap_u16m (x : Int) : IntKind.wrap .u16 x = x % 65536 := by
 simp [IntKind.wrap, IntKind.bits, IntKind.signed]
theorem ofI8 {a : Int} (ha : 0 ≤ a ∧ a < 256) : (BitVec.ofInt 8 a).toNat = a.toNat := by rw [BitVec.toNat_ofInt]; omega
theorem ofI16 {a : Int} (ha : 0 ≤ a ∧ a < 65536) : (BitVec.ofInt 16 a).toNat = a.toNat := by rw [BitVec.toNat_ofInt]; omega
theorem bor8 {a b : Int} (ha : 0 ≤ a ∧ a < 256) (hb : 0 ≤ b ∧ b < 256) : ior .u8 a b = ((a.toNat ||| b.toNat : Nat) : Int) := by
 have h : a.toNat ||| b.toNat < 2 ^ 8 := Nat.or_lt_two_pow (by omega) (by omega)
 unfold ior
 rw [wrap_u8m]
 show (((BitVec.ofInt 8 a ||| BitVec.ofInt 8 b).toNat : Nat) : Int) % 256 = _
 rw [BitVec.toNat_or, ofI8 ha, ofI8 hb]
 omega
theorem bor16 {a b : Int} (ha : 0 ≤ a ∧ a < 65536) (hb : 0 ≤ b ∧ b < 65536) : ior .u16 a b = ((a.toNat ||| b.toNat : Nat) : Int) := by
 have h : a.toNat ||| b.toNat < 2 ^ 16 := Nat.or_lt_two_pow (by omega) (by omega)
 unfold ior
 rw [wrap_u16m]
 show (((BitVec.ofInt 16 a ||| BitVec.ofInt 16 b).toNat : Nat) : Int) % 65536 = _
 rw [BitVec.toNat_or, ofI16 ha, ofI16 hb]
 omega
theorem fdiv_nat {a : Int} (ha : 0 ≤ a) (n : Nat) : a.fdiv (2 ^ n) = ((a.toNat >>> n : Nat) : Int) := by
 obtain ⟨m, rfl⟩ := Int.eq_ofNat_of_zero_le ha
 rw [Int.fdiv_eq_ediv_of_nonneg _ (Int.pow_nonneg (by decide)), show (2 : Int) ^ n = ((2 ^ n : Nat) : Int) by simp, Nat.shiftRight_eq_div_pow]
 rfl
theorem shr8 {a : Int} (ha : 0 ≤ a) {n : Nat} (hn : n ≤ 8) : ishr .u8 a ((n : Nat) : Int) = ((a.toNat >>> n : Nat) : Int) := by
 unfold ishr
 rw [show min ((n : Nat) : Int).toNat (IntKind.bits .u8) = n by simp [IntKind.bits]; omega, fdiv_nat ha]
theorem shr16 {a : Int} (ha : 0 ≤ a) {n : Nat} (hn : n ≤ 16) : ishr .u16 a ((n : Nat) : Int) = ((a.toNat >>> n : Nat) : Int) := by
 unfold ishr
 rw [show min ((n : Nat) : Int).toNat (IntKind.bits .u16) = n by simp [IntKind.bits]; omega, fdiv_nat ha]
theorem bit_tt (x n : Nat) : x >>> n % 2 = (x.testBit n).toNat := by
 rw [Nat.testBit_eq_decide_div_mod_eq, Nat.shiftRight_eq_div_pow]
 rcases Nat.mod_two_eq_zero_or_one (x / 2 ^ n) with h | h <;> simp [h]
theorem dig16 {x : Int} (hx : 0 ≤ x ∧ x < 65536) {k : Nat} (hk : k ≤ 16) : iand .u16 (ishr .u16 x ((k : Nat) : Int)) 1 = ((x.toNat.testBit k).toNat : Int) := by
 rw [shr16 hx.1 hk]
 have h1 : x.toNat >>> k ≤ x.toNat := by rw [Nat.shiftRight_eq_div_pow]; exact Nat.div_le_self _ _
 have h9 : (0 : Int) ≤ ((x.toNat >>> k : Nat) : Int) ∧ ((x.toNat >>> k : Nat) : Int) < 65536 := by
  generalize x.toNat >>> k = y at h1 ⊢
  omega
 unfold iand
 rw [wrap_u16m]
 show (((BitVec.ofInt 16 _ &&& BitVec.ofInt 16 1).toNat : Nat) : Int) % 65536 = _
 rw [BitVec.toNat_and, ofI16 h9, show (BitVec.ofInt 16 1).toNat = 1 from rfl, Nat.and_one_is_mod, Int.toNat_natCast, bit_tt]
 cases x.toNat.testBit k <;> rfl
theorem dig8 {x : Int} (hx : 0 ≤ x ∧ x < 256) {k : Nat} (hk : k ≤ 8) : iand .u8 (ishr .u8 x ((k : Nat) : Int)) 1 = ((x.toNat.testBit k).toNat : Int) := by
 rw [shr8 hx.1 hk]
 have h1 : x.toNat >>> k ≤ x.toNat := by rw [Nat.shiftRight_eq_div_pow]; exact Nat.div_le_self _ _
 have h9 : (0 : Int) ≤ ((x.toNat >>> k : Nat) : Int) ∧ ((x.toNat >>> k : Nat) : Int) < 256 := by
  generalize x.toNat >>> k = y at h1 ⊢
  omega
 unfold iand
 rw [wrap_u8m]
 show (((BitVec.ofInt 8 _ &&& BitVec.ofInt 8 1).toNat : Nat) : Int) % 256 = _
 rw [BitVec.toNat_and, ofI8 h9, show (BitVec.ofInt 8 1).toNat = 1 from rfl, Nat.and_one_is_mod, Int.toNat_natCast, bit_tt]
 cases x.toNat.testBit k <;> rfl
theorem two_le {a b : Nat} (h : a < b) : 2 ^ a * 2 ≤ 2 ^ b := by
 rw [← Nat.pow_succ]; exact Nat.pow_le_pow_right (by decide) h
theorem shl8 (b : Bool) {s : Nat} (hs : s < 8) : ishl .u8 (IntKind.wrap .u8 ((b.toNat : Nat) : Int)) ((s : Nat) : Int) = ((b.toNat * 2 ^ s : Nat) : Int) := by
 have h2 := two_le hs
 unfold ishl
 rw [wrap_u8m, wrap_u8m, show min ((s : Nat) : Int).toNat (IntKind.bits .u8) = s by simp [IntKind.bits]; omega]
 cases b
 ·simp
 ·have e : ((2 ^ s : Nat) : Int) = (2 : Int) ^ s := by simp
  simp only [Bool.toNat_true, Nat.one_mul]
  rw [e]
  have : (2 : Int) ^ s < 256 := by rw [← e]; omega
  have : (0 : Int) ≤ 2 ^ s := by rw [← e]; omega
  omega
theorem shl16 (b : Bool) {s : Nat} (hs : s < 16) : ishl .u16 (IntKind.wrap .u16 ((b.toNat : Nat) : Int)) ((s : Nat) : Int) = ((b.toNat * 2 ^ s : Nat) : Int) := by
 have h2 := two_le hs
 unfold ishl
 rw [wrap_u16m, wrap_u16m, show min ((s : Nat) : Int).toNat (IntKind.bits .u16) = s by simp [IntKind.bits]; omega]
 cases b
 ·simp
 ·have e : ((2 ^ s : Nat) : Int) = (2 : Int) ^ s := by simp
  simp only [Bool.toNat_true, Nat.one_mul]
  rw [e]
  have : (2 : Int) ^ s < 65536 := by rw [← e]; omega
  have : (0 : Int) ≤ 2 ^ s := by rw [← e]; omega
  omega
theorem tb_pow (b : Bool) (s i : Nat) : (b.toNat * 2 ^ s).testBit i = (b && decide (i = s)) := by
 cases b
 ·simp
 ·simp only [Bool.toNat_true, Nat.one_mul, Bool.true_and, Nat.testBit_two_pow]
  by_cases h : s = i
  ·simp [h]
  ·rw [decide_eq_false h, decide_eq_false fun e => h e.symm]
def By (o : List Int) : Prop := ∀ x ∈ o, 0 ≤ x ∧ x < 256
theorem By.at {o : List Int} (h : By o) (i : Nat) : 0 ≤ o.getD i 0 ∧ o.getD i 0 < 256 := by
 rw [List.getD_eq_getElem?_getD]
 cases e : o[i]? with
 | none => simp
 | some x => exact h x (List.mem_of_getElem? e)
def bt (o : List Int) (n : Nat) : Bool := (o.getD (n / 8) 0).toNat.testBit (n % 8)
def stb (o : List Int) (n : Nat) (v : Int) : List Int := o.set (n / 8) (ior .u8 (o.getD (n / 8) 0) (ishl .u8 (IntKind.wrap .u8 v) ((n % 8 : Nat) : Int)))
theorem stb_len (o : List Int) (n : Nat) (v : Int) : (stb o n v).length = o.length := List.length_set
theorem stb_ok {o : List Int} (ho : By o) {n : Nat} (hn : n < 8 * o.length) (b : Bool) : By (stb o n ((b.toNat : Nat) : Int)) ∧ ∀ m, bt (stb o n ((b.toNat : Nat) : Int)) m = (bt o m || (b && decide (m = n))) := by
 have hm := Nat.mod_lt n (show 0 < 8 by decide)
 have h2 := two_le hm
 have hv : b.toNat * 2 ^ (n % 8) < 256 := by cases b <;> simp <;> omega
 have hx := ho.at (n / 8)
 have e : ior .u8 (o.getD (n / 8) 0) (ishl .u8 (IntKind.wrap .u8 ((b.toNat : Nat) : Int)) ((n % 8 : Nat) : Int)) = (((o.getD (n / 8) 0).toNat ||| b.toNat * 2 ^ (n % 8) : Nat) : Int) := by
  rw [shl8 b hm, bor8 hx ⟨by omega, by omega⟩, Int.toNat_natCast]
 have hr : (o.getD (n / 8) 0).toNat ||| b.toNat * 2 ^ (n % 8) < 2 ^ 8 := Nat.or_lt_two_pow (by omega) (by omega)
 unfold stb
 rw [e]
 refine ⟨fun x hx' => ?_, fun m => ?_⟩
 ·rcases List.mem_or_eq_of_mem_set hx' with h | h
  ·exact ho x h
  ·rw [h]; omega
 ·unfold bt
  rw [List.getD_eq_getElem?_getD, List.getElem?_set]
  by_cases h : n / 8 = m / 8
  ·rw [if_pos h, if_pos (by omega), Option.getD_some, Int.toNat_natCast, Nat.testBit_or, tb_pow, h]
   congr 2
   by_cases e2 : m = n
   ·rw [e2, decide_eq_true rfl, decide_eq_true rfl]
   ·rw [decide_eq_false e2, decide_eq_false (by omega)]
  ·rw [if_neg h, ← List.getD_eq_getElem?_getD]
   rw [decide_eq_false (by intro e2; rw [e2] at h; exact h rfl)]
   simp
def rdb (o : List Int) (n0 : Nat) : Nat → Int → Int
 | 0, a => a
 | k + 1, a => ior .u16 (rdb o n0 k a) (ishl .u16 (IntKind.wrap .u16 (iand .u8 (ishr .u8 (o.getD ((n0 + k) / 8) 0) (((n0 + k) % 8 : Nat) : Int)) 1)) ((k : Nat) : Int))
theorem rdb_ok {o : List Int} (ho : By o) (n0 : Nat) : ∀ k, k ≤ 16 → (0 ≤ rdb o n0 k 0 ∧ rdb o n0 k 0 < 65536) ∧ ∀ i, (rdb o n0 k 0).toNat.testBit i = (decide (i < k) && bt o (n0 + i))
 | 0, _ => ⟨by simp [rdb], fun i => by simp [rdb]⟩
 | k + 1, hk => by
  obtain ⟨h1, h2⟩ := rdb_ok ho n0 k (by omega)
  have hm := Nat.mod_lt (n0 + k) (show 0 < 8 by decide)
  have h3 := two_le (show k < 16 by omega)
  have e : rdb o n0 (k + 1) 0 = (((rdb o n0 k 0).toNat ||| (bt o (n0 + k)).toNat * 2 ^ k : Nat) : Int) := by
   show ior .u16 (rdb o n0 k 0) _ = _
   rw [dig8 (ho.at _) (by omega), shl16 _ (by omega)]
   have hv : (bt o (n0 + k)).toNat * 2 ^ k < 65536 := by cases bt o (n0 + k) <;> simp <;> omega
   show ior .u16 (rdb o n0 k 0) (((bt o (n0 + k)).toNat * 2 ^ k : Nat) : Int) = _
   rw [bor16 h1 ⟨by omega, by omega⟩, Int.toNat_natCast]
  have hv : (bt o (n0 + k)).toNat * 2 ^ k < 65536 := by cases bt o (n0 + k) <;> simp <;> omega
  have hr : (rdb o n0 k 0).toNat ||| (bt o (n0 + k)).toNat * 2 ^ k < 2 ^ 16 := Nat.or_lt_two_pow (by omega) (by omega)
  rw [e]
  refine ⟨by omega, fun i => ?_⟩
  rw [Int.toNat_natCast, Nat.testBit_or, h2, tb_pow]
  by_cases hi : i = k
  ·subst hi
   rw [decide_eq_false (Nat.lt_irrefl _), decide_eq_true rfl, decide_eq_true (Nat.lt_succ_self _)]
   simp
  ·rw [decide_eq_false hi]
   by_cases h4 : i < k
   ·rw [decide_eq_true h4, decide_eq_true (by omega)]; simp
   ·rw [decide_eq_false h4, decide_eq_false (by omega)]; simp
end Go.Sx
namespace Go.Sx.Try
open Go.Mi Go.RowKit Go.Sx Go.Proofs
noncomputable section
theorem rd_by (r : Nat) (f : Nat → Int) (a : Nat) : ∀ n, By (rdA r f a n).2.2
 | 0 => by rw [← rd_0]; intro x hx; cases hx
 | n + 1 => by
  have ih := rd_by r f a n
  rw [rdA_s]
  generalize rdA r f a n = q at ih
  obtain ⟨g, b, o⟩ := q
  simp only at ih ⊢
  have hw : ∀ z : Int, 0 ≤ IntKind.wrap .u8 z ∧ IntKind.wrap .u8 z < 256 := fun z => by rw [wrap_u8m]; omega
  split
  ·intro x hx
   rcases List.mem_append.1 hx with h | h
   ·exact ih x h
   ·rw [List.mem_singleton.1 h]; exact hw _
  ·intro x hx
   rcases List.mem_append.1 hx with h | h
   ·exact ih x h
   ·rw [List.mem_singleton.1 h]; exact hw _
theorem sum512_by (l : List (List Int)) : By (sum512_m l) := by rw [sum512_e]; exact rd_by _ _ _ _
def xr (f : Nat → Int) (i : Nat) : Nat := (irem (f i) 3329).toNat
theorem xr_ok {x : Int} (h : 0 ≤ x) : 0 ≤ irem x 3329 ∧ irem x 3329 < 3329 := by rw [irem64 h]; omega
def Wr (f : Nat → Int) (o : List Int) (m : Nat) : Prop := By o ∧ o.length = 384 ∧ ∀ n, bt o n = (decide (n < m) && (xr f (n / 12)).testBit (n % 12))
theorem enc_s {f : Nat → Int} (hf : ∀ i, i < 256 → 0 ≤ f i) {o : List Int} {i k : Nat} (hi : i < 256) (hk : k < 12) (h : Wr f o (i * 12 + k)) (x6 : List Int) : Wr f (encode12_l2_s f i x6 k o) (i * 12 + k + 1) := by
 obtain ⟨h1, h2, h3⟩ := h
 have hx := xr_ok (hf i hi)
 have e : encode12_l2_s f i x6 k o = stb o (i * 12 + k) (((xr f i).testBit k).toNat : Nat) := by
  show stb o (i * 12 + k) (iand .u16 (ishr .u16 (irem (f i) 3329) (k : Int)) 1) = _
  rw [dig16 ⟨hx.1, by omega⟩ omm]
  rfl
 rw [e]
 obtain ⟨k1, k2⟩ := stb_ok h1 (n := i * 12 + k) (by rw [h2]; omega) ((xr f i).testBit k)
 refine ⟨k1, by rw [stb_len, h2], fun n => ?_⟩
 rw [k2, h3]
 by_cases hn : n = i * 12 + k
 ·subst hn
  rw [decide_eq_false (Nat.lt_irrefl _), decide_eq_true rfl, decide_eq_true (Nat.lt_succ_self _), show (i * 12 + k) / 12 = i by omega, show (i * 12 + k) % 12 = k by omega]
  simp
 ·rw [decide_eq_false hn, Bool.and_false, Bool.or_false]
  by_cases h4 : n < i * 12 + k
  ·rw [decide_eq_true h4, decide_eq_true omm]
  ·rw [decide_eq_false h4, decide_eq_false omm]
theorem enc_2 {f : Nat → Int} (hf : ∀ i, i < 256 → 0 ≤ f i) {o : List Int} {i : Nat} (hi : i < 256) (h : Wr f o (i * 12)) : ∀ k, k ≤ 12 → Wr f (encode12_l2 f i o k) (i * 12 + k)
 | 0, _ => h
 | k + 1, hk => enc_s hf hi omm (enc_2 hf hi h k omm) o
theorem enc_1 {f : Nat → Int} (hf : ∀ i, i < 256 → 0 ≤ f i) : ∀ i, i ≤ 256 → Wr f (encode12_l1 f i) (i * 12)
 | 0, _ => by
  refine ⟨fun x hx => ?_, List.length_replicate, fun n => ?_⟩
  ·have : x = 0 := List.eq_of_mem_replicate hx
   omega
  ·have e : (encode12_l1 f 0).getD (n / 8) 0 = 0 := by
    show (List.replicate 384 (0 : Int)).getD (n / 8) 0 = 0
    rw [List.getD_eq_getElem?_getD, List.getElem?_replicate]
    split <;> rfl
   unfold bt
   rw [e]
   simp
 | i + 1, hi => by
  have := enc_2 hf (i := i) omm (enc_1 hf i omm) 12 (Nat.le_refl _)
  rw [show (i + 1) * 12 = i * 12 + 12 by omega]
  exact this
theorem enc_ok {f : Nat → Int} (hf : ∀ i, i < 256 → 0 ≤ f i) : By (encode12_m f) ∧ ∀ n, n < 3072 → bt (encode12_m f) n = (xr f (n / 12)).testBit (n % 12) := by
 rw [encode12_e]
 obtain ⟨h1, _, h3⟩ := enc_1 hf 256 (Nat.le_refl _)
 exact ⟨h1, fun n hn => by
  have := h3 n
  rw [decide_eq_true hn, Bool.true_and] at this
  exact this⟩
theorem unp_2 (xs : List Int) (i : Nat) (g : Nat → Int) : ∀ k j, unpack12_l2 xs i g k j = if j = i then rdb xs (i * 12) k (g i) else g j
 | 0, j => by
  show g j = _
  by_cases h : j = i
  ·rw [if_pos h, h]; rfl
  ·rw [if_neg h]
 | k + 1, j => by
  have ih := unp_2 xs i g k
  show upd (unpack12_l2 xs i g k) i _ j = _
  unfold upd
  by_cases h : j = i
  ·rw [if_pos h, if_pos h]
   show ior .u16 (unpack12_l2 xs i g k i) _ = ior .u16 (rdb xs (i * 12) k (g i)) _
   rw [ih i, if_pos rfl]
  ·rw [if_neg h, if_neg h, ih j, if_neg h]
theorem unp_1 (xs : List Int) : ∀ n j, unpack12_l1 xs n j = if j < n then rdb xs (j * 12) 12 0 else 0
 | 0, j => by rw [if_neg (Nat.not_lt_zero j)]; rfl
 | n + 1, j => by
  have ih := unp_1 xs n
  show unpack12_l2 xs n (unpack12_l1 xs n) 12 j = _
  rw [unp_2]
  by_cases h : j = n
  ·rw [if_pos h, h, ih n, if_neg (Nat.lt_irrefl _), if_pos (Nat.lt_succ_self _)]
  ·rw [if_neg h, ih j]
   by_cases h2 : j < n
   ·rw [if_pos h2, if_pos omm]
   ·rw [if_neg h2, if_neg omm]
theorem unp_of {f : Nat → Int} (hf : ∀ i, i < 256 → 0 ≤ f i) {xs : List Int} (hx : By xs) (h : ∀ n, n < 384 → xs.getD n 0 = (encode12_m f).getD n 0) {j : Nat} (hj : j < 256) : unpack12_m xs j = (xr f j : Nat) := by
 have hb : ∀ n, n < 3072 → bt xs n = (xr f (n / 12)).testBit (n % 12) := fun n hn => by
  rw [← (enc_ok hf).2 n hn]
  unfold bt
  rw [h (n / 8) omm]
 rw [unpack12_e]
 show unpack12_l1 xs 256 j = _
 rw [unp_1, if_pos hj]
 obtain ⟨h1, h2⟩ := rdb_ok hx (j * 12) 12 omm
 have hlt : xr f j < 2 ^ 12 := by have := xr_ok (hf j hj); unfold xr; omega
 have e : (rdb xs (j * 12) 12 0).toNat = xr f j := by
  refine Nat.eq_of_testBit_eq fun i => ?_
  rw [h2]
  by_cases hi : i < 12
  ·rw [decide_eq_true hi, Bool.true_and, hb _ omm, show (j * 12 + i) / 12 = j by omega, show (j * 12 + i) % 12 = i by omega]
  ·rw [decide_eq_false hi, Bool.false_and]
   exact (Nat.testBit_lt_two_pow (Nat.lt_of_lt_of_le hlt (Nat.pow_le_pow_right (by decide) omm))).symm
 omega
theorem rowof_at (xs : List Int) {i j : Nat} (hi : i < 3) (hj : j < 256) : rowof_m xs (i * 256 + j) = unpack12_m (xs.drop (384 * i)) j := by
 have key : ∀ n, i < n → rowof_l1 xs n (i * 256 + j) = unpack12_m (xs.drop (384 * i)) j := by
  intro n
  induction n with
  | zero => exact fun h => absurd h (Nat.not_lt_zero _)
  | succ n ih =>
   intro h
   show updW (rowof_l1 xs n) (n * 256) 256 (unpack12_m (xs.drop (384 * n))) (i * 256 + j) = _
   unfold updW
   by_cases e : i = n
   ·subst e
    rw [show Nat.ble (i * 256) (i * 256 + j) = true by rw [Nat.ble_eq]; omega, show Nat.blt (i * 256 + j) (i * 256 + 256) = true by rw [Nat.blt_eq]; omega]
    simp only [Bool.and_self, cond_true]
    rw [show i * 256 + j - i * 256 = j by omega]
   ·have : Nat.ble (n * 256) (i * 256 + j) = false := by
     cases hb : Nat.ble (n * 256) (i * 256 + j) with
     | false => rfl
     | true => rw [Nat.ble_eq] at hb; omega
    rw [this, Bool.false_and, cond_false]
    exact ih omm
 rw [rowof_e]
 exact key 3 hi
theorem rbytes_at (f : Nat → Int) {i n : Nat} (hi : i < 3) (hn : n < 384) : (rbytes_m f).getD (384 * i + n) 0 = (encode12_m fun j => f (i * 256 + j)).getD n 0 := by
 have key : ∀ m, (rbytes_l1 f m).length = 384 * m ∧ (i < m → (rbytes_l1 f m).getD (384 * i + n) 0 = (encode12_m fun j => f (i * 256 + j)).getD n 0) := by
  intro m
  induction m with
  | zero => exact ⟨rfl, fun h => absurd h (Nat.not_lt_zero _)⟩
  | succ m ih =>
   have e : rbytes_l1 f (m + 1) = rbytes_l1 f m ++ encode12_m (fun j => f (m * 256 + j)) := rfl
   rw [e]
   refine ⟨by rw [List.length_append, ih.1, encode12_len]; omega, fun h => ?_⟩
   rw [List.getD_eq_getElem?_getD]
   by_cases e2 : i = m
   ·subst e2
    rw [List.getElem?_append_right (by rw [ih.1]; omega), ih.1, ← List.getD_eq_getElem?_getD, show 384 * i + n - 384 * i = n by omega]
   ·rw [List.getElem?_append_left (by rw [ih.1]; omega), ← List.getD_eq_getElem?_getD]
    exact ih.2 omm
 rw [rbytes_e]
 exact (key 3).2 hi
theorem rbytes_by {f : Nat → Int} (hf : ∀ i, i < 768 → 0 ≤ f i) : By (rbytes_m f) := by
 have key : ∀ m, m ≤ 3 → By (rbytes_l1 f m) := by
  intro m
  induction m with
  | zero => exact fun _ x hx => by cases hx
  | succ m ih =>
   intro hm x hx
   have e : rbytes_l1 f (m + 1) = rbytes_l1 f m ++ encode12_m (fun j => f (m * 256 + j)) := rfl
   rw [e] at hx
   rcases List.mem_append.1 hx with h | h
   ·exact ih omm x h
   ·exact (enc_ok fun i hi => hf _ omm).1 x h
 rw [rbytes_e]
 exact key 3 (Nat.le_refl _)
theorem rmay_of {f : Nat → Int} (hf : ∀ i, i < 768 → 0 ≤ f i) {rest : List Int} (hr : By rest) : rmay (rbytes_m f ++ rest) = true := by
 refine rmay_yes fun i hi => may_yes fun j hj => ?_
 rw [rowof_at _ hi hj]
 have hf2 : ∀ j, j < 256 → 0 ≤ f (i * 256 + j) := fun j hj => hf _ omm
 rw [unp_of (f := fun j => f (i * 256 + j)) hf2 (fun x hx => ?_) (fun n hn => ?_) hj]
 ·have := (xr_ok (hf2 j hj)).2
  unfold xr
  have := (xr_ok (hf2 j hj)).1
  simp only
  omega
 ·rcases List.mem_append.1 (List.mem_of_mem_drop hx) with h | h
  ·exact rbytes_by hf x h
  ·exact hr x h
 ·rw [List.getD_eq_getElem?_getD, List.getElem?_drop, List.getElem?_append_left (by rw [rbytes_len]; omega), ← List.getD_eq_getElem?_getD]
  exact rbytes_at f hi hn
theorem mod_nn (x : Int) : 0 ≤ mod_m x := by
 rw [mod_e]; show 0 ≤ IntKind.wrap .u16 _; rw [wrap_u16m]; omega
theorem add_nn (f g : Nat → Int) {j : Nat} (hj : j < 256) : 0 ≤ add_m f g j := by
 have key : ∀ n, j < n → 0 ≤ add_l1 f g n j := by
  intro n
  induction n with
  | zero => exact fun h => absurd h (Nat.not_lt_zero _)
  | succ n ih =>
   intro h
   show 0 ≤ upd (add_l1 f g n) n (mod_m _) j
   unfold upd
   split
   ·exact mod_nn _
   ·exact ih omm
 rw [add_e]
 exact key 256 hj
theorem keys_nn (d z : List Int) {k : Nat} (hk : k < 768) : 0 ≤ keys_l1 d z 3 k := by
 have key : ∀ n, k / 256 < n → 0 ≤ keys_l1 d z n k := by
  intro n
  induction n with
  | zero => exact fun h => absurd h (Nat.not_lt_zero _)
  | succ n ih =>
   intro h
   show 0 ≤ updW (keys_l1 d z n) (n * 256) 256 (add_m _ _) k
   unfold updW
   cases hb : Nat.ble (n * 256) k && Nat.blt k (n * 256 + 256) with
   | true =>
    rw [Bool.and_eq_true, Nat.ble_eq, Nat.blt_eq] at hb
    exact add_nn _ _ omm
   | false =>
    rw [cond_false]
    refine ih ?_
    have h1 : k / 256 ≠ n := fun e => by
     have h2 : Nat.ble (n * 256) k = true := by rw [Nat.ble_eq]; omega
     have h3 : Nat.blt k (n * 256 + 256) = true := by rw [Nat.blt_eq]; omega
     rw [h2, h3] at hb; cases hb
    omega
 exact key 3 omm
theorem keys_chk (d z : List Int) : chk (keys_m d z).1 = 0 := by
 have hl := sum512_len [d, [3]]
 have e : (keys_m d z).1 = rbytes_m (keys_l1 d z 3) ++ ((sum512_m [d, [3]]).take 32 ++ []) := by rw [keys_e]; rfl
 rw [e]
 refine chk_0 ?_ (rmay_of (fun i hi => keys_nn d z hi) fun x hx => ?_)
 ·rw [List.length_append, List.length_append, rbytes_len, List.length_take, hl]; rfl
 ·rw [List.append_nil] at hx
  exact sum512_by _ x (List.mem_of_mem_take hx)
end
end Go.Sx.Try
namespace Go.Sx.Try
open Go.Mi Go.RowKit Go.Sx Go.Proofs
noncomputable section
def c_clone (xs : List Int) : Con := ⟨[lb xs], [], lb xs, []⟩
theorem clone_ok (xs : List Int) (h : xs.length ≤ 100000000000000) : ConOk Try.prog 81 (c_clone xs) := by
 refine conOk_of rfl (nb := 0) Try.func81 rfl rfl Try.ntmps81 rfl rfl rfl fun g0 w0 ac gs ws hg0 hS => ?_
 have hlen0 : xs.length ≤ 9223372036854775807 := hS.len 0 rfl
 have hS := hS.sp
 refine s0 [0, 2] [] 0 hS fun hS => ?_
 refine wp_seq (wp_seq ?_)
 rcases hS.nilor 0 [.int .u8] xs with ⟨hn1, hS⟩ | hS
 ·subst hn1
  refine r0 [0, 2, 4] [] 0 hS fun hS => ?_
  refine then_n (cond_t hS ?_)
  refine s0 [0, 2] [] 0 hS fun hS => ?_
  refine wp_ret (then_ret ?_)
  exact fin_y rfl (.inr rfl) hS [.v (.slice none 0 0)] [] rfl trivial
 ·refine r0 [0, 2, 4] [] 0 hS fun hS => ?_
  refine then_n (cond_f hS ?_)
  refine wp_skip (then_n (sA [(0, .own)] trivial (fun _ => [([] : List (RT [.int .u8])).length + xs.length ≤ 9223372036854775807, (([] : List (RT [.int .u8])).length + xs.length) * 1 ≤ 140737488355328]) [2] [1] 2 ⟨by simp <;> omega, by simp <;> omega, trivial⟩ hS fun hS => ?_))
  refine wp_ret ?_
  obtain ⟨gs, hS⟩ := hS.fz 1
  exact fin_y rfl (.inr rfl) hS [lb ([] ++ xs)] [] rfl trivial

def rfixed_kv (xs : List Int) (n : Nat) : Bool := if ((xs.length : Nat) : Int) < (n : Int) then false else true
def rfixed_k (xs : List Int) (n : Nat) : Bool := shut (rfixed_kv xs n)
theorem rfixed_ke (xs : List Int) (n : Nat) : rfixed_k xs n = rfixed_kv xs n := shut_eq _
def c_rfixed (xs : List Int) (n : Nat) : Con := ⟨[.cp 0 0, vi (n : Int)], [(0, .ob 171 (chain [lb xs]))], lb (xs.take n), [(0, .ob 171 (chain [lb (xs.drop n)]))]⟩
theorem rfixed_ok (xs : List Int) (n : Nat) (h : xs.length ≤ 100000000000000) (hk : rfixed_k xs n = true) : ConOk Try.prog 111 (c_rfixed xs n) := by
 refine conOk_of rfl (nb := 1) Try.func111 rfl rfl Try.ntmps111 rfl rfl rfl fun g0 w0 ac gs ws hg0 hS => ?_
 have hS := hS.sp
 refine s0 [0, 1, 4] [0] 1 hS fun hS => ?_
 refine wp_seq (sA [(1, .ob false)] trivial (fun _ => [(decide ((n : Int) < 0)) = false]) [0, 1, 4, 28] [0] 1 ⟨decide_eq_false omm, trivial⟩ hS fun hS => ?_)
 refine if_d (((xs.length : Nat) : Int) < (n : Int)) hS (fun h1 => ?_) (fun h1 => ?_)
 ·have hK : rfixed_k xs n = false := (rfixed_ke xs n).trans (if_pos h1)
  rw [hK] at hk
  cases hk
 ·refine wp_skip (then_n (wp_seq (s0 [0, 1, 4, 31] [0] 1 hS fun hS => ?_)))
  refine cond_f hS ?_
  refine wp_skip (then_n (sA [(6, .call ⟨81, (c_clone (xs.take n)), [], []⟩)] ⟨clone_ok _ lnn, trivial⟩ (fun C => [bndP none (some (n : Int)) none xs.length xs.length, ndC C 6]) [0, 1, 4, 5] [0] 1 ⟨⟨by simp only [nnI] <;> omega, by simp only [nnI] <;> omega, by simp only [nnI] <;> omega, by simp, by simp only [bl] <;> omega, by simp only [bl] <;> omega, by simp only [bl] <;> omega⟩, rfl, trivial⟩ hS fun hS => ?_))
  refine sA [] trivial (fun _ => [bndP (some (n : Int)) none none xs.length xs.length]) [4, 5] [0] 1 ⟨⟨by simp only [nnI] <;> omega, by simp only [nnI] <;> omega, by simp only [nnI] <;> omega, by simp, by simp only [bl] <;> omega, by simp only [bl] <;> omega, by simp only [bl] <;> omega⟩, trivial⟩ hS fun hS => ?_
  refine s0 [4] [0] 1 hS fun hS => ?_
  refine wp_ret ?_
  exact fin_y rfl (.inr rfl) hS [lb (xs.take n)] [(0, some (.ob 171 (chain [lb (xs.drop n)])))] rfl ⟨rfl, trivial⟩
def c_rfixed_p (xs : List Int) (n : Nat) : Con := ⟨[.cp 0 0, vi (n : Int)], [(0, .ob 171 (chain [lb xs]))], .v (.iface 27 (.int .i64 2)), []⟩
theorem rfixed_p_ok (xs : List Int) (n : Nat) (h : xs.length ≤ 100000000000000) (hk : rfixed_k xs n = false) : PanOk Try.prog 111 (c_rfixed_p xs n) := by
 refine conOk_ofE rfl (nb := 1) Try.func111 rfl rfl Try.ntmps111 rfl rfl rfl fun g0 w0 ac gs ws hg0 hS => ?_
 have hS := hS.sp
 refine s0 [0, 1, 4] [0] 1 hS fun hS => ?_
 refine wp_seq (sA [(1, .ob false)] trivial (fun _ => [(decide ((n : Int) < 0)) = false]) [0, 1, 4, 28] [0] 1 ⟨decide_eq_false omm, trivial⟩ hS fun hS => ?_)
 refine if_d (((xs.length : Nat) : Int) < (n : Int)) hS (fun h1 => ?_) (fun h1 => ?_)
 ·refine region_p (E := E0) mo hZ [] trivial none (fun r hr => by cases hr)  1 0 (fun _ => []) (.v (.iface 27 (.int .i64 2))) (by kernel_rfl) trivial hS.st fun ac gs ws pv hS hpv => ?_
  refine then_pan ?_
  exact fin_p rfl hS hpv rfl rfl
 ·refine wp_skip (then_n (wp_seq (s0 [0, 1, 4, 31] [0] 1 hS fun hS => ?_)))
  refine cond_f hS ?_
  refine wp_skip (then_n (sA [(6, .call ⟨81, (c_clone (xs.take n)), [], []⟩)] ⟨clone_ok _ lnn, trivial⟩ (fun C => [bndP none (some (n : Int)) none xs.length xs.length, ndC C 6]) [0, 1, 4, 5] [0] 1 ⟨⟨by simp only [nnI] <;> omega, by simp only [nnI] <;> omega, by simp only [nnI] <;> omega, by simp, by simp only [bl] <;> omega, by simp only [bl] <;> omega, by simp only [bl] <;> omega⟩, rfl, trivial⟩ hS fun hS => ?_))
  refine sA [] trivial (fun _ => [bndP (some (n : Int)) none none xs.length xs.length]) [4, 5] [0] 1 ⟨⟨by simp only [nnI] <;> omega, by simp only [nnI] <;> omega, by simp only [nnI] <;> omega, by simp, by simp only [bl] <;> omega, by simp only [bl] <;> omega, by simp only [bl] <;> omega⟩, trivial⟩ hS fun hS => ?_
  refine s0 [4] [0] 1 hS fun hS => ?_
  refine wp_ret ?_
  have hK : rfixed_k xs n = true := (rfixed_ke xs n).trans (if_neg h1)
  rw [hK] at hk
  cases hk

theorem rfixed_y {xs : List Int} {n : Nat} (h : rfixed_k xs n = true) : n ≤ xs.length := by
 rw [rfixed_ke] at h
 unfold rfixed_kv at h
 by_cases h2 : ((xs.length : Nat) : Int) < (n : Int)
 ·simp only [h2, if_true] at h
  cases h
 ·omega
theorem rfixed_n {xs : List Int} {n : Nat} (h : ¬ rfixed_k xs n = true) : xs.length < n := by
 rw [rfixed_ke] at h
 unfold rfixed_kv at h
 by_cases h2 : ((xs.length : Nat) : Int) < (n : Int)
 ·omega
 ·exact absurd (by first | (rw [if_neg omm, if_neg h2]) | rw [if_neg h2]) h
end
end Go.Sx.Try
namespace Go.Sx.Try
open Go.Mi Go.RowKit Go.Sx Go.Proofs
noncomputable section
def numA : Nat → Nat → Int → List Int → Option (Int × List Int)
 | 0, _, _, _ => none
 | _ + 1, _, _, [] => none
 | k + 1, n, v, c :: r => if (128 : Int) ≤ c then numA k (n + 1) (ior .u64 v (ishl .u64 (IntKind.wrap .u64 (iandn .u8 c 128)) ((7 * n : Nat) : Int))) r
  else if n = 9 ∧ (1 : Int) < c then none else if 0 < n ∧ c = 0 then none else some (ior .u64 v (ishl .u64 (IntKind.wrap .u64 (iandn .u8 c 128)) ((7 * n : Nat) : Int)), r)
def numM (xs : List Int) : Option (Int × List Int) := numA 10 0 0 xs
def numB (xs : List Int) : Bool := (numM xs).isSome
def numV (xs : List Int) : Int × List Int := (numM xs).getD (0, [])
theorem numA_nil (k n : Nat) (v : Int) {xs : List Int} (h : xs.length < 1) : numA k n v xs = none := by
 have : xs = [] := List.eq_nil_of_length_eq_zero omm
 subst this
 cases k <;> rfl
theorem numA_s {i : Nat} (hi : i < 10) (v : Int) {xs : List Int} (h : 1 ≤ xs.length) : numA (10 - i) i v xs = (if (128 : Int) ≤ (xs.take 1).getD 0 0 then numA (10 - (i + 1)) (i + 1) (ior .u64 v (ishl .u64 (IntKind.wrap .u64 (iandn .u8 ((xs.take 1).getD 0 0) 128)) ((7 * i : Nat) : Int))) (xs.drop 1)
  else if i = 9 ∧ (1 : Int) < (xs.take 1).getD 0 0 then none else if 0 < i ∧ (xs.take 1).getD 0 0 = 0 then none else some (ior .u64 v (ishl .u64 (IntKind.wrap .u64 (iandn .u8 ((xs.take 1).getD 0 0) 128)) ((7 * i : Nat) : Int)), xs.drop 1)) := by
 obtain ⟨k, hk⟩ : ∃ k, 10 - i = k + 1 := ⟨9 - i, by omega⟩
 rw [hk, show 10 - (i + 1) = k by omega]
 match xs, h with
 | c :: r, _ => rfl
theorem num_no {xs : List Int} (h : numM xs = none) : numB xs = false := by unfold numB; rw [h]; rfl
theorem num_is {xs : List Int} {z : Int × List Int} (h : numM xs = some z) : numB xs = true := by unfold numB; rw [h]; rfl
theorem num_v {xs : List Int} {z : Int × List Int} (h : numM xs = some z) : numV xs = z := by unfold numV; rw [h]; rfl
def c_num (xs : List Int) : Con := ⟨[.cp 0 0], [(0, .ob 171 (chain [lb xs]))], .v (.int .u64 ((numV xs).1)), [(0, .ob 171 (chain [lb ((numV xs).2)]))]⟩
theorem num_ok (xs : List Int) (h : xs.length ≤ 100000000000000) (hk : numB xs = true) : ConOk Try.prog 91 (c_num xs) := by
 refine conOk_of rfl (nb := 1) Try.func91 rfl rfl Try.ntmps91 rfl rfl rfl fun g0 w0 ac gs ws hg0 hS => ?_
 have hS := hS.sp
 refine s0 [0, 2] [0] 1 hS fun hS => ?_
 refine wp_seq (s0 [0, 2, 5] [0] 1 hS fun hS => ?_)
 refine wp_block (loop_y (ι := Nat × Int × (List Int)) hg0 hS (fun z_ => match z_ with | (i, v, ys) => 10 - i) (fun z_ => match z_ with | (i, v, ys) => [(0, .cp 0 0), (2, .v (.int .u64 v)), (5, vi ((i : Nat) : Int))]) (fun z_ => match z_ with | (i, v, ys) => [(0, .ob 171 (chain [lb ys]))]) (fun z_ => match z_ with | (i, v, ys) => (i ≤ 10) ∧ (ys.length ≤ 100000000000000) ∧ (numA (10 - i) i v ys = numM xs) ∧ True) 1 (0, 0, xs) [(0, 0)] ⟨omm, h, rfl, trivial⟩ ?_)
 rintro ⟨i, v, ys⟩ ac gs ws ⟨hi, hly, hq, _⟩ hS
 refine s0 [0, 2, 5, 6] [0] 1 hS fun hS => ?_
 refine wp_seq ?_
 refine if_d ((i : Int) < 10) hS (fun h1 => ?_) (fun h1 => ?_)
 ·refine wp_skip (then_n (wp_seq (wp_block (s0 [0, 2, 3, 5] [0] 1 hS fun hS => ?_))))
  refine wp_seq ?_
  skip
  skip
  by_cases h2 : rfixed_k ys 1 = true
  ·have hl1 := rfixed_y h2
   have hl2 : (ys.take 1).length = 1 := by rw [List.length_take]; omega
   refine rA [(1, .call ⟨111, (c_rfixed ys 1), [(0, 0)], []⟩)] ⟨rfixed_ok _ _ lnn h2, trivial⟩ (fun C => [ndC C 1, (0 : Int) ≤ 0 ∧ 0 < (((ys.take 1).length : Nat) : Int)]) [0, 2, 3, 4, 5] [0] 1 ⟨rfl, by omega, trivial⟩ hS fun hS => ?_
   refine then_n (sA [(5, .oi ((7 * i : Nat) : Int))] trivial (fun _ => [imul .i64 7 (i : Int) = ((7 * i : Nat) : Int), (0 : Int) ≤ ((7 * i : Nat) : Int)]) [0, 2, 3, 4, 5] [0] 1 ⟨by rw [imul64 omm omm]; omega, by omega, trivial⟩ hS fun hS => ?_)
   refine wp_seq (wp_block (s0 [0, 2, 3, 4, 5, 20] [0] 1 hS fun hS => ?_))
   refine if_d ((128 : Int) ≤ ((ys.take 1).getD 0 0)) hS (fun h3 => ?_) (fun h3 => ?_)
   ·refine wp_exit (block_exit_ne (by decide) ?_)
    refine then_exit (block_exit (then_n (rA [(0, .oi ((i + 1 : Nat) : Int))] trivial (fun _ => [iadd .i64 (i : Int) 1 = ((i + 1 : Nat) : Int)]) [0, 2, 5] [0] 1 ⟨by rw [iadd64 omm omm]; omega, trivial⟩ hS fun hS => ?_)))
    refine then_n ?_
    exact next_y hg0 hS (s := (i, v, ys)) (i + 1, (ior .u64 v (ishl .u64 (IntKind.wrap .u64 (iandn .u8 ((ys.take 1).getD 0 0) 128)) ((7 * i : Nat) : Int))), (ys.drop 1)) [(0, 0)] (show 10 - (i + 1) < 10 - i from by omega) ⟨omm, (by rw [List.length_drop]; omega), (hq ▸ ((numA_s omm v omm).trans (if_pos asm)).symm), trivial⟩
   ·refine wp_seq (wp_seq ?_)
    by_cases h4 : (i : Int) = 9
    ·refine rA [(1, .ob true)] trivial (fun _ => [(decide ((i : Int) = 9)) = true]) [0, 2, 3, 4, 5, 23] [0] 1 ⟨decide_eq_true h4, trivial⟩ hS fun hS => ?_
     refine then_n ?_
     refine if_d ((1 : Int) < ((ys.take 1).getD 0 0)) hS (fun h5 => ?_) (fun h5 => ?_)
     ·refine wp_skip (then_n ?_)
      refine if_d ((1 : Int) < ((ys.take 1).getD 0 0)) hS (fun h6 => ?_) (fun h6 => ?_)
      ·have e : numM xs = none := hq.symm.trans (by first | exact numA_nil _ _ _ (rfixed_n asm) | exact rfl | exact (numA_s omm v omm).trans ((if_neg omm).trans (if_pos omm)) | exact (numA_s omm v omm).trans ((if_neg omm).trans ((if_neg omm).trans (if_pos omm))))
       rw [num_no e] at hk
       cases hk
      ·refine wp_skip (block_n (then_n (s0 [0, 2, 5] [0] 1 hS fun hS => ?_)))
       refine wp_ret (block_ret (then_ret (then_ret (block_ret (then_ret ?_)))))
       have e := hq.symm.trans ((numA_s omm v omm).trans ((if_neg omm).trans ((if_neg omm).trans (if_neg omm))))
       have hv := num_v e
       exact fin_y rfl (.inr rfl) hS [.v (.int .u64 (ior .u64 v (ishl .u64 (IntKind.wrap .u64 (iandn .u8 ((ys.take 1).getD 0 0) 128)) ((7 * i : Nat) : Int))))] [(0, some (.ob 171 (chain [lb (ys.drop 1)])))] (by show weak _ (.v (.int .u64 (numV xs).1)) = .v (.int .u64 (numV xs).1); rw [hv]; rfl) (by show H1Ok _ [(0, .ob 171 (chain [lb (numV xs).2]))] true; rw [hv]; exact ⟨rfl, trivial⟩)
     ·by_cases h7 : (0 : Int) < (i : Int)
      ·refine rA [(1, .ob true)] trivial (fun _ => [(decide ((0 : Int) < (i : Int))) = true]) [0, 2, 5, 23] [0] 1 ⟨decide_eq_true h7, trivial⟩ hS fun hS => ?_
       refine then_n ?_
       refine if_d (((ys.take 1).getD 0 0) = 0) hS (fun h8 => ?_) (fun h8 => ?_)
       ·have e : numM xs = none := hq.symm.trans (by first | exact numA_nil _ _ _ (rfixed_n asm) | exact rfl | exact (numA_s omm v omm).trans ((if_neg omm).trans (if_pos omm)) | exact (numA_s omm v omm).trans ((if_neg omm).trans ((if_neg omm).trans (if_pos omm))))
        rw [num_no e] at hk
        cases hk
       ·refine wp_skip (block_n (then_n (s0 [0, 2, 5] [0] 1 hS fun hS => ?_)))
        refine wp_ret (block_ret (then_ret (then_ret (block_ret (then_ret ?_)))))
        have e := hq.symm.trans ((numA_s omm v omm).trans ((if_neg omm).trans ((if_neg omm).trans (if_neg omm))))
        have hv := num_v e
        exact fin_y rfl (.inr rfl) hS [.v (.int .u64 (ior .u64 v (ishl .u64 (IntKind.wrap .u64 (iandn .u8 ((ys.take 1).getD 0 0) 128)) ((7 * i : Nat) : Int))))] [(0, some (.ob 171 (chain [lb (ys.drop 1)])))] (by show weak _ (.v (.int .u64 (numV xs).1)) = .v (.int .u64 (numV xs).1); rw [hv]; rfl) (by show H1Ok _ [(0, .ob 171 (chain [lb (numV xs).2]))] true; rw [hv]; exact ⟨rfl, trivial⟩)
      ·refine rA [(1, .ob false)] trivial (fun _ => [(decide ((0 : Int) < (i : Int))) = false]) [0, 2, 5, 23] [0] 1 ⟨decide_eq_false h7, trivial⟩ hS fun hS => ?_
       refine then_n (cond_f hS ?_)
       refine wp_skip (block_n (then_n (s0 [0, 2, 5] [0] 1 hS fun hS => ?_)))
       refine wp_ret (block_ret (then_ret (then_ret (block_ret (then_ret ?_)))))
       have e := hq.symm.trans ((numA_s omm v omm).trans ((if_neg omm).trans ((if_neg omm).trans (if_neg omm))))
       have hv := num_v e
       exact fin_y rfl (.inr rfl) hS [.v (.int .u64 (ior .u64 v (ishl .u64 (IntKind.wrap .u64 (iandn .u8 ((ys.take 1).getD 0 0) 128)) ((7 * i : Nat) : Int))))] [(0, some (.ob 171 (chain [lb (ys.drop 1)])))] (by show weak _ (.v (.int .u64 (numV xs).1)) = .v (.int .u64 (numV xs).1); rw [hv]; rfl) (by show H1Ok _ [(0, .ob 171 (chain [lb (numV xs).2]))] true; rw [hv]; exact ⟨rfl, trivial⟩)
    ·refine rA [(1, .ob false)] trivial (fun _ => [(decide ((i : Int) = 9)) = false]) [0, 2, 3, 4, 5, 23] [0] 1 ⟨decide_eq_false h4, trivial⟩ hS fun hS => ?_
     refine then_n (cond_f hS ?_)
     by_cases h9 : (0 : Int) < (i : Int)
     ·refine rA [(1, .ob true)] trivial (fun _ => [(decide ((0 : Int) < (i : Int))) = true]) [0, 2, 5, 23] [0] 1 ⟨decide_eq_true h9, trivial⟩ hS fun hS => ?_
      refine then_n ?_
      refine if_d (((ys.take 1).getD 0 0) = 0) hS (fun h10 => ?_) (fun h10 => ?_)
      ·have e : numM xs = none := hq.symm.trans (by first | exact numA_nil _ _ _ (rfixed_n asm) | exact rfl | exact (numA_s omm v omm).trans ((if_neg omm).trans (if_pos omm)) | exact (numA_s omm v omm).trans ((if_neg omm).trans ((if_neg omm).trans (if_pos omm))))
       rw [num_no e] at hk
       cases hk
      ·refine wp_skip (block_n (then_n (s0 [0, 2, 5] [0] 1 hS fun hS => ?_)))
       refine wp_ret (block_ret (then_ret (then_ret (block_ret (then_ret ?_)))))
       have e := hq.symm.trans ((numA_s omm v omm).trans ((if_neg omm).trans ((if_neg omm).trans (if_neg omm))))
       have hv := num_v e
       exact fin_y rfl (.inr rfl) hS [.v (.int .u64 (ior .u64 v (ishl .u64 (IntKind.wrap .u64 (iandn .u8 ((ys.take 1).getD 0 0) 128)) ((7 * i : Nat) : Int))))] [(0, some (.ob 171 (chain [lb (ys.drop 1)])))] (by show weak _ (.v (.int .u64 (numV xs).1)) = .v (.int .u64 (numV xs).1); rw [hv]; rfl) (by show H1Ok _ [(0, .ob 171 (chain [lb (numV xs).2]))] true; rw [hv]; exact ⟨rfl, trivial⟩)
     ·refine rA [(1, .ob false)] trivial (fun _ => [(decide ((0 : Int) < (i : Int))) = false]) [0, 2, 5, 23] [0] 1 ⟨decide_eq_false h9, trivial⟩ hS fun hS => ?_
      refine then_n (cond_f hS ?_)
      refine wp_skip (block_n (then_n (s0 [0, 2, 5] [0] 1 hS fun hS => ?_)))
      refine wp_ret (block_ret (then_ret (then_ret (block_ret (then_ret ?_)))))
      have e := hq.symm.trans ((numA_s omm v omm).trans ((if_neg omm).trans ((if_neg omm).trans (if_neg omm))))
      have hv := num_v e
      exact fin_y rfl (.inr rfl) hS [.v (.int .u64 (ior .u64 v (ishl .u64 (IntKind.wrap .u64 (iandn .u8 ((ys.take 1).getD 0 0) 128)) ((7 * i : Nat) : Int))))] [(0, some (.ob 171 (chain [lb (ys.drop 1)])))] (by show weak _ (.v (.int .u64 (numV xs).1)) = .v (.int .u64 (numV xs).1); rw [hv]; rfl) (by show H1Ok _ [(0, .ob 171 (chain [lb (numV xs).2]))] true; rw [hv]; exact ⟨rfl, trivial⟩)
  ·skip
   skip
   have e : numM xs = none := hq.symm.trans (by first | exact numA_nil _ _ _ (rfixed_n asm) | exact rfl | exact (numA_s omm v omm).trans ((if_neg omm).trans (if_pos omm)) | exact (numA_s omm v omm).trans ((if_neg omm).trans ((if_neg omm).trans (if_pos omm))))
   rw [num_no e] at hk
   cases hk
 ·have hScur := hS
  obtain rfl : 10 = i := by omega
  have hS := hScur
  clear hScur
  refine wp_exit (then_exit (then_exit (block_exit (then_n ?_))))
  have e : numM xs = none := hq.symm.trans (by first | exact numA_nil _ _ _ (rfixed_n asm) | exact rfl | exact (numA_s omm v omm).trans ((if_neg omm).trans (if_pos omm)) | exact (numA_s omm v omm).trans ((if_neg omm).trans ((if_neg omm).trans (if_pos omm))))
  rw [num_no e] at hk
  cases hk

def c_num_p (xs : List Int) : Con := ⟨[.cp 0 0], [(0, .ob 171 (chain [lb xs]))], .v (.iface 27 (.int .i64 2)), []⟩
theorem num_p_ok (xs : List Int) (h : xs.length ≤ 100000000000000) (hk : numB xs = false) : PanOk Try.prog 91 (c_num_p xs) := by
 refine conOk_ofE rfl (nb := 1) Try.func91 rfl rfl Try.ntmps91 rfl rfl rfl fun g0 w0 ac gs ws hg0 hS => ?_
 have hS := hS.sp
 refine s0 [0, 2] [0] 1 hS fun hS => ?_
 refine wp_seq (s0 [0, 2, 5] [0] 1 hS fun hS => ?_)
 refine wp_block (loop_y (ι := Nat × Int × (List Int)) hg0 hS (fun z_ => match z_ with | (i, v, ys) => 10 - i) (fun z_ => match z_ with | (i, v, ys) => [(0, .cp 0 0), (2, .v (.int .u64 v)), (5, vi ((i : Nat) : Int))]) (fun z_ => match z_ with | (i, v, ys) => [(0, .ob 171 (chain [lb ys]))]) (fun z_ => match z_ with | (i, v, ys) => (i ≤ 10) ∧ (ys.length ≤ 100000000000000) ∧ (numA (10 - i) i v ys = numM xs) ∧ True) 1 (0, 0, xs) [(0, 0)] ⟨omm, h, rfl, trivial⟩ ?_)
 rintro ⟨i, v, ys⟩ ac gs ws ⟨hi, hly, hq, _⟩ hS
 refine s0 [0, 2, 5, 6] [0] 1 hS fun hS => ?_
 refine wp_seq ?_
 refine if_d ((i : Int) < 10) hS (fun h1 => ?_) (fun h1 => ?_)
 ·refine wp_skip (then_n (wp_seq (wp_block (s0 [0, 2, 3, 5] [0] 1 hS fun hS => ?_))))
  refine wp_seq ?_
  skip
  skip
  by_cases h2 : rfixed_k ys 1 = true
  ·have hl1 := rfixed_y h2
   have hl2 : (ys.take 1).length = 1 := by rw [List.length_take]; omega
   refine rA [(1, .call ⟨111, (c_rfixed ys 1), [(0, 0)], []⟩)] ⟨rfixed_ok _ _ lnn h2, trivial⟩ (fun C => [ndC C 1, (0 : Int) ≤ 0 ∧ 0 < (((ys.take 1).length : Nat) : Int)]) [0, 2, 3, 4, 5] [0] 1 ⟨rfl, by omega, trivial⟩ hS fun hS => ?_
   refine then_n (sA [(5, .oi ((7 * i : Nat) : Int))] trivial (fun _ => [imul .i64 7 (i : Int) = ((7 * i : Nat) : Int), (0 : Int) ≤ ((7 * i : Nat) : Int)]) [0, 2, 3, 4, 5] [0] 1 ⟨by rw [imul64 omm omm]; omega, by omega, trivial⟩ hS fun hS => ?_)
   refine wp_seq (wp_block (s0 [0, 2, 3, 4, 5, 20] [0] 1 hS fun hS => ?_))
   refine if_d ((128 : Int) ≤ ((ys.take 1).getD 0 0)) hS (fun h3 => ?_) (fun h3 => ?_)
   ·refine wp_exit (block_exit_ne (by decide) ?_)
    refine then_exit (block_exit (then_n (rA [(0, .oi ((i + 1 : Nat) : Int))] trivial (fun _ => [iadd .i64 (i : Int) 1 = ((i + 1 : Nat) : Int)]) [0, 2, 5] [0] 1 ⟨by rw [iadd64 omm omm]; omega, trivial⟩ hS fun hS => ?_)))
    refine then_n ?_
    exact next_y hg0 hS (s := (i, v, ys)) (i + 1, (ior .u64 v (ishl .u64 (IntKind.wrap .u64 (iandn .u8 ((ys.take 1).getD 0 0) 128)) ((7 * i : Nat) : Int))), (ys.drop 1)) [(0, 0)] (show 10 - (i + 1) < 10 - i from by omega) ⟨omm, (by rw [List.length_drop]; omega), (hq ▸ ((numA_s omm v omm).trans (if_pos asm)).symm), trivial⟩
   ·refine wp_seq (wp_seq ?_)
    by_cases h4 : (i : Int) = 9
    ·refine rA [(1, .ob true)] trivial (fun _ => [(decide ((i : Int) = 9)) = true]) [0, 2, 3, 4, 5, 23] [0] 1 ⟨decide_eq_true h4, trivial⟩ hS fun hS => ?_
     refine then_n ?_
     refine if_d ((1 : Int) < ((ys.take 1).getD 0 0)) hS (fun h5 => ?_) (fun h5 => ?_)
     ·refine wp_skip (then_n ?_)
      refine if_d ((1 : Int) < ((ys.take 1).getD 0 0)) hS (fun h6 => ?_) (fun h6 => ?_)
      ·refine region_p (E := E0) mo hZ [] trivial none (fun r hr => by cases hr)  1 0 (fun _ => []) (.v (.iface 27 (.int .i64 2))) (by kernel_rfl) trivial hS.st fun ac gs ws pv hS hpv => ?_
       refine block_pan (then_pan (block_pan (then_pan (then_pan (block_pan (then_pan ?_))))))
       exact fin_p rfl hS hpv rfl rfl
      ·refine wp_skip (block_n (then_n (s0 [0, 2, 5] [0] 1 hS fun hS => ?_)))
       refine wp_ret (block_ret (then_ret (then_ret (block_ret (then_ret ?_)))))
       have e := hq.symm.trans ((numA_s omm v omm).trans ((if_neg omm).trans ((if_neg omm).trans (if_neg omm))))
       rw [num_is e] at hk
       cases hk
     ·by_cases h7 : (0 : Int) < (i : Int)
      ·refine rA [(1, .ob true)] trivial (fun _ => [(decide ((0 : Int) < (i : Int))) = true]) [0, 2, 5, 23] [0] 1 ⟨decide_eq_true h7, trivial⟩ hS fun hS => ?_
       refine then_n ?_
       refine if_d (((ys.take 1).getD 0 0) = 0) hS (fun h8 => ?_) (fun h8 => ?_)
       ·refine region_p (E := E0) mo hZ [] trivial none (fun r hr => by cases hr)  1 0 (fun _ => []) (.v (.iface 27 (.int .i64 2))) (by kernel_rfl) trivial hS.st fun ac gs ws pv hS hpv => ?_
        refine block_pan (then_pan (block_pan (then_pan (then_pan (block_pan (then_pan ?_))))))
        exact fin_p rfl hS hpv rfl rfl
       ·refine wp_skip (block_n (then_n (s0 [0, 2, 5] [0] 1 hS fun hS => ?_)))
        refine wp_ret (block_ret (then_ret (then_ret (block_ret (then_ret ?_)))))
        have e := hq.symm.trans ((numA_s omm v omm).trans ((if_neg omm).trans ((if_neg omm).trans (if_neg omm))))
        rw [num_is e] at hk
        cases hk
      ·refine rA [(1, .ob false)] trivial (fun _ => [(decide ((0 : Int) < (i : Int))) = false]) [0, 2, 5, 23] [0] 1 ⟨decide_eq_false h7, trivial⟩ hS fun hS => ?_
       refine then_n (cond_f hS ?_)
       refine wp_skip (block_n (then_n (s0 [0, 2, 5] [0] 1 hS fun hS => ?_)))
       refine wp_ret (block_ret (then_ret (then_ret (block_ret (then_ret ?_)))))
       have e := hq.symm.trans ((numA_s omm v omm).trans ((if_neg omm).trans ((if_neg omm).trans (if_neg omm))))
       rw [num_is e] at hk
       cases hk
    ·refine rA [(1, .ob false)] trivial (fun _ => [(decide ((i : Int) = 9)) = false]) [0, 2, 3, 4, 5, 23] [0] 1 ⟨decide_eq_false h4, trivial⟩ hS fun hS => ?_
     refine then_n (cond_f hS ?_)
     by_cases h9 : (0 : Int) < (i : Int)
     ·refine rA [(1, .ob true)] trivial (fun _ => [(decide ((0 : Int) < (i : Int))) = true]) [0, 2, 5, 23] [0] 1 ⟨decide_eq_true h9, trivial⟩ hS fun hS => ?_
      refine then_n ?_
      refine if_d (((ys.take 1).getD 0 0) = 0) hS (fun h10 => ?_) (fun h10 => ?_)
      ·refine region_p (E := E0) mo hZ [] trivial none (fun r hr => by cases hr)  1 0 (fun _ => []) (.v (.iface 27 (.int .i64 2))) (by kernel_rfl) trivial hS.st fun ac gs ws pv hS hpv => ?_
       refine block_pan (then_pan (block_pan (then_pan (then_pan (block_pan (then_pan ?_))))))
       exact fin_p rfl hS hpv rfl rfl
      ·refine wp_skip (block_n (then_n (s0 [0, 2, 5] [0] 1 hS fun hS => ?_)))
       refine wp_ret (block_ret (then_ret (then_ret (block_ret (then_ret ?_)))))
       have e := hq.symm.trans ((numA_s omm v omm).trans ((if_neg omm).trans ((if_neg omm).trans (if_neg omm))))
       rw [num_is e] at hk
       cases hk
     ·refine rA [(1, .ob false)] trivial (fun _ => [(decide ((0 : Int) < (i : Int))) = false]) [0, 2, 5, 23] [0] 1 ⟨decide_eq_false h9, trivial⟩ hS fun hS => ?_
      refine then_n (cond_f hS ?_)
      refine wp_skip (block_n (then_n (s0 [0, 2, 5] [0] 1 hS fun hS => ?_)))
      refine wp_ret (block_ret (then_ret (then_ret (block_ret (then_ret ?_)))))
      have e := hq.symm.trans ((numA_s omm v omm).trans ((if_neg omm).trans ((if_neg omm).trans (if_neg omm))))
      rw [num_is e] at hk
      cases hk
  ·skip
   skip
   refine region_p (E := E0) mo hZ [] trivial (some ⟨111, (c_rfixed_p ys 1), [(0, 0)], []⟩) (fun r hr => by cases hr; exact rfixed_p_ok ys 1 lnn (bne_k h2))  1 28 (fun _ => [nd [.cp 0 0, vi 1] [some (.ob 171 (chain [lb ys]))]]) (.v (.iface 27 (.int .i64 2))) (by kernel_rfl) ⟨rfl, trivial⟩ hS.st fun ac gs ws pv hS hpv => ?_
   refine then_pan (block_pan (then_pan (then_pan (block_pan (then_pan ?_)))))
   exact fin_p rfl hS hpv rfl rfl
 ·have hScur := hS
  obtain rfl : 10 = i := by omega
  have hS := hScur
  clear hScur
  refine wp_exit (then_exit (then_exit (block_exit (then_n (region_p (E := E0) mo hZ [] trivial none (fun r hr => by cases hr)  1 0 (fun _ => []) (.v (.iface 27 (.int .i64 2))) (by kernel_rfl) trivial hS.st fun ac gs ws pv hS hpv => ?_)))))
  exact fin_p rfl hS hpv rfl rfl

end
end Go.Sx.Try
namespace Go.Sx.Try
open Go.Mi Go.RowKit Go.Sx Go.Proofs
noncomputable section
theorem ior64_nn (p q : Int) : 0 ≤ ior .u64 p q := (ior_rg p q).1
theorem numA_nn : ∀ (k n : Nat) (v : Int) (xs : List Int) (z : Int × List Int), numA k n v xs = some z → 0 ≤ z.1 ∧ z.2.length ≤ xs.length
 | 0, _, _, _, _, h => by cases h
 | _ + 1, _, _, [], _, h => by cases h
 | k + 1, n, v, c :: r, z, h => by
  unfold numA at h
  split at h
  ·have := numA_nn k (n + 1) _ r z h
   exact ⟨this.1, by simp only [List.length_cons]; omega⟩
  ·split at h
   ·cases h
   ·split at h
    ·cases h
    ·cases h
     exact ⟨ior64_nn _ _, by simp⟩
theorem numV_nn (xs : List Int) : 0 ≤ (numV xs).1 ∧ (numV xs).2.length ≤ xs.length := by
 unfold numV
 cases h : numM xs with
 | none => exact ⟨by simp, by simp⟩
 | some z => exact numA_nn _ _ _ _ z h
def small_kv (xs : List Int) (m : Nat) : Bool := if numB xs = true then (if (m : Int) < ((numV xs).1) then false else true) else false
def small_k (xs : List Int) (m : Nat) : Bool := shut (small_kv xs m)
theorem small_ke (xs : List Int) (m : Nat) : small_k xs m = small_kv xs m := shut_eq _
def small_p_ev (xs : List Int) (m : Nat) : Nat := if numB xs = true then 11 else 2
def small_p_e (xs : List Int) (m : Nat) : Nat := shut (small_p_ev xs m)
theorem small_p_ee (xs : List Int) (m : Nat) : small_p_e xs m = small_p_ev xs m := shut_eq _
def c_small (xs : List Int) (m : Nat) : Con := ⟨[.cp 0 0, vi (m : Int)], [(0, .ob 171 (chain [lb xs]))], vi (((((numV xs).1).toNat) : Nat) : Int), [(0, .ob 171 (chain [lb ((numV xs).2)]))]⟩
theorem small_ok (xs : List Int) (m : Nat) (h : xs.length ≤ 100000000000000) (hm : m ≤ 100000000000000) (hk : small_k xs m = true) : ConOk Try.prog 112 (c_small xs m) := by
 refine conOk_of rfl (nb := 1) Try.func112 rfl rfl Try.ntmps112 rfl rfl rfl fun g0 w0 ac gs ws hg0 hS => ?_
 have hS := hS.sp
 refine s0 [0, 1, 4] [0] 1 hS fun hS => ?_
 refine wp_seq (sA [(1, .ob false)] trivial (fun _ => [(decide ((m : Int) < 0)) = false]) [0, 1, 4, 7] [0] 1 ⟨decide_eq_false omm, trivial⟩ hS fun hS => ?_)
 refine cond_f hS ?_
 refine wp_skip (then_n (wp_seq ?_))
 by_cases h1 : numB xs = true
 ·refine rA [(1, .call ⟨91, (c_num xs), [(0, 0)], []⟩)] ⟨num_ok _ lnn h1, trivial⟩ (fun C => [ndC C 1]) [1, 4, 5] [0] 1 ⟨rfl, trivial⟩ hS fun hS => ?_
  refine then_n (wp_seq (sA [(2, .oi (m : Int))] trivial (fun _ => [IntKind.wrap .u64 (m : Int) = (m : Int)]) [4, 5, 14] [0] 1 ⟨wrap_u64 omm omm, trivial⟩ hS fun hS => ?_))
  refine if_d ((m : Int) < ((numV xs).1)) hS (fun h2 => ?_) (fun h2 => ?_)
  ·have hK : small_k xs m = false := (small_ke xs m).trans ((if_pos h1).trans (if_pos h2))
   rw [hK] at hk
   cases hk
  ·refine wp_skip (then_n (wp_seq ?_))
   have hnn := numV_nn xs
   refine rA [(1, .oi ((((numV xs).1).toNat : Nat) : Int))] trivial (fun _ => [IntKind.wrap .i64 ((numV xs).1) = ((((numV xs).1).toNat : Nat) : Int)]) [4] [0] 1 ⟨(wrap_i64 omm omm).trans omm, trivial⟩ hS fun hS => ?_
   refine then_n (wp_ret ?_)
   exact fin_y rfl (.inr rfl) hS [vi ((((numV xs).1).toNat : Nat) : Int)] [(0, some (.ob 171 (chain [lb ((numV xs).2)])))] rfl ⟨rfl, trivial⟩
 ·have hK : small_k xs m = false := (small_ke xs m).trans (if_neg h1)
  rw [hK] at hk
  cases hk
def c_small_p (xs : List Int) (m : Nat) : Con := ⟨[.cp 0 0, vi (m : Int)], [(0, .ob 171 (chain [lb xs]))], .v (.iface 27 (.int .i64 ((small_p_e xs m : Nat) : Int))), []⟩
theorem small_p_ok (xs : List Int) (m : Nat) (h : xs.length ≤ 100000000000000) (hm : m ≤ 100000000000000) (hk : small_k xs m = false) : PanOk Try.prog 112 (c_small_p xs m) := by
 refine conOk_ofE rfl (nb := 1) Try.func112 rfl rfl Try.ntmps112 rfl rfl rfl fun g0 w0 ac gs ws hg0 hS => ?_
 have hS := hS.sp
 refine s0 [0, 1, 4] [0] 1 hS fun hS => ?_
 refine wp_seq (sA [(1, .ob false)] trivial (fun _ => [(decide ((m : Int) < 0)) = false]) [0, 1, 4, 7] [0] 1 ⟨decide_eq_false omm, trivial⟩ hS fun hS => ?_)
 refine cond_f hS ?_
 refine wp_skip (then_n (wp_seq ?_))
 by_cases h1 : numB xs = true
 ·refine rA [(1, .call ⟨91, (c_num xs), [(0, 0)], []⟩)] ⟨num_ok _ lnn h1, trivial⟩ (fun C => [ndC C 1]) [1, 4, 5] [0] 1 ⟨rfl, trivial⟩ hS fun hS => ?_
  refine then_n (wp_seq (sA [(2, .oi (m : Int))] trivial (fun _ => [IntKind.wrap .u64 (m : Int) = (m : Int)]) [4, 5, 14] [0] 1 ⟨wrap_u64 omm omm, trivial⟩ hS fun hS => ?_))
  refine if_d ((m : Int) < ((numV xs).1)) hS (fun h2 => ?_) (fun h2 => ?_)
  ·refine region_p (E := E0) mo hZ [] trivial none (fun r hr => by cases hr)  1 0 (fun _ => []) (.v (.iface 27 (.int .i64 11))) (by kernel_rfl) trivial hS.st fun ac gs ws pv hS hpv => ?_
   refine then_pan ?_
   have hM : small_p_e xs m = 11 := (small_p_ee xs m).trans (if_pos h1)
   exact fin_p rfl hS hpv (by show _ = (.v (.iface 27 (.int .i64 ((small_p_e xs m : Nat) : Int))) : D); rw [hM] <;> rfl) rfl
  ·refine wp_skip (then_n (wp_seq ?_))
   have hnn := numV_nn xs
   refine rA [(1, .oi ((((numV xs).1).toNat : Nat) : Int))] trivial (fun _ => [IntKind.wrap .i64 ((numV xs).1) = ((((numV xs).1).toNat : Nat) : Int)]) [4] [0] 1 ⟨(wrap_i64 omm omm).trans omm, trivial⟩ hS fun hS => ?_
   refine then_n (wp_ret ?_)
   have hK : small_k xs m = true := (small_ke xs m).trans ((if_pos h1).trans (if_neg h2))
   rw [hK] at hk
   cases hk
 ·refine region_p (E := E0) mo hZ [] trivial (some ⟨91, (c_num_p xs), [(0, 0)], []⟩) (fun r hr => by cases hr; exact num_p_ok xs lnn (bne_k h1))  1 4 (fun _ => [nd [.cp 0 0] [some (.ob 171 (chain [lb xs]))]]) (.v (.iface 27 (.int .i64 2))) (by kernel_rfl) ⟨rfl, trivial⟩ hS.st fun ac gs ws pv hS hpv => ?_
  refine then_pan ?_
  have hM : small_p_e xs m = 2 := (small_p_ee xs m).trans (if_neg h1)
  exact fin_p rfl hS hpv (by show _ = (.v (.iface 27 (.int .i64 ((small_p_e xs m : Nat) : Int))) : D); rw [hM] <;> rfl) rfl

def rend_kv (xs : List Int) : Bool := if (0 : Int) < ((xs.length : Nat) : Int) then false else true
def rend_k (xs : List Int) : Bool := shut (rend_kv xs)
theorem rend_ke (xs : List Int) : rend_k xs = rend_kv xs := shut_eq _
def c_rend (xs : List Int) : Con := ⟨[.cp 0 0], [(0, .ob 171 (chain [lb xs]))], .tu (chain []), [(0, .ob 171 (chain [lb xs]))]⟩
theorem rend_ok (xs : List Int) (hk : rend_k xs = true) : ConOk Try.prog 110 (c_rend xs) := by
 refine conOk_of rfl (nb := 1) Try.func110 rfl rfl Try.ntmps110 rfl rfl rfl fun g0 w0 ac gs ws hg0 hS => ?_
 have hS := hS.sp
 refine s0 [11] [0] 1 hS fun hS => ?_
 refine if_d ((0 : Int) < ((xs.length : Nat) : Int)) hS (fun h1 => ?_) (fun h1 => ?_)
 ·have hK : rend_k xs = false := (rend_ke xs).trans (if_pos h1)
  rw [hK] at hk
  cases hk
 ·refine wp_skip ?_
  exact fin_y rfl (.inl rfl) hS [] [(0, some (.ob 171 (chain [lb xs])))] rfl ⟨rfl, trivial⟩
def c_rend_p (xs : List Int) : Con := ⟨[.cp 0 0], [(0, .ob 171 (chain [lb xs]))], .v (.iface 27 (.int .i64 2)), []⟩
theorem rend_p_ok (xs : List Int) (hk : rend_k xs = false) : PanOk Try.prog 110 (c_rend_p xs) := by
 refine conOk_ofE rfl (nb := 1) Try.func110 rfl rfl Try.ntmps110 rfl rfl rfl fun g0 w0 ac gs ws hg0 hS => ?_
 have hS := hS.sp
 refine s0 [11] [0] 1 hS fun hS => ?_
 refine if_d ((0 : Int) < ((xs.length : Nat) : Int)) hS (fun h1 => ?_) (fun h1 => ?_)
 ·refine region_p (E := E0) mo hZ [] trivial none (fun r hr => by cases hr)  1 0 (fun _ => []) (.v (.iface 27 (.int .i64 2))) (by kernel_rfl) trivial hS.st fun ac gs ws pv hS hpv => ?_
  exact fin_p rfl hS hpv rfl rfl
 ·refine wp_skip ?_
  have hK : rend_k xs = true := (rend_ke xs).trans (if_neg h1)
  rw [hK] at hk
  cases hk

def c_newrd (xs : List Int) : Con := ⟨[lb xs], [], .cp 0 0, [(0, .ob 171 (chain [lb xs]))]⟩
theorem newrd_ok (xs : List Int) (h : xs.length ≤ 100000000000000) : ConOk Try.prog 109 (c_newrd xs) := by
 refine conOk_of rfl (nb := 0) Try.func109 rfl rfl Try.ntmps109 rfl rfl rfl fun g0 w0 ac gs ws hg0 hS => ?_
 have hlen0 : xs.length ≤ 9223372036854775807 := hS.len 0 rfl
 have hS := hS.sp
 refine s0 [0, 2] [] 0 hS fun hS => ?_
 refine sA [(1, .call ⟨81, (c_clone xs), [], []⟩)] ⟨clone_ok _ lnn, trivial⟩ (fun C => [ndC C 1]) [2] [0] 1 ⟨rfl, trivial⟩ hS fun hS => ?_
 refine wp_ret ?_
 exact fin_y rfl (.inr rfl) hS [.cp 0 0] [(0, some (.ob 171 (chain [lb xs])))] rfl ⟨rfl, trivial⟩

end
end Go.Sx.Try
namespace Go.Sx.Try
open Go.Mi Go.RowKit Go.Sx Go.Proofs
noncomputable section
def rbytes1_kv (xs : List Int) (m : Nat) : Bool := if small_k xs m = true then (if rfixed_k ((numV xs).2) (((numV xs).1).toNat) = true then true else false) else false
def rbytes1_k (xs : List Int) (m : Nat) : Bool := shut (rbytes1_kv xs m)
theorem rbytes1_ke (xs : List Int) (m : Nat) : rbytes1_k xs m = rbytes1_kv xs m := shut_eq _
def rbytes1_p_ev (xs : List Int) (m : Nat) : Nat := if small_k xs m = true then 2 else (small_p_e xs m)
def rbytes1_p_e (xs : List Int) (m : Nat) : Nat := shut (rbytes1_p_ev xs m)
theorem rbytes1_p_ee (xs : List Int) (m : Nat) : rbytes1_p_e xs m = rbytes1_p_ev xs m := shut_eq _
def c_rbytes1 (xs : List Int) (m : Nat) : Con := ⟨[.cp 0 0, vi (m : Int)], [(0, .ob 171 (chain [lb xs]))], lb (((numV xs).2).take (((numV xs).1).toNat)), [(0, .ob 171 (chain [lb (((numV xs).2).drop (((numV xs).1).toNat))]))]⟩
theorem rbytes1_ok (xs : List Int) (m : Nat) (h : xs.length ≤ 100000000000000) (hm : m ≤ 100000000000000) (hk : rbytes1_k xs m = true) : ConOk Try.prog 92 (c_rbytes1 xs m) := by
 refine conOk_of rfl (nb := 1) Try.func92 rfl rfl Try.ntmps92 rfl rfl rfl fun g0 w0 ac gs ws hg0 hS => ?_
 have hS := hS.sp
 refine s0 [0, 1, 4] [0] 1 hS fun hS => ?_
 refine wp_seq ?_
 have hnn := numV_nn xs
 by_cases h1 : small_k xs m = true
 ·have hnn := numV_nn xs
  by_cases h2 : rfixed_k ((numV xs).2) (((numV xs).1).toNat) = true
  ·have hnn := numV_nn xs
   refine rA [(3, .call ⟨112, (c_small xs m), [(0, 0)], []⟩), (4, .call ⟨111, (c_rfixed ((numV xs).2) (((numV xs).1).toNat)), [(0, 0)], []⟩)] ⟨small_ok _ _ lnn omm h1, rfixed_ok _ _ lnn h2, trivial⟩ (fun C => [ndC C 3, ndC C 4]) [4] [0] 1 ⟨rfl, rfl, trivial⟩ hS fun hS => ?_
   refine then_n (wp_ret ?_)
   exact fin_y rfl (.inr rfl) hS [lb (((numV xs).2).take (((numV xs).1).toNat))] [(0, some (.ob 171 (chain [lb (((numV xs).2).drop (((numV xs).1).toNat))])))] rfl ⟨rfl, trivial⟩
  ·have hnn := numV_nn xs
   have hK : rbytes1_k xs m = false := (rbytes1_ke xs m).trans ((if_pos h1).trans (if_neg h2))
   rw [hK] at hk
   cases hk
 ·have hnn := numV_nn xs
  have hK : rbytes1_k xs m = false := (rbytes1_ke xs m).trans (if_neg h1)
  rw [hK] at hk
  cases hk
def c_rbytes1_p (xs : List Int) (m : Nat) : Con := ⟨[.cp 0 0, vi (m : Int)], [(0, .ob 171 (chain [lb xs]))], .v (.iface 27 (.int .i64 ((rbytes1_p_e xs m : Nat) : Int))), []⟩
theorem rbytes1_p_ok (xs : List Int) (m : Nat) (h : xs.length ≤ 100000000000000) (hm : m ≤ 100000000000000) (hk : rbytes1_k xs m = false) : PanOk Try.prog 92 (c_rbytes1_p xs m) := by
 refine conOk_ofE rfl (nb := 1) Try.func92 rfl rfl Try.ntmps92 rfl rfl rfl fun g0 w0 ac gs ws hg0 hS => ?_
 have hS := hS.sp
 refine s0 [0, 1, 4] [0] 1 hS fun hS => ?_
 refine wp_seq ?_
 have hnn := numV_nn xs
 by_cases h1 : small_k xs m = true
 ·have hnn := numV_nn xs
  by_cases h2 : rfixed_k ((numV xs).2) (((numV xs).1).toNat) = true
  ·have hnn := numV_nn xs
   refine rA [(3, .call ⟨112, (c_small xs m), [(0, 0)], []⟩), (4, .call ⟨111, (c_rfixed ((numV xs).2) (((numV xs).1).toNat)), [(0, 0)], []⟩)] ⟨small_ok _ _ lnn omm h1, rfixed_ok _ _ lnn h2, trivial⟩ (fun C => [ndC C 3, ndC C 4]) [4] [0] 1 ⟨rfl, rfl, trivial⟩ hS fun hS => ?_
   refine then_n (wp_ret ?_)
   have hK : rbytes1_k xs m = true := (rbytes1_ke xs m).trans ((if_pos h1).trans (if_pos h2))
   rw [hK] at hk
   cases hk
  ·have hnn := numV_nn xs
   refine region_p (E := E0) mo hZ [(3, .call ⟨112, (c_small xs m), [(0, 0)], []⟩)] ⟨small_ok _ _ lnn omm h1, trivial⟩ (some ⟨111, (c_rfixed_p ((numV xs).2) (((numV xs).1).toNat)), [(0, 0)], []⟩) (fun r hr => by cases hr; exact rfixed_p_ok ((numV xs).2) (((numV xs).1).toNat) lnn (bne_k h2))  4 32 (fun C => [ndC C 3, nd [.cp 0 0, vi (((((numV xs).1).toNat) : Nat) : Int)] [some (.ob 171 (chain [lb ((numV xs).2)]))]]) (.v (.iface 27 (.int .i64 2))) (by kernel_rfl) ⟨rfl, rfl, trivial⟩ hS.st fun ac gs ws pv hS hpv => ?_
   refine then_pan ?_
   have hM : rbytes1_p_e xs m = 2 := (rbytes1_p_ee xs m).trans (if_pos h1)
   exact fin_p rfl hS hpv (by show _ = (.v (.iface 27 (.int .i64 ((rbytes1_p_e xs m : Nat) : Int))) : D); rw [hM] <;> rfl) rfl
 ·have hnn := numV_nn xs
  refine region_p (E := E0) mo hZ [] trivial (some ⟨112, (c_small_p xs m), [(0, 0)], []⟩) (fun r hr => by cases hr; exact small_p_ok xs m lnn omm (bne_k h1))  3 48 (fun _ => [nd [.cp 0 0, vi (m : Int)] [some (.ob 171 (chain [lb xs]))]]) (.v (.iface 27 (.int .i64 ((small_p_e xs m : Nat) : Int)))) (by kernel_rfl) ⟨rfl, trivial⟩ hS.st fun ac gs ws pv hS hpv => ?_
  refine then_pan ?_
  have hM : rbytes1_p_e xs m = (small_p_e xs m) := (rbytes1_p_ee xs m).trans (if_neg h1)
  exact fin_p rfl hS hpv (by show _ = (.v (.iface 27 (.int .i64 ((rbytes1_p_e xs m : Nat) : Int))) : D); rw [hM] <;> rfl) rfl

end
end Go.Sx.Try
namespace Go.Sx.Try
open Go.Mi Go.RowKit Go.Sx Go.Proofs
noncomputable section
def c_wfixed (b xs : List Int) : Con := ⟨[.cp 0 0, lb xs], [(0, .ob 122 (chain [.sk 1])), (1, .sl 5 [.int .u8] b)], .cp 0 0, [(0, .ob 122 (chain [.sk 2])), (2, .sl 5 [.int .u8] (b ++ xs))]⟩
theorem wfixed_ok (b xs : List Int) (hb : b.length ≤ 100000000000) (hx : xs.length ≤ 10000000000) : ConOk Try.prog 105 (c_wfixed b xs) := by
 refine conOk_of rfl (nb := 2) Try.func105 rfl rfl Try.ntmps105 rfl rfl rfl fun g0 w0 ac gs ws hg0 hS => ?_
 have hlen1 : xs.length ≤ 9223372036854775807 := hS.len 1 rfl
 have hlenk1 : b.length ≤ 9223372036854775807 := hS.lens 1 rfl
 have hS := hS.sp
 refine s0 [0, 1, 4] [0, 1] 2 hS fun hS => ?_
 refine wp_seq (s0 [0, 1, 4, 6] [0, 1] 2 hS fun hS => ?_)
 refine cond_t hS ?_
 refine rA [] trivial (fun _ => [b.length + xs.length ≤ 9223372036854775807, (b.length + xs.length) * 1 ≤ 140737488355328]) [0, 4] [0, 2] 3 ⟨by omega, by omega, trivial⟩ hS fun hS => ?_
 refine then_n (s0 [4] [0, 2] 3 hS fun hS => ?_)
 refine wp_ret ?_
 exact fin_y rfl (.inr rfl) hS [.cp 0 0] [(0, some (.ob 122 (chain [.sk 2]))), (2, some (.sl 5 [.int .u8] (b ++ xs)))] rfl ⟨rfl, rfl, trivial⟩

def numW (n : Nat) : List Int := if 128 ≤ n then ior .u8 (IntKind.wrap .u8 (n : Int)) 128 :: numW (n / 128) else [IntKind.wrap .u8 (n : Int)]
termination_by n
decreasing_by omega
theorem numW_y {n : Nat} (h : 128 ≤ n) : numW n = ior .u8 (IntKind.wrap .u8 (n : Int)) 128 :: numW (n / 128) := by rw [numW, if_pos h]
theorem numW_n {n : Nat} (h : ¬ 128 ≤ n) : numW n = [IntKind.wrap .u8 (n : Int)] := by rw [numW, if_neg h]
theorem numW_len : ∀ (k n : Nat), n < 128 ^ (k + 1) → (numW n).length ≤ k + 1
 | 0, n, h => by rw [numW_n omm]; simp
 | k + 1, n, h => by
  by_cases h1 : 128 ≤ n
  ·rw [numW_y h1, List.length_cons]
   have := numW_len k (n / 128) (by rw [Nat.pow_succ] at h; exact Nat.div_lt_of_lt_mul omm)
   omega
  ·rw [numW_n h1]; simp
theorem numW_10 {n : Nat} (h : n < 18446744073709551616) : (numW n).length ≤ 10 := numW_len 9 n (Nat.lt_trans h (by decide))
theorem shr7 {m : Nat} : ishr .u64 (m : Int) 7 = ((m / 128 : Nat) : Int) := by
 unfold ishr
 rw [show min (7 : Int).toNat (IntKind.bits .u64) = 7 from rfl, fdiv_nat omm, Int.toNat_natCast, Nat.shiftRight_eq_div_pow]
def c_wnum (b : List Int) (n : Nat) : Con := ⟨[.cp 0 0, .v (.int .u64 (n : Int))], [(0, .ob 122 (chain [.sk 1])), (1, .sl 5 [.int .u8] b)], .cp 0 0, [(0, .ob 122 (chain [.sk 2])), (2, .sl 5 [.int .u8] (b ++ numW n))]⟩
theorem wnum_ok (b : List Int) (n : Nat) (hb : b.length ≤ 90000000000) (hn : n < 18446744073709551616) : ConOk Try.prog 84 (c_wnum b n) := by
 refine conOk_of rfl (nb := 2) Try.func84 rfl rfl Try.ntmps84 rfl rfl rfl fun g0 w0 ac gs ws hg0 hS => ?_
 have hlenk1 : b.length ≤ 9223372036854775807 := hS.lens 1 rfl
 have hS := hS.sp
 refine s0 [0, 1, 4] [0, 1] 2 hS fun hS => ?_
 refine wp_seq (wp_block ?_)
 obtain ⟨gs, hS⟩ := hS.alias 1
 refine loop_y (ι := Nat × (List Int)) hg0 hS (fun z_ => match z_ with | (m, o) => m) (fun z_ => match z_ with | (m, o) => [(0, .cp 0 0), (1, .v (.int .u64 ((m : Nat) : Int))), (4, .v (.pointer none))]) (fun z_ => match z_ with | (m, o) => [(0, .ob 122 (chain [.sk 2])), (2, .sl 5 [.int .u8] o)]) (fun z_ => match z_ with | (m, o) => (m < 18446744073709551616) ∧ (o.length + (numW m).length = b.length + (numW n).length) ∧ (o ++ numW m = b ++ numW n) ∧ True) 3 (n, b) [(0, 0), (1, 1), (2, 2)] ⟨hn, rfl, rfl, trivial⟩ ?_
 rintro ⟨m, o⟩ ac gs ws ⟨hm, hol, hq, _⟩ hS
 refine wp_seq (s0 [0, 1, 4, 6] [0, 2] 3 hS fun hS => ?_)
 refine if_d ((128 : Int) ≤ (m : Int)) hS (fun h1 => ?_) (fun h1 => ?_)
 ·refine wp_skip (then_n (wp_seq (wp_block ?_)))
  have h10 := numW_10 hn
  refine rA [(5, .call ⟨105, (c_wfixed o [(ior .u8 (IntKind.wrap .u8 (m : Int)) 128)]), [(0, 0), (1, 2)], [(2, 3)]⟩)] ⟨wfixed_ok _ _ lnn lnn, trivial⟩ (fun C => [ndC C 5]) [0, 1, 4] [0, 3] 4 ⟨rfl, trivial⟩ hS fun hS => ?_
  refine block_n (then_n (rA [(1, .oi ((m / 128 : Nat) : Int))] trivial (fun _ => [ishr .u64 (m : Int) 7 = ((m / 128 : Nat) : Int), (0 : Int) ≤ 7]) [0, 1, 4] [0, 3] 4 ⟨shr7, by omega, trivial⟩ hS fun hS => ?_))
  refine then_n ?_
  exact next_y hg0 hS (s := (m, o)) (m / 128, (o ++ [(ior .u8 (IntKind.wrap .u8 (m : Int)) 128)])) [(0, 0), (1, 1), (2, 3)] (show m / 128 < m from by omega) ⟨omm, (by rw [List.length_append, ← hol, numW_y (n := m) omm]; simp only [List.length_cons, List.length_nil]; omega), (by rw [List.append_assoc, ← hq, numW_y (n := m) omm]; rfl), trivial⟩
 ·have hScur := hS
  have hS := hScur
  clear hScur
  refine wp_exit (then_exit (then_exit (block_exit (then_n (wp_seq ?_)))))
  have h10 := numW_10 hn
  have e : o ++ [IntKind.wrap .u8 (m : Int)] = b ++ numW n := by rw [← hq, numW_n omm]
  refine rA [(4, .call ⟨105, (c_wfixed o [(IntKind.wrap .u8 (m : Int))]), [(0, 0), (1, 2)], [(2, 3)]⟩)] ⟨wfixed_ok _ _ lnn lnn, trivial⟩ (fun C => [ndC C 4]) [4] [0, 3] 4 ⟨rfl, trivial⟩ hS fun hS => ?_
  refine then_n (wp_ret ?_)
  obtain ⟨gs, hS⟩ := hS.rn [(0, 0), (1, 1), (2, 3)] [(4, .cp 0 0)] [(0, .ob 122 (chain [.sk 2])), (2, .sl 5 [.int .u8] (o ++ [(IntKind.wrap .u8 (m : Int))]))] 3 hg0
  exact fin_y rfl (.inr rfl) hS [.cp 0 0] [(0, some (.ob 122 (chain [.sk 2]))), (2, some (.sl 5 [.int .u8] (o ++ [(IntKind.wrap .u8 (m : Int))])))] rfl (by show H1Ok _ [(0, .ob 122 (chain [.sk 2])), (2, .sl 5 [.int .u8] (b ++ numW n))] true; rw [← e]; exact ⟨rfl, rfl, trivial⟩)

def c_wnum0 (n : Nat) : Con := ⟨[.cp 0 0, .v (.int .u64 (n : Int))], [(0, .ob 122 (chain [.v (.slice none 0 0)]))], .cp 0 0, [(0, .ob 122 (chain [.sk 1])), (1, .sl 5 [.int .u8] ([] ++ numW n))]⟩
theorem wnum0_ok (n : Nat) (hn : n < 18446744073709551616) : ConOk Try.prog 84 (c_wnum0 n) := by
 refine conOk_of rfl (nb := 1) Try.func84 rfl rfl Try.ntmps84 rfl rfl rfl fun g0 w0 ac gs ws hg0 hS => ?_
 have hS := hS.sp
 refine wp_seq ?_
 obtain ⟨gs, hS⟩ := hS.nilob 0 0 5 [.int .u8]
 refine r0 [0, 1, 4] [0, 1] 2 hS fun hS => ?_
 refine then_n (wp_seq (wp_block (loop_y (ι := Nat × (List Int)) hg0 hS (fun z_ => match z_ with | (m, o) => m) (fun z_ => match z_ with | (m, o) => [(0, .cp 0 0), (1, .v (.int .u64 ((m : Nat) : Int))), (4, .v (.pointer none))]) (fun z_ => match z_ with | (m, o) => [(0, .ob 122 (chain [.sk 2])), (2, .sl 5 [.int .u8] o)]) (fun z_ => match z_ with | (m, o) => (m < 18446744073709551616) ∧ (o.length + (numW m).length = 0 + (numW n).length) ∧ (o ++ numW m = ([] : List Int) ++ numW n) ∧ True) 3 (n, []) [(0, 0), (2, 1)] ⟨hn, (by simp), rfl, trivial⟩ ?_)))
 rintro ⟨m, o⟩ ac gs ws ⟨hm, hol, hq, _⟩ hS
 refine wp_seq (s0 [0, 1, 4, 6] [0, 2] 3 hS fun hS => ?_)
 refine if_d ((128 : Int) ≤ (m : Int)) hS (fun h1 => ?_) (fun h1 => ?_)
 ·refine wp_skip (then_n (wp_seq (wp_block ?_)))
  have h10 := numW_10 hn
  refine rA [(5, .call ⟨105, (c_wfixed o [(ior .u8 (IntKind.wrap .u8 (m : Int)) 128)]), [(0, 0), (1, 2)], [(2, 3)]⟩)] ⟨wfixed_ok _ _ lnn lnn, trivial⟩ (fun C => [ndC C 5]) [0, 1, 4] [0, 3] 4 ⟨rfl, trivial⟩ hS fun hS => ?_
  refine block_n (then_n (rA [(1, .oi ((m / 128 : Nat) : Int))] trivial (fun _ => [ishr .u64 (m : Int) 7 = ((m / 128 : Nat) : Int), (0 : Int) ≤ 7]) [0, 1, 4] [0, 3] 4 ⟨shr7, by omega, trivial⟩ hS fun hS => ?_))
  refine then_n ?_
  exact next_y hg0 hS (s := (m, o)) (m / 128, (o ++ [(ior .u8 (IntKind.wrap .u8 (m : Int)) 128)])) [(0, 0), (2, 3)] (show m / 128 < m from by omega) ⟨omm, (by rw [List.length_append, ← hol, numW_y (n := m) omm]; simp only [List.length_cons, List.length_nil]; omega), (by rw [List.append_assoc, ← hq, numW_y (n := m) omm]; rfl), trivial⟩
 ·have hScur := hS
  have hS := hScur
  clear hScur
  refine wp_exit (then_exit (then_exit (block_exit (then_n (wp_seq ?_)))))
  have h10 := numW_10 hn
  have e : o ++ [IntKind.wrap .u8 (m : Int)] = ([] : List Int) ++ numW n := by rw [← hq, numW_n omm]
  refine rA [(4, .call ⟨105, (c_wfixed o [(IntKind.wrap .u8 (m : Int))]), [(0, 0), (1, 2)], [(2, 3)]⟩)] ⟨wfixed_ok _ _ lnn lnn, trivial⟩ (fun C => [ndC C 4]) [4] [0, 3] 4 ⟨rfl, trivial⟩ hS fun hS => ?_
  refine then_n (wp_ret ?_)
  obtain ⟨gs, hS⟩ := hS.rn [(0, 0), (1, 3)] [(4, .cp 0 0)] [(0, .ob 122 (chain [.sk 1])), (1, .sl 5 [.int .u8] (o ++ [(IntKind.wrap .u8 (m : Int))]))] 2 hg0
  exact fin_y rfl (.inr rfl) hS [.cp 0 0] [(0, some (.ob 122 (chain [.sk 1]))), (1, some (.sl 5 [.int .u8] (o ++ [(IntKind.wrap .u8 (m : Int))])))] rfl (by show H1Ok _ [(0, .ob 122 (chain [.sk 1])), (1, .sl 5 [.int .u8] (([] : List Int) ++ numW n))] true; rw [← e]; exact ⟨rfl, rfl, trivial⟩)

end
end Go.Sx.Try
namespace Go.Sx.Try
open Go.Mi Go.RowKit Go.Sx Go.Proofs
noncomputable section
def c_wbytes (b xs : List Int) : Con := ⟨[.cp 0 0, lb xs], [(0, .ob 122 (chain [.sk 1])), (1, .sl 5 [.int .u8] b)], .cp 0 0, [(0, .ob 122 (chain [.sk 2])), (2, .sl 5 [.int .u8] ((b ++ numW xs.length) ++ xs))]⟩
theorem wbytes_ok (b xs : List Int) (hb : b.length ≤ 80000000000) (hx : xs.length ≤ 10000000000) : ConOk Try.prog 85 (c_wbytes b xs) := by
 refine conOk_of rfl (nb := 2) Try.func85 rfl rfl Try.ntmps85 rfl rfl rfl fun g0 w0 ac gs ws hg0 hS => ?_
 have hlen1 : xs.length ≤ 9223372036854775807 := hS.len 1 rfl
 have hlenk1 : b.length ≤ 9223372036854775807 := hS.lens 1 rfl
 have hS := hS.sp
 refine s0 [0, 1, 4] [0, 1] 2 hS fun hS => ?_
 refine wp_seq ?_
 have h10 := numW_10 (n := xs.length) omm
 refine rA [(3, .oi ((xs.length : Nat) : Int)), (4, .call ⟨84, (c_wnum b xs.length), [(0, 0), (1, 1)], [(2, 2)]⟩), (6, .call ⟨105, (c_wfixed (b ++ numW xs.length) xs), [(0, 0), (1, 2)], [(2, 3)]⟩)] ⟨wnum_ok _ _ lnn omm, wfixed_ok _ _ lnn lnn, trivial⟩ (fun C => [IntKind.wrap .u64 ((xs.length : Nat) : Int) = ((xs.length : Nat) : Int), ndC C 4, ndC C 6]) [4] [0, 3] 4 ⟨wrap_u64 omm omm, rfl, rfl, trivial⟩ hS fun hS => ?_
 refine then_n (wp_ret ?_)
 obtain ⟨gs, hS⟩ := hS.rn [(0, 0), (1, 1), (2, 3)] [(4, .cp 0 0)] [(0, .ob 122 (chain [.sk 2])), (2, .sl 5 [.int .u8] ((b ++ numW xs.length) ++ xs))] 3 hg0
 exact fin_y rfl (.inr rfl) hS [.cp 0 0] [(0, some (.ob 122 (chain [.sk 2]))), (2, some (.sl 5 [.int .u8] ((b ++ numW xs.length) ++ xs)))] rfl ⟨rfl, rfl, trivial⟩

def c_wdone (b : List Int) : Con := ⟨[.cp 0 0], [(0, .ob 122 (chain [.sk 1])), (1, .sl 5 [.int .u8] b)], lb b, [(0, .ob 122 (chain [lb b]))]⟩
theorem wdone_ok (b : List Int) (hb : b.length ≤ 90000000000000) : ConOk Try.prog 86 (c_wdone b) := by
 refine conOk_of rfl (nb := 2) Try.func86 rfl rfl Try.ntmps86 rfl rfl rfl fun g0 w0 ac gs ws hg0 hS => ?_
 have hlenk1 : b.length ≤ 9223372036854775807 := hS.lens 1 rfl
 have hS := hS.sp
 refine s0 [0, 2] [0, 1] 2 hS fun hS => ?_
 refine wp_seq (s0 [0, 2, 4] [0, 1] 2 hS fun hS => ?_)
 refine cond_f hS ?_
 refine wp_skip (then_n (wp_seq ?_))
 obtain ⟨gs, hS⟩ := hS.fz 1
 refine rA [(4, .call ⟨81, (c_clone b), [], []⟩)] ⟨clone_ok _ lnn, trivial⟩ (fun C => [ndC C 4]) [2] [0] 2 ⟨rfl, trivial⟩ hS fun hS => ?_
 refine then_n (wp_ret ?_)
 exact fin_y rfl (.inr rfl) hS [lb b] [(0, some (.ob 122 (chain [lb b])))] rfl ⟨rfl, trivial⟩

end
end Go.Sx.Try
namespace Go.Sx.Try
open Go.Mi Go.RowKit Go.Sx Go.Proofs
noncomputable section
def c_rec_r : Con := ⟨[.cp 0 0], [(0, .ob 27 (chain [vi 0]))], .tu (chain []), [(0, .ob 27 (chain [vi 0]))]⟩
theorem rec_r_ok : ConOkD Try.prog 108 .returning .returning (c_rec_r) := by
 refine conD_of rfl (nb := 1) (t0 := 4) (t1 := 1) Try.func108 rfl rfl Try.ntmps108 rfl rfl rfl rfl rfl rfl fun g0 w0 ac gs ws hg0 hS => ?_
 have hS := hS.sp
 refine sB [(1, .nn)] [] trivial (fun _ => []) [0, 1, 6] [0] 1 trivial hS fun hS => ?_
 refine cond_f hS ?_
 refine wp_skip ?_
 exact fin_y rfl (.inl rfl) hS [] [(0, some (.ob 27 (chain [vi 0])))] rfl ⟨rfl, trivial⟩

def c_rec_p (n : Nat) : Con := ⟨[.cp 0 0], [(0, .ob 27 (chain [vi 0]))], .tu (chain []), [(0, .ob 27 (chain [vi (n : Int)]))]⟩
theorem rec_p_ok (n : Nat) (hn : 0 < n) : ConOkD Try.prog 108 (pnd (.iface 27 (.int .i64 (n : Int)))) (rcd (.iface 27 (.int .i64 (n : Int)))) (c_rec_p n) := by
 refine conD_of rfl (nb := 1) (t0 := 4) (t1 := 1) Try.func108 rfl rfl Try.ntmps108 rfl rfl rfl rfl rfl rfl fun g0 w0 ac gs ws hg0 hS => ?_
 have hS := hS.sp
 have hn0 : ¬ (n : Int) = 0 := omm
 refine s0 [0, 1, 6] [0] 1 hS fun hS => ?_
 refine cond_t hS ?_
 refine sB [(1, .ta)] [] trivial (fun _ => []) [0, 1, 2, 3] [0] 1 trivial hS fun hS => ?_
 refine wp_seq (sA [(4, .ob false)] trivial (fun _ => [(decide ((n : Int) = 0)) = false]) [0, 1, 2, 17] [0] 1 ⟨decide_eq_false hn0, trivial⟩ hS fun hS => ?_)
 refine cond_f hS ?_
 refine wp_skip (then_n (r0 [] [0] 1 hS fun hS => ?_))
 exact fin_y rfl (.inl rfl) hS [] [(0, some (.ob 27 (chain [vi (n : Int)])))] rfl ⟨rfl, trivial⟩

end
end Go.Sx.Try
namespace Go.Sx.Try
open Go.Mi Go.RowKit Go.Sx Go.Proofs
noncomputable section
theorem getD_mem {α : Type} {l : List α} {j : Nat} {z : α} (h : j < l.length) : l.getD j z ∈ l := by
 rw [List.getD_eq_getElem?_getD, List.getElem?_eq_getElem h]; exact List.getElem_mem h
theorem fm_cons {α : Type} {p : α → Prop} {a : α} {l : List α} (h1 : p a) (h2 : ∀ x ∈ l, p x) : ∀ x ∈ a :: l, p x := List.forall_mem_cons.2 ⟨h1, h2⟩
theorem fm_nil : ∀ x ∈ ([] : List (List Int)), x.length ≤ 1000 := fun _ h => nomatch h
theorem fm_getD {l : List (List Int)} (h : ∀ x ∈ l, x.length ≤ 1000) (j : Nat) : (l.getD j (rz [.sl (.int .u8)])).length ≤ 1000 := by
 show (List.getD (α := List Int) l j []).length ≤ 1000
 by_cases hj : j < l.length
 ·exact h _ (getD_mem hj)
 ·rw [List.getD_eq_getElem?_getD, List.getElem?_eq_none omm]; decide
def rrot_v (x : Int) (n : Nat) : Int := (ior .u32 (ishr .u32 x (n : Int)) (ishl .u32 x (32 - (n : Int))))
def rrot_m (x : Int) (n : Nat) : Int := shut (rrot_v x n)
theorem rrot_e (x : Int) (n : Nat) : rrot_m x n = rrot_v x n := shut_eq _
def c_rrot (x : Int) (n : Nat) : Con := ⟨[.v (.int .u32 x), vi (n : Int)], [], .v (.int .u32 (rrot_m x n)), []⟩
theorem rrot_ok (x : Int) (n : Nat) (hn : n ≤ 32) : ConOk Try.prog 123 (c_rrot x n) := by
 refine conOk_of rfl (nb := 0) Try.func123 rfl rfl Try.ntmps123 rfl rfl rfl fun g0 w0 ac gs ws hg0 hS => ?_
 have hS := hS.sp
 refine s0 [0, 1, 4] [] 0 hS fun hS => ?_
 refine sA [(5, .oi (32 - (n : Int)))] trivial (fun _ => [(0 : Int) ≤ (n : Int), isub .i64 32 (n : Int) = (32 - (n : Int)), (0 : Int) ≤ (32 - (n : Int))]) [4] [] 0 ⟨by omega, isub64 omm omm, by omega, trivial⟩ hS fun hS => ?_
 refine wp_ret ?_
 have hM : rrot_m x n = (ior .u32 (ishr .u32 x (n : Int)) (ishl .u32 x (32 - (n : Int)))) := rrot_e x n
 exact fin_y rfl (.inr rfl) hS [.v (.int .u32 (ior .u32 (ishr .u32 x (n : Int)) (ishl .u32 x (32 - (n : Int)))))] [] (by show weak _ (.v (.int .u32 (rrot_m x n))) = (.v (.int .u32 (rrot_m x n))); rw [hM]; first | (simp only []; rfl) | (simp only []; done) | rfl) trivial

def rbig_l1_s (v : Int) (n x6 : Nat) : (List Int) → (List Int) := fun x5 => x5.set (Int.toNat (((n : Int) - 1) - (x6 : Int))) (IntKind.wrap .u8 (ishr .u64 v ((8 * x6 : Nat) : Int)))
def rbig_l1 (v : Int) (n : Nat) : Nat → (List Int)
 | 0 => List.replicate n (0 : Int)
 | x6 + 1 => rbig_l1_s v n x6 (rbig_l1 v n x6)
def rbig_v (v : Int) (n : Nat) : (List Int) := rbig_l1 v n n
def rbig_m (v : Int) (n : Nat) : (List Int) := shut (rbig_v v n)
theorem rbig_e (v : Int) (n : Nat) : rbig_m v n = rbig_v v n := shut_eq _
def c_rbig (v : Int) (n : Nat) : Con := ⟨[.v (.int .u64 v), vi (n : Int)], [], .sk 0, [(0, .sl 5 [.int .u8] (rbig_m v n))]⟩
theorem rbig_ok (v : Int) (n : Nat) (hn : n ≤ 1000) : ConOk Try.prog 53 (c_rbig v n) := by
 refine conOk_of rfl (nb := 0) Try.func53 rfl rfl Try.ntmps53 rfl rfl rfl fun g0 w0 ac gs ws hg0 hS => ?_
 have hS := hS.sp
 refine s0 [0, 1, 4] [] 0 hS fun hS => ?_
 refine sA [] trivial (fun _ => [((n : Int) : Int) = (n : Int), (0 : Int) ≤ (n : Int), 1 * n ≤ 281474976710656, ((n : Int) : Int) ≤ 9223372036854775807]) [0, 1, 4, 5] [0] 1 ⟨rfl, by omega, by omega, by omega, trivial⟩ hS fun hS => ?_
 refine wp_seq (s0 [0, 1, 4, 5, 6] [0] 1 hS fun hS => ?_)
 refine wp_block (loop_y (ι := Nat × (List Int)) hg0 hS (fun z_ => match z_ with | (x6, x5) => n - x6) (fun z_ => match z_ with | (x6, x5) => [(0, .v (.int .u64 v)), (1, vi (n : Int)), (4, .v (.slice none 0 0)), (5, .sk 0), (6, vi ((x6 : Nat) : Int))]) (fun z_ => match z_ with | (x6, x5) => [(0, .sl 5 [.int .u8] x5)]) (fun z_ => match z_ with | (x6, x5) => (x6 ≤ n) ∧ (x5 = rbig_l1 v n x6) ∧ (x5.length = n) ∧ True) 1 (0, List.replicate n (0 : Int)) [(0, 0)] ⟨omm, rfl, (by simp), trivial⟩ ?_)
 rintro ⟨x6, x5⟩ ac gs ws ⟨hx6, hq1, p1, _⟩ hS
 refine wp_seq (s0 [0, 1, 4, 5, 6, 11] [0] 1 hS fun hS => ?_)
 refine if_d ((x6 : Int) < (n : Int)) hS (fun h1 => ?_) (fun h1 => ?_)
 ·refine wp_skip (then_n (wp_seq (wp_block (rA [(2, .oi ((n : Int) - 1)), (4, .oi (((n : Int) - 1) - (x6 : Int))), (7, .oi ((8 * x6 : Nat) : Int))] trivial (fun _ => [isub .i64 (n : Int) 1 = ((n : Int) - 1), isub .i64 ((n : Int) - 1) (x6 : Int) = (((n : Int) - 1) - (x6 : Int)), imul .i64 8 (x6 : Int) = ((8 * x6 : Nat) : Int), (0 : Int) ≤ ((8 * x6 : Nat) : Int), (0 : Int) ≤ (((n : Int) - 1) - (x6 : Int)) ∧ (((n : Int) - 1) - (x6 : Int)) < ((x5.length : Nat) : Int)]) [0, 1, 4, 5, 6] [0] 1 ⟨isub64 omm omm, isub64 omm omm, by rw [imul64 omm omm]; omega, by omega, by omega, trivial⟩ hS fun hS => ?_))))
  refine block_n (then_n (rA [(1, .oi ((x6 + 1 : Nat) : Int))] trivial (fun _ => [iadd .i64 (x6 : Int) 1 = ((x6 + 1 : Nat) : Int)]) [0, 1, 4, 5, 6] [0] 1 ⟨by rw [iadd64 omm omm]; omega, trivial⟩ hS fun hS => ?_))
  refine then_n ?_
  exact next_y hg0 hS (s := (x6, x5)) (x6 + 1, x5.set (Int.toNat (((n : Int) - 1) - (x6 : Int))) (IntKind.wrap .u8 (ishr .u64 v ((8 * x6 : Nat) : Int)))) [(0, 0)] (show n - (x6 + 1) < n - x6 from by omega) ⟨omm, (it_next (F := rbig_l1 v n) (st := rbig_l1_s v n) (fun _ => rfl) hq1 rfl), (by rw [List.length_set]; exact p1), trivial⟩
 ·have hScur := hS
  obtain rfl : n = x6 := by omega
  obtain rfl : rbig_l1 v n n = x5 := Eq.symm (congrArg (fun z => z) hq1)
  have hS := hScur
  clear hScur
  refine wp_exit (then_exit (then_exit (block_exit (then_n (s0 [4] [0] 1 hS fun hS => ?_)))))
  refine wp_ret ?_
  have hM : rbig_m v n = rbig_l1 v n n := rbig_e v n
  exact fin_y rfl (.inr rfl) hS [.sk 0] [(0, some (.sl 5 [.int .u8] (rbig_l1 v n n)))] rfl (by show H1Ok _ [(0, .sl 5 [.int .u8] (rbig_m v n))] true; rw [hM]; first | (simp only []; exact ⟨rfl, trivial⟩) | exact ⟨rfl, trivial⟩)

def rgetbig_l1_s (xs : List Int) (n x6 : Nat) : Int → Int := fun x5 => if (x6 : Int) < ((xs.length : Nat) : Int) then (ior .u64 (ishl .u64 x5 8) (IntKind.wrap .u64 (xs.getD x6 0))) else (ishl .u64 x5 8)
def rgetbig_l1 (xs : List Int) (n : Nat) : Nat → Int
 | 0 => 0
 | x6 + 1 => rgetbig_l1_s xs n x6 (rgetbig_l1 xs n x6)
def rgetbig_v (xs : List Int) (n : Nat) : Int := (rgetbig_l1 xs n n)
def rgetbig_m (xs : List Int) (n : Nat) : Int := shut (rgetbig_v xs n)
theorem rgetbig_e (xs : List Int) (n : Nat) : rgetbig_m xs n = rgetbig_v xs n := shut_eq _
def c_rgetbig (xs : List Int) (n : Nat) : Con := ⟨[lb xs, vi (n : Int)], [], .v (.int .u64 (rgetbig_m xs n)), []⟩
theorem rgetbig_ok (xs : List Int) (n : Nat) (hn : n ≤ 1000) : ConOk Try.prog 122 (c_rgetbig xs n) := by
 refine conOk_of rfl (nb := 0) Try.func122 rfl rfl Try.ntmps122 rfl rfl rfl fun g0 w0 ac gs ws hg0 hS => ?_
 have hlen0 : xs.length ≤ 9223372036854775807 := hS.len 0 rfl
 have hS := hS.sp
 refine s0 [0, 1, 4] [] 0 hS fun hS => ?_
 refine s0 [0, 1, 4, 5] [] 0 hS fun hS => ?_
 refine wp_seq (s0 [0, 1, 4, 5, 6] [] 0 hS fun hS => ?_)
 refine wp_block (loop_y (ι := Nat × Int) hg0 hS (fun z_ => match z_ with | (x6, x5) => n - x6) (fun z_ => match z_ with | (x6, x5) => [(0, lb xs), (1, vi (n : Int)), (4, .v (.int .u64 0)), (5, .v (.int .u64 x5)), (6, vi ((x6 : Nat) : Int))]) (fun z_ => match z_ with | (x6, x5) => []) (fun z_ => match z_ with | (x6, x5) => (x6 ≤ n) ∧ (x5 = rgetbig_l1 xs n x6) ∧ True) 0 (0, 0) [] ⟨omm, rfl, trivial⟩ ?_)
 rintro ⟨x6, x5⟩ ac gs ws ⟨hx6, hq1, _⟩ hS
 refine wp_seq (s0 [0, 1, 4, 5, 6, 9] [] 0 hS fun hS => ?_)
 refine if_d ((x6 : Int) < (n : Int)) hS (fun h1 => ?_) (fun h1 => ?_)
 ·refine wp_skip (then_n (wp_seq (wp_block (sA [] trivial (fun _ => [(0 : Int) ≤ 8]) [0, 1, 4, 5, 6] [] 0 ⟨by omega, trivial⟩ hS fun hS => ?_))))
  refine s0 [0, 1, 4, 5, 6, 17] [] 0 hS fun hS => ?_
  refine if_d ((x6 : Int) < ((xs.length : Nat) : Int)) hS (fun h2 => ?_) (fun h2 => ?_)
  ·refine rA [] trivial (fun _ => [(0 : Int) ≤ (x6 : Int) ∧ (x6 : Int) < ((xs.length : Nat) : Int)]) [0, 1, 4, 5, 6] [] 0 ⟨by omega, trivial⟩ hS fun hS => ?_
   refine block_n (then_n (rA [(1, .oi ((x6 + 1 : Nat) : Int))] trivial (fun _ => [iadd .i64 (x6 : Int) 1 = ((x6 + 1 : Nat) : Int)]) [0, 1, 4, 5, 6] [] 0 ⟨by rw [iadd64 omm omm]; omega, trivial⟩ hS fun hS => ?_))
   refine then_n ?_
   exact next_y hg0 hS (s := (x6, x5)) (x6 + 1, (ior .u64 (ishl .u64 x5 8) (IntKind.wrap .u64 (xs.getD x6 0)))) [] (show n - (x6 + 1) < n - x6 from by omega) ⟨omm, (it_next (F := rgetbig_l1 xs n) (st := rgetbig_l1_s xs n) (fun _ => rfl) hq1 (Eq.symm (if_pos h2))), trivial⟩
  ·refine wp_skip (block_n (then_n (rA [(1, .oi ((x6 + 1 : Nat) : Int))] trivial (fun _ => [iadd .i64 (x6 : Int) 1 = ((x6 + 1 : Nat) : Int)]) [0, 1, 4, 5, 6] [] 0 ⟨by rw [iadd64 omm omm]; omega, trivial⟩ hS fun hS => ?_)))
   refine then_n ?_
   exact next_y hg0 hS (s := (x6, x5)) (x6 + 1, (ishl .u64 x5 8)) [] (show n - (x6 + 1) < n - x6 from by omega) ⟨omm, (it_next (F := rgetbig_l1 xs n) (st := rgetbig_l1_s xs n) (fun _ => rfl) hq1 (Eq.symm (if_neg h2))), trivial⟩
 ·have hScur := hS
  obtain rfl : n = x6 := by omega
  obtain rfl : rgetbig_l1 xs n n = x5 := Eq.symm (congrArg (fun z => z) hq1)
  have hS := hScur
  clear hScur
  refine wp_exit (then_exit (then_exit (block_exit (then_n (s0 [4] [] 0 hS fun hS => ?_)))))
  refine wp_ret ?_
  have hM : rgetbig_m xs n = (rgetbig_l1 xs n n) := rgetbig_e xs n
  exact fin_y rfl (.inr rfl) hS [.v (.int .u64 (rgetbig_l1 xs n n))] [] (by show weak _ (.v (.int .u64 (rgetbig_m xs n))) = (.v (.int .u64 (rgetbig_m xs n))); rw [hM]; first | (simp only []; rfl) | (simp only []; done) | rfl) trivial

def rfill_v (xs : List Int) (n : Nat) : (List Int) := xs.take (List.replicate n (0 : Int)).length ++ (List.replicate n (0 : Int)).drop xs.length
def rfill_m (xs : List Int) (n : Nat) : (List Int) := shut (rfill_v xs n)
theorem rfill_e (xs : List Int) (n : Nat) : rfill_m xs n = rfill_v xs n := shut_eq _
def c_rfill (xs : List Int) (n : Nat) : Con := ⟨[lb xs, vi (n : Int)], [], .sk 0, [(0, .sl 5 [.int .u8] (rfill_m xs n))]⟩
theorem rfill_ok (xs : List Int) (n : Nat) (hn : n ≤ 1000) : ConOk Try.prog 107 (c_rfill xs n) := by
 refine conOk_of rfl (nb := 0) Try.func107 rfl rfl Try.ntmps107 rfl rfl rfl fun g0 w0 ac gs ws hg0 hS => ?_
 have hlen0 : xs.length ≤ 9223372036854775807 := hS.len 0 rfl
 have hS := hS.sp
 refine s0 [0, 1, 4] [] 0 hS fun hS => ?_
 refine sA [] trivial (fun _ => [((n : Int) : Int) = (n : Int), (0 : Int) ≤ (n : Int), 1 * n ≤ 281474976710656, ((n : Int) : Int) ≤ 9223372036854775807]) [0, 4, 5] [0] 1 ⟨rfl, by omega, by omega, by omega, trivial⟩ hS fun hS => ?_
 refine s0 [4, 5] [0] 1 hS fun hS => ?_
 refine s0 [4] [0] 1 hS fun hS => ?_
 refine wp_ret ?_
 have hM : rfill_m xs n = xs.take (List.replicate n (0 : Int)).length ++ (List.replicate n (0 : Int)).drop xs.length := rfill_e xs n
 exact fin_y rfl (.inr rfl) hS [.sk 0] [(0, some (.sl 5 [.int .u8] (xs.take (List.replicate n (0 : Int)).length ++ (List.replicate n (0 : Int)).drop xs.length)))] rfl (by show H1Ok _ [(0, .sl 5 [.int .u8] (rfill_m xs n))] true; rw [hM]; first | (simp only []; exact ⟨rfl, trivial⟩) | exact ⟨rfl, trivial⟩)

def rcat_l1_s (l : List (List Int)) (x4 : Nat) : (List Int) → (List Int) := fun x3 => x3 ++ (l.getD x4 (rz [.sl (.int .u8)]))
def rcat_l1 (l : List (List Int)) : Nat → (List Int)
 | 0 => []
 | x4 + 1 => rcat_l1_s l x4 (rcat_l1 l x4)
def rcat_v (l : List (List Int)) : (List Int) := rcat_l1 l l.length
def rcat_m (l : List (List Int)) : (List Int) := shut (rcat_v l)
theorem rcat_e (l : List (List Int)) : rcat_m l = rcat_v l := shut_eq _
def c_rcat (l : List (List Int)) : Con := ⟨[.ls false [.sl (.int .u8)] l], [], .sk 0, [(0, .sl 5 [.int .u8] (rcat_m l))]⟩
theorem rcat_ok (l : List (List Int)) (hn : l.length ≤ 1000) (hm : ∀ j, (l.getD j (rz [.sl (.int .u8)])).length ≤ 1000) : ConOk Try.prog 26 (c_rcat l) := by
 refine conOk_of rfl (nb := 0) Try.func26 rfl rfl Try.ntmps26 rfl rfl rfl fun g0 w0 ac gs ws hg0 hS => ?_
 have hlen0 : l.length ≤ 9223372036854775807 := hS.len 0 rfl
 have hS := hS.sp
 refine s0 [0, 2] [] 0 hS fun hS => ?_
 refine s0 [0, 2, 3] [] 0 hS fun hS => ?_
 refine wp_seq (s0 [0, 2, 3, 4] [] 0 hS fun hS => ?_)
 refine wp_block ?_
 obtain ⟨gs, hS⟩ := hS.nilk 3 5 [.int .u8]
 refine loop_y (ι := Nat × (List Int)) hg0 hS (fun z_ => match z_ with | (x4, x3) => l.length - x4) (fun z_ => match z_ with | (x4, x3) => [(0, .ls false [.sl (.int .u8)] l), (2, .v (.slice none 0 0)), (3, .sk 0), (4, vi ((x4 : Nat) : Int))]) (fun z_ => match z_ with | (x4, x3) => [(0, .sl 5 [.int .u8] x3)]) (fun z_ => match z_ with | (x4, x3) => (x4 ≤ l.length) ∧ (x3 = rcat_l1 l x4) ∧ (x3.length ≤ 1000 * x4) ∧ True) 1 (0, []) [(0, 0)] ⟨omm, rfl, (by simp), trivial⟩ ?_
 rintro ⟨x4, x3⟩ ac gs ws ⟨hx4, hq1, p1, _⟩ hS
 refine wp_seq (s0 [0, 2, 3, 4, 8] [0] 1 hS fun hS => ?_)
 refine if_d ((x4 : Int) < ((l.length : Nat) : Int)) hS (fun h1 => ?_) (fun h1 => ?_)
 ·refine wp_skip (then_n (wp_seq (wp_block ?_)))
  have hmx := hm x4
  refine rA [] trivial (fun _ => [(0 : Int) ≤ (x4 : Int) ∧ (x4 : Int) < ((l.length : Nat) : Int), x3.length + (l.getD x4 (rz [.sl (.int .u8)])).length ≤ 9223372036854775807, (x3.length + (l.getD x4 (rz [.sl (.int .u8)])).length) * 1 ≤ 140737488355328]) [0, 2, 3, 4] [1] 2 ⟨by omega, by omega, by omega, trivial⟩ hS fun hS => ?_
  refine block_n (then_n (rA [(1, .oi ((x4 + 1 : Nat) : Int))] trivial (fun _ => [iadd .i64 (x4 : Int) 1 = ((x4 + 1 : Nat) : Int)]) [0, 2, 3, 4] [1] 2 ⟨by rw [iadd64 omm omm]; omega, trivial⟩ hS fun hS => ?_))
  refine then_n ?_
  exact next_y hg0 hS (s := (x4, x3)) (x4 + 1, x3 ++ (l.getD x4 (rz [.sl (.int .u8)]))) [(0, 1)] (show l.length - (x4 + 1) < l.length - x4 from by omega) ⟨omm, (it_next (F := rcat_l1 l) (st := rcat_l1_s l) (fun _ => rfl) hq1 rfl), (by rw [List.length_append]; have := hm x4; omega), trivial⟩
 ·have hScur := hS
  obtain rfl : l.length = x4 := by omega
  obtain rfl : rcat_l1 l l.length = x3 := Eq.symm (congrArg (fun z => z) hq1)
  have hS := hScur
  clear hScur
  refine wp_exit (then_exit (then_exit (block_exit (then_n (s0 [2] [0] 1 hS fun hS => ?_)))))
  refine wp_ret ?_
  have hM : rcat_m l = rcat_l1 l l.length := rcat_e l
  exact fin_y rfl (.inr rfl) hS [.sk 0] [(0, some (.sl 5 [.int .u8] (rcat_l1 l l.length)))] rfl (by show H1Ok _ [(0, .sl 5 [.int .u8] (rcat_m l))] true; rw [hM]; first | (simp only []; exact ⟨rfl, trivial⟩) | exact ⟨rfl, trivial⟩)

theorem rcat_flat (l : List (List Int)) : rcat_m l = l.flatten := by
 have key : ∀ i, i ≤ l.length → rcat_l1 l i = (l.take i).flatten := by
  intro i
  induction i with
  | zero => intro _; rfl
  | succ i ih =>
   intro hi
   show rcat_l1 l i ++ List.getD (α := List Int) l i [] = _
   rw [ih omm, List.take_succ_eq_append_getElem omm, List.flatten_append, List.getD_eq_getElem?_getD, List.getElem?_eq_getElem omm]
   simp
 rw [rcat_e]
 exact (key _ (Nat.le_refl _)).trans (by rw [List.take_length])
@[simp] theorem rcat_len (l : List (List Int)) : (rcat_m l).length = l.flatten.length := by rw [rcat_flat]
def rrounds_v : (Nat → Int) := upd (upd (upd (upd (upd (upd (upd (upd (upd (upd (upd (upd (upd (upd (upd (upd (upd (upd (upd (upd (upd (upd (upd (upd (upd (upd (upd (upd (upd (upd (upd (upd (upd (upd (upd (upd (upd (upd (upd (upd (upd (upd (upd (upd (upd (upd (upd (upd (upd (upd (upd (upd (upd (upd (upd (upd (upd (upd (upd (upd (upd (upd (upd (upd (upd (upd (upd (upd (upd (upd (upd (upd (upd (upd (upd (upd (upd (upd (upd (upd (fun _ => 0) 0 4794697086780616226) 1 8158064640168781261) 2 13096744586834688815) 3 16840607885511220156) 4 4131703408338449720) 5 6480981068601479193) 6 10538285296894168987) 7 12329834152419229976) 8 15566598209576043074) 9 1334009975649890238) 10 2608012711638119052) 11 6128411473006802146) 12 8268148722764581231) 13 9286055187155687089) 14 11230858885718282805) 15 13951009754708518548) 16 16472876342353939154) 17 17275323862435702243) 18 1135362057144423861) 19 2597628984639134821) 20 3308224258029322869) 21 5365058923640841347) 22 6679025012923562964) 23 8573033837759648693) 24 10970295158949994411) 25 12119686244451234320) 26 12683024718118986047) 27 13788192230050041572) 28 14330467153632333762) 29 15395433587784984357) 30 489312712824947311) 31 1452737877330783856) 32 2861767655752347644) 33 3322285676063803686) 34 5560940570517711597) 35 5996557281743188959) 36 7280758554555802590) 37 8532644243296465576) 38 9350256976987008742) 39 10552545826968843579) 40 11727347734174303076) 41 12113106623233404929) 42 14000437183269869457) 43 14369950271660146224) 44 15101387698204529176) 45 15463397548674623760) 46 17586052441742319658) 47 1182934255886127544) 48 1847814050463011016) 49 2177327727835720531) 50 2830643537854262169) 51 3796741975233480872) 52 4115178125766777443) 53 5681478168544905931) 54 6601373596472566643) 55 7507060721942968483) 56 8399075790359081724) 57 8693463985226723168) 58 9568029438360202098) 59 10144078919501101548) 60 10430055236837252648) 61 11840083180663258601) 62 13761210420658862357) 63 14299343276471374635) 64 14566680578165727644) 65 15097957966210449927) 66 16922976911328602910) 67 17689382322260857208) 68 500013540394364858) 69 748580250866718886) 70 1242879168328830382) 71 1977374033974150939) 72 2944078676154940804) 73 3659926193048069267) 74 4368137639120453308) 75 4836135668995329356) 76 5532061633213252278) 77 6448918945643986474) 78 6902733635092675308) 79 7801388544844847127
def rrounds_m : (Nat → Int) := shut (rrounds_v)
theorem rrounds_e : rrounds_m = rrounds_v := shut_eq _
def c_rrounds : Con := ⟨[], [], .ar .u64 80 rrounds_m, []⟩
theorem rrounds_ok : ConOk Try.prog 120 (c_rrounds) := by
 refine conOk_of rfl (nb := 0) Try.func120 rfl rfl Try.ntmps120 rfl rfl rfl fun g0 w0 ac gs ws hg0 hS => ?_
 have hS := hS.sp
 refine s0 [0] [0] 1 hS fun hS => ?_
 refine s0 [0] [0] 1 hS fun hS => ?_
 refine wp_ret ?_
 have hM : rrounds_m = upd (upd (upd (upd (upd (upd (upd (upd (upd (upd (upd (upd (upd (upd (upd (upd (upd (upd (upd (upd (upd (upd (upd (upd (upd (upd (upd (upd (upd (upd (upd (upd (upd (upd (upd (upd (upd (upd (upd (upd (upd (upd (upd (upd (upd (upd (upd (upd (upd (upd (upd (upd (upd (upd (upd (upd (upd (upd (upd (upd (upd (upd (upd (upd (upd (upd (upd (upd (upd (upd (upd (upd (upd (upd (upd (upd (upd (upd (upd (upd (fun _ => 0) 0 4794697086780616226) 1 8158064640168781261) 2 13096744586834688815) 3 16840607885511220156) 4 4131703408338449720) 5 6480981068601479193) 6 10538285296894168987) 7 12329834152419229976) 8 15566598209576043074) 9 1334009975649890238) 10 2608012711638119052) 11 6128411473006802146) 12 8268148722764581231) 13 9286055187155687089) 14 11230858885718282805) 15 13951009754708518548) 16 16472876342353939154) 17 17275323862435702243) 18 1135362057144423861) 19 2597628984639134821) 20 3308224258029322869) 21 5365058923640841347) 22 6679025012923562964) 23 8573033837759648693) 24 10970295158949994411) 25 12119686244451234320) 26 12683024718118986047) 27 13788192230050041572) 28 14330467153632333762) 29 15395433587784984357) 30 489312712824947311) 31 1452737877330783856) 32 2861767655752347644) 33 3322285676063803686) 34 5560940570517711597) 35 5996557281743188959) 36 7280758554555802590) 37 8532644243296465576) 38 9350256976987008742) 39 10552545826968843579) 40 11727347734174303076) 41 12113106623233404929) 42 14000437183269869457) 43 14369950271660146224) 44 15101387698204529176) 45 15463397548674623760) 46 17586052441742319658) 47 1182934255886127544) 48 1847814050463011016) 49 2177327727835720531) 50 2830643537854262169) 51 3796741975233480872) 52 4115178125766777443) 53 5681478168544905931) 54 6601373596472566643) 55 7507060721942968483) 56 8399075790359081724) 57 8693463985226723168) 58 9568029438360202098) 59 10144078919501101548) 60 10430055236837252648) 61 11840083180663258601) 62 13761210420658862357) 63 14299343276471374635) 64 14566680578165727644) 65 15097957966210449927) 66 16922976911328602910) 67 17689382322260857208) 68 500013540394364858) 69 748580250866718886) 70 1242879168328830382) 71 1977374033974150939) 72 2944078676154940804) 73 3659926193048069267) 74 4368137639120453308) 75 4836135668995329356) 76 5532061633213252278) 77 6448918945643986474) 78 6902733635092675308) 79 7801388544844847127 := rrounds_e
 exact fin_y rfl (.inr rfl) hS [.ar .u64 80 (upd (upd (upd (upd (upd (upd (upd (upd (upd (upd (upd (upd (upd (upd (upd (upd (upd (upd (upd (upd (upd (upd (upd (upd (upd (upd (upd (upd (upd (upd (upd (upd (upd (upd (upd (upd (upd (upd (upd (upd (upd (upd (upd (upd (upd (upd (upd (upd (upd (upd (upd (upd (upd (upd (upd (upd (upd (upd (upd (upd (upd (upd (upd (upd (upd (upd (upd (upd (upd (upd (upd (upd (upd (upd (upd (upd (upd (upd (upd (upd (fun _ => 0) 0 4794697086780616226) 1 8158064640168781261) 2 13096744586834688815) 3 16840607885511220156) 4 4131703408338449720) 5 6480981068601479193) 6 10538285296894168987) 7 12329834152419229976) 8 15566598209576043074) 9 1334009975649890238) 10 2608012711638119052) 11 6128411473006802146) 12 8268148722764581231) 13 9286055187155687089) 14 11230858885718282805) 15 13951009754708518548) 16 16472876342353939154) 17 17275323862435702243) 18 1135362057144423861) 19 2597628984639134821) 20 3308224258029322869) 21 5365058923640841347) 22 6679025012923562964) 23 8573033837759648693) 24 10970295158949994411) 25 12119686244451234320) 26 12683024718118986047) 27 13788192230050041572) 28 14330467153632333762) 29 15395433587784984357) 30 489312712824947311) 31 1452737877330783856) 32 2861767655752347644) 33 3322285676063803686) 34 5560940570517711597) 35 5996557281743188959) 36 7280758554555802590) 37 8532644243296465576) 38 9350256976987008742) 39 10552545826968843579) 40 11727347734174303076) 41 12113106623233404929) 42 14000437183269869457) 43 14369950271660146224) 44 15101387698204529176) 45 15463397548674623760) 46 17586052441742319658) 47 1182934255886127544) 48 1847814050463011016) 49 2177327727835720531) 50 2830643537854262169) 51 3796741975233480872) 52 4115178125766777443) 53 5681478168544905931) 54 6601373596472566643) 55 7507060721942968483) 56 8399075790359081724) 57 8693463985226723168) 58 9568029438360202098) 59 10144078919501101548) 60 10430055236837252648) 61 11840083180663258601) 62 13761210420658862357) 63 14299343276471374635) 64 14566680578165727644) 65 15097957966210449927) 66 16922976911328602910) 67 17689382322260857208) 68 500013540394364858) 69 748580250866718886) 70 1242879168328830382) 71 1977374033974150939) 72 2944078676154940804) 73 3659926193048069267) 74 4368137639120453308) 75 4836135668995329356) 76 5532061633213252278) 77 6448918945643986474) 78 6902733635092675308) 79 7801388544844847127)] [] (by show weak _ (.ar .u64 80 rrounds_m) = (.ar .u64 80 rrounds_m); rw [hM]; first | (simp only []; rfl) | (simp only []; done) | rfl) trivial

def rstart_v : (Nat → Int) := upd (upd (upd (upd (upd (upd (upd (upd (fun _ => 0) 0 7640891576956012808) 1 13503953896175478587) 2 4354685564936845355) 3 11912009170470909681) 4 5840696475078001361) 5 11170449401992604703) 6 2270897969802886507) 7 6620516959819538809
def rstart_m : (Nat → Int) := shut (rstart_v)
theorem rstart_e : rstart_m = rstart_v := shut_eq _
def c_rstart : Con := ⟨[], [], .ar .u64 8 rstart_m, []⟩
theorem rstart_ok : ConOk Try.prog 121 (c_rstart) := by
 refine conOk_of rfl (nb := 0) Try.func121 rfl rfl Try.ntmps121 rfl rfl rfl fun g0 w0 ac gs ws hg0 hS => ?_
 have hS := hS.sp
 refine s0 [0] [0] 1 hS fun hS => ?_
 refine s0 [0] [0] 1 hS fun hS => ?_
 refine wp_ret ?_
 have hM : rstart_m = upd (upd (upd (upd (upd (upd (upd (upd (fun _ => 0) 0 7640891576956012808) 1 13503953896175478587) 2 4354685564936845355) 3 11912009170470909681) 4 5840696475078001361) 5 11170449401992604703) 6 2270897969802886507) 7 6620516959819538809 := rstart_e
 exact fin_y rfl (.inr rfl) hS [.ar .u64 8 (upd (upd (upd (upd (upd (upd (upd (upd (fun _ => 0) 0 7640891576956012808) 1 13503953896175478587) 2 4354685564936845355) 3 11912009170470909681) 4 5840696475078001361) 5 11170449401992604703) 6 2270897969802886507) 7 6620516959819538809)] [] (by show weak _ (.ar .u64 8 rstart_m) = (.ar .u64 8 rstart_m); rw [hM]; first | (simp only []; rfl) | (simp only []; done) | rfl) trivial

end
end Go.Sx.Try
namespace Go.Sx.Try
open Go.Mi Go.RowKit Go.Sx Go.Proofs
noncomputable section
@[simp] theorem rbig_len (v : Int) (n : Nat) : (rbig_m v n).length = n := by
 have key : ∀ i, (rbig_l1 v n i).length = n := by
  intro i
  induction i with
  | zero => exact List.length_replicate
  | succ i ih => exact (List.length_set ..).trans ih
 rw [rbig_e]
 exact key n
def rsum_l1_s (xs : List Int) (x6 : Nat) : (Nat → Int) → (Nat → Int) := fun o5_0 => upd o5_0 x6 (IntKind.wrap .u32 (ishr .u64 (rstart_m x6) 32))
def rsum_l1 (xs : List Int) : Nat → (Nat → Int)
 | 0 => fun _ => 0
 | x6 + 1 => rsum_l1_s xs x6 (rsum_l1 xs x6)
def rsum_l2_s (xs : List Int) (k2 : Nat) : (List Int) → (List Int) := fun x7 => x7 ++ ([0] : List Int)
def rsum_l2 (xs : List Int) : Nat → (List Int)
 | 0 => ([] ++ xs) ++ ([128] : List Int)
 | k2 + 1 => rsum_l2_s xs k2 (rsum_l2 xs k2)
def rsum_l2_c (xs : List Int) : (List Int) → Prop := fun x7 => ¬ (((x7.length % 64 : Nat) : Int) = 56)
def rsum_l4_s (xs : List Int) (k3 x8 : Nat) (o5_0 : Nat → Int) (x10 : Nat) : (Nat → Int) → (Nat → Int) := fun o9_0 => upd o9_0 x10 (IntKind.wrap .u32 (rgetbig_m ((((rsum_l2 xs (lst fun j => rsum_l2_c xs (rsum_l2 xs j))) ++ (rbig_m (imul .u64 ((xs.length : Nat) : Int) 8) 8)).take ((x8 + (4 * x10)) + 4)).drop (x8 + (4 * x10))) 4))
def rsum_l4 (xs : List Int) (k3 x8 : Nat) (o5_0 : Nat → Int) : Nat → (Nat → Int)
 | 0 => fun _ => 0
 | x10 + 1 => rsum_l4_s xs k3 x8 o5_0 x10 (rsum_l4 xs k3 x8 o5_0 x10)
def rsum_l5_s (xs : List Int) (k3 x8 : Nat) (o5_0 : Nat → Int) (k5 : Nat) : (Nat × (Nat → Int)) → (Nat × (Nat → Int)) := fun z_ => match z_ with | (x11, o9_0) => (x11 + 1, upd o9_0 x11 (iadd .u32 (iadd .u32 (iadd .u32 (o9_0 (x11 - 16)) (ixor .u32 (ixor .u32 (rrot_m (o9_0 (x11 - 15)) 7) (rrot_m (o9_0 (x11 - 15)) 18)) (ishr .u32 (o9_0 (x11 - 15)) 3))) (o9_0 (x11 - 7))) (ixor .u32 (ixor .u32 (rrot_m (o9_0 (x11 - 2)) 17) (rrot_m (o9_0 (x11 - 2)) 19)) (ishr .u32 (o9_0 (x11 - 2)) 10))))
def rsum_l5 (xs : List Int) (k3 x8 : Nat) (o5_0 : Nat → Int) : Nat → Nat × (Nat → Int)
 | 0 => (16, rsum_l4 xs k3 x8 o5_0 16)
 | k5 + 1 => rsum_l5_s xs k3 x8 o5_0 k5 (rsum_l5 xs k3 x8 o5_0 k5)
def rsum_l5_c (xs : List Int) (k3 x8 : Nat) (o5_0 : Nat → Int) : (Nat × (Nat → Int)) → Prop := fun z_ => match z_ with | (x11, o9_0) => ((x11 : Nat) : Int) < 64
def rsum_l6_s (xs : List Int) (k3 x8 : Nat) (o5_0 : Nat → Int) (x15 : Nat) : (Nat → Int) → (Nat → Int) := fun o14_0 => upd (upd (upd (upd (upd (upd (upd (upd (fun _ => 0) 0 (iadd .u32 (iadd .u32 (iadd .u32 (iadd .u32 (iadd .u32 (o14_0 7) (ixor .u32 (ixor .u32 (rrot_m (o14_0 4) 6) (rrot_m (o14_0 4) 11)) (rrot_m (o14_0 4) 25))) (ixor .u32 (iand .u32 (o14_0 4) (o14_0 5)) (iand .u32 (inot .u32 (o14_0 4)) (o14_0 6)))) (IntKind.wrap .u32 (ishr .u64 (rrounds_m x15) 32))) (((rsum_l5 xs k3 x8 o5_0 (lst fun j => rsum_l5_c xs k3 x8 o5_0 (rsum_l5 xs k3 x8 o5_0 j))).2) x15)) (iadd .u32 (ixor .u32 (ixor .u32 (rrot_m (o14_0 0) 2) (rrot_m (o14_0 0) 13)) (rrot_m (o14_0 0) 22)) (ixor .u32 (ixor .u32 (iand .u32 (o14_0 0) (o14_0 1)) (iand .u32 (o14_0 0) (o14_0 2))) (iand .u32 (o14_0 1) (o14_0 2)))))) 1 (o14_0 0)) 2 (o14_0 1)) 3 (o14_0 2)) 4 (iadd .u32 (o14_0 3) (iadd .u32 (iadd .u32 (iadd .u32 (iadd .u32 (o14_0 7) (ixor .u32 (ixor .u32 (rrot_m (o14_0 4) 6) (rrot_m (o14_0 4) 11)) (rrot_m (o14_0 4) 25))) (ixor .u32 (iand .u32 (o14_0 4) (o14_0 5)) (iand .u32 (inot .u32 (o14_0 4)) (o14_0 6)))) (IntKind.wrap .u32 (ishr .u64 (rrounds_m x15) 32))) (((rsum_l5 xs k3 x8 o5_0 (lst fun j => rsum_l5_c xs k3 x8 o5_0 (rsum_l5 xs k3 x8 o5_0 j))).2) x15)))) 5 (o14_0 4)) 6 (o14_0 5)) 7 (o14_0 6)
def rsum_l6 (xs : List Int) (k3 x8 : Nat) (o5_0 : Nat → Int) : Nat → (Nat → Int)
 | 0 => o5_0
 | x15 + 1 => rsum_l6_s xs k3 x8 o5_0 x15 (rsum_l6 xs k3 x8 o5_0 x15)
def rsum_l7_s (xs : List Int) (k3 x8 : Nat) (o5_0 : Nat → Int) (x20 : Nat) : (Nat → Int) → (Nat → Int) := fun o5_0_7 => upd o5_0_7 x20 (iadd .u32 (o5_0_7 x20) ((rsum_l6 xs k3 x8 o5_0 64) x20))
def rsum_l7 (xs : List Int) (k3 x8 : Nat) (o5_0 : Nat → Int) : Nat → (Nat → Int)
 | 0 => o5_0
 | x20 + 1 => rsum_l7_s xs k3 x8 o5_0 x20 (rsum_l7 xs k3 x8 o5_0 x20)
def rsum_l3_s (xs : List Int) (k3 : Nat) : (Nat × (Nat → Int)) → (Nat × (Nat → Int)) := fun z_ => match z_ with | (x8, o5_0) => (x8 + 64, rsum_l7 xs k3 x8 o5_0 8)
def rsum_l3 (xs : List Int) : Nat → Nat × (Nat → Int)
 | 0 => (0, rsum_l1 xs 8)
 | k3 + 1 => rsum_l3_s xs k3 (rsum_l3 xs k3)
def rsum_l3_c (xs : List Int) : (Nat × (Nat → Int)) → Prop := fun z_ => match z_ with | (x8, o5_0) => ((x8 : Nat) : Int) < ((((rsum_l2 xs (lst fun j => rsum_l2_c xs (rsum_l2 xs j))) ++ (rbig_m (imul .u64 ((xs.length : Nat) : Int) 8) 8)).length : Nat) : Int)
def rsum_l8_s (xs : List Int) (x22 : Nat) : (List Int) → (List Int) := fun x21 => x21 ++ (rbig_m (IntKind.wrap .u64 (((rsum_l3 xs (lst fun j => rsum_l3_c xs (rsum_l3 xs j))).2) x22)) 4)
def rsum_l8 (xs : List Int) : Nat → (List Int)
 | 0 => []
 | x22 + 1 => rsum_l8_s xs x22 (rsum_l8 xs x22)
def rsum_v (xs : List Int) : (List Int) := rsum_l8 xs 8
def rsum_m (xs : List Int) : (List Int) := shut (rsum_v xs)
theorem rsum_e (xs : List Int) : rsum_m xs = rsum_v xs := shut_eq _
def c_rsum (xs : List Int) : Con := ⟨[lb xs], [], .sk 0, [(0, .sl 5 [.int .u8] (rsum_m xs))]⟩
theorem rsum_ok (xs : List Int) (hx : xs.length ≤ 1000000) : ConOk Try.prog 106 (c_rsum xs) := by
 refine conOk_of rfl (nb := 0) Try.func106 rfl rfl Try.ntmps106 rfl rfl rfl fun g0 w0 ac gs ws hg0 hS => ?_
 have hlen0 : xs.length ≤ 9223372036854775807 := hS.len 0 rfl
 have hS := hS.sp
 refine s0 [0, 2] [] 0 hS fun hS => ?_
 refine sA [(0, .call ⟨120, (c_rrounds), [], []⟩)] ⟨rrounds_ok, trivial⟩ (fun C => [ndC C 0]) [0, 2, 3] [0] 1 ⟨rfl, trivial⟩ hS fun hS => ?_
 refine sA [(0, .call ⟨121, (c_rstart), [], []⟩)] ⟨rstart_ok, trivial⟩ (fun C => [ndC C 0]) [0, 2, 3, 4] [0, 1] 2 ⟨rfl, trivial⟩ hS fun hS => ?_
 refine s0 [0, 2, 3, 4, 5] [0, 1, 2] 3 hS fun hS => ?_
 refine wp_seq (s0 [0, 2, 3, 4, 5, 6] [0, 1, 2] 3 hS fun hS => ?_)
 refine wp_block (loop_y (ι := Nat × (Nat → Int)) hg0 hS (fun z_ => match z_ with | (x6, o5_0) => 8 - x6) (fun z_ => match z_ with | (x6, o5_0) => [(0, lb xs), (2, .v (.slice none 0 0)), (3, .cp 0 0), (4, .cp 1 0), (5, .cp 2 0), (6, vi ((x6 : Nat) : Int))]) (fun z_ => match z_ with | (x6, o5_0) => [(0, .ob 163 (chain [.ar .u64 80 rrounds_m])), (1, .ob 165 (chain [.ar .u64 8 rstart_m])), (2, .ob 167 (chain [.ar .u32 8 o5_0]))]) (fun z_ => match z_ with | (x6, o5_0) => (x6 ≤ 8) ∧ (o5_0 = rsum_l1 xs x6) ∧ True) 3 (0, fun _ => 0) [(0, 0), (1, 1), (2, 2)] ⟨omm, rfl, trivial⟩ ?_)
 rintro ⟨x6, o5_0⟩ ac gs ws ⟨hx6, hq1, _⟩ hS
 refine wp_seq (s0 [0, 2, 3, 4, 5, 6, 26] [0, 1, 2] 3 hS fun hS => ?_)
 refine if_d ((x6 : Int) < 8) hS (fun h1 => ?_) (fun h1 => ?_)
 ·refine wp_skip (then_n (wp_seq (wp_block (rA [] trivial (fun _ => [(0 : Int) ≤ (x6 : Int) ∧ ((x6 : Int) : Int) < 8, (0 : Int) ≤ 32, (0 : Int) ≤ (x6 : Int) ∧ ((x6 : Int) : Int) < 8]) [0, 2, 3, 4, 5, 6] [0, 1, 2] 3 ⟨by omega, by omega, by omega, trivial⟩ hS fun hS => ?_))))
  refine block_n (then_n (rA [(1, .oi ((x6 + 1 : Nat) : Int))] trivial (fun _ => [iadd .i64 (x6 : Int) 1 = ((x6 + 1 : Nat) : Int)]) [0, 2, 3, 4, 5, 6] [0, 1, 2] 3 ⟨by rw [iadd64 omm omm]; omega, trivial⟩ hS fun hS => ?_))
  refine then_n ?_
  exact next_y hg0 hS (s := (x6, o5_0)) (x6 + 1, upd o5_0 x6 (IntKind.wrap .u32 (ishr .u64 (rstart_m x6) 32))) [(0, 0), (1, 1), (2, 2)] (show 8 - (x6 + 1) < 8 - x6 from by omega) ⟨omm, (it_next (F := rsum_l1 xs) (st := rsum_l1_s xs) (fun _ => rfl) hq1 rfl), trivial⟩
 ·have hScur := hS
  obtain rfl : 8 = x6 := by omega
  obtain rfl : rsum_l1 xs 8 = o5_0 := Eq.symm (congrArg (fun z => z) hq1)
  have hS := hScur
  clear hScur
  refine wp_exit (then_exit (then_exit (block_exit (then_n (sA [(0, .own)] trivial (fun _ => [([] : List (RT [.int .u8])).length + xs.length ≤ 9223372036854775807, (([] : List (RT [.int .u8])).length + xs.length) * 1 ≤ 140737488355328, ([] ++ xs).length + ([128] : List Int).length ≤ 9223372036854775807, (([] ++ xs).length + ([128] : List Int).length) * 1 ≤ 140737488355328]) [0, 2, 3, 5, 7] [0, 2, 5] 6 ⟨by simp <;> omega, by simp <;> omega, by simp <;> omega, by simp <;> omega, trivial⟩ hS fun hS => ?_)))))
  refine wp_seq (wp_block (loop_y (ι := Nat × (List Int)) hg0 hS (fun z_ => match z_ with | (k2, x7) => (120 - x7.length % 64) % 64) (fun z_ => match z_ with | (k2, x7) => [(0, lb xs), (2, .v (.slice none 0 0)), (3, .cp 0 0), (5, .cp 2 0), (7, .sk 5)]) (fun z_ => match z_ with | (k2, x7) => [(0, .ob 163 (chain [.ar .u64 80 rrounds_m])), (2, .ob 167 (chain [.ar .u32 8 (rsum_l1 xs 8)])), (5, .sl 5 [.int .u8] x7)]) (fun z_ => match z_ with | (k2, x7) => (x7 = rsum_l2 xs k2) ∧ (∀ j, j < k2 → rsum_l2_c xs (rsum_l2 xs j)) ∧ (x7.length + (120 - x7.length % 64) % 64 ≤ xs.length + 65) ∧ True) 6 (0, ([] ++ xs) ++ ([128] : List Int)) [(0, 0), (2, 2), (5, 5)] ⟨rfl, (fun j h => absurd h (Nat.not_lt_zero j)), (by rw [List.length_append, List.length_append, List.length_cons, List.length_nil]; omega), trivial⟩ ?_))
  rintro ⟨k2, x7⟩ ac gs ws ⟨hq2, hj2, p1, _⟩ hS
  refine wp_seq (sA [(2, .oi ((x7.length % 64 : Nat) : Int))] trivial (fun _ => [irem ((x7.length : Nat) : Int) 64 = ((x7.length % 64 : Nat) : Int), (64 : Int) ≠ 0]) [0, 2, 3, 5, 7, 44] [0, 2, 5] 6 ⟨by rw [irem64 omm]; omega, by omega, trivial⟩ hS fun hS => ?_)
  refine if_n (((x7.length % 64 : Nat) : Int) = 56) hS (fun h2 => ?_) (fun h2 => ?_)
  ·refine wp_skip (then_n (wp_block (rA [] trivial (fun _ => [x7.length + ([0] : List Int).length ≤ 9223372036854775807, (x7.length + ([0] : List Int).length) * 1 ≤ 140737488355328]) [0, 2, 3, 5, 7] [0, 2, 6] 7 ⟨by simp <;> omega, by simp <;> omega, trivial⟩ hS fun hS => ?_)))
   refine block_n (then_n ?_)
   exact next_y hg0 hS (s := (k2, x7)) (k2 + 1, x7 ++ ([0] : List Int)) [(0, 0), (2, 2), (5, 6)] (by show (120 - (x7 ++ [0]).length % 64) % 64 < (120 - x7.length % 64) % 64; rw [List.length_append, List.length_cons, List.length_nil]; omega) ⟨(it_next (F := rsum_l2 xs) (st := rsum_l2_s xs) (fun _ => rfl) hq2 rfl), (lst_next hj2 (by rw [← hq2]; exact h2)), (by rw [List.length_append, List.length_cons, List.length_nil]; omega), trivial⟩
  ·have hScur := hS
   obtain rfl := lst_eq (P := fun j => rsum_l2_c xs (rsum_l2 xs j)) (by rw [← hq2]; first | exact h2 | exact not_not_intro h2) hj2
   obtain rfl : rsum_l2 xs (lst fun j => rsum_l2_c xs (rsum_l2 xs j)) = x7 := Eq.symm (congrArg (fun z => z) hq2)
   have hS := hScur
   clear hScur
   refine wp_exit (then_exit (then_exit (block_exit (then_n (sA [(3, .oi ((xs.length : Nat) : Int)), (5, .call ⟨53, (c_rbig (imul .u64 ((xs.length : Nat) : Int) 8) 8), [], [(0, 6)]⟩)] ⟨rbig_ok _ _ omm, trivial⟩ (fun C => [IntKind.wrap .u64 ((xs.length : Nat) : Int) = ((xs.length : Nat) : Int), ndC C 5, (rsum_l2 xs (lst fun j => rsum_l2_c xs (rsum_l2 xs j))).length + (rbig_m (imul .u64 ((xs.length : Nat) : Int) 8) 8).length ≤ 9223372036854775807, ((rsum_l2 xs (lst fun j => rsum_l2_c xs (rsum_l2 xs j))).length + (rbig_m (imul .u64 ((xs.length : Nat) : Int) 8) 8).length) * 1 ≤ 140737488355328]) [2, 3, 5, 7] [0, 2, 7] 8 ⟨wrap_u64 omm omm, rfl, by simp <;> omega, by simp <;> omega, trivial⟩ hS fun hS => ?_)))))
   refine wp_seq (wp_seq ?_)
   obtain ⟨gs, hS⟩ := hS.fz 7
   have hml : ((rsum_l2 xs (lst fun j => rsum_l2_c xs (rsum_l2 xs j))) ++ (rbig_m (imul .u64 ((xs.length : Nat) : Int) 8) 8)).length % 64 = 0 ∧ ((rsum_l2 xs (lst fun j => rsum_l2_c xs (rsum_l2 xs j))) ++ (rbig_m (imul .u64 ((xs.length : Nat) : Int) 8) 8)).length ≤ 2000000 := by rw [List.length_append, rbig_len]; omega
   refine r0 [2, 3, 5, 7, 8] [0, 2] 8 hS fun hS => ?_
   refine then_n (wp_block (loop_y (ι := Nat × Nat × (Nat → Int)) hg0 hS (fun z_ => match z_ with | (k3, x8, o5_0) => ((rsum_l2 xs (lst fun j => rsum_l2_c xs (rsum_l2 xs j))) ++ (rbig_m (imul .u64 ((xs.length : Nat) : Int) 8) 8)).length - x8) (fun z_ => match z_ with | (k3, x8, o5_0) => [(2, .v (.slice none 0 0)), (3, .cp 0 0), (5, .cp 2 0), (7, lb ((rsum_l2 xs (lst fun j => rsum_l2_c xs (rsum_l2 xs j))) ++ (rbig_m (imul .u64 ((xs.length : Nat) : Int) 8) 8))), (8, vi ((x8 : Nat) : Int))]) (fun z_ => match z_ with | (k3, x8, o5_0) => [(0, .ob 163 (chain [.ar .u64 80 rrounds_m])), (2, .ob 167 (chain [.ar .u32 8 o5_0]))]) (fun z_ => match z_ with | (k3, x8, o5_0) => ((x8, o5_0) = rsum_l3 xs k3) ∧ (∀ j, j < k3 → rsum_l3_c xs (rsum_l3 xs j)) ∧ (x8 % 64 = 0) ∧ True) 3 (0, 0, rsum_l1 xs 8) [(0, 0), (2, 2)] ⟨rfl, (fun j h => absurd h (Nat.not_lt_zero j)), (by simp), trivial⟩ ?_))
   rintro ⟨k3, x8, o5_0⟩ ac gs ws ⟨hq3, hj3, p2, _⟩ hS
   refine wp_seq (s0 [2, 3, 5, 7, 8, 58] [0, 2] 3 hS fun hS => ?_)
   refine if_d ((x8 : Int) < ((((rsum_l2 xs (lst fun j => rsum_l2_c xs (rsum_l2 xs j))) ++ (rbig_m (imul .u64 ((xs.length : Nat) : Int) 8) 8)).length : Nat) : Int)) hS (fun h3 => ?_) (fun h3 => ?_)
   ·refine wp_skip (then_n (wp_seq (wp_block (s0 [2, 3, 5, 7, 8, 9] [0, 2, 3] 4 hS fun hS => ?_))))
    refine wp_seq (s0 [2, 3, 5, 7, 8, 9, 10] [0, 2, 3] 4 hS fun hS => ?_)
    refine wp_block (loop_y (ι := Nat × (Nat → Int)) hg0 hS (fun z_ => match z_ with | (x10, o9_0) => 16 - x10) (fun z_ => match z_ with | (x10, o9_0) => [(2, .v (.slice none 0 0)), (3, .cp 0 0), (5, .cp 2 0), (7, lb ((rsum_l2 xs (lst fun j => rsum_l2_c xs (rsum_l2 xs j))) ++ (rbig_m (imul .u64 ((xs.length : Nat) : Int) 8) 8))), (8, vi (x8 : Int)), (9, .cp 3 0), (10, vi ((x10 : Nat) : Int))]) (fun z_ => match z_ with | (x10, o9_0) => [(0, .ob 163 (chain [.ar .u64 80 rrounds_m])), (2, .ob 167 (chain [.ar .u32 8 o5_0])), (3, .ob 168 (chain [.ar .u32 64 o9_0]))]) (fun z_ => match z_ with | (x10, o9_0) => (x10 ≤ 16) ∧ (o9_0 = rsum_l4 xs k3 x8 o5_0 x10) ∧ True) 4 (0, fun _ => 0) [(0, 0), (2, 2), (3, 3)] ⟨omm, rfl, trivial⟩ ?_)
    rintro ⟨x10, o9_0⟩ ac gs ws ⟨hx10, hq4, _⟩ hS
    refine wp_seq (s0 [2, 3, 5, 7, 8, 9, 10, 62] [0, 2, 3] 4 hS fun hS => ?_)
    refine if_d ((x10 : Int) < 16) hS (fun h4 => ?_) (fun h4 => ?_)
    ·refine wp_skip (then_n (wp_seq (wp_block (rA [(4, .oi ((4 * x10 : Nat) : Int)), (5, .oi ((x8 + (4 * x10) : Nat) : Int)), (8, .oi ((4 * x10 : Nat) : Int)), (9, .oi ((x8 + (4 * x10) : Nat) : Int)), (10, .oi (((x8 + (4 * x10)) + 4 : Nat) : Int)), (12, .call ⟨122, (c_rgetbig ((((rsum_l2 xs (lst fun j => rsum_l2_c xs (rsum_l2 xs j))) ++ (rbig_m (imul .u64 ((xs.length : Nat) : Int) 8) 8)).take ((x8 + (4 * x10)) + 4)).drop (x8 + (4 * x10))) 4), [], []⟩)] ⟨rgetbig_ok _ _ omm, trivial⟩ (fun C => [imul .i64 4 (x10 : Int) = ((4 * x10 : Nat) : Int), iadd .i64 (x8 : Int) ((4 * x10 : Nat) : Int) = ((x8 + (4 * x10) : Nat) : Int), imul .i64 4 (x10 : Int) = ((4 * x10 : Nat) : Int), iadd .i64 (x8 : Int) ((4 * x10 : Nat) : Int) = ((x8 + (4 * x10) : Nat) : Int), iadd .i64 ((x8 + (4 * x10) : Nat) : Int) 4 = (((x8 + (4 * x10)) + 4 : Nat) : Int), bndP (some ((x8 + (4 * x10) : Nat) : Int)) (some (((x8 + (4 * x10)) + 4 : Nat) : Int)) none ((rsum_l2 xs (lst fun j => rsum_l2_c xs (rsum_l2 xs j))) ++ (rbig_m (imul .u64 ((xs.length : Nat) : Int) 8) 8)).length ((rsum_l2 xs (lst fun j => rsum_l2_c xs (rsum_l2 xs j))) ++ (rbig_m (imul .u64 ((xs.length : Nat) : Int) 8) 8)).length, ndC C 12, (0 : Int) ≤ (x10 : Int) ∧ ((x10 : Int) : Int) < 64]) [2, 3, 5, 7, 8, 9, 10] [0, 2, 3] 4 ⟨by rw [imul64 omm omm]; omega, by rw [iadd64 omm omm]; omega, by rw [imul64 omm omm]; omega, by rw [iadd64 omm omm]; omega, by rw [iadd64 omm omm]; omega, ⟨by simp only [nnI] <;> omega, by simp only [nnI] <;> omega, by simp only [nnI] <;> omega, by simp, by simp only [bl] <;> omega, by simp only [bl] <;> omega, by simp only [bl] <;> omega⟩, rfl, by omega, trivial⟩ hS fun hS => ?_))))
     refine block_n (then_n (rA [(1, .oi ((x10 + 1 : Nat) : Int))] trivial (fun _ => [iadd .i64 (x10 : Int) 1 = ((x10 + 1 : Nat) : Int)]) [2, 3, 5, 7, 8, 9, 10] [0, 2, 3] 4 ⟨by rw [iadd64 omm omm]; omega, trivial⟩ hS fun hS => ?_))
     refine then_n ?_
     exact next_y hg0 hS (s := (x10, o9_0)) (x10 + 1, upd o9_0 x10 (IntKind.wrap .u32 (rgetbig_m ((((rsum_l2 xs (lst fun j => rsum_l2_c xs (rsum_l2 xs j))) ++ (rbig_m (imul .u64 ((xs.length : Nat) : Int) 8) 8)).take ((x8 + (4 * x10)) + 4)).drop (x8 + (4 * x10))) 4))) [(0, 0), (2, 2), (3, 3)] (show 16 - (x10 + 1) < 16 - x10 from by omega) ⟨omm, (it_next (F := rsum_l4 xs k3 x8 o5_0) (st := rsum_l4_s xs k3 x8 o5_0) (fun _ => rfl) hq4 rfl), trivial⟩
    ·have hScur := hS
     obtain rfl : 16 = x10 := by omega
     obtain rfl : rsum_l4 xs k3 x8 o5_0 16 = o9_0 := Eq.symm (congrArg (fun z => z) hq4)
     have hS := hScur
     clear hScur
     refine wp_exit (then_exit (then_exit (block_exit (then_n (wp_seq (s0 [2, 3, 5, 7, 8, 9, 11] [0, 2, 3] 4 hS fun hS => ?_))))))
     refine wp_block (loop_y (ι := Nat × Nat × (Nat → Int)) hg0 hS (fun z_ => match z_ with | (k5, x11, o9_0) => 64 - x11) (fun z_ => match z_ with | (k5, x11, o9_0) => [(2, .v (.slice none 0 0)), (3, .cp 0 0), (5, .cp 2 0), (7, lb ((rsum_l2 xs (lst fun j => rsum_l2_c xs (rsum_l2 xs j))) ++ (rbig_m (imul .u64 ((xs.length : Nat) : Int) 8) 8))), (8, vi (x8 : Int)), (9, .cp 3 0), (11, vi ((x11 : Nat) : Int))]) (fun z_ => match z_ with | (k5, x11, o9_0) => [(0, .ob 163 (chain [.ar .u64 80 rrounds_m])), (2, .ob 167 (chain [.ar .u32 8 o5_0])), (3, .ob 168 (chain [.ar .u32 64 o9_0]))]) (fun z_ => match z_ with | (k5, x11, o9_0) => ((x11, o9_0) = rsum_l5 xs k3 x8 o5_0 k5) ∧ (∀ j, j < k5 → rsum_l5_c xs k3 x8 o5_0 (rsum_l5 xs k3 x8 o5_0 j)) ∧ (16 ≤ x11 ∧ x11 ≤ 64) ∧ True) 4 (0, 16, rsum_l4 xs k3 x8 o5_0 16) [(0, 0), (2, 2), (3, 3)] ⟨rfl, (fun j h => absurd h (Nat.not_lt_zero j)), omm, trivial⟩ ?_)
     rintro ⟨k5, x11, o9_0⟩ ac gs ws ⟨hq5, hj5, p3, _⟩ hS
     refine wp_seq (s0 [2, 3, 5, 7, 8, 9, 11, 81] [0, 2, 3] 4 hS fun hS => ?_)
     refine if_d ((x11 : Int) < 64) hS (fun h5 => ?_) (fun h5 => ?_)
     ·refine wp_skip (then_n (wp_seq (wp_block (sA [(1, .oi ((x11 - 15 : Nat) : Int)), (4, .call ⟨123, (c_rrot (o9_0 (x11 - 15)) 7), [], []⟩), (6, .oi ((x11 - 15 : Nat) : Int)), (9, .call ⟨123, (c_rrot (o9_0 (x11 - 15)) 18), [], []⟩), (12, .oi ((x11 - 15 : Nat) : Int))] ⟨rrot_ok _ _ omm, rrot_ok _ _ omm, trivial⟩ (fun C => [isub .i64 (x11 : Int) 15 = ((x11 - 15 : Nat) : Int), (0 : Int) ≤ ((x11 - 15 : Nat) : Int) ∧ (((x11 - 15 : Nat) : Int) : Int) < 64, ndC C 4, isub .i64 (x11 : Int) 15 = ((x11 - 15 : Nat) : Int), (0 : Int) ≤ ((x11 - 15 : Nat) : Int) ∧ (((x11 - 15 : Nat) : Int) : Int) < 64, ndC C 9, isub .i64 (x11 : Int) 15 = ((x11 - 15 : Nat) : Int), (0 : Int) ≤ ((x11 - 15 : Nat) : Int) ∧ (((x11 - 15 : Nat) : Int) : Int) < 64, (0 : Int) ≤ 3]) [2, 3, 5, 7, 8, 9, 11, 12] [0, 2, 3] 4 ⟨by rw [isub64 omm omm]; omega, by omega, rfl, by rw [isub64 omm omm]; omega, by omega, rfl, by rw [isub64 omm omm]; omega, by omega, by omega, trivial⟩ hS fun hS => ?_))))
      refine sA [(1, .oi ((x11 - 2 : Nat) : Int)), (4, .call ⟨123, (c_rrot (o9_0 (x11 - 2)) 17), [], []⟩), (6, .oi ((x11 - 2 : Nat) : Int)), (9, .call ⟨123, (c_rrot (o9_0 (x11 - 2)) 19), [], []⟩), (12, .oi ((x11 - 2 : Nat) : Int))] ⟨rrot_ok _ _ omm, rrot_ok _ _ omm, trivial⟩ (fun C => [isub .i64 (x11 : Int) 2 = ((x11 - 2 : Nat) : Int), (0 : Int) ≤ ((x11 - 2 : Nat) : Int) ∧ (((x11 - 2 : Nat) : Int) : Int) < 64, ndC C 4, isub .i64 (x11 : Int) 2 = ((x11 - 2 : Nat) : Int), (0 : Int) ≤ ((x11 - 2 : Nat) : Int) ∧ (((x11 - 2 : Nat) : Int) : Int) < 64, ndC C 9, isub .i64 (x11 : Int) 2 = ((x11 - 2 : Nat) : Int), (0 : Int) ≤ ((x11 - 2 : Nat) : Int) ∧ (((x11 - 2 : Nat) : Int) : Int) < 64, (0 : Int) ≤ 10]) [2, 3, 5, 7, 8, 9, 11, 12, 13] [0, 2, 3] 4 ⟨by rw [isub64 omm omm]; omega, by omega, rfl, by rw [isub64 omm omm]; omega, by omega, rfl, by rw [isub64 omm omm]; omega, by omega, by omega, trivial⟩ hS fun hS => ?_
      refine rA [(2, .oi ((x11 - 16 : Nat) : Int)), (8, .oi ((x11 - 7 : Nat) : Int))] trivial (fun _ => [isub .i64 (x11 : Int) 16 = ((x11 - 16 : Nat) : Int), (0 : Int) ≤ ((x11 - 16 : Nat) : Int) ∧ (((x11 - 16 : Nat) : Int) : Int) < 64, isub .i64 (x11 : Int) 7 = ((x11 - 7 : Nat) : Int), (0 : Int) ≤ ((x11 - 7 : Nat) : Int) ∧ (((x11 - 7 : Nat) : Int) : Int) < 64, (0 : Int) ≤ (x11 : Int) ∧ ((x11 : Int) : Int) < 64]) [2, 3, 5, 7, 8, 9, 11] [0, 2, 3] 4 ⟨by rw [isub64 omm omm]; omega, by omega, by rw [isub64 omm omm]; omega, by omega, by omega, trivial⟩ hS fun hS => ?_
      refine block_n (then_n (rA [(1, .oi ((x11 + 1 : Nat) : Int))] trivial (fun _ => [iadd .i64 (x11 : Int) 1 = ((x11 + 1 : Nat) : Int)]) [2, 3, 5, 7, 8, 9, 11] [0, 2, 3] 4 ⟨by rw [iadd64 omm omm]; omega, trivial⟩ hS fun hS => ?_))
      refine then_n ?_
      exact next_y hg0 hS (s := (k5, x11, o9_0)) (k5 + 1, x11 + 1, upd o9_0 x11 (iadd .u32 (iadd .u32 (iadd .u32 (o9_0 (x11 - 16)) (ixor .u32 (ixor .u32 (rrot_m (o9_0 (x11 - 15)) 7) (rrot_m (o9_0 (x11 - 15)) 18)) (ishr .u32 (o9_0 (x11 - 15)) 3))) (o9_0 (x11 - 7))) (ixor .u32 (ixor .u32 (rrot_m (o9_0 (x11 - 2)) 17) (rrot_m (o9_0 (x11 - 2)) 19)) (ishr .u32 (o9_0 (x11 - 2)) 10)))) [(0, 0), (2, 2), (3, 3)] (show 64 - (x11 + 1) < 64 - x11 from by omega) ⟨(it_next (F := rsum_l5 xs k3 x8 o5_0) (st := rsum_l5_s xs k3 x8 o5_0) (fun _ => rfl) hq5 rfl), (lst_next hj5 (by rw [← hq5]; exact h5)), omm, trivial⟩
     ·have hScur := hS
      obtain rfl := lst_eq (P := fun j => rsum_l5_c xs k3 x8 o5_0 (rsum_l5 xs k3 x8 o5_0 j)) (by rw [← hq5]; first | exact h5 | exact not_not_intro h5) hj5
      obtain rfl : (rsum_l5 xs k3 x8 o5_0 (lst fun j => rsum_l5_c xs k3 x8 o5_0 (rsum_l5 xs k3 x8 o5_0 j))).1 = x11 := Eq.symm (congrArg (fun z => z.1) hq5)
      obtain rfl : (rsum_l5 xs k3 x8 o5_0 (lst fun j => rsum_l5_c xs k3 x8 o5_0 (rsum_l5 xs k3 x8 o5_0 j))).2 = o9_0 := Eq.symm (congrArg (fun z => z.2) hq5)
      have hS := hScur
      clear hScur
      refine wp_exit (then_exit (then_exit (block_exit (then_n (s0 [2, 3, 5, 7, 8, 9, 14] [0, 2, 3, 4] 5 hS fun hS => ?_)))))
      refine wp_seq (s0 [2, 3, 5, 7, 8, 9, 14, 15] [0, 2, 3, 4] 5 hS fun hS => ?_)
      refine wp_block (loop_y (ι := Nat × (Nat → Int)) hg0 hS (fun z_ => match z_ with | (x15, o14_0) => 64 - x15) (fun z_ => match z_ with | (x15, o14_0) => [(2, .v (.slice none 0 0)), (3, .cp 0 0), (5, .cp 2 0), (7, lb ((rsum_l2 xs (lst fun j => rsum_l2_c xs (rsum_l2 xs j))) ++ (rbig_m (imul .u64 ((xs.length : Nat) : Int) 8) 8))), (8, vi (x8 : Int)), (9, .cp 3 0), (14, .cp 4 0), (15, vi ((x15 : Nat) : Int))]) (fun z_ => match z_ with | (x15, o14_0) => [(0, .ob 163 (chain [.ar .u64 80 rrounds_m])), (2, .ob 167 (chain [.ar .u32 8 o5_0])), (3, .ob 168 (chain [.ar .u32 64 ((rsum_l5 xs k3 x8 o5_0 (lst fun j => rsum_l5_c xs k3 x8 o5_0 (rsum_l5 xs k3 x8 o5_0 j))).2)])), (4, .ob 167 (chain [.ar .u32 8 o14_0]))]) (fun z_ => match z_ with | (x15, o14_0) => (x15 ≤ 64) ∧ (o14_0 = rsum_l6 xs k3 x8 o5_0 x15) ∧ True) 5 (0, o5_0) [(0, 0), (2, 2), (3, 3), (4, 4)] ⟨omm, rfl, trivial⟩ ?_)
      rintro ⟨x15, o14_0⟩ ac gs ws ⟨hx15, hq6, _⟩ hS
      refine wp_seq (s0 [2, 3, 5, 7, 8, 9, 14, 15, 135] [0, 2, 3, 4] 5 hS fun hS => ?_)
      refine if_d ((x15 : Int) < 64) hS (fun h6 => ?_) (fun h6 => ?_)
      ·refine wp_skip (then_n (wp_seq (wp_block (sA [] trivial (fun _ => [(0 : Int) ≤ 4 ∧ (4 : Int) < 8]) [2, 3, 5, 7, 8, 9, 14, 15, 16] [0, 2, 3, 4] 5 ⟨by omega, trivial⟩ hS fun hS => ?_))))
       refine sA [] trivial (fun _ => [(0 : Int) ≤ 0 ∧ (0 : Int) < 8]) [2, 3, 5, 7, 8, 9, 14, 15, 16, 17] [0, 2, 3, 4] 5 ⟨by omega, trivial⟩ hS fun hS => ?_
       refine sA [(3, .call ⟨123, (c_rrot (o14_0 4) 6), [], []⟩), (5, .call ⟨123, (c_rrot (o14_0 4) 11), [], []⟩), (8, .call ⟨123, (c_rrot (o14_0 4) 25), [], []⟩)] ⟨rrot_ok _ _ omm, rrot_ok _ _ omm, rrot_ok _ _ omm, trivial⟩ (fun C => [(0 : Int) ≤ 7 ∧ (7 : Int) < 8, ndC C 3, ndC C 5, ndC C 8, (0 : Int) ≤ 5 ∧ (5 : Int) < 8, (0 : Int) ≤ 6 ∧ (6 : Int) < 8, (0 : Int) ≤ (x15 : Int) ∧ ((x15 : Int) : Int) < 80, (0 : Int) ≤ 32, (0 : Int) ≤ (x15 : Int) ∧ ((x15 : Int) : Int) < 64]) [2, 3, 5, 7, 8, 9, 14, 15, 17, 18] [0, 2, 3, 4] 5 ⟨by omega, rfl, rfl, rfl, by omega, by omega, by omega, by omega, by omega, trivial⟩ hS fun hS => ?_
       refine sA [(1, .call ⟨123, (c_rrot (o14_0 0) 2), [], []⟩), (3, .call ⟨123, (c_rrot (o14_0 0) 13), [], []⟩), (6, .call ⟨123, (c_rrot (o14_0 0) 22), [], []⟩)] ⟨rrot_ok _ _ omm, rrot_ok _ _ omm, rrot_ok _ _ omm, trivial⟩ (fun C => [ndC C 1, ndC C 3, ndC C 6, (0 : Int) ≤ 1 ∧ (1 : Int) < 8, (0 : Int) ≤ 2 ∧ (2 : Int) < 8, (0 : Int) ≤ 1 ∧ (1 : Int) < 8, (0 : Int) ≤ 2 ∧ (2 : Int) < 8]) [2, 3, 5, 7, 8, 9, 14, 15, 18, 19] [0, 2, 3, 4] 5 ⟨rfl, rfl, rfl, by omega, by omega, by omega, by omega, trivial⟩ hS fun hS => ?_
       refine rA [] trivial (fun _ => [(0 : Int) ≤ 0 ∧ (0 : Int) < 8, (0 : Int) ≤ 1 ∧ (1 : Int) < 8, (0 : Int) ≤ 2 ∧ (2 : Int) < 8, (0 : Int) ≤ 3 ∧ (3 : Int) < 8, (0 : Int) ≤ 4 ∧ (4 : Int) < 8, (0 : Int) ≤ 5 ∧ (5 : Int) < 8, (0 : Int) ≤ 6 ∧ (6 : Int) < 8]) [2, 3, 5, 7, 8, 9, 14, 15] [0, 2, 3, 4] 5 ⟨by omega, by omega, by omega, by omega, by omega, by omega, by omega, trivial⟩ hS fun hS => ?_
       refine block_n (then_n (rA [(1, .oi ((x15 + 1 : Nat) : Int))] trivial (fun _ => [iadd .i64 (x15 : Int) 1 = ((x15 + 1 : Nat) : Int)]) [2, 3, 5, 7, 8, 9, 14, 15] [0, 2, 3, 4] 5 ⟨by rw [iadd64 omm omm]; omega, trivial⟩ hS fun hS => ?_))
       refine then_n ?_
       exact next_y hg0 hS (s := (x15, o14_0)) (x15 + 1, upd (upd (upd (upd (upd (upd (upd (upd (fun _ => 0) 0 (iadd .u32 (iadd .u32 (iadd .u32 (iadd .u32 (iadd .u32 (o14_0 7) (ixor .u32 (ixor .u32 (rrot_m (o14_0 4) 6) (rrot_m (o14_0 4) 11)) (rrot_m (o14_0 4) 25))) (ixor .u32 (iand .u32 (o14_0 4) (o14_0 5)) (iand .u32 (inot .u32 (o14_0 4)) (o14_0 6)))) (IntKind.wrap .u32 (ishr .u64 (rrounds_m x15) 32))) (((rsum_l5 xs k3 x8 o5_0 (lst fun j => rsum_l5_c xs k3 x8 o5_0 (rsum_l5 xs k3 x8 o5_0 j))).2) x15)) (iadd .u32 (ixor .u32 (ixor .u32 (rrot_m (o14_0 0) 2) (rrot_m (o14_0 0) 13)) (rrot_m (o14_0 0) 22)) (ixor .u32 (ixor .u32 (iand .u32 (o14_0 0) (o14_0 1)) (iand .u32 (o14_0 0) (o14_0 2))) (iand .u32 (o14_0 1) (o14_0 2)))))) 1 (o14_0 0)) 2 (o14_0 1)) 3 (o14_0 2)) 4 (iadd .u32 (o14_0 3) (iadd .u32 (iadd .u32 (iadd .u32 (iadd .u32 (o14_0 7) (ixor .u32 (ixor .u32 (rrot_m (o14_0 4) 6) (rrot_m (o14_0 4) 11)) (rrot_m (o14_0 4) 25))) (ixor .u32 (iand .u32 (o14_0 4) (o14_0 5)) (iand .u32 (inot .u32 (o14_0 4)) (o14_0 6)))) (IntKind.wrap .u32 (ishr .u64 (rrounds_m x15) 32))) (((rsum_l5 xs k3 x8 o5_0 (lst fun j => rsum_l5_c xs k3 x8 o5_0 (rsum_l5 xs k3 x8 o5_0 j))).2) x15)))) 5 (o14_0 4)) 6 (o14_0 5)) 7 (o14_0 6)) [(0, 0), (2, 2), (3, 3), (4, 4)] (show 64 - (x15 + 1) < 64 - x15 from by omega) ⟨omm, (it_next (F := rsum_l6 xs k3 x8 o5_0) (st := rsum_l6_s xs k3 x8 o5_0) (fun _ => rfl) hq6 rfl), trivial⟩
      ·have hScur := hS
       obtain rfl : 64 = x15 := by omega
       obtain rfl : rsum_l6 xs k3 x8 o5_0 64 = o14_0 := Eq.symm (congrArg (fun z => z) hq6)
       have hS := hScur
       clear hScur
       refine wp_exit (then_exit (then_exit (block_exit (then_n (s0 [2, 3, 5, 7, 8, 14, 20] [0, 2, 4] 5 hS fun hS => ?_)))))
       refine wp_block (loop_y (ι := Nat × (Nat → Int)) hg0 hS (fun z_ => match z_ with | (x20, o5_0_7) => 8 - x20) (fun z_ => match z_ with | (x20, o5_0_7) => [(2, .v (.slice none 0 0)), (3, .cp 0 0), (5, .cp 2 0), (7, lb ((rsum_l2 xs (lst fun j => rsum_l2_c xs (rsum_l2 xs j))) ++ (rbig_m (imul .u64 ((xs.length : Nat) : Int) 8) 8))), (8, vi (x8 : Int)), (14, .cp 4 0), (20, vi ((x20 : Nat) : Int))]) (fun z_ => match z_ with | (x20, o5_0_7) => [(0, .ob 163 (chain [.ar .u64 80 rrounds_m])), (2, .ob 167 (chain [.ar .u32 8 o5_0_7])), (4, .ob 167 (chain [.ar .u32 8 (rsum_l6 xs k3 x8 o5_0 64)]))]) (fun z_ => match z_ with | (x20, o5_0_7) => (x20 ≤ 8) ∧ (o5_0_7 = rsum_l7 xs k3 x8 o5_0 x20) ∧ True) 5 (0, o5_0) [(0, 0), (2, 2), (4, 4)] ⟨omm, rfl, trivial⟩ ?_)
       rintro ⟨x20, o5_0_7⟩ ac gs ws ⟨hx20, hq7, _⟩ hS
       refine wp_seq (s0 [2, 3, 5, 7, 8, 14, 20, 219] [0, 2, 4] 5 hS fun hS => ?_)
       refine if_d ((x20 : Int) < 8) hS (fun h7 => ?_) (fun h7 => ?_)
       ·refine wp_skip (then_n (wp_seq (wp_block (rA [] trivial (fun _ => [(0 : Int) ≤ (x20 : Int) ∧ ((x20 : Int) : Int) < 8, (0 : Int) ≤ (x20 : Int) ∧ ((x20 : Int) : Int) < 8, (0 : Int) ≤ (x20 : Int) ∧ ((x20 : Int) : Int) < 8]) [2, 3, 5, 7, 8, 14, 20] [0, 2, 4] 5 ⟨by omega, by omega, by omega, trivial⟩ hS fun hS => ?_))))
        refine block_n (then_n (rA [(1, .oi ((x20 + 1 : Nat) : Int))] trivial (fun _ => [iadd .i64 (x20 : Int) 1 = ((x20 + 1 : Nat) : Int)]) [2, 3, 5, 7, 8, 14, 20] [0, 2, 4] 5 ⟨by rw [iadd64 omm omm]; omega, trivial⟩ hS fun hS => ?_))
        refine then_n ?_
        exact next_y hg0 hS (s := (x20, o5_0_7)) (x20 + 1, upd o5_0_7 x20 (iadd .u32 (o5_0_7 x20) ((rsum_l6 xs k3 x8 o5_0 64) x20))) [(0, 0), (2, 2), (4, 4)] (show 8 - (x20 + 1) < 8 - x20 from by omega) ⟨omm, (it_next (F := rsum_l7 xs k3 x8 o5_0) (st := rsum_l7_s xs k3 x8 o5_0) (fun _ => rfl) hq7 rfl), trivial⟩
       ·have hScur := hS
        obtain rfl : 8 = x20 := by omega
        obtain rfl : rsum_l7 xs k3 x8 o5_0 8 = o5_0_7 := Eq.symm (congrArg (fun z => z) hq7)
        have hS := hScur
        clear hScur
        refine wp_exit (then_exit (then_exit (block_exit (block_n (then_n (rA [(1, .oi ((x8 + 64 : Nat) : Int))] trivial (fun _ => [iadd .i64 (x8 : Int) 64 = ((x8 + 64 : Nat) : Int)]) [2, 3, 5, 7, 8] [0, 2] 5 ⟨by rw [iadd64 omm omm]; omega, trivial⟩ hS fun hS => ?_))))))
        refine then_n ?_
        exact next_y hg0 hS (s := (k3, x8, o5_0)) (k3 + 1, x8 + 64, rsum_l7 xs k3 x8 o5_0 8) [(0, 0), (2, 2)] (show ((rsum_l2 xs (lst fun j => rsum_l2_c xs (rsum_l2 xs j))) ++ (rbig_m (imul .u64 ((xs.length : Nat) : Int) 8) 8)).length - (x8 + 64) < ((rsum_l2 xs (lst fun j => rsum_l2_c xs (rsum_l2 xs j))) ++ (rbig_m (imul .u64 ((xs.length : Nat) : Int) 8) 8)).length - x8 from by omega) ⟨(it_next (F := rsum_l3 xs) (st := rsum_l3_s xs) (fun _ => rfl) hq3 rfl), (lst_next hj3 (by rw [← hq3]; exact h3)), omm, trivial⟩
   ·have hScur := hS
    obtain rfl := lst_eq (P := fun j => rsum_l3_c xs (rsum_l3 xs j)) (by rw [← hq3]; first | exact h3 | exact not_not_intro h3) hj3
    obtain rfl : (rsum_l3 xs (lst fun j => rsum_l3_c xs (rsum_l3 xs j))).1 = x8 := Eq.symm (congrArg (fun z => z.1) hq3)
    obtain rfl : (rsum_l3 xs (lst fun j => rsum_l3_c xs (rsum_l3 xs j))).2 = o5_0 := Eq.symm (congrArg (fun z => z.2) hq3)
    have hS := hScur
    clear hScur
    refine wp_exit (then_exit (then_exit (block_exit (then_n (s0 [2, 5, 21] [2] 3 hS fun hS => ?_)))))
    refine wp_seq (s0 [2, 5, 21, 22] [2] 3 hS fun hS => ?_)
    refine wp_block ?_
    obtain ⟨gs, hS⟩ := hS.nilk 21 5 [.int .u8]
    refine loop_y (ι := Nat × (List Int)) hg0 hS (fun z_ => match z_ with | (x22, x21) => 8 - x22) (fun z_ => match z_ with | (x22, x21) => [(2, .v (.slice none 0 0)), (5, .cp 2 0), (21, .sk 3), (22, vi ((x22 : Nat) : Int))]) (fun z_ => match z_ with | (x22, x21) => [(2, .ob 167 (chain [.ar .u32 8 ((rsum_l3 xs (lst fun j => rsum_l3_c xs (rsum_l3 xs j))).2)])), (3, .sl 5 [.int .u8] x21)]) (fun z_ => match z_ with | (x22, x21) => (x22 ≤ 8) ∧ (x21 = rsum_l8 xs x22) ∧ (x21.length = 4 * x22) ∧ True) 4 (0, []) [(2, 2), (3, 3)] ⟨omm, rfl, rfl, trivial⟩ ?_
    rintro ⟨x22, x21⟩ ac gs ws ⟨hx22, hq8, p4, _⟩ hS
    refine wp_seq (s0 [2, 5, 21, 22, 232] [2, 3] 4 hS fun hS => ?_)
    refine if_d ((x22 : Int) < 8) hS (fun h8 => ?_) (fun h8 => ?_)
    ·refine wp_skip (then_n (wp_seq (wp_block (rA [(5, .call ⟨53, (c_rbig (IntKind.wrap .u64 (((rsum_l3 xs (lst fun j => rsum_l3_c xs (rsum_l3 xs j))).2) x22)) 4), [], [(0, 4)]⟩)] ⟨rbig_ok _ _ omm, trivial⟩ (fun C => [(0 : Int) ≤ (x22 : Int) ∧ ((x22 : Int) : Int) < 8, ndC C 5, x21.length + (rbig_m (IntKind.wrap .u64 (((rsum_l3 xs (lst fun j => rsum_l3_c xs (rsum_l3 xs j))).2) x22)) 4).length ≤ 9223372036854775807, (x21.length + (rbig_m (IntKind.wrap .u64 (((rsum_l3 xs (lst fun j => rsum_l3_c xs (rsum_l3 xs j))).2) x22)) 4).length) * 1 ≤ 140737488355328]) [2, 5, 21, 22] [2, 5] 6 ⟨by omega, rfl, by simp <;> omega, by simp <;> omega, trivial⟩ hS fun hS => ?_))))
     refine block_n (then_n (rA [(1, .oi ((x22 + 1 : Nat) : Int))] trivial (fun _ => [iadd .i64 (x22 : Int) 1 = ((x22 + 1 : Nat) : Int)]) [2, 5, 21, 22] [2, 5] 6 ⟨by rw [iadd64 omm omm]; omega, trivial⟩ hS fun hS => ?_))
     refine then_n ?_
     exact next_y hg0 hS (s := (x22, x21)) (x22 + 1, x21 ++ (rbig_m (IntKind.wrap .u64 (((rsum_l3 xs (lst fun j => rsum_l3_c xs (rsum_l3 xs j))).2) x22)) 4)) [(2, 2), (3, 5)] (show 8 - (x22 + 1) < 8 - x22 from by omega) ⟨omm, (it_next (F := rsum_l8 xs) (st := rsum_l8_s xs) (fun _ => rfl) hq8 rfl), (by rw [List.length_append, rbig_len]; omega), trivial⟩
    ·have hScur := hS
     obtain rfl : 8 = x22 := by omega
     obtain rfl : rsum_l8 xs 8 = x21 := Eq.symm (congrArg (fun z => z) hq8)
     have hS := hScur
     clear hScur
     refine wp_exit (then_exit (then_exit (block_exit (then_n (s0 [2] [3] 4 hS fun hS => ?_)))))
     refine wp_ret ?_
     have hM : rsum_m xs = rsum_l8 xs 8 := rsum_e xs
     obtain ⟨gs, hS⟩ := hS.rn [(0, 3)] [(2, .sk 0)] [(0, .sl 5 [.int .u8] (rsum_l8 xs 8))] 1 hg0
     exact fin_y rfl (.inr rfl) hS [.sk 0] [(0, some (.sl 5 [.int .u8] (rsum_l8 xs 8)))] rfl (by show H1Ok _ [(0, .sl 5 [.int .u8] (rsum_m xs))] true; rw [hM]; first | (simp only []; exact ⟨rfl, trivial⟩) | exact ⟨rfl, trivial⟩)

@[simp] theorem rsum_len (xs : List Int) : (rsum_m xs).length = 32 := by
 have key : ∀ i, (rsum_l8 xs i).length = 4 * i := by
  intro i
  induction i with
  | zero => rfl
  | succ i ih =>
   show (_ ++ rbig_m _ _).length = _
   rw [List.length_append, rbig_len, ih]; omega
 rw [rsum_e]
 exact key 8
end
end Go.Sx.Try
namespace Go.Sx.Try
open Go.Mi Go.RowKit Go.Sx Go.Proofs
noncomputable section
@[simp] theorem rfill_len (xs : List Int) (n : Nat) (h : xs.length ≤ n) : (rfill_m xs n).length = n := by
 rw [rfill_e]; unfold rfill_v
 rw [List.length_append, List.length_take, List.length_drop, List.length_replicate]; omega
def c_rcatf (l : List (List Int)) : Con := ⟨[.ls false [.sl (.int .u8)] l], [], lb (rcat_m l), []⟩
theorem rcatf_ok (l : List (List Int)) (hn : l.length ≤ 1000) (hm : ∀ j, (l.getD j (rz [.sl (.int .u8)])).length ≤ 1000) : ConOk Try.prog 26 (c_rcatf l) := ConOk.frz [] 0 5 [.int .u8] (rcat_m l) (rcat_ok l hn hm) (by kernel_rfl)
def c_rsumf (xs : List Int) : Con := ⟨[lb xs], [], lb (rsum_m xs), []⟩
theorem rsumf_ok (xs : List Int) (hx : xs.length ≤ 1000000) : ConOk Try.prog 106 (c_rsumf xs) := ConOk.frz [] 0 5 [.int .u8] (rsum_m xs) (rsum_ok xs hx) (by kernel_rfl)
def rmac_l1_s (k xs : List Int) (x8 : Nat) : ((List Int) × (List Int)) → ((List Int) × (List Int)) := fun z_ => match z_ with | (x6, x7) => (x6.set x8 (ixor .u8 ((rfill_m k 64).getD x8 0) 54), x7.set x8 (ixor .u8 ((rfill_m k 64).getD x8 0) 92))
def rmac_l1 (k xs : List Int) : Nat → (List Int) × (List Int)
 | 0 => (List.replicate 64 (0 : Int), List.replicate 64 (0 : Int))
 | x8 + 1 => rmac_l1_s k xs x8 (rmac_l1 k xs x8)
def rmac_v (k xs : List Int) : (List Int) := rsum_m (rcat_m [(rmac_l1 k xs 64).2, rsum_m (rcat_m [(rmac_l1 k xs 64).1, xs])])
def rmac_m (k xs : List Int) : (List Int) := shut (rmac_v k xs)
theorem rmac_e (k xs : List Int) : rmac_m k xs = rmac_v k xs := shut_eq _
@[simp] theorem rmac_len (k xs : List Int) : (rmac_m k xs).length = 32 := by rw [rmac_e]; exact rsum_len ..
def c_rmac (k xs : List Int) : Con := ⟨[lb k, lb xs], [], lb (rmac_m k xs), []⟩
theorem rmac_ok (k xs : List Int) (hk : k.length ≤ 64) (hx : xs.length ≤ 900) : ConOk Try.prog 88 (c_rmac k xs) := by
 refine conOk_of rfl (nb := 0) Try.func88 rfl rfl Try.ntmps88 rfl rfl rfl fun g0 w0 ac gs ws hg0 hS => ?_
 have hlen0 : k.length ≤ 9223372036854775807 := hS.len 0 rfl
 have hlen1 : xs.length ≤ 9223372036854775807 := hS.len 1 rfl
 have hS := hS.sp
 have hk1 : ¬ (64 : Int) < ((k.length : Nat) : Int) := omm
 refine s0 [0, 1, 4] [] 0 hS fun hS => ?_
 refine wp_seq (sA [(2, .ob false)] trivial (fun _ => [(decide ((64 : Int) < ((k.length : Nat) : Int))) = false]) [0, 1, 4, 11] [] 0 ⟨decide_eq_false hk1, trivial⟩ hS fun hS => ?_)
 refine cond_f hS ?_
 refine wp_skip (then_n (sA [(1, .call ⟨107, (c_rfill k 64), [], [(0, 0)]⟩)] ⟨rfill_ok _ _ omm, trivial⟩ (fun C => [ndC C 1]) [1, 4, 5] [0] 1 ⟨rfl, trivial⟩ hS fun hS => ?_))
 refine sA [] trivial (fun _ => [(64 : Int) = 64, (0 : Int) ≤ 64, 1 * 64 ≤ 281474976710656, (64 : Int) ≤ 9223372036854775807]) [1, 4, 5, 6] [0, 1] 2 ⟨rfl, by omega, by omega, by omega, trivial⟩ hS fun hS => ?_
 refine sA [] trivial (fun _ => [(64 : Int) = 64, (0 : Int) ≤ 64, 1 * 64 ≤ 281474976710656, (64 : Int) ≤ 9223372036854775807]) [1, 4, 5, 6, 7] [0, 1, 2] 3 ⟨rfl, by omega, by omega, by omega, trivial⟩ hS fun hS => ?_
 refine wp_seq (s0 [1, 4, 5, 6, 7, 8] [0, 1, 2] 3 hS fun hS => ?_)
 refine wp_block (loop_y (ι := Nat × (List Int) × (List Int)) hg0 hS (fun z_ => match z_ with | (x8, x6, x7) => 64 - x8) (fun z_ => match z_ with | (x8, x6, x7) => [(1, lb xs), (4, .v (.slice none 0 0)), (5, .sk 0), (6, .sk 1), (7, .sk 2), (8, vi ((x8 : Nat) : Int))]) (fun z_ => match z_ with | (x8, x6, x7) => [(0, .sl 5 [.int .u8] (rfill_m k 64)), (1, .sl 5 [.int .u8] x6), (2, .sl 5 [.int .u8] x7)]) (fun z_ => match z_ with | (x8, x6, x7) => (x8 ≤ 64) ∧ ((x6, x7) = rmac_l1 k xs x8) ∧ (x6.length = 64 ∧ x7.length = 64) ∧ True) 3 (0, List.replicate 64 (0 : Int), List.replicate 64 (0 : Int)) [(0, 0), (1, 1), (2, 2)] ⟨omm, rfl, (by simp), trivial⟩ ?_)
 rintro ⟨x8, x6, x7⟩ ac gs ws ⟨hx8, hq1, p1, _⟩ hS
 refine wp_seq (s0 [1, 4, 5, 6, 7, 8, 19] [0, 1, 2] 3 hS fun hS => ?_)
 refine if_d ((x8 : Int) < 64) hS (fun h1 => ?_) (fun h1 => ?_)
 ·refine wp_skip (then_n (wp_seq (wp_block (wp_seq ?_))))
  have hfl := rfill_len k 64 hk
  refine rA [] trivial (fun _ => [(0 : Int) ≤ (x8 : Int) ∧ (x8 : Int) < (((rfill_m k 64).length : Nat) : Int), (0 : Int) ≤ (x8 : Int) ∧ (x8 : Int) < ((x6.length : Nat) : Int)]) [1, 4, 5, 6, 7, 8] [0, 1, 2] 3 ⟨by omega, by omega, trivial⟩ hS fun hS => ?_
  refine then_n ?_
  have hfl := rfill_len k 64 hk
  refine rA [] trivial (fun _ => [(0 : Int) ≤ (x8 : Int) ∧ (x8 : Int) < (((rfill_m k 64).length : Nat) : Int), (0 : Int) ≤ (x8 : Int) ∧ (x8 : Int) < ((x7.length : Nat) : Int)]) [1, 4, 5, 6, 7, 8] [0, 1, 2] 3 ⟨by omega, by omega, trivial⟩ hS fun hS => ?_
  refine block_n (then_n (rA [(1, .oi ((x8 + 1 : Nat) : Int))] trivial (fun _ => [iadd .i64 (x8 : Int) 1 = ((x8 + 1 : Nat) : Int)]) [1, 4, 5, 6, 7, 8] [0, 1, 2] 3 ⟨by rw [iadd64 omm omm]; omega, trivial⟩ hS fun hS => ?_))
  refine then_n ?_
  exact next_y hg0 hS (s := (x8, x6, x7)) (x8 + 1, x6.set x8 (ixor .u8 ((rfill_m k 64).getD x8 0) 54), x7.set x8 (ixor .u8 ((rfill_m k 64).getD x8 0) 92)) [(0, 0), (1, 1), (2, 2)] (show 64 - (x8 + 1) < 64 - x8 from by omega) ⟨omm, (it_next (F := rmac_l1 k xs) (st := rmac_l1_s k xs) (fun _ => rfl) hq1 rfl), (by rw [List.length_set, List.length_set]; exact p1), trivial⟩
 ·have hScur := hS
  obtain rfl : 64 = x8 := by omega
  obtain rfl : (rmac_l1 k xs 64).1 = x6 := Eq.symm (congrArg (fun z => z.1) hq1)
  obtain rfl : (rmac_l1 k xs 64).2 = x7 := Eq.symm (congrArg (fun z => z.2) hq1)
  have hS := hScur
  clear hScur
  refine wp_exit (then_exit (then_exit (block_exit (then_n (wp_seq ?_)))))
  obtain ⟨gs, hS⟩ := hS.fz 1
  obtain ⟨gs, hS⟩ := hS.fz 2
  refine rA [(4, .call ⟨26, (c_rcatf [(rmac_l1 k xs 64).1, xs]), [], []⟩), (5, .call ⟨106, (c_rsumf (rcat_m [(rmac_l1 k xs 64).1, xs])), [], []⟩), (7, .call ⟨26, (c_rcatf [(rmac_l1 k xs 64).2, rsum_m (rcat_m [(rmac_l1 k xs 64).1, xs])]), [], []⟩), (8, .call ⟨106, (c_rsumf (rcat_m [(rmac_l1 k xs 64).2, rsum_m (rcat_m [(rmac_l1 k xs 64).1, xs])])), [], []⟩)] ⟨rcatf_ok _ lnn (fm_getD (by repeat (first | exact fm_nil | (apply fm_cons; focus (first | omega | (simp <;> omega)))))), rsumf_ok _ lnn, rcatf_ok _ lnn (fm_getD (by repeat (first | exact fm_nil | (apply fm_cons; focus (first | omega | (simp <;> omega)))))), rsumf_ok _ lnn, trivial⟩ (fun C => [ndC C 4, ndC C 5, ndC C 7, ndC C 8]) [4] [] 3 ⟨rfl, rfl, rfl, rfl, trivial⟩ hS fun hS => ?_
  refine then_n (wp_ret ?_)
  have hM : rmac_m k xs = rsum_m (rcat_m [(rmac_l1 k xs 64).2, rsum_m (rcat_m [(rmac_l1 k xs 64).1, xs])]) := rmac_e k xs
  exact fin_y rfl (.inr rfl) hS [lb (rsum_m (rcat_m [(rmac_l1 k xs 64).2, rsum_m (rcat_m [(rmac_l1 k xs 64).1, xs])]))] [] (by show weak _ (lb (rmac_m k xs)) = (lb (rmac_m k xs)); rw [hM]; first | (simp only []; rfl) | (simp only []; done) | rfl) trivial

end
end Go.Sx.Try
namespace Go.Sx.Try
open Go.Mi Go.RowKit Go.Sx Go.Proofs Go.Shelf
attribute [local go_sem] Oper.semAt_some
def pcV (b o len sz j : Nat) : Value := .slice (some ⟨b, o + j * sz, none⟩) (min sz (len - j * sz)) (min sz (len - j * sz))
def Kp2 (Bs Bn : Nat) (A B : World) : Prop := (∀ v, A.cell? ⟨Bs, 0, none⟩ = some v → B.cell? ⟨Bs, 0, none⟩ = some v) ∧ ∀ v, A.cell? ⟨Bn, 0, none⟩ = some v → B.cell? ⟨Bn, 0, none⟩ = some v
set_option maxRecDepth 100000 in
set_option maxHeartbeats 4000000 in
theorem chunk1_in (n l Bs Bn b o len cap sz K : Nat) (hn : 1 ≤ n) (h1 : 1 ≤ sz) (hsz : sz ≤ 1000000) (hl : len ≤ 1000000) (hlc : len ≤ cap) (hc63 : cap ≤ 9223372036854775807) (hK : ∀ k, k < K ↔ k * sz < len) (J Jx : List Nat → World → Prop)
  (hY : ∀ pre x W, J pre W → pre.length < K → YieldAt Fence.wide (n - 1) Try.prog l #[pcV b o len sz x] W fun e W' =>
   (e = .returned (.bool true) ∧ J (pre ++ [x]) W' ∧ Kp2 Bs Bn W W') ∨ (e = .returned (.bool false) ∧ Jx (pre ++ [x]) W'))
  (W : World) (hBs : W.cell? ⟨Bs, 0, none⟩ = some (.slice (some ⟨b, o, none⟩) len cap)) (hBn : W.cell? ⟨Bn, 0, none⟩ = some (.int .i64 sz)) (h0 : J [] W) (hJ : ∀ s A, J s A → J s A.drew) :
  CallsIn Fence.wide n Try.prog 104 #[.func (.yield l) #[] #[], .pointer (some ⟨Bs, 0, none⟩), .pointer (some ⟨Bn, 0, none⟩)] W fun e W' => (∃ v, e = .returned v) ∧ ((J (List.range K) W') ∨ (∃ pre, Jx pre W')) := by
 have mixed := mo
 refine callsIn_of_wp Try.func104 rfl trivial ?_ rfl
 simp only [Try.ntmps104, List.size_toArray, List.length_cons, List.length_nil, Nat.reduceAdd, Nat.reduceSub, Array.replicate_succ, Array.replicate_zero, List.push_toArray, List.append_toArray, List.nil_append, List.cons_append]
 gi_wp2
 gi_loopw [4] (fun i wr => ∃ k q : Nat, k ≤ K ∧ q = k * sz ∧ q ≤ len + sz ∧ i = .int .i64 q ∧ J (List.range k) wr ∧ Kp2 Bs Bn W wr)
  (fun i _ => len - (intOf i).toNat)
 case atStart => exact ⟨0, 0, Nat.zero_le _, by simp, by omega, by simp, h0, fun _ h => h, fun _ h => h⟩
 case round =>
  obtain ⟨k, q, hk, hq, hql, rfl, hJs, hnx⟩ := hrel
  have hcs := hnx.1 _ hBs
  have hcn := hnx.2 _ hBn
  by_cases hlt : q < len
  ·have hkK : k < K := (hK k).2 (hq ▸ hlt)
   have hcs1 : wr.drew.cell? ⟨Bs, 0, none⟩ = some (.slice (some ⟨b, o, none⟩) len cap) := hcs
   have hcn1 : wr.drew.cell? ⟨Bn, 0, none⟩ = some (.int .i64 sz) := hcn
   obtain ⟨fn, tmps, assign, body, hy, hR⟩ := hY _ k wr.drew (hJ _ _ hJs) (by rw [List.length_range]; exact hkK)
   unfold pcV at hy
   rw [← hq] at hy
   have HQ : Hid (q = k * sz) := hq
   have HY : Hid (∀ m, m = min sz (len - q) → (Instr.yield l #[.slice (some ⟨b, o + q, none⟩) m m]).run Try.prog wr.drew = .ok (.round l fn tmps assign body) wr.drew) := fun m h => by rw [h]; exact hy
   clear hq hy hJs
   gi_wp2
   first | gi_region | gi_region_o
   gi_wp2
   all_goals (rw [HY.out _ (by omega)])
   all_goals gi_wp2
   all_goals refine hR.mono ?_
   all_goals rintro e W3 (⟨rfl, hJ3, hk3⟩ | ⟨rfl, hJx3⟩)
   case' inl.inl => have hcn3 := hk3.2 _ hcn1
   case' inr.inl => have hcn3 := hk3.2 _ hcn1
   case inl.inr =>
    gi_wp2
    refine bodyPost_ret (results_none rfl _ _ _) rfl ?_
    exact ⟨⟨_, rfl⟩, .inr ⟨_, hJx3⟩⟩
   case inr.inr =>
    gi_wp2
    refine bodyPost_ret (results_none rfl _ _ _) rfl ?_
    exact ⟨⟨_, rfl⟩, .inr ⟨_, hJx3⟩⟩
   all_goals gi_wp2
   all_goals go_roundw
   all_goals first
    | exact ⟨k + 1, q + sz, by omega, by rw [HQ.out, Nat.succ_mul], by omega, by simp, by rw [List.range_succ]; exact hJ3, ⟨fun v h => hk3.1 _ (hnx.1 _ h), fun v h => hk3.2 _ (hnx.2 _ h)⟩⟩
    | (simp [intOf]; omega)
  ·have hKk : k = K := by
    rcases Nat.lt_or_ge k K with h | h
    ·exact absurd (hq ▸ (hK k).1 h) hlt
    ·omega
   subst hKk
   have HQ : Hid (q = k * sz) := hq
   clear hq
   gi_wp2
   go_end0
   exact ⟨⟨_, rfl⟩, .inl hJs⟩
theorem Kp2.t {Bs Bn : Nat} {A B C : World} (h : Kp2 Bs Bn A B) (k : Kp2 Bs Bn B C) : Kp2 Bs Bn A C := ⟨fun v x => k.1 v (h.1 v x), fun v x => k.2 v (h.2 v x)⟩
theorem cell_put {W : World} {b l : Nat} {o o' : Obj} {v : Value} (h1 : W.heap[l]? = some o) (h2 : o.isCells = false) (h : W.cell? ⟨b, 0, none⟩ = some v) : (W.putObj l o').cell? ⟨b, 0, none⟩ = some v := by
 obtain ⟨q, k1, k2⟩ := cells_of_cell h
 rw [← h]
 refine World.cell?_of_block (World.putObj_heap_other fun e => ?_)
 subst e
 rw [h1] at k1; cases k1; rw [h2] at k2; cases k2
section
variable {n : Nat} {S0 : Nat → Prop} {g0 g : G} {w0 w : World} {a : Act} {Q : Exit → Act → World → Prop}
def itD (xs : List Int) (sz : Nat) : D := .fn 104 .nil (chain [.im (chain [.ls false [.int .u8] xs]) 0, .im (chain [.v (.int .i64 ((sz : Nat) : Int))]) 0])
theorem range_chunk {L : DL} {nb t x y i1 i2 bk m K : Nat} {ops : List Oper} {ty : TypeId} {pos : String} {af : Array Edge} {ks0 : List Nat} (xs : List Int) (sz : Nat) (h1 : 1 ≤ sz) (hsz : sz ≤ 1000000) (hlen : xs.length ≤ 1000000) (hK : ∀ k, k < K ↔ k * sz < xs.length)
  (hD : Dfr.ds = ([] : List Deferred)) (hg0 : ∀ k v, g0.N k = some v → k ∈ ks0) (Hi : List Nat → Hc) (hS : St n S0 g0 w0 L (hpC (Hi [])) nb a g w) (hx : Nat.blt x n = true) (hy : Nat.blt y n = true) (hL : (keys L).all (fun u => !(Nat.beq u x || Nat.beq u y)) = true) (ht : lkD L t = some (itD xs sz)) (hn0 : xs ≠ [])
  (hbody : ∀ (r : Nat) (pre : List Nat) (z : Nat) g1 W a1, pre.length < K → St n (footH (hpC (Hi pre)) g1) g1 W ((y, .ls false [.int .u8] ((xs.drop (z * sz)).take sz)) :: L) (hpC (Hi pre)) nb a1 g1 W → (Code.region i2 ops.toArray false).wpIn (Fence.wide.inRound r) (m + 1 - 1 - 1) Try.prog (Exit.inBlock bk (RndQ n (footH (hpC (Hi pre)) g1) g1 W ks0 L (Hi (pre ++ [z])) nb)) a1 W)
  (hdone : ∀ (D : Dfr) (Dk : Nat) a' g1 W, D.ds = [⟨.collected Dk, #[]⟩] → w0.heap.size ≤ Dk → W.heap[Dk]? = some (.deferred (some [])) → HS (lkH (hpC (Hi (List.range K)))) g1 W → Base (footH (hpC (Hi (List.range K))) g1) g1 W S0 g0 w0 → @SS D n (footH (hpC (Hi (List.range K))) g1) g1 W (lkD L) (lkH (hpC (Hi (List.range K)))) (· < nb) a' g1 W → Q .normal a' W) (hm : 1 ≤ m) :
  (Code.rangeFunc (.tmp t) #[x] (Code.region i1 #[⟨some y, .assign (.tmp x), ty, pos, af, none⟩] false) (Code.block bk (Code.region i2 ops.toArray false))).wp Try.prog Q a w := by
 obtain ⟨va, vb, ha, hb, hv⟩ := hS.fr t _ ht
 have ha : va = [] := ha
 subst ha
 obtain ⟨l1, l2, rfl, ⟨Bs, c1, x1, x2, rfl, x4, x5, x6⟩, l3, l4, rfl, ⟨Bn, c2, y1, y2, rfl, y4, y5, y6⟩, hl4⟩ := hb
 have hl4 : l4 = [] := hl4
 subst hl4
 have hv : a.tmps.getD t undef = .func (.func 104) #[] #[vP Bs 0, vP Bn 0] := (List.cons.inj hv).1
 obtain ⟨q1, q2, e1, ⟨sv, ls, e2, e3, e4⟩, q3⟩ := x6
 have q3 : q2 = [] := q3
 subst q3; subst e2; subst e1
 obtain ⟨r1, r2, e5, q4, q5⟩ := y6
 have q5 : r2 = [] := q5
 have q4 : r1 = [.int .i64 ((sz : Nat) : Int)] := q4
 subst q5; subst q4; subst e5
 have hcs : w.cell? ⟨Bs, 0, none⟩ = some sv := x4 0 sv rfl
 have hcn : w.cell? ⟨Bn, 0, none⟩ = some (.int .i64 ((sz : Nat) : Int)) := y4 0 _ rfl
 rcases e3.at' with ⟨_, hz, _⟩ | ⟨b, o, cap, rfl, k1, k2, k3, k4, k5⟩
 ·exact absurd (List.eq_nil_of_length_eq_zero hz) hn0
 have flat : ls.flatten = xs.map (Value.int .u8) := by
  have : ∀ {xs : List Int} {ls : List (List Value)}, Fa2 (rS g.X g.N w [.int .u8]) xs ls → ls.flatten = xs.map (Value.int .u8) := by
   intro xs
   induction xs with
   | nil => intro ls h; cases ls with
    | nil => rfl
    | cons => exact h.elim
   | cons x xs ih => intro ls h; cases ls with
    | nil => exact h.elim
    | cons l ls =>
     obtain ⟨⟨v, h1, h2⟩, h3⟩ := h
     have h2 : v = .int .u8 x := h2
     rw [List.flatten_cons, h1, h2, ih h3]; rfl
  exact this e4
 have imB : ∀ {pre : List Nat} {g1 : G} {W : World}, St n S0 g0 w0 L (hpC (Hi pre)) nb a g1 W → ¬ g1.X Bs ∧ ¬ g1.X Bn ∧ Bs < W.heap.size ∧ Bn < W.heap.size ∧ ∃ sv' ls', W.cell? ⟨Bs, 0, none⟩ = some sv' ∧ Lsl g1.X W false xs.length sv' 1 ls'.flatten ∧ Fa2 (rS g1.X g1.N W [.int .u8]) xs ls' := fun {pre g1 W} h => by
  obtain ⟨va, vb, ha, hb, hv2⟩ := h.fr t _ ht
  obtain ⟨l1, l2, rfl, ⟨Bs', c1', x1', x2', rfl, x4', x5', x6'⟩, l3, l4, rfl, ⟨Bn', c2', y1', y2', rfl, y4', y5', y6'⟩, hl4⟩ := hb
  have hl4 : l4 = [] := hl4
  subst hl4
  rw [hv] at hv2
  have hv2 := (List.cons.inj hv2).1
  injection hv2 with _ _ hv3
  simp at hv3
  obtain ⟨rfl, rfl⟩ := hv3
  obtain ⟨q1, q2, e1, ⟨sv', ls', e2, e3, e4⟩, q3⟩ := x6'
  have q3 : q2 = [] := q3
  subst q3; subst e2; subst e1
  exact ⟨x1', y1', x2', y2', sv', ls', x4' 0 sv' rfl, e3, e4⟩
 have hcap : xs.length ≤ cap := k1
 refine range_y (α := Nat) (m := m) (lb := #[vP Bs 0, vP Bn 0]) (gf := 104) (Kp := Kp2 Bs Bn) (S := fun q => q = List.range K) (Sp := fun _ => True) (N := K) hD hg0 Hi hS hx hy hL hv ⟨⟨_, Try.func104, rfl, rfl⟩⟩ (pcV b o xs.length sz) ?_ Kp2.t ?_ ?_ ⟨fun _ h => h, fun _ h => h⟩ ?_ (fun z => .ls false [.int .u8] ((xs.drop (z * sz)).take sz)) ?_ hbody ?_
 ·intro l J Jx W hW hJ hJx hY h0
  refine (chunk1_in m l Bs Bn b o xs.length cap sz K hm h1 hsz hlen hcap k2 hK J Jx hY W ((hW.cell (p := ⟨Bs, 0, none⟩) x2).trans hcs) ((hW.cell (p := ⟨Bn, 0, none⟩) y2).trans hcn) h0 (fun s A hs => hJ s A A.drew none hs ⟨rfl, rfl, rfl, Nat.le_refl _, fun _ _ _ => rfl⟩ fun r e => by cases e)).mono ?_
  rintro e W' ⟨hv, hj | ⟨pre, hj⟩⟩
  ·exact ⟨hv, .inl ⟨_, rfl, hj⟩⟩
  ·exact ⟨hv, .inr ⟨_, trivial, hj⟩⟩
 ·exact fun W l o o' h1 h2 => ⟨fun v h => cell_put h1 h2 h, fun v h => cell_put h1 h2 h⟩
 ·intro pre g1 W g2 W' h hgo
  obtain ⟨i1, i2, i3, i4, _⟩ := imB h
  exact ⟨fun v hv => by rw [← hv]; exact World.cell?_of_block (hgo.ch.blk Bs i3 fun hf => i1 (hgo.s _ hf)), fun v hv => by rw [← hv]; exact World.cell?_of_block (hgo.ch.blk Bn i4 fun hf => i2 (hgo.s _ hf))⟩
 ·exact fun W W' row h hg hr => ⟨fun v hv => cell_kept (h.1 v hv) hg hr, fun v hv => cell_kept (h.2 v hv) hg hr⟩
 ·intro pre z g1 W h hkp
  obtain ⟨_, _, _, _, sv', ls', i5, i6, i7⟩ := imB h
  have e := (hkp.1 _ hcs).symm.trans i5
  cases e
  rcases i6.at' with ⟨_, hz, _⟩ | ⟨b', o', c', e', j1, j2, j3, j4, j5⟩
  ·exact absurd (List.eq_nil_of_length_eq_zero hz) hn0
  ·cases e'
   have hrow := i7.row
   have hl' : ls'.length = xs.length := i7.len.symm
   have hlen2 : ((xs.drop (z * sz)).take sz).length = min sz (xs.length - z * sz) := by rw [List.length_take, List.length_drop]
   have hfl : ((ls'.drop (z * sz)).take sz).flatten = (ls'.flatten.drop (z * sz)).take sz := by
    rw [flat_take1 sz (fun l hl => hrow l (List.mem_of_mem_drop hl)), flat_drop1 (z * sz) hrow]
   have key : ∀ ys : List (RT [.int .u8]), ys.length = min sz (xs.length - z * sz) → Fa2 (rS g1.X g1.N W [.int .u8]) ys ((ls'.drop (z * sz)).take sz) → Sm g1 W (.ls false [.int .u8] ys) (pcV b o xs.length sz z) := by
    intro ys hy hF
    refine ⟨_, (ls'.drop (z * sz)).take sz, rfl, ⟨?_, ?_, .inr ⟨b, o + z * sz, min sz (xs.length - z * sz), ?_, ?_, ?_, j3, j4, ?_⟩⟩, hF⟩
    ·rw [hy]; show _ ≤ 9223372036854775807; omega
    ·rw [hfl, hy, List.length_take, List.length_drop, i6.len, Nat.mul_one]; exact (Nat.mul_one _).symm
    ·rw [hy]; rfl
    ·rw [hy]; exact Nat.le_refl _
    ·show _ ≤ 9223372036854775807; omega
    ·intro i u hu
     rw [hfl, List.getElem?_take] at hu
     split at hu
     ·rw [List.getElem?_drop] at hu
      have := j5 _ _ hu
      rw [show o + z * sz + i = o + (z * sz + i) by omega]
      exact this
     ·cases hu
   exact key _ hlen2 ((i7.drop _).take _)
 ·intro D Dk qs a' g1 W h1 h2 h3 h4 h5 h6
  subst h3
  exact hdone D Dk a' g1 W h1 h2 h4 h6.hs h5 h6
end
end Go.Sx.Try
namespace Go.Sx.Try
open Go.Mi Go.RowKit Go.Sx Go.Proofs
noncomputable section
def wB (n lo hi : Int) : Bool := decide (lo ≤ n ∧ n ≤ hi)
theorem wB_i {n lo hi : Int} (h : lo ≤ n ∧ n ≤ hi) : wB n lo hi = true := decide_eq_true h
def within_v (n lo hi : Int) : Bool := if lo ≤ n then decide (n ≤ hi) else false
def within_m (n lo hi : Int) : Bool := shut (within_v n lo hi)
theorem within_e (n lo hi : Int) : within_m n lo hi = within_v n lo hi := shut_eq _
theorem within_w (n lo hi : Int) : within_m n lo hi = wB n lo hi := by
 rw [within_e]; unfold within_v wB
 by_cases h : lo ≤ n
 ·rw [if_pos h]; simp only [h, true_and]
 ·rw [if_neg h]; simp only [h, false_and]; rfl
def c_within (n lo hi : Int) : Con := ⟨[vi n, vi lo, vi hi], [], .v (.bool (within_m n lo hi)), []⟩
theorem within_ok (n lo hi : Int) : ConOk Try.prog 82 (c_within n lo hi) := by
 refine conOk_of rfl (nb := 0) Try.func82 rfl rfl Try.ntmps82 rfl rfl rfl fun g0 w0 ac gs ws hg0 hS => ?_
 have hS := hS.sp
 refine s0 [0, 1, 2, 6] [] 0 hS fun hS => ?_
 refine wp_seq ?_
 by_cases h1 : lo ≤ n
 ·refine rA [(2, .ob true)] trivial (fun _ => [(decide (lo ≤ n)) = true]) [6] [] 0 ⟨decide_eq_true h1, trivial⟩ hS fun hS => ?_
  refine then_n (wp_ret ?_)
  have hM : within_m n lo hi = decide (n ≤ hi) := (within_e n lo hi).trans (if_pos h1)
  exact fin_y rfl (.inr rfl) hS [.v (.bool (decide (n ≤ hi)))] [] (by show weak _ (.v (.bool (within_m n lo hi))) = (.v (.bool (within_m n lo hi))); rw [hM]; first | (simp only []; rfl) | (simp only []; done) | rfl) trivial
 ·refine rA [(2, .ob false)] trivial (fun _ => [(decide (lo ≤ n)) = false]) [6] [] 0 ⟨decide_eq_false h1, trivial⟩ hS fun hS => ?_
  refine then_n (wp_ret ?_)
  have hM : within_m n lo hi = false := (within_e n lo hi).trans (if_neg h1)
  exact fin_y rfl (.inr rfl) hS [.v (.bool false)] [] (by show weak _ (.v (.bool (within_m n lo hi))) = (.v (.bool (within_m n lo hi))); rw [hM]; first | (simp only []; rfl) | (simp only []; done) | rfl) trivial

def c_withy (n lo hi : Int) : Con := ⟨[vi n, vi lo, vi hi], [], .v (.bool true), []⟩
theorem withy_ok (n lo hi : Int) (hs : wB n lo hi = true) : ConOk Try.prog 82 (c_withy n lo hi) := by
 have h := within_ok n lo hi
 unfold c_within at h
 rw [within_w, hs] at h
 exact h
def c_withn (n lo hi : Int) : Con := ⟨[vi n, vi lo, vi hi], [], .v (.bool false), []⟩
theorem withn_ok (n lo hi : Int) (hs : wB n lo hi = false) : ConOk Try.prog 82 (c_withn n lo hi) := by
 have h := within_ok n lo hi
 unfold c_within at h
 rw [within_w, hs] at h
 exact h
def c_bnew (id ct : Nat) (sz ln : Nat) : Con := ⟨[vi (id : Int), vi (ct : Int), vi (sz : Int), vi (ln : Int)], [], .tu (chain [.cp 0 0, vi 0]), [(0, .ob 135 (chain [vi (id : Int), vi (sz : Int), vi (ln : Int), .sk 1])), (1, .sl 22 [.os (.int .u8)] (List.replicate ct none))]⟩
theorem bnew_ok (id ct : Nat) (sz ln : Nat) (hb : id ≤ 1073741824 ∧ 1 ≤ ct ∧ ct ≤ 10000 ∧ 1 ≤ sz ∧ sz ≤ 10000 ∧ 1 ≤ ln ∧ ln ≤ 10000) (hc : ct = (ln + sz - 1) / sz) : ConOk Try.prog 103 (c_bnew id ct sz ln) := by
 refine conOk_of rfl (nb := 0) Try.func103 rfl rfl Try.ntmps103 rfl rfl rfl fun g0 w0 ac gs ws hg0 hS => ?_
 have hS := hS.sp
 have w1 : wB (id : Int) 0 1073741824 = true := (wB_i ⟨by omega, by omega⟩)
 have w2 : wB (ct : Int) 1 10000 = true := (wB_i ⟨by omega, by omega⟩)
 have w3 : wB (sz : Int) 1 10000 = true := (wB_i ⟨by omega, by omega⟩)
 have w4 : wB (ln : Int) 1 10000 = true := (wB_i ⟨by omega, by omega⟩)
 have w5 : (ct : Int) = ((((ln + sz) - 1) / sz : Nat) : Int) := (by rw [← hc])
 refine v0 [0, 1, 2, 3, 8, 9] [] 0 hS fun hS => ?_
 refine wp_seq (vA [(1, .call ⟨82, (c_withy (id : Int) 0 1073741824), [], []⟩), (5, .call ⟨82, (c_withy (ct : Int) 1 10000), [], []⟩), (10, .call ⟨82, (c_withy (sz : Int) 1 10000), [], []⟩), (15, .call ⟨82, (c_withy (ln : Int) 1 10000), [], []⟩), (22, .oi ((ln + sz : Nat) : Int)), (23, .oi (((ln + sz) - 1 : Nat) : Int)), (25, .oi ((((ln + sz) - 1) / sz : Nat) : Int)), (26, .ob false)] ⟨withy_ok _ _ _ w1, withy_ok _ _ _ w2, withy_ok _ _ _ w3, withy_ok _ _ _ w4, trivial⟩ (fun C => [ndC C 1, ndC C 5, ndC C 10, ndC C 15, iadd .i64 (ln : Int) (sz : Int) = ((ln + sz : Nat) : Int), isub .i64 ((ln + sz : Nat) : Int) 1 = (((ln + sz) - 1 : Nat) : Int), iquo .i64 (((ln + sz) - 1 : Nat) : Int) (sz : Int) = ((((ln + sz) - 1) / sz : Nat) : Int), ((sz : Int) : Int) ≠ 0, (!decide ((ct : Int) = ((((ln + sz) - 1) / sz : Nat) : Int))) = false]) [0, 1, 2, 3, 8, 9, 37] [] 0 ⟨rfl, rfl, rfl, rfl, by rw [iadd64 omm omm]; omega, by rw [isub64 omm omm]; omega, by rw [iquo64 omm omm omm]; exact (Int.natCast_ediv _ _).symm, by omega, by rw [decide_eq_true w5]; rfl, trivial⟩ hS fun hS => ?_)
 refine cond_f hS ?_
 refine wp_skip (then_n (vA [] trivial (fun _ => [((ct : Int) : Int) = (ct : Int), (0 : Int) ≤ (ct : Int), 24 * ct ≤ 281474976710656, ((ct : Int) : Int) ≤ 9223372036854775807]) [8, 9] [0, 1] 2 ⟨rfl, by omega, by omega, by omega, trivial⟩ hS fun hS => ?_))
 refine wp_ret ?_
 obtain ⟨gs, hS⟩ := hS.rn [(0, 1), (1, 0)] [(8, .cp 0 0), (9, vi 0)] [(0, .ob 135 (chain [vi (id : Int), vi (sz : Int), vi (ln : Int), .sk 1])), (1, .sl 22 [.os (.int .u8)] (List.replicate ct none))] 2 hg0
 exact fin_y rfl (.inr rfl) hS [.cp 0 0, vi 0] [(0, some (.ob 135 (chain [vi (id : Int), vi (sz : Int), vi (ln : Int), .sk 1]))), (1, some (.sl 22 [.os (.int .u8)] (List.replicate ct none)))] rfl ⟨rfl, rfl, trivial⟩

def c_chunkf (xs : List Int) (sz : Nat) : Con := ⟨[lb xs, vi (sz : Int)], [], .fn 104 (chain []) (chain [.im (chain [lb xs]) 0, .im (chain [vi (sz : Int)]) 0]), []⟩
theorem chunkf_ok (xs : List Int) (sz : Nat) (hz : 1 ≤ sz ∧ sz ≤ 1000000) : ConOk Try.prog 83 (c_chunkf xs sz) := by
 refine conOk_of rfl (nb := 0) Try.func83 rfl rfl Try.ntmps83 rfl rfl rfl fun g0 w0 ac gs ws hg0 hS => ?_
 have hlen0 : xs.length ≤ 9223372036854775807 := hS.len 0 rfl
 have hS := hS.sp
 have w1 : ¬ (sz : Int) < 1 := omm
 refine s0 [2, 3, 4] [0, 1] 2 hS fun hS => ?_
 refine wp_seq (sA [(1, .ob false)] trivial (fun _ => [(decide ((sz : Int) < 1)) = false]) [2, 3, 4, 6] [0, 1] 2 ⟨decide_eq_false w1, trivial⟩ hS fun hS => ?_)
 refine cond_f hS ?_
 refine wp_skip (then_n (s0 [4] [0, 1] 2 hS fun hS => ?_))
 refine wp_ret ?_
 obtain ⟨gs, hS⟩ := hS.im 0
 obtain ⟨gs, hS⟩ := hS.im 1
 exact fin_y rfl (.inr rfl) hS [.fn 104 (chain []) (chain [.im (chain [lb xs]) 0, .im (chain [vi (sz : Int)]) 0])] [] rfl trivial

abbrev PcR := Int × Int × Int × List Int
def pcs (id : Nat) (xs : List Int) (sz : Nat) (pre : List Nat) : List PcR := pre.mapIdx fun j z => ((id : Int), ((j : Nat) : Int), (0 : Int), (xs.drop (z * sz)).take sz)
theorem pcs_len (id : Nat) (xs : List Int) (sz : Nat) (pre : List Nat) : (pcs id xs sz pre).length = pre.length := List.length_mapIdx
theorem pcs_app (id : Nat) (xs : List Int) (sz : Nat) (pre : List Nat) (z : Nat) : pcs id xs sz (pre ++ [z]) = pcs id xs sz pre ++ [((id : Int), (((pcs id xs sz pre).length : Nat) : Int), (0 : Int), (xs.drop (z * sz)).take sz)] := by
 rw [pcs_len]; unfold pcs; rw [List.mapIdx_append]; simp
theorem cnt_of {len sz : Nat} (h : 1 ≤ sz) (k : Nat) : k < (len + sz - 1) / sz ↔ k * sz < len := by
 rw [Nat.lt_div_iff_mul_lt omm]; omega
theorem cnt_le {len sz : Nat} (h : 1 ≤ sz) : (len + sz - 1) / sz ≤ len := by
 rcases Nat.lt_or_ge len ((len + sz - 1) / sz) with h1 | h1
 ·have h2 := (cnt_of h len).1 h1
  have h3 := Nat.le_mul_of_pos_right len h
  omega
 ·exact h1
def split_l1_s (id : Nat) (xs : List Int) (sz x39 : Nat) : (List (Int × Int × Int × (List Int))) → (List (Int × Int × Int × (List Int))) := fun o1 => o1.set x39 (((o1.getD x39 (rz [.int .i64, .int .i64, .int .i64, .sl (.int .u8)])).1), (((o1.getD x39 (rz [.int .i64, .int .i64, .int .i64, .sl (.int .u8)])).2).1), ((o1.length : Nat) : Int), (((o1.getD x39 (rz [.int .i64, .int .i64, .int .i64, .sl (.int .u8)])).2).2).2)
def split_l1 (id : Nat) (xs : List Int) (sz : Nat) : Nat → (List (Int × Int × Int × (List Int)))
 | 0 => pcs id xs sz (List.range ((xs.length + sz - 1) / sz))
 | x39 + 1 => split_l1_s id xs sz x39 (split_l1 id xs sz x39)
def split_v (id : Nat) (xs : List Int) (sz : Nat) : (List (Int × Int × Int × (List Int))) := split_l1 id xs sz ((pcs id xs sz (List.range ((xs.length + sz - 1) / sz))).length)
def split_m (id : Nat) (xs : List Int) (sz : Nat) : (List (Int × Int × Int × (List Int))) := shut (split_v id xs sz)
theorem split_e (id : Nat) (xs : List Int) (sz : Nat) : split_m id xs sz = split_v id xs sz := shut_eq _
def c_split (id : Nat) (xs : List Int) (sz : Nat) : Con := ⟨[vi (id : Int), lb xs, vi (sz : Int)], [], .tu (chain [.sk 0, vi 0]), [(0, .sl 84 [.int .i64, .int .i64, .int .i64, .sl (.int .u8)] (split_m id xs sz))]⟩
theorem split_ok (id : Nat) (xs : List Int) (sz : Nat) (hi : id ≤ 1073741824) (hx : 1 ≤ xs.length ∧ xs.length ≤ 10000) (hz : 1 ≤ sz ∧ sz ≤ 1000) : ConOk Try.prog 50 (c_split id xs sz) := by
 refine conOk_ofM rfl 1 (nb := 0) Try.func50 rfl rfl Try.ntmps50 rfl rfl rfl fun g0 w0 ac gs ws hg0 hS => ?_
 have hlen1 : xs.length ≤ 9223372036854775807 := hS.len 1 rfl
 have hS := hS.sp
 have w1 : wB (id : Int) 0 1073741824 = true := (wB_i ⟨by omega, by omega⟩)
 have w2 : wB (sz : Int) 1 1000 = true := (wB_i ⟨by omega, by omega⟩)
 have w3 : wB ((xs.length : Nat) : Int) 1 10000 = true := (wB_i ⟨by omega, by omega⟩)
 refine s0 [1, 2, 3, 6, 7] [0, 1] 2 hS fun hS => ?_
 refine wp_seq (sA [(1, .call ⟨82, (c_withy (id : Int) 0 1073741824), [], []⟩), (5, .call ⟨82, (c_withy (sz : Int) 1 1000), [], []⟩), (11, .call ⟨82, (c_withy ((xs.length : Nat) : Int) 1 10000), [], []⟩)] ⟨withy_ok _ _ _ w1, withy_ok _ _ _ w2, withy_ok _ _ _ w3, trivial⟩ (fun C => [ndC C 1, ndC C 5, ndC C 11]) [1, 2, 3, 6, 7, 23] [0, 1] 2 ⟨rfl, rfl, rfl, trivial⟩ hS fun hS => ?_)
 refine cond_f hS ?_
 refine wp_skip (then_n (wp_seq (sA [(1, .call ⟨81, (c_clone xs), [], []⟩), (3, .call ⟨83, (c_chunkf xs sz), [], []⟩)] ⟨clone_ok _ lnn, chunkf_ok _ _ omm, trivial⟩ (fun C => [ndC C 1, ndC C 3]) [3, 6, 7, 27] [0, 1] 2 ⟨rfl, rfl, trivial⟩ hS fun hS => ?_)))
 refine wp_block ?_
 obtain ⟨gs, hS⟩ := hS.nilob 1 0 84 [.int .i64, .int .i64, .int .i64, .sl (.int .u8)]
 obtain ⟨gs, hS⟩ := hS.rn [(0, 1), (1, 2), (2, 0)] [(3, .cp 2 0), (6, .cp 0 0), (7, vi 0), (27, .fn 104 (chain []) (chain [.im (chain [lb xs]) 0, .im (chain [vi (sz : Int)]) 0]))] [(0, .ob 80 (chain [.sk 1])), (1, .sl 84 [.int .i64, .int .i64, .int .i64, .sl (.int .u8)] (pcs id xs sz [])), (2, .ob 3 (chain [vi (id : Int)]))] 3 hg0
 refine range_chunk (m := 1) xs sz omm omm omm (fun k => cnt_of omm k) rfl hg0 (fun pre => [(0, .ob 80 (chain [.sk 1])), (1, .sl 84 [.int .i64, .int .i64, .int .i64, .sl (.int .u8)] (pcs id xs sz pre)), (2, .ob 3 (chain [vi (id : Int)]))]) hS.st rfl rfl rfl rfl (fun e => by subst e; simp at hx) (fun r pre z g1 W a1 hlt hS => ?_) (fun Dd Dk ac gs ws hD hDk hk hH hB hS => ?_) (by decide)
 ·have hS := SS.sp hS
  have hpl := pcs_len id xs sz pre
  have hcl : (xs.length + sz - 1) / sz ≤ xs.length := cnt_le omm
  refine rI [] trivial (fun _ => [(pcs id xs sz pre).length + [((id : Int), (((pcs id xs sz pre).length : Nat) : Int), 0, (xs.drop (z * sz)).take sz)].length ≤ 9223372036854775807, ((pcs id xs sz pre).length + [((id : Int), (((pcs id xs sz pre).length : Nat) : Int), 0, (xs.drop (z * sz)).take sz)].length) * 48 ≤ 140737488355328]) [] [0, 2, 3] 4 ⟨by simp <;> omega, by simp <;> omega, trivial⟩ hS rnd_no (fun ac gs ws hS => ?_)
  simp only [pcs_app]
  exact rndY hS [(0, 0), (1, 3), (2, 2)]
 ·have hgo := hg0
  have hg0 := fun k v h => List.mem_range.2 (SS.nm hS k v h)
  have hS := SS.sp hS
  refine block_n (then_n (wp_seq (wp_seq ?_)))
  have hpl := pcs_len id xs sz (List.range ((xs.length + sz - 1) / sz))
  have hcl : (xs.length + sz - 1) / sz ≤ xs.length := cnt_le omm
  rw [List.length_range] at hpl
  refine r0 [6, 7, 38, 39] [0, 1] 3 hS fun hS => ?_
  refine then_n (wp_block (loop_y (ι := Nat × (List (Int × Int × Int × (List Int)))) hg0 hS (fun z_ => match z_ with | (x39, o1) => (pcs id xs sz (List.range ((xs.length + sz - 1) / sz))).length - x39) (fun z_ => match z_ with | (x39, o1) => [(6, .cp 0 0), (7, vi 0), (38, vi (((pcs id xs sz (List.range ((xs.length + sz - 1) / sz))).length : Nat) : Int)), (39, vi ((x39 : Nat) : Int))]) (fun z_ => match z_ with | (x39, o1) => [(0, .ob 80 (chain [.sk 1])), (1, .sl 84 [.int .i64, .int .i64, .int .i64, .sl (.int .u8)] o1)]) (fun z_ => match z_ with | (x39, o1) => (x39 ≤ (pcs id xs sz (List.range ((xs.length + sz - 1) / sz))).length) ∧ (o1 = split_l1 id xs sz x39) ∧ (o1.length = (pcs id xs sz (List.range ((xs.length + sz - 1) / sz))).length) ∧ True) 3 (0, pcs id xs sz (List.range ((xs.length + sz - 1) / sz))) [(0, 0), (1, 1), (2, 2)] ⟨omm, rfl, rfl, trivial⟩ ?_))
  rintro ⟨x39, o1⟩ ac gs ws ⟨hx39, hq1, p1, _⟩ hS
  refine s0 [6, 7, 38, 39, 40] [0, 1] 3 hS fun hS => ?_
  refine wp_seq ?_
  refine if_d ((x39 : Int) < (((pcs id xs sz (List.range ((xs.length + sz - 1) / sz))).length : Nat) : Int)) hS (fun h1 => ?_) (fun h1 => ?_)
  ·refine wp_skip (then_n (wp_seq (wp_block (s0 [6, 7, 9, 38, 39] [0, 1] 3 hS fun hS => ?_))))
   refine rA [] trivial (fun _ => [(0 : Int) ≤ (x39 : Int) ∧ (x39 : Int) < ((o1.length : Nat) : Int)]) [6, 7, 38, 39] [0, 1] 3 ⟨by omega, trivial⟩ hS fun hS => ?_
   refine block_n (then_n (rA [(0, .oi ((x39 + 1 : Nat) : Int))] trivial (fun _ => [iadd .i64 (x39 : Int) 1 = ((x39 + 1 : Nat) : Int)]) [6, 7, 38, 39] [0, 1] 3 ⟨by rw [iadd64 omm omm]; omega, trivial⟩ hS fun hS => ?_))
   refine then_n ?_
   exact next_y hg0 hS (s := (x39, o1)) (x39 + 1, o1.set x39 (((o1.getD x39 (rz [.int .i64, .int .i64, .int .i64, .sl (.int .u8)])).1), (((o1.getD x39 (rz [.int .i64, .int .i64, .int .i64, .sl (.int .u8)])).2).1), ((o1.length : Nat) : Int), (((o1.getD x39 (rz [.int .i64, .int .i64, .int .i64, .sl (.int .u8)])).2).2).2)) [(0, 0), (1, 1), (2, 2)] (show (pcs id xs sz (List.range ((xs.length + sz - 1) / sz))).length - (x39 + 1) < (pcs id xs sz (List.range ((xs.length + sz - 1) / sz))).length - x39 from by omega) ⟨omm, (it_next (F := split_l1 id xs sz) (st := split_l1_s id xs sz) (fun _ => rfl) hq1 rfl), (by rw [List.length_set]; exact p1), trivial⟩
  ·have hScur := hS
   obtain rfl : (pcs id xs sz (List.range ((xs.length + sz - 1) / sz))).length = x39 := by omega
   obtain rfl : split_l1 id xs sz ((pcs id xs sz (List.range ((xs.length + sz - 1) / sz))).length) = o1 := Eq.symm (congrArg (fun z => z) hq1)
   have hS := hScur
   clear hScur
   refine wp_exit (then_exit (then_exit (block_exit (then_n (s0 [6, 7] [0, 1] 3 hS fun hS => ?_)))))
   refine wp_ret ?_
   have hM : split_m id xs sz = split_l1 id xs sz ((pcs id xs sz (List.range ((xs.length + sz - 1) / sz))).length) := split_e id xs sz
   obtain ⟨hS, hk⟩ := unb hk hH hB hS
   have hg0 := hgo
   obtain ⟨gs, hS⟩ := hS.rn [(0, 1), (1, 0)] [(6, .cp 1 0), (7, vi 0)] [(0, .sl 84 [.int .i64, .int .i64, .int .i64, .sl (.int .u8)] (split_l1 id xs sz ((pcs id xs sz (List.range ((xs.length + sz - 1) / sz))).length))), (1, .ob 80 (chain [.sk 0]))] 2 hg0
   exact fin_k hD hDk hk (.inr rfl) hS [.sk 0, vi 0] [(0, some (.sl 84 [.int .i64, .int .i64, .int .i64, .sl (.int .u8)] (split_l1 id xs sz ((pcs id xs sz (List.range ((xs.length + sz - 1) / sz))).length))))] rfl (by show H1Ok _ [(0, .sl 84 [.int .i64, .int .i64, .int .i64, .sl (.int .u8)] (split_m id xs sz))] true; rw [hM]; first | (simp only []; exact ⟨rfl, trivial⟩) | exact ⟨rfl, trivial⟩)

end
end Go.Sx.Try
namespace Go.Sx.Try
open Go.Mi Go.RowKit Go.Sx Go.Proofs
noncomputable section
def encode_v (id ai ct : Nat) (d : List Int) : (List Int) × Nat := if wB (id : Int) 0 1073741824 = true then (if wB (ct : Int) 0 1073741824 = true then (if wB (ai : Int) 0 ((ct : Int) - 1) = true then (if ((d.length : Nat) : Int) = 0 then ([], 1) else (if (1000 : Int) < ((d.length : Nat) : Int) then ([], 11) else (((((([] ++ numW id) ++ numW ai) ++ numW ct) ++ numW d.length) ++ d), 0))) else ([], 1)) else ([], 1)) else ([], 1)
def encode_m (id ai ct : Nat) (d : List Int) : (List Int) × Nat := shut (encode_v id ai ct d)
theorem encode_e (id ai ct : Nat) (d : List Int) : encode_m id ai ct d = encode_v id ai ct d := shut_eq _
def c_encode (id ai ct : Nat) (d : List Int) : Con := ⟨[.ag (chain [vi (id : Int), vi (ai : Int), vi (ct : Int), lb d])], [], .tu (chain [lb ((encode_m id ai ct d).1), vi (((encode_m id ai ct d).2 : Nat) : Int)]), []⟩
theorem encode_ok (id ai ct : Nat) (d : List Int) (hb : id ≤ 100000000000 ∧ ai ≤ 100000000000 ∧ ct ≤ 100000000000) (hd : d.length ≤ 100000) : ConOk Try.prog 51 (c_encode id ai ct d) := by
 refine conOk_of rfl (nb := 0) Try.func51 rfl rfl Try.ntmps51 rfl rfl rfl fun g0 w0 ac gs ws hg0 hS => ?_
 have hS := hS.sp
 refine s0 [1, 2, 3] [0] 1 hS fun hS => ?_
 refine wp_seq (wp_block (wp_seq ?_))
 by_cases h1 : wB (id : Int) 0 1073741824 = true
 ·by_cases h2 : wB (ct : Int) 0 1073741824 = true
  ·by_cases h3 : wB (ai : Int) 0 ((ct : Int) - 1) = true
   ·refine rA [(2, .call ⟨82, (c_withy (id : Int) 0 1073741824), [], []⟩), (7, .call ⟨82, (c_withy (ct : Int) 0 1073741824), [], []⟩), (15, .oi ((ct : Int) - 1)), (16, .call ⟨82, (c_withy (ai : Int) 0 ((ct : Int) - 1)), [], []⟩)] ⟨withy_ok _ _ _ h1, withy_ok _ _ _ h2, withy_ok _ _ _ h3, trivial⟩ (fun C => [ndC C 2, ndC C 7, isub .i64 (ct : Int) 1 = (ct : Int) - 1, ndC C 16]) [1, 2, 3, 5] [0] 1 ⟨rfl, rfl, isub64 omm omm, rfl, trivial⟩ hS fun hS => ?_
    refine then_n ?_
    refine if_d (((d.length : Nat) : Int) = 0) hS (fun h4 => ?_) (fun h4 => ?_)
    ·refine s0 [1, 2, 3] [0] 1 hS fun hS => ?_
     refine wp_ret (block_ret (then_ret ?_))
     have hM : encode_m id ai ct d = ([], 1) := (encode_e id ai ct d).trans ((if_pos h1).trans ((if_pos h2).trans ((if_pos h3).trans (if_pos h4))))
     have hS := hS.wk 2 (lb [])
     exact fin_y rfl (.inr rfl) hS [lb [], vi 1] [] (by show weak _ (.tu (chain [lb ((encode_m id ai ct d).1), vi (((encode_m id ai ct d).2 : Nat) : Int)])) = (.tu (chain [lb ((encode_m id ai ct d).1), vi (((encode_m id ai ct d).2 : Nat) : Int)])); rw [hM]; first | (simp only []; rfl) | (simp only []; done) | rfl) trivial
    ·refine s0 [1, 2, 3, 31] [0] 1 hS fun hS => ?_
     refine if_d ((1000 : Int) < ((d.length : Nat) : Int)) hS (fun h5 => ?_) (fun h5 => ?_)
     ·refine s0 [1, 2, 3] [0] 1 hS fun hS => ?_
      refine wp_ret (block_ret (then_ret ?_))
      have hM : encode_m id ai ct d = ([], 11) := (encode_e id ai ct d).trans ((if_pos h1).trans ((if_pos h2).trans ((if_pos h3).trans ((if_neg h4).trans (if_pos h5)))))
      have hS := hS.wk 2 (lb [])
      exact fin_y rfl (.inr rfl) hS [lb [], vi 11] [] (by show weak _ (.tu (chain [lb ((encode_m id ai ct d).1), vi (((encode_m id ai ct d).2 : Nat) : Int)])) = (.tu (chain [lb ((encode_m id ai ct d).1), vi (((encode_m id ai ct d).2 : Nat) : Int)])); rw [hM]; first | (simp only []; rfl) | (simp only []; done) | rfl) trivial
     ·refine wp_skip (block_n (then_n (s0 [1, 2, 3, 4] [0, 1] 2 hS fun hS => ?_)))
      refine wp_seq ?_
      have hw1 := numW_10 (n := id) omm
      have hw2 := numW_10 (n := ai) omm
      have hw3 := numW_10 (n := ct) omm
      have hw4 := numW_10 (n := d.length) omm
      refine rA [(3, .oi (id : Int)), (4, .call ⟨84, (c_wnum0 id), [(0, 1)], [(1, 2)]⟩), (7, .oi (ai : Int)), (8, .call ⟨84, (c_wnum ([] ++ numW id) ai), [(0, 1), (1, 2)], [(2, 3)]⟩), (11, .oi (ct : Int)), (12, .call ⟨84, (c_wnum (([] ++ numW id) ++ numW ai) ct), [(0, 1), (1, 3)], [(2, 4)]⟩), (15, .call ⟨85, (c_wbytes ((([] ++ numW id) ++ numW ai) ++ numW ct) d), [(0, 1), (1, 4)], [(2, 5)]⟩), (16, .call ⟨86, (c_wdone ((((([] ++ numW id) ++ numW ai) ++ numW ct) ++ numW d.length) ++ d)), [(0, 1), (1, 5)], []⟩)] ⟨wnum0_ok _ omm, wnum_ok _ _ lnn omm, wnum_ok _ _ lnn omm, wbytes_ok _ _ lnn lnn, wdone_ok _ lnn, trivial⟩ (fun C => [IntKind.wrap .u64 (id : Int) = (id : Int), ndC C 4, IntKind.wrap .u64 (ai : Int) = (ai : Int), ndC C 8, IntKind.wrap .u64 (ct : Int) = (ct : Int), ndC C 12, ndC C 15, ndC C 16]) [2, 3] [] 6 ⟨wrap_u64 omm omm, rfl, wrap_u64 omm omm, rfl, wrap_u64 omm omm, rfl, rfl, rfl, trivial⟩ hS fun hS => ?_
      refine then_n (wp_ret ?_)
      have hM : encode_m id ai ct d = (((((([] ++ numW id) ++ numW ai) ++ numW ct) ++ numW d.length) ++ d), 0) := (encode_e id ai ct d).trans ((if_pos h1).trans ((if_pos h2).trans ((if_pos h3).trans ((if_neg h4).trans (if_neg h5)))))
      exact fin_y rfl (.inr rfl) hS [lb ((((([] ++ numW id) ++ numW ai) ++ numW ct) ++ numW d.length) ++ d), vi 0] [] (by show weak _ (.tu (chain [lb ((encode_m id ai ct d).1), vi (((encode_m id ai ct d).2 : Nat) : Int)])) = (.tu (chain [lb ((encode_m id ai ct d).1), vi (((encode_m id ai ct d).2 : Nat) : Int)])); rw [hM]; first | (simp only []; rfl) | (simp only []; done) | rfl) trivial
   ·refine rA [(2, .call ⟨82, (c_withy (id : Int) 0 1073741824), [], []⟩), (7, .call ⟨82, (c_withy (ct : Int) 0 1073741824), [], []⟩), (15, .oi ((ct : Int) - 1)), (16, .call ⟨82, (c_withn (ai : Int) 0 ((ct : Int) - 1)), [], []⟩)] ⟨withy_ok _ _ _ h1, withy_ok _ _ _ h2, withn_ok _ _ _ (bne_k h3), trivial⟩ (fun C => [ndC C 2, ndC C 7, isub .i64 (ct : Int) 1 = (ct : Int) - 1, ndC C 16]) [1, 2, 3, 5] [0] 1 ⟨rfl, rfl, isub64 omm omm, rfl, trivial⟩ hS fun hS => ?_
    refine then_n (cond_t hS ?_)
    refine s0 [1, 2, 3] [0] 1 hS fun hS => ?_
    refine wp_ret (block_ret (then_ret ?_))
    have hM : encode_m id ai ct d = ([], 1) := (encode_e id ai ct d).trans ((if_pos h1).trans ((if_pos h2).trans (if_neg h3)))
    have hS := hS.wk 2 (lb [])
    exact fin_y rfl (.inr rfl) hS [lb [], vi 1] [] (by show weak _ (.tu (chain [lb ((encode_m id ai ct d).1), vi (((encode_m id ai ct d).2 : Nat) : Int)])) = (.tu (chain [lb ((encode_m id ai ct d).1), vi (((encode_m id ai ct d).2 : Nat) : Int)])); rw [hM]; first | (simp only []; rfl) | (simp only []; done) | rfl) trivial
  ·refine rA [(2, .call ⟨82, (c_withy (id : Int) 0 1073741824), [], []⟩), (7, .call ⟨82, (c_withn (ct : Int) 0 1073741824), [], []⟩)] ⟨withy_ok _ _ _ h1, withn_ok _ _ _ (bne_k h2), trivial⟩ (fun C => [ndC C 2, ndC C 7]) [1, 2, 3, 5] [0] 1 ⟨rfl, rfl, trivial⟩ hS fun hS => ?_
   refine then_n (cond_t hS ?_)
   refine s0 [1, 2, 3] [0] 1 hS fun hS => ?_
   refine wp_ret (block_ret (then_ret ?_))
   have hM : encode_m id ai ct d = ([], 1) := (encode_e id ai ct d).trans ((if_pos h1).trans (if_neg h2))
   have hS := hS.wk 2 (lb [])
   exact fin_y rfl (.inr rfl) hS [lb [], vi 1] [] (by show weak _ (.tu (chain [lb ((encode_m id ai ct d).1), vi (((encode_m id ai ct d).2 : Nat) : Int)])) = (.tu (chain [lb ((encode_m id ai ct d).1), vi (((encode_m id ai ct d).2 : Nat) : Int)])); rw [hM]; first | (simp only []; rfl) | (simp only []; done) | rfl) trivial
 ·refine rA [(2, .call ⟨82, (c_withn (id : Int) 0 1073741824), [], []⟩)] ⟨withn_ok _ _ _ (bne_k h1), trivial⟩ (fun C => [ndC C 2]) [1, 2, 3, 5] [0] 1 ⟨rfl, trivial⟩ hS fun hS => ?_
  refine then_n (cond_t hS ?_)
  refine s0 [1, 2, 3] [0] 1 hS fun hS => ?_
  refine wp_ret (block_ret (then_ret ?_))
  have hM : encode_m id ai ct d = ([], 1) := (encode_e id ai ct d).trans (if_neg h1)
  have hS := hS.wk 2 (lb [])
  exact fin_y rfl (.inr rfl) hS [lb [], vi 1] [] (by show weak _ (.tu (chain [lb ((encode_m id ai ct d).1), vi (((encode_m id ai ct d).2 : Nat) : Int)])) = (.tu (chain [lb ((encode_m id ai ct d).1), vi (((encode_m id ai ct d).2 : Nat) : Int)])); rw [hM]; first | (simp only []; rfl) | (simp only []; done) | rfl) trivial

end
end Go.Sx.Try
namespace Go.Sx
open Go.Mi Go.RowKit
variable [Dfr]
def PnOk3 (P : Program) (n : Nat) (o : Oper) (L : DL) (H : Nat → Option O) (e : Eff) (d : D) : Prop :=
 ∀ ξ g w, HS (resH (e.rd ++ keys e.wr) H) g w → Hold L ξ g w → Pn1 P o n (exL L ξ) w fun v w' => ∃ g', Post H ⟨e.rd, e.wr, e.nw, d⟩ g w v g' w'
theorem exPan_ok3 {P : Program} {n : Nat} {q : Option CR} (hc : ∀ r, q = some r → PanOk P r.f r.c) {L : DL} {H : Hp} {o : Oper} {e : Eff} {d : D} {ps : List Prop} (h : exPan q L H o = some (e, d, ps)) (hp : AllP ps) : e.nw = [] ∧ PnOk3 P n o L (lkH H) e d := by
 obtain ⟨ds, op, ty, pos, af, gu⟩ := o
 unfold exPan at h
 split at h
 ·rename_i q c hop
  simp only at hop
  subst hop
  have hc := hc q rfl
  obtain ⟨cl, xs, ts⟩ := c
  split at h
  ·rename_i f hf
   simp only at hf
   subst hf
   split at h
   ·rename_i f' ays hfn
    cases hb : Nat.beq f' q.f && q.chk && ays.all D.one && q.σ.isEmpty with
    | false => rw [hb] at h; cases h
    | true =>
     rw [hb] at h
     simp only [Bool.and_eq_true, List.all_eq_true, List.isEmpty_iff] at hb
     obtain ⟨⟨⟨b1, b2⟩, b3⟩, b4⟩ := hb
     have b1 := Nat.eq_of_beq_eq_true b1
     subst b1
     cases h
     have hq' := CRok.of b2
     obtain ⟨n1, n2⟩ := CR.need_of hp.1
     have hnw : q.eff.nw = [] := by simp only [CR.eff, b4, List.filterMap_nil]
     refine ⟨hnw, fun ξ g w hS hH => ?_⟩
     have fin : ∀ {vs : List Value}, sem g.X g.N w (chain ays) true vs → Calls P q.f vs.toArray w (fun e w' => ∃ v, e = pn v ∧ ∃ g', Post (lkH H) q.eff g w v g' w') := fun hv => by
      have := weakL_ok (es := q.c.args.map (D.ren q.r)) hv b3
      rw [n1] at this
      refine (call_postE hq' hc n2 hS (fun p hp => by rw [hnw] at hp; cases hp) this).mono fun e w' ⟨v, he, g', hpo⟩ => ⟨v, he, g', hpo⟩
     unfold exFn at hfn
     split at hfn
     ·rename_i f0 first captured as' hx has
      cases he : first.isEmpty && captured.isEmpty with
      | false => rw [he] at hfn; cases hfn
      | true =>
       rw [he] at hfn
       simp only [cond_true, Option.some.injEq, Prod.mk.injEq] at hfn
       obtain ⟨rfl, rfl⟩ := hfn
       rw [Bool.and_eq_true, Array.isEmpty_iff, Array.isEmpty_iff] at he
       obtain ⟨rfl, rfl⟩ := he
       obtain ⟨vs, k1, k2, _⟩ := opsD_ev hH has
       refine pn_callv (first := #[]) (captured := #[]) (opD_v hH hx) hc.1 k1 ?_
       simpa [CR.eff] using fin k2
     ·rename_i f0 a b as' hx has
      split at hfn
      ·rename_i a' b' ha hb'
       simp only [Option.some.injEq, Prod.mk.injEq] at hfn
       obtain ⟨rfl, rfl⟩ := hfn
       obtain ⟨v, hv, va, vb, h1, h2, h3⟩ := opD_ev hH hx
       cases (List.cons.inj h3).1
       obtain ⟨vs, k1, k2, _⟩ := opsD_ev hH has
       refine pn_callv hv hc.1 k1 ?_
       have := fin (chain_app (chain_app (unch_ok ha h1) k2) (unch_ok hb' h2))
       simpa [CR.eff] using this
      ·cases hfn
     ·cases hfn
   ·cases h
  ·cases h
 ·rename_i x hop
  simp only at hop
  subst hop
  split at h
  ·rename_i t v hx
   cases h
   refine ⟨rfl, fun ξ g w hS hH => pn_panic (opD_v hH hx) ⟨g, Post.pure (rd := []) hS.wf rfl⟩⟩
  ·cases h
 ·cases h
theorem planP_at3 {P : Program} {n : Nat} {ops : List Oper} {ex : Ex} {q : Option CR} {p dd : Nat} (hex : ExOk P n ex) (hc : ∀ r, q = some r → PanOk P r.f r.c) : ∀ {os : List Oper} {i : Nat} {L : DL} {H : Hp} {nb : Nat} {rows : List Rw} {ps : List Prop} {d : D} {nb' : Nat}, planP ops ex q p dd i os L H nb = some (rows, ps, d, nb') → AllP ps →
  ∀ (j : Nat) (b : Oper × Rw), (os.zip rows)[j]? = some b → dd.testBit (i + j) = false →
   if i + j = p then ∃ e, b.2 = some e ∧ gW ops (((os.zip rows).take j).foldl stL L) b.1 = some true ∧ PnOk3 P n b.1 (pickD (((os.zip rows).take j).foldl stL L) (rdO ops b.1)) (lkH (((os.zip rows).take j).foldl stH H)) e d
   else RowOk P n ops (((os.zip rows).take j).foldl stL L) (((os.zip rows).take j).foldl stH H) b := by
 intro os
 induction os with
 | nil => intro i L H nb rows ps d nb' _ _ j b hb; simp at hb
 | cons o os ih =>
  intro i L H nb rows ps d nb' h hp j b hb hdd
  have tail : ∀ {r1 : Rw} {rows' : List Rw} {L' : DL} {H' : Hp} {nb2 : Nat} {ps' : List Prop} {d' : D}, rows = r1 :: rows' → planP ops ex q p dd (i + 1) os L' H' nb2 = some (rows', ps', d', nb') → AllP ps' → stL L (o, r1) = L' → stH H (o, r1) = H' → (∀ j', j = j' + 1 → i + j = p → d' = d) → (j = 0 → b = (o, r1) → if i + 0 = p then ∃ e, b.2 = some e ∧ gW ops L b.1 = some true ∧ PnOk3 P n b.1 (pickD L (rdO ops b.1)) (lkH H) e d else RowOk P n ops L H b) →
    if i + j = p then ∃ e, b.2 = some e ∧ gW ops ((((o :: os).zip rows).take j).foldl stL L) b.1 = some true ∧ PnOk3 P n b.1 (pickD ((((o :: os).zip rows).take j).foldl stL L) (rdO ops b.1)) (lkH ((((o :: os).zip rows).take j).foldl stH H)) e d
    else RowOk P n ops ((((o :: os).zip rows).take j).foldl stL L) ((((o :: os).zip rows).take j).foldl stH H) b := by
   intro r1 rows' L' H' nb2 ps' d' hr hpl hp' hL hH hdt h0
   subst hr
   cases j with
   | zero =>
    have hb' : (o, r1) = b := by simpa using hb
    have := h0 rfl hb'.symm
    simpa using this
   | succ j' =>
    have hb' : (os.zip rows')[j']? = some b := by simpa using hb
    have := ih hpl hp' j' b hb' (by rw [show i + 1 + j' = i + (j' + 1) by omega]; exact hdd)
    rw [show i + 1 + j' = i + (j' + 1) by omega] at this
    have e1 : (((o :: os).zip (r1 :: rows')).take (j' + 1)).foldl stL L = ((os.zip rows').take j').foldl stL L' := by rw [← hL]; rfl
    have e2 : (((o :: os).zip (r1 :: rows')).take (j' + 1)).foldl stH H = ((os.zip rows').take j').foldl stH H' := by rw [← hH]; rfl
    rw [e1, e2]
    by_cases hip : i + (j' + 1) = p
    ·rw [if_pos hip] at this ⊢
     rw [hdt j' rfl hip] at this
     exact this
    ·rw [if_neg hip] at this ⊢
     exact this
  simp only [planP] at h
  cases hdi : dd.testBit i with
  | true =>
   rw [hdi] at h
   simp only [cond_true] at h
   obtain ⟨⟨r1, r2, r3, r4⟩, h1, h2⟩ := Option.map_eq_some_iff.1 h
   simp only [Prod.mk.injEq] at h2
   obtain ⟨h2a, rfl, rfl, rfl⟩ := h2
   refine tail h2a.symm h1 hp rfl rfl (fun _ _ _ => rfl) fun hj _ => ?_
   subst hj
   rw [Nat.add_zero, hdi] at hdd
   cases hdd
  | false =>
   rw [hdi] at h
   simp only [cond_false] at h
   cases hg : gW ops L o with
   | none => rw [hg] at h; cases h
   | some c =>
    rw [hg] at h
    cases c with
    | false =>
     simp only at h
     cases hip : Nat.beq i p with
     | true => rw [hip] at h; cases h
     | false =>
      rw [hip] at h
      simp only [cond_false] at h
      obtain ⟨⟨r1, r2, r3, r4⟩, h1, h2⟩ := Option.map_eq_some_iff.1 h
      simp only [Prod.mk.injEq] at h2
      obtain ⟨h2a, rfl, rfl, rfl⟩ := h2
      refine tail h2a.symm h1 hp rfl rfl (fun _ _ _ => rfl) fun hj hb0 => ?_
      subst hb0
      rw [if_neg (fun e => by rw [Nat.add_zero] at e; rw [e, Nat.beq_refl] at hip; cases hip)]
      exact hg
    | true =>
     simp only at h
     cases hip : Nat.beq i p with
     | true =>
      have hip' := Nat.eq_of_beq_eq_true hip
      rw [hip] at h
      simp only [cond_true] at h
      cases he : exPan q (pickD L (rdO ops o)) H o with
      | none => rw [he] at h; cases h
      | some x =>
       obtain ⟨e, d1, qs⟩ := x
       rw [he] at h
       simp only at h
       obtain ⟨⟨r1, r2, r3, r4⟩, h1, h2⟩ := Option.map_eq_some_iff.1 h
       simp only [Prod.mk.injEq] at h2
       obtain ⟨h2a, rfl, rfl, rfl⟩ := h2
       rw [AllP.append] at hp
       refine tail h2a.symm h1 hp.2 rfl rfl (fun j' hj hp2 => by omega) fun hj hb0 => ?_
       subst hb0
       rw [if_pos (by omega)]
       exact ⟨e, rfl, hg, (exPan_ok3 hc he hp.1).2⟩
     | false =>
      rw [hip] at h
      simp only [cond_false] at h
      cases he : ex i (pickD L (rdO ops o)) H nb o with
      | none => rw [he] at h; cases h
      | some x =>
       obtain ⟨e, qs⟩ := x
       rw [he] at h
       simp only at h
       obtain ⟨⟨r1, r2, r3, r4⟩, h1, h2⟩ := Option.map_eq_some_iff.1 h
       simp only [Prod.mk.injEq] at h2
       obtain ⟨h2a, rfl, rfl, rfl⟩ := h2
       rw [AllP.append] at hp
       refine tail h2a.symm h1 hp.2 rfl rfl (fun _ _ _ => rfl) fun hj hb0 => ?_
       subst hb0
       rw [if_neg (fun e => by rw [Nat.add_zero] at e; rw [e, Nat.beq_refl] at hip; cases hip)]
       exact ⟨hg, hex _ _ _ _ _ _ _ he hp.1⟩
section
variable {P : Program} {n nb nb' : Nat} {l : List Oper} {rows : List Rw} {L0 : DL} {H0 : Hp} {S0 : Nat → Prop} {g0 : G} {w0 : World} {Q : Exit → Act → World → Prop} {a : Act} {w : World}
theorem ri_pan3 (hc : ChkR n nb nb' l rows) {i : Nat} {o : Oper} {e : Eff} {dv : D} (hz : (l.zip rows)[i]? = some (o, some e)) (hdi : Nat.blt i i = false) (hcl : ∀ i' j, Ahead l i' j → Nat.blt i' i = true → Nat.blt j i = true) (hah : ∀ j, Ahead l i j → Nat.blt j i = true)
  (hg : gW l (((l.zip rows).take i).foldl stL L0) o = some true) (hp : PnOk3 P n o (pickD (((l.zip rows).take i).foldl stL L0) (rdO l o)) (lkH (((l.zip rows).take i).foldl stH H0)) e dv)
  (hend : ∀ a g w v, St n S0 g0 w0 (((l.zip rows).take i).foldl stL L0) (((l.zip rows).take (i + 1)).foldl stH H0) nb' a g w → Sm g w dv v → Q (.panic [{ v, recovered := false }]) a w) (hle : nb ≤ nb') {K : Act → World → Prop} (h : RI n S0 g0 w0 l rows L0 H0 nb (fun j => Nat.blt j i) a w) : wpOp P l.toArray Q i K a w := by
 obtain ⟨g, hS, hfr, hHS, hfoot, hw⟩ := ri_get (d := fun j => Nat.blt j i) hc hz hdi hcl hah h
 have ho : l[i]? = some o := (List.getElem?_zip_eq_some.1 hz).1
 unfold wpOp
 simp only [List.getElem?_toArray, ho]
 rw [if_pos (hw true hg)]
 refine .inl (hp _ g w hHS hfr.get a K Q hfr.frm ?_)
 rintro v w' ⟨g', hpo⟩
 have eL : ∀ t, lw (fun j => Nat.blt j i) fL 0 (l.zip rows) (lkD L0) t = lkD (((l.zip rows).take i).foldl stL L0) t := fun t => by
  have := lw_lt (f := fL) (bs := l.zip rows) (i := 0) (j := i) (H := lkD L0) (k := t)
  rw [Nat.zero_add] at this
  rw [this, fold_L]
 have eH : ∀ k, lw (fun j => Nat.blt j i) fH 0 (l.zip rows) (lkH H0) k = lkH (((l.zip rows).take i).foldl stH H0) k := fun k => by
  have := lw_lt (f := fH) (bs := l.zip rows) (i := 0) (j := i) (H := lkH H0) (k := k)
  rw [Nat.zero_add] at this
  rw [this, fold_H]
 have hS1 : SS n S0 g0 w0 (lkD (((l.zip rows).take i).foldl stL L0)) (lkH (((l.zip rows).take i).foldl stH H0)) (· < nb') a g w := hS.weak (fun t d ht => by rw [eL]; exact ht) (fun k o hk => by rw [eH]; exact hk) fun k hk => by
  rcases hk with hk | ⟨j, b, hb, _, hk⟩
  ·exact Nat.lt_of_lt_of_le hk hle
  ·obtain ⟨_, hz'⟩ := List.getElem?_zip_eq_some.1 hb
   exact (hc.name b.2 (List.mem_of_getElem? hz') k hk).2
 have htake : ((l.zip rows).take (i + 1)).foldl stH H0 = outsR (some e) ++ ((l.zip rows).take i).foldl stH H0 := by
  rw [List.take_add_one, hz, List.foldl_append]; rfl
 have hS2 := SS.step hS1 (dst := none) (fun t h => by cases h) hpo (L' := lkD (((l.zip rows).take i).foldl stL L0)) (H' := lkH (((l.zip rows).take (i + 1)).foldl stH H0)) (nm' := (· < nb')) (fun t d h => .inr ⟨(by simp), h⟩) (fun k o h => by
  rw [htake] at h
  have h := lkH_some.1 h
  rw [lkO_app] at h
  cases hb : lkO (outsR (some e)) k with
  | none =>
   rw [hb] at h
   exact .inr ⟨fun hk => lkO_keys.1 hk hb, lkH_some.2 h⟩
  | some x =>
   rw [hb] at h
   simp only [Option.some.injEq] at h
   subst h
   exact .inl (lkH_some.2 hb)) (fun k h => by
  rcases h with h | h
  ·exact h
  ·obtain ⟨_, hz'⟩ := List.getElem?_zip_eq_some.1 hz
   exact (hc.name _ (List.mem_of_getElem? hz') k h).2)
 exact hend a g' w' v hS2 hpo.r
end
def plP3 (n : Nat) (ops : List Oper) (ex : Ex) (q : Option CR) (p dd : Nat) (L : DL) (H : Hp) (nb : Nat) : Option (List Prop × D × DL × Hp × Nat) := match planP ops ex q p dd 0 ops L H nb with
 | some (rows, ps, d, nb') => bif chkR n nb nb' ops rows && ddOk false ops p dd && Nat.blt p ops.length && !(dd.testBit p) && Nat.ble nb nb' then some (ps, d, ((ops.zip rows).take p).foldl stL L, ((ops.zip rows).take (p + 1)).foldl stH H, nb') else none
 | none => none
section
variable {P : Program} {n : Nat} {ops : List Oper} {ex : Ex} {L : DL} {H : Hp} {nb : Nat} {S0 : Nat → Prop} {g0 g : G} {w0 w : World} {Q : Exit → Act → World → Prop} {a : Act}
theorem region_pan3 {id : Nat} (hex : ExOk P n ex) {q : Option CR} (hc : ∀ r, q = some r → PanOk P r.f r.c) (p dd : Nat) {ps : List Prop} {d : D} {L1 : DL} {H1 : Hp} {nb1 : Nat} (h : plP3 n ops ex q p dd L H nb = some (ps, d, L1, H1, nb1)) (hp : AllP ps) (hS : St n S0 g0 w0 L H nb a g w)
  (hend : ∀ a g w v, St n S0 g0 w0 L1 H1 nb1 a g w → Sm g w d v → Q (.panic [{ v, recovered := false }]) a w) : (Code.region id ops.toArray false).wp P Q a w := by
 unfold plP3 at h
 cases hx : planP ops ex q p dd 0 ops L H nb with
 | none => rw [hx] at h; cases h
 | some x =>
  obtain ⟨rows, qs, d1, nb'⟩ := x
  rw [hx] at h
  simp only at h
  cases hb : chkR n nb nb' ops rows && ddOk false ops p dd && Nat.blt p ops.length && !(dd.testBit p) && Nat.ble nb nb' with
  | false => rw [hb] at h; cases h
  | true =>
   rw [hb] at h
   cases h
   simp only [Bool.and_eq_true, Bool.not_eq_true', Nat.blt_eq] at hb
   obtain ⟨⟨⟨⟨b1, b2⟩, b3⟩, b4⟩, b5⟩ := hb
   have hck := ChkR.of b1
   have rowAt := fun j b (hz : (ops.zip rows)[j]? = some b) (hd : dd.testBit j = false) => by
    have := planP_at3 hex hc hx hp j b hz (by rw [Nat.zero_add]; exact hd)
    rw [Nat.zero_add] at this
    exact this
   have ini : ∀ w, St n S0 g0 w0 L H nb a g w → RI n S0 g0 w0 ops rows L H nb (fun _ => false) a w := fun w hs => ⟨g, hs.weak (fun t d ht => by rw [lw_no] at ht; exact ht) (fun k o hk => by rw [lw_no] at hk; exact hk) fun k hk => .inl hk⟩
   obtain ⟨op, rp, ho, hrp, hzp⟩ := zip_at hck b3
   obtain ⟨e, he1, he2, he3⟩ : ∃ e, rp = some e ∧ _ ∧ _ := by
    have := rowAt p (op, rp) hzp b4
    rw [if_pos rfl] at this
    exact this
   subst he1
   have dead : ∀ i, i < ops.length → dd.testBit i = true → Nat.blt p i = true := fun i hi hd => by
    have := List.all_eq_true.1 b2 i (List.mem_range.2 hi)
    rw [hd] at this
    simpa using this
   refine region_row (fun d a w => RI n S0 g0 w0 ops rows L H nb d a w ∧ d p = false) ⟨ini _ hS, rfl⟩ (fun d d' a w hd hI => ⟨ri_cg hck.len hd hI.1, by rw [← hd p b3]; exact hI.2⟩) (fun i a w hi hI => ?_) fun a w hI => by have := hI.2; cases this
   have ahead_lt : ∀ i j, Ahead ops i j → j < i := fun i j ha => by
    induction ha with
    | edge h1 h2 h3 => exact hck.back _ _ h1 _ h2 h3
    | trans _ _ ih1 ih2 => omega
   have k1 : Nat.blt i i = false := by
    cases hb : Nat.blt i i with
    | false => rfl
    | true => rw [Nat.blt_eq] at hb; omega
   have k2 : ∀ i' j, Ahead ops i' j → Nat.blt i' i = true → Nat.blt j i = true := fun i' j ha hi' => by
    rw [Nat.blt_eq] at hi' ⊢; have := ahead_lt _ _ ha; omega
   have k3 : ∀ j, Ahead ops i j → Nat.blt j i = true := fun j ha => by rw [Nat.blt_eq]; exact ahead_lt _ _ ha
   have hpi : ¬ p < i := fun hlt => by
    have : Nat.blt p i = true := by rw [Nat.blt_eq]; exact hlt
    have h2 : Nat.blt p i = false := hI.2
    rw [this] at h2; cases h2
   by_cases hip : i = p
   ·subst hip
    exact ri_pan3 hck hzp k1 k2 k3 he2 he3 hend (Nat.le_of_ble_eq_true b5) hI.1
   ·have hnd : dd.testBit i = false := by
     cases hd : dd.testBit i with
     | false => rfl
     | true =>
      have h1 := dead i hi hd
      simp only [Nat.blt_eq] at h1
      exact absurd h1 hpi
    refine wpOp_mono (fun a' w' hri => ⟨hri, ?_⟩) (ri_step (d := fun j => Nat.blt j i) hck (fun b hb => by have := rowAt i b hb hnd; rwa [if_neg hip] at this) hi k1 k2 k3 hI.1)
    show (bif Nat.beq p i then true else Nat.blt p i) = false
    rw [beqf (fun e => hip e.symm)]
    exact hI.2
end
def plP3k (n : Nat) (ops : List Oper) (ex : Ex) (q : Option CR) (p dd : Nat) (L : DL) (H : Hp) (nb : Nat) (kL kH : List Nat) : Option (List Prop × D × DL × Hp × Nat) := (plP3 n ops ex q p dd L H nb).map fun x => (x.1, x.2.1, pickD x.2.2.1 kL, pickH x.2.2.2.1 kH, x.2.2.2.2)
section
variable {n nb : Nat} {g0 : G} {S0 : Nat → Prop} {w0 : World} {L : DL} {H : Hp} {a : Act} {g : G} {w : World} {Q : Exit → Act → World → Prop}
theorem region_p3 {E : Env} (hZ : ZOk E.P E.Z) (C : List (Nat × Rx)) (hC : CsOk E.P C) (q : Option CR) (hq : ∀ r, q = some r → PanOk E.P r.f r.c) (p dd : Nat) (ps : List (Nat × Rx) → List Prop) (d : D) (kL kH : List Nat) (Lo : DL) (Ho : Hp) (nb1 : Nat) {id : Nat} {ops : List Oper}
  (h : plP3k n ops (exA E C) q p dd L H nb kL kH = some (ps C, d, Lo, Ho, nb1)) (hp : AllP (ps C)) (hS : St n S0 g0 w0 L H nb a g w) (hend : ∀ a g w v, St n S0 g0 w0 Lo Ho nb1 a g w → Sm g w d v → Q (.panic [{ v, recovered := false }]) a w) : (Code.region id ops.toArray false).wp E.P Q a w := by
 unfold plP3k at h
 obtain ⟨⟨x1, x2, x3, x4, x5⟩, h1, h2⟩ := Option.map_eq_some_iff.1 h
 simp only [Prod.mk.injEq] at h2
 obtain ⟨rfl, rfl, rfl, rfl, rfl⟩ := h2
 exact region_pan3 (exA_ok hZ hC) hq p dd h1 hp hS fun a g w v hS' hv => hend a g w v (SS.weak hS' (fun t d ht => (lk_pickD ht).2) (fun k o hk => lkH_pick hk) fun _ h => h) hv
theorem fin_p3 {P : Program} (hD : Dfr.ds = ([] : List Deferred)) {fn : Func} {c : Con} {v : Value} (hS : St n (c.foot g0) g0 w0 L H nb a g w) {d : D} (hv : Sm g w d v) (hd : d = c.res) (h1 : H1Ok H c.H1 true) : bodyPost P fn (fun e w' => ∃ v, e = pn v ∧ ∃ g', CPost c g0 w0 v g' w') (.panic [{ v, recovered := false }]) a w := by
 have key : ∀ k o, lkC c.H1 k = some o → lkH H k = some o := by
  have : ∀ (r : Hc), H1Ok H r true → ∀ k o, lkC r k = some o → lkH H k = some o := by
   intro r
   induction r with
   | nil => intro _ k o h; cases h
   | cons p r ih =>
    obtain ⟨s, u⟩ := p
    intro hh k o h
    simp only [lkC] at h
    by_cases e : s = k
    ·subst e; simp at h; subst h; exact hh.1
    ·rw [beqf e] at h; exact ih hh.2 k o h
  exact this c.H1 h1
 exact ⟨hS.defers.trans hD, v, rfl, g, hS.go, hd ▸ hv, hS.hs.sub key, fun k o hk b hb => hS.fp k o (key k o hk) b hb⟩
end
end Go.Sx
namespace Go.Sx.Try
open Go.Mi Go.RowKit Go.Sx Go.Proofs
noncomputable section
theorem numV_le2 (xs : List Int) : (numV (numV xs).2).2.length ≤ xs.length := Nat.le_trans (numV_nn _).2 (numV_nn _).2
theorem numV_le3 (xs : List Int) : (numV (numV (numV xs).2).2).2.length ≤ xs.length := Nat.le_trans (numV_nn _).2 (numV_le2 _)
theorem wrapN64 {x : Int} (h : 0 ≤ x) (h2 : ¬ 1073741824 < x) : IntKind.wrap .i64 x = ((x.toNat : Nat) : Int) := by
 rw [wrap_i64 omm omm]; omega
def dc1_kv (xs : List Int) : Bool := if numB xs = true then (if (1073741824 : Int) < ((numV xs).1) then false else (if numB ((numV xs).2) = true then (if (1073741824 : Int) < ((numV ((numV xs).2)).1) then false else (if numB ((numV ((numV xs).2)).2) = true then (if (1073741824 : Int) < ((numV ((numV ((numV xs).2)).2)).1) then false else (if rbytes1_k ((numV ((numV ((numV xs).2)).2)).2) 1000 = true then true else false)) else false)) else false)) else false
def dc1_k (xs : List Int) : Bool := shut (dc1_kv xs)
theorem dc1_ke (xs : List Int) : dc1_k xs = dc1_kv xs := shut_eq _
def dc1_p_ev (xs : List Int) : Nat × Nat × Nat × Nat := if numB xs = true then (if (1073741824 : Int) < ((numV xs).1) then (2, 0, 0, 0) else (if numB ((numV xs).2) = true then (if (1073741824 : Int) < ((numV ((numV xs).2)).1) then (2, ((((numV xs).1)).toNat), 0, 0) else (if numB ((numV ((numV xs).2)).2) = true then (if (1073741824 : Int) < ((numV ((numV ((numV xs).2)).2)).1) then (2, ((((numV xs).1)).toNat), ((((numV ((numV xs).2)).1)).toNat), 0) else ((rbytes1_p_e ((numV ((numV ((numV xs).2)).2)).2) 1000), ((((numV xs).1)).toNat), ((((numV ((numV xs).2)).1)).toNat), ((((numV ((numV ((numV xs).2)).2)).1)).toNat))) else (2, ((((numV xs).1)).toNat), ((((numV ((numV xs).2)).1)).toNat), 0))) else (2, ((((numV xs).1)).toNat), 0, 0))) else (2, 0, 0, 0)
def dc1_p_e (xs : List Int) : Nat × Nat × Nat × Nat := shut (dc1_p_ev xs)
theorem dc1_p_ee (xs : List Int) : dc1_p_e xs = dc1_p_ev xs := shut_eq _
def dc1_v (xs : List Int) : (List Int) × Nat × Nat × Nat × (List Int) := ((((numV ((numV ((numV ((numV xs).2)).2)).2)).2).drop (((numV ((numV ((numV ((numV xs).2)).2)).2)).1).toNat)), ((((numV xs).1)).toNat), ((((numV ((numV xs).2)).1)).toNat), ((((numV ((numV ((numV xs).2)).2)).1)).toNat), (((numV ((numV ((numV ((numV xs).2)).2)).2)).2).take (((numV ((numV ((numV ((numV xs).2)).2)).2)).1).toNat)))
def dc1_m (xs : List Int) : (List Int) × Nat × Nat × Nat × (List Int) := shut (dc1_v xs)
theorem dc1_e (xs : List Int) : dc1_m xs = dc1_v xs := shut_eq _
def c_dc1 (xs : List Int) : Con := ⟨[.cp 0 0, .cp 1 0], [(0, .ob 171 (chain [lb xs])), (1, .ob 84 (chain [vi 0, vi 0, vi 0, .v (.slice none 0 0)]))], .tu (chain []), [(0, .ob 171 (chain [lb ((dc1_m xs).1)])), (1, .ob 84 (chain [vi (((dc1_m xs).2.1 : Nat) : Int), vi (((dc1_m xs).2.2.1 : Nat) : Int), vi (((dc1_m xs).2.2.2.1 : Nat) : Int), lb ((dc1_m xs).2.2.2.2)]))]⟩
theorem dc1_ok (xs : List Int) (h : xs.length ≤ 100000000000000) (hk : dc1_k xs = true) : ConOk Try.prog 90 (c_dc1 xs) := by
 refine conOk_of rfl (nb := 2) Try.func90 rfl rfl Try.ntmps90 rfl rfl rfl fun g0 w0 ac gs ws hg0 hS => ?_
 have hS := hS.sp
 refine wp_seq (wp_seq ?_)
 have hnn := (numV_nn xs).2
 have hn2 := numV_le2 xs
 have hn3 := numV_le3 xs
 refine r0 [0, 1, 9, 10, 11] [0, 1] 2 hS fun hS => ?_
 refine then_n (wp_block (wp_loop_rounds 4 ?_))
 refine rounds_s (n := 3) ?_
 refine s0 [0, 1, 9, 10, 11, 12] [0, 1] 2 hS fun hS => ?_
 refine wp_seq (cond_t hS ?_)
 refine wp_skip (then_n (wp_seq (wp_block (sA [] trivial (fun _ => [(0 : Int) ≤ 0 ∧ (0 : Int) < 3]) [0, 1, 4, 9, 10, 11, 12, 13, 14] [0, 1] 2 ⟨by omega, trivial⟩ hS fun hS => ?_))))
 refine wp_seq ?_
 by_cases h1 : numB xs = true
 ·refine rA [(1, .call ⟨91, (c_num xs), [(0, 0)], []⟩)] ⟨num_ok _ lnn h1, trivial⟩ (fun C => [ndC C 1]) [0, 1, 4, 5, 9, 10, 11, 12, 13, 14, 15, 16] [0, 1] 2 ⟨rfl, trivial⟩ hS fun hS => ?_
  refine then_n (wp_seq (s0 [0, 1, 4, 5, 9, 10, 11, 12, 13, 14, 15, 16, 17, 18] [0, 1] 2 hS fun hS => ?_))
  refine if_d ((1073741824 : Int) < ((numV xs).1)) hS (fun h2 => ?_) (fun h2 => ?_)
  ·have hK : dc1_k xs = false := (dc1_ke xs).trans ((if_pos h1).trans (if_pos h2))
   rw [hK] at hk
   cases hk
  ·refine wp_skip (then_n (rA [(2, .oi (((((numV xs).1)).toNat : Nat) : Int))] trivial (fun _ => [IntKind.wrap .i64 (((numV xs).1)) = (((((numV xs).1)).toNat : Nat) : Int)]) [0, 1, 4, 5, 9, 10, 11, 12, 13, 14, 15, 16, 17, 18, 20, 21, 22, 23] [0, 1] 2 ⟨wrapN64 (numV_nn _).1 h2, trivial⟩ hS fun hS => ?_))
   refine block_n (then_n (r0 [0, 1, 4, 5, 9, 10, 11, 12, 13, 14, 15, 16, 17, 18, 20, 21, 22, 23, 24] [0, 1] 2 hS fun hS => ?_))
   refine then_n (rounds_s (n := 2) ?_)
   refine s0 [0, 1, 4, 5, 9, 10, 11, 12, 13, 14, 15, 16, 17, 18, 20, 21, 22, 23, 24] [0, 1] 2 hS fun hS => ?_
   refine wp_seq (cond_t hS ?_)
   refine wp_skip (then_n (wp_seq (wp_block (sA [] trivial (fun _ => [(0 : Int) ≤ 1 ∧ (1 : Int) < 3]) [0, 1, 4, 5, 9, 10, 11, 12, 13, 14, 15, 16, 17, 18, 20, 21, 22, 23, 24] [0, 1] 2 ⟨by omega, trivial⟩ hS fun hS => ?_))))
   refine wp_seq ?_
   by_cases h3 : numB ((numV xs).2) = true
   ·refine rA [(1, .call ⟨91, (c_num ((numV xs).2)), [(0, 0)], []⟩)] ⟨num_ok _ lnn h3, trivial⟩ (fun C => [ndC C 1]) [0, 1, 4, 5, 9, 10, 11, 12, 13, 14, 15, 16, 17, 18, 20, 21, 22, 23, 24] [0, 1] 2 ⟨rfl, trivial⟩ hS fun hS => ?_
    refine then_n (wp_seq (s0 [0, 1, 4, 5, 9, 10, 11, 12, 13, 14, 15, 16, 17, 18, 20, 21, 22, 23, 24] [0, 1] 2 hS fun hS => ?_))
    refine if_d ((1073741824 : Int) < ((numV ((numV xs).2)).1)) hS (fun h4 => ?_) (fun h4 => ?_)
    ·have hK : dc1_k xs = false := (dc1_ke xs).trans ((if_pos h1).trans ((if_neg h2).trans ((if_pos h3).trans (if_pos h4))))
     rw [hK] at hk
     cases hk
    ·refine wp_skip (then_n (rA [(2, .oi (((((numV ((numV xs).2)).1)).toNat : Nat) : Int))] trivial (fun _ => [IntKind.wrap .i64 (((numV ((numV xs).2)).1)) = (((((numV ((numV xs).2)).1)).toNat : Nat) : Int)]) [0, 1, 4, 5, 9, 10, 11, 12, 13, 14, 15, 16, 17, 18, 20, 21, 22, 23, 24] [0, 1] 2 ⟨wrapN64 (numV_nn _).1 h4, trivial⟩ hS fun hS => ?_))
     refine block_n (then_n (r0 [0, 1, 4, 5, 9, 10, 11, 12, 13, 14, 15, 16, 17, 18, 20, 21, 22, 23, 24] [0, 1] 2 hS fun hS => ?_))
     refine then_n (rounds_s (n := 1) ?_)
     refine s0 [0, 1, 4, 5, 9, 10, 11, 12, 13, 14, 15, 16, 17, 18, 20, 21, 22, 23, 24] [0, 1] 2 hS fun hS => ?_
     refine wp_seq (cond_t hS ?_)
     refine wp_skip (then_n (wp_seq (wp_block (sA [] trivial (fun _ => [(0 : Int) ≤ 2 ∧ (2 : Int) < 3]) [0, 1, 4, 5, 9, 10, 11, 12, 13, 14, 15, 16, 17, 18, 20, 21, 22, 23, 24] [0, 1] 2 ⟨by omega, trivial⟩ hS fun hS => ?_))))
     refine wp_seq ?_
     by_cases h5 : numB ((numV ((numV xs).2)).2) = true
     ·refine rA [(1, .call ⟨91, (c_num ((numV ((numV xs).2)).2)), [(0, 0)], []⟩)] ⟨num_ok _ lnn h5, trivial⟩ (fun C => [ndC C 1]) [0, 1, 4, 5, 9, 10, 11, 12, 13, 14, 15, 16, 17, 18, 20, 21, 22, 23, 24] [0, 1] 2 ⟨rfl, trivial⟩ hS fun hS => ?_
      refine then_n (wp_seq (s0 [0, 1, 4, 5, 9, 10, 11, 12, 13, 14, 15, 16, 17, 18, 20, 21, 22, 23, 24] [0, 1] 2 hS fun hS => ?_))
      refine if_d ((1073741824 : Int) < ((numV ((numV ((numV xs).2)).2)).1)) hS (fun h6 => ?_) (fun h6 => ?_)
      ·have hK : dc1_k xs = false := (dc1_ke xs).trans ((if_pos h1).trans ((if_neg h2).trans ((if_pos h3).trans ((if_neg h4).trans ((if_pos h5).trans (if_pos h6))))))
       rw [hK] at hk
       cases hk
      ·refine wp_skip (then_n (rA [(2, .oi (((((numV ((numV ((numV xs).2)).2)).1)).toNat : Nat) : Int))] trivial (fun _ => [IntKind.wrap .i64 (((numV ((numV ((numV xs).2)).2)).1)) = (((((numV ((numV ((numV xs).2)).2)).1)).toNat : Nat) : Int)]) [0, 1, 4, 5, 9, 10, 11, 12, 13, 14, 15, 16, 17, 18, 20, 21, 22, 23, 24] [0, 1] 2 ⟨wrapN64 (numV_nn _).1 h6, trivial⟩ hS fun hS => ?_))
       refine block_n (then_n (r0 [0, 1, 4, 5, 9, 10, 11, 12, 13, 14, 15, 16, 17, 18, 20, 21, 22, 23, 24] [0, 1] 2 hS fun hS => ?_))
       refine then_n (rounds_s (n := 0) ?_)
       refine s0 [0, 1, 4, 5, 9, 11, 12, 13, 14, 15, 16, 17, 18, 20, 21, 22, 23, 24] [0, 1] 2 hS fun hS => ?_
       refine wp_seq (cond_f hS ?_)
       refine wp_exit (then_exit (then_exit (block_exit (then_n ?_))))
       by_cases h7 : rbytes1_k ((numV ((numV ((numV xs).2)).2)).2) 1000 = true
       ·refine rA [(1, .call ⟨92, (c_rbytes1 ((numV ((numV ((numV xs).2)).2)).2) 1000), [(0, 0)], []⟩)] ⟨rbytes1_ok _ _ lnn omm h7, trivial⟩ (fun C => [ndC C 1]) [] [0, 1] 2 ⟨rfl, trivial⟩ hS fun hS => ?_
        have hM : dc1_m xs = ((((numV ((numV ((numV ((numV xs).2)).2)).2)).2).drop (((numV ((numV ((numV ((numV xs).2)).2)).2)).1).toNat)), ((((numV xs).1)).toNat), ((((numV ((numV xs).2)).1)).toNat), ((((numV ((numV ((numV xs).2)).2)).1)).toNat), (((numV ((numV ((numV ((numV xs).2)).2)).2)).2).take (((numV ((numV ((numV ((numV xs).2)).2)).2)).1).toNat))) := dc1_e xs
        exact fin_y rfl (.inl rfl) hS [] [(0, some (.ob 171 (chain [lb (((numV ((numV ((numV ((numV xs).2)).2)).2)).2).drop (((numV ((numV ((numV ((numV xs).2)).2)).2)).1).toNat))]))), (1, some (.ob 84 (chain [vi (((((numV xs).1)).toNat : Nat) : Int), vi (((((numV ((numV xs).2)).1)).toNat : Nat) : Int), vi (((((numV ((numV ((numV xs).2)).2)).1)).toNat : Nat) : Int), lb (((numV ((numV ((numV ((numV xs).2)).2)).2)).2).take (((numV ((numV ((numV ((numV xs).2)).2)).2)).1).toNat))])))] rfl (by show H1Ok _ [(0, .ob 171 (chain [lb ((dc1_m xs).1)])), (1, .ob 84 (chain [vi (((dc1_m xs).2.1 : Nat) : Int), vi (((dc1_m xs).2.2.1 : Nat) : Int), vi (((dc1_m xs).2.2.2.1 : Nat) : Int), lb ((dc1_m xs).2.2.2.2)]))] true; rw [hM]; first | (simp only []; exact ⟨rfl, rfl, trivial⟩) | exact ⟨rfl, rfl, trivial⟩)
       ·have hK : dc1_k xs = false := (dc1_ke xs).trans ((if_pos h1).trans ((if_neg h2).trans ((if_pos h3).trans ((if_neg h4).trans ((if_pos h5).trans ((if_neg h6).trans (if_neg h7)))))))
        rw [hK] at hk
        cases hk
     ·have hK : dc1_k xs = false := (dc1_ke xs).trans ((if_pos h1).trans ((if_neg h2).trans ((if_pos h3).trans ((if_neg h4).trans (if_neg h5)))))
      rw [hK] at hk
      cases hk
   ·have hK : dc1_k xs = false := (dc1_ke xs).trans ((if_pos h1).trans ((if_neg h2).trans (if_neg h3)))
    rw [hK] at hk
    cases hk
 ·have hK : dc1_k xs = false := (dc1_ke xs).trans (if_neg h1)
  rw [hK] at hk
  cases hk
def c_dc1_p (xs : List Int) : Con := ⟨[.cp 0 0, .cp 1 0], [(0, .ob 171 (chain [lb xs])), (1, .ob 84 (chain [vi 0, vi 0, vi 0, .v (.slice none 0 0)]))], .v (.iface 27 (.int .i64 (((dc1_p_e xs).1 : Nat) : Int))), [(1, .ob 84 (chain [vi (((dc1_p_e xs).2.1 : Nat) : Int), vi (((dc1_p_e xs).2.2.1 : Nat) : Int), vi (((dc1_p_e xs).2.2.2 : Nat) : Int), .v (.slice none 0 0)]))]⟩
theorem dc1_p_ok (xs : List Int) (h : xs.length ≤ 100000000000000) (hk : dc1_k xs = false) : PanOk Try.prog 90 (c_dc1_p xs) := by
 refine conOk_ofE rfl (nb := 2) Try.func90 rfl rfl Try.ntmps90 rfl rfl rfl fun g0 w0 ac gs ws hg0 hS => ?_
 have hS := hS.sp
 refine wp_seq (wp_seq ?_)
 have hnn := (numV_nn xs).2
 have hn2 := numV_le2 xs
 have hn3 := numV_le3 xs
 refine r0 [0, 1, 9, 10, 11] [0, 1] 2 hS fun hS => ?_
 refine then_n (wp_block (wp_loop_rounds 4 ?_))
 refine rounds_s (n := 3) ?_
 refine s0 [0, 1, 9, 10, 11, 12] [0, 1] 2 hS fun hS => ?_
 refine wp_seq (cond_t hS ?_)
 refine wp_skip (then_n (wp_seq (wp_block (sA [] trivial (fun _ => [(0 : Int) ≤ 0 ∧ (0 : Int) < 3]) [0, 1, 4, 9, 10, 11, 12, 13, 14] [0, 1] 2 ⟨by omega, trivial⟩ hS fun hS => ?_))))
 refine wp_seq ?_
 by_cases h1 : numB xs = true
 ·refine rA [(1, .call ⟨91, (c_num xs), [(0, 0)], []⟩)] ⟨num_ok _ lnn h1, trivial⟩ (fun C => [ndC C 1]) [0, 1, 4, 5, 9, 10, 11, 12, 13, 14, 15, 16] [0, 1] 2 ⟨rfl, trivial⟩ hS fun hS => ?_
  refine then_n (wp_seq (s0 [0, 1, 4, 5, 9, 10, 11, 12, 13, 14, 15, 16, 17, 18] [0, 1] 2 hS fun hS => ?_))
  refine if_d ((1073741824 : Int) < ((numV xs).1)) hS (fun h2 => ?_) (fun h2 => ?_)
  ·refine region_p3 (E := E0) hZ [] trivial none (fun r hr => by cases hr) 1 0 (fun _ => []) (.v (.iface 27 (.int .i64 2))) [] [1] [] [(1, some (.ob 84 (chain [vi 0, vi 0, vi 0, .v (.slice none 0 0)])))] 2 (by kernel_rfl) trivial hS.st fun ac gs ws pv hS hpv => ?_
   refine then_pan (block_pan (then_pan (then_pan (block_pan (then_pan ?_)))))
   have hM : dc1_p_e xs = (2, 0, 0, 0) := (dc1_p_ee xs).trans ((if_pos h1).trans (if_pos h2))
   exact fin_p3 rfl hS hpv (by show _ = (.v (.iface 27 (.int .i64 (((dc1_p_e xs).1 : Nat) : Int))) : D); rw [hM] <;> rfl) (by show H1Ok _ [(1, .ob 84 (chain [vi (((dc1_p_e xs).2.1 : Nat) : Int), vi (((dc1_p_e xs).2.2.1 : Nat) : Int), vi (((dc1_p_e xs).2.2.2 : Nat) : Int), .v (.slice none 0 0)]))] true; rw [hM]; first | (simp only []; exact ⟨rfl, trivial⟩) | exact ⟨rfl, trivial⟩)
  ·refine wp_skip (then_n (rA [(2, .oi (((((numV xs).1)).toNat : Nat) : Int))] trivial (fun _ => [IntKind.wrap .i64 (((numV xs).1)) = (((((numV xs).1)).toNat : Nat) : Int)]) [0, 1, 4, 5, 9, 10, 11, 12, 13, 14, 15, 16, 17, 18, 20, 21, 22, 23] [0, 1] 2 ⟨wrapN64 (numV_nn _).1 h2, trivial⟩ hS fun hS => ?_))
   refine block_n (then_n (r0 [0, 1, 4, 5, 9, 10, 11, 12, 13, 14, 15, 16, 17, 18, 20, 21, 22, 23, 24] [0, 1] 2 hS fun hS => ?_))
   refine then_n (rounds_s (n := 2) ?_)
   refine s0 [0, 1, 4, 5, 9, 10, 11, 12, 13, 14, 15, 16, 17, 18, 20, 21, 22, 23, 24] [0, 1] 2 hS fun hS => ?_
   refine wp_seq (cond_t hS ?_)
   refine wp_skip (then_n (wp_seq (wp_block (sA [] trivial (fun _ => [(0 : Int) ≤ 1 ∧ (1 : Int) < 3]) [0, 1, 4, 5, 9, 10, 11, 12, 13, 14, 15, 16, 17, 18, 20, 21, 22, 23, 24] [0, 1] 2 ⟨by omega, trivial⟩ hS fun hS => ?_))))
   refine wp_seq ?_
   by_cases h3 : numB ((numV xs).2) = true
   ·refine rA [(1, .call ⟨91, (c_num ((numV xs).2)), [(0, 0)], []⟩)] ⟨num_ok _ lnn h3, trivial⟩ (fun C => [ndC C 1]) [0, 1, 4, 5, 9, 10, 11, 12, 13, 14, 15, 16, 17, 18, 20, 21, 22, 23, 24] [0, 1] 2 ⟨rfl, trivial⟩ hS fun hS => ?_
    refine then_n (wp_seq (s0 [0, 1, 4, 5, 9, 10, 11, 12, 13, 14, 15, 16, 17, 18, 20, 21, 22, 23, 24] [0, 1] 2 hS fun hS => ?_))
    refine if_d ((1073741824 : Int) < ((numV ((numV xs).2)).1)) hS (fun h4 => ?_) (fun h4 => ?_)
    ·refine region_p3 (E := E0) hZ [] trivial none (fun r hr => by cases hr) 1 0 (fun _ => []) (.v (.iface 27 (.int .i64 2))) [] [1] [] [(1, some (.ob 84 (chain [vi (((((numV xs).1)).toNat : Nat) : Int), vi 0, vi 0, .v (.slice none 0 0)])))] 2 (by kernel_rfl) trivial hS.st fun ac gs ws pv hS hpv => ?_
     refine then_pan (block_pan (then_pan (then_pan (block_pan (then_pan ?_)))))
     have hM : dc1_p_e xs = (2, ((((numV xs).1)).toNat), 0, 0) := (dc1_p_ee xs).trans ((if_pos h1).trans ((if_neg h2).trans ((if_pos h3).trans (if_pos h4))))
     exact fin_p3 rfl hS hpv (by show _ = (.v (.iface 27 (.int .i64 (((dc1_p_e xs).1 : Nat) : Int))) : D); rw [hM] <;> rfl) (by show H1Ok _ [(1, .ob 84 (chain [vi (((dc1_p_e xs).2.1 : Nat) : Int), vi (((dc1_p_e xs).2.2.1 : Nat) : Int), vi (((dc1_p_e xs).2.2.2 : Nat) : Int), .v (.slice none 0 0)]))] true; rw [hM]; first | (simp only []; exact ⟨rfl, trivial⟩) | exact ⟨rfl, trivial⟩)
    ·refine wp_skip (then_n (rA [(2, .oi (((((numV ((numV xs).2)).1)).toNat : Nat) : Int))] trivial (fun _ => [IntKind.wrap .i64 (((numV ((numV xs).2)).1)) = (((((numV ((numV xs).2)).1)).toNat : Nat) : Int)]) [0, 1, 4, 5, 9, 10, 11, 12, 13, 14, 15, 16, 17, 18, 20, 21, 22, 23, 24] [0, 1] 2 ⟨wrapN64 (numV_nn _).1 h4, trivial⟩ hS fun hS => ?_))
     refine block_n (then_n (r0 [0, 1, 4, 5, 9, 10, 11, 12, 13, 14, 15, 16, 17, 18, 20, 21, 22, 23, 24] [0, 1] 2 hS fun hS => ?_))
     refine then_n (rounds_s (n := 1) ?_)
     refine s0 [0, 1, 4, 5, 9, 10, 11, 12, 13, 14, 15, 16, 17, 18, 20, 21, 22, 23, 24] [0, 1] 2 hS fun hS => ?_
     refine wp_seq (cond_t hS ?_)
     refine wp_skip (then_n (wp_seq (wp_block (sA [] trivial (fun _ => [(0 : Int) ≤ 2 ∧ (2 : Int) < 3]) [0, 1, 4, 5, 9, 10, 11, 12, 13, 14, 15, 16, 17, 18, 20, 21, 22, 23, 24] [0, 1] 2 ⟨by omega, trivial⟩ hS fun hS => ?_))))
     refine wp_seq ?_
     by_cases h5 : numB ((numV ((numV xs).2)).2) = true
     ·refine rA [(1, .call ⟨91, (c_num ((numV ((numV xs).2)).2)), [(0, 0)], []⟩)] ⟨num_ok _ lnn h5, trivial⟩ (fun C => [ndC C 1]) [0, 1, 4, 5, 9, 10, 11, 12, 13, 14, 15, 16, 17, 18, 20, 21, 22, 23, 24] [0, 1] 2 ⟨rfl, trivial⟩ hS fun hS => ?_
      refine then_n (wp_seq (s0 [0, 1, 4, 5, 9, 10, 11, 12, 13, 14, 15, 16, 17, 18, 20, 21, 22, 23, 24] [0, 1] 2 hS fun hS => ?_))
      refine if_d ((1073741824 : Int) < ((numV ((numV ((numV xs).2)).2)).1)) hS (fun h6 => ?_) (fun h6 => ?_)
      ·refine region_p3 (E := E0) hZ [] trivial none (fun r hr => by cases hr) 1 0 (fun _ => []) (.v (.iface 27 (.int .i64 2))) [] [1] [] [(1, some (.ob 84 (chain [vi (((((numV xs).1)).toNat : Nat) : Int), vi (((((numV ((numV xs).2)).1)).toNat : Nat) : Int), vi 0, .v (.slice none 0 0)])))] 2 (by kernel_rfl) trivial hS.st fun ac gs ws pv hS hpv => ?_
       refine then_pan (block_pan (then_pan (then_pan (block_pan (then_pan ?_)))))
       have hM : dc1_p_e xs = (2, ((((numV xs).1)).toNat), ((((numV ((numV xs).2)).1)).toNat), 0) := (dc1_p_ee xs).trans ((if_pos h1).trans ((if_neg h2).trans ((if_pos h3).trans ((if_neg h4).trans ((if_pos h5).trans (if_pos h6))))))
       exact fin_p3 rfl hS hpv (by show _ = (.v (.iface 27 (.int .i64 (((dc1_p_e xs).1 : Nat) : Int))) : D); rw [hM] <;> rfl) (by show H1Ok _ [(1, .ob 84 (chain [vi (((dc1_p_e xs).2.1 : Nat) : Int), vi (((dc1_p_e xs).2.2.1 : Nat) : Int), vi (((dc1_p_e xs).2.2.2 : Nat) : Int), .v (.slice none 0 0)]))] true; rw [hM]; first | (simp only []; exact ⟨rfl, trivial⟩) | exact ⟨rfl, trivial⟩)
      ·refine wp_skip (then_n (rA [(2, .oi (((((numV ((numV ((numV xs).2)).2)).1)).toNat : Nat) : Int))] trivial (fun _ => [IntKind.wrap .i64 (((numV ((numV ((numV xs).2)).2)).1)) = (((((numV ((numV ((numV xs).2)).2)).1)).toNat : Nat) : Int)]) [0, 1, 4, 5, 9, 10, 11, 12, 13, 14, 15, 16, 17, 18, 20, 21, 22, 23, 24] [0, 1] 2 ⟨wrapN64 (numV_nn _).1 h6, trivial⟩ hS fun hS => ?_))
       refine block_n (then_n (r0 [0, 1, 4, 5, 9, 10, 11, 12, 13, 14, 15, 16, 17, 18, 20, 21, 22, 23, 24] [0, 1] 2 hS fun hS => ?_))
       refine then_n (rounds_s (n := 0) ?_)
       refine s0 [0, 1, 4, 5, 9, 11, 12, 13, 14, 15, 16, 17, 18, 20, 21, 22, 23, 24] [0, 1] 2 hS fun hS => ?_
       refine wp_seq (cond_f hS ?_)
       refine wp_exit (then_exit (then_exit (block_exit (then_n ?_))))
       by_cases h7 : rbytes1_k ((numV ((numV ((numV xs).2)).2)).2) 1000 = true
       ·refine rA [(1, .call ⟨92, (c_rbytes1 ((numV ((numV ((numV xs).2)).2)).2) 1000), [(0, 0)], []⟩)] ⟨rbytes1_ok _ _ lnn omm h7, trivial⟩ (fun C => [ndC C 1]) [] [0, 1] 2 ⟨rfl, trivial⟩ hS fun hS => ?_
        have hK : dc1_k xs = true := (dc1_ke xs).trans ((if_pos h1).trans ((if_neg h2).trans ((if_pos h3).trans ((if_neg h4).trans ((if_pos h5).trans ((if_neg h6).trans (if_pos h7)))))))
        rw [hK] at hk
        cases hk
       ·refine region_p3 (E := E0) hZ [] trivial (some ⟨92, (c_rbytes1_p ((numV ((numV ((numV xs).2)).2)).2) 1000), [(0, 0)], []⟩) (fun r hr => by cases hr; exact rbytes1_p_ok ((numV ((numV ((numV xs).2)).2)).2) 1000 lnn omm (bne_k h7)) 1 12 (fun _ => [nd [.cp 0 0, vi 1000] [some (.ob 171 (chain [lb ((numV ((numV ((numV xs).2)).2)).2)]))]]) (.v (.iface 27 (.int .i64 ((rbytes1_p_e ((numV ((numV ((numV xs).2)).2)).2) 1000 : Nat) : Int)))) [] [1] [] [(1, some (.ob 84 (chain [vi (((((numV xs).1)).toNat : Nat) : Int), vi (((((numV ((numV xs).2)).1)).toNat : Nat) : Int), vi (((((numV ((numV ((numV xs).2)).2)).1)).toNat : Nat) : Int), .v (.slice none 0 0)])))] 2 (by kernel_rfl) ⟨rfl, trivial⟩ hS.st fun ac gs ws pv hS hpv => ?_
        have hM : dc1_p_e xs = ((rbytes1_p_e ((numV ((numV ((numV xs).2)).2)).2) 1000), ((((numV xs).1)).toNat), ((((numV ((numV xs).2)).1)).toNat), ((((numV ((numV ((numV xs).2)).2)).1)).toNat)) := (dc1_p_ee xs).trans ((if_pos h1).trans ((if_neg h2).trans ((if_pos h3).trans ((if_neg h4).trans ((if_pos h5).trans (if_neg h6))))))
        exact fin_p3 rfl hS hpv (by show _ = (.v (.iface 27 (.int .i64 (((dc1_p_e xs).1 : Nat) : Int))) : D); rw [hM] <;> rfl) (by show H1Ok _ [(1, .ob 84 (chain [vi (((dc1_p_e xs).2.1 : Nat) : Int), vi (((dc1_p_e xs).2.2.1 : Nat) : Int), vi (((dc1_p_e xs).2.2.2 : Nat) : Int), .v (.slice none 0 0)]))] true; rw [hM]; first | (simp only []; exact ⟨rfl, trivial⟩) | exact ⟨rfl, trivial⟩)
     ·refine region_p3 (E := E0) hZ [] trivial (some ⟨91, (c_num_p ((numV ((numV xs).2)).2)), [(0, 0)], []⟩) (fun r hr => by cases hr; exact num_p_ok ((numV ((numV xs).2)).2) lnn (bne_k h5)) 1 4 (fun _ => [nd [.cp 0 0] [some (.ob 171 (chain [lb ((numV ((numV xs).2)).2)]))]]) (.v (.iface 27 (.int .i64 2))) [] [1] [] [(1, some (.ob 84 (chain [vi (((((numV xs).1)).toNat : Nat) : Int), vi (((((numV ((numV xs).2)).1)).toNat : Nat) : Int), vi 0, .v (.slice none 0 0)])))] 2 (by kernel_rfl) ⟨rfl, trivial⟩ hS.st fun ac gs ws pv hS hpv => ?_
      refine then_pan (block_pan (then_pan (then_pan (block_pan (then_pan ?_)))))
      have hM : dc1_p_e xs = (2, ((((numV xs).1)).toNat), ((((numV ((numV xs).2)).1)).toNat), 0) := (dc1_p_ee xs).trans ((if_pos h1).trans ((if_neg h2).trans ((if_pos h3).trans ((if_neg h4).trans (if_neg h5)))))
      exact fin_p3 rfl hS hpv (by show _ = (.v (.iface 27 (.int .i64 (((dc1_p_e xs).1 : Nat) : Int))) : D); rw [hM] <;> rfl) (by show H1Ok _ [(1, .ob 84 (chain [vi (((dc1_p_e xs).2.1 : Nat) : Int), vi (((dc1_p_e xs).2.2.1 : Nat) : Int), vi (((dc1_p_e xs).2.2.2 : Nat) : Int), .v (.slice none 0 0)]))] true; rw [hM]; first | (simp only []; exact ⟨rfl, trivial⟩) | exact ⟨rfl, trivial⟩)
   ·refine region_p3 (E := E0) hZ [] trivial (some ⟨91, (c_num_p ((numV xs).2)), [(0, 0)], []⟩) (fun r hr => by cases hr; exact num_p_ok ((numV xs).2) lnn (bne_k h3)) 1 4 (fun _ => [nd [.cp 0 0] [some (.ob 171 (chain [lb ((numV xs).2)]))]]) (.v (.iface 27 (.int .i64 2))) [] [1] [] [(1, some (.ob 84 (chain [vi (((((numV xs).1)).toNat : Nat) : Int), vi 0, vi 0, .v (.slice none 0 0)])))] 2 (by kernel_rfl) ⟨rfl, trivial⟩ hS.st fun ac gs ws pv hS hpv => ?_
    refine then_pan (block_pan (then_pan (then_pan (block_pan (then_pan ?_)))))
    have hM : dc1_p_e xs = (2, ((((numV xs).1)).toNat), 0, 0) := (dc1_p_ee xs).trans ((if_pos h1).trans ((if_neg h2).trans (if_neg h3)))
    exact fin_p3 rfl hS hpv (by show _ = (.v (.iface 27 (.int .i64 (((dc1_p_e xs).1 : Nat) : Int))) : D); rw [hM] <;> rfl) (by show H1Ok _ [(1, .ob 84 (chain [vi (((dc1_p_e xs).2.1 : Nat) : Int), vi (((dc1_p_e xs).2.2.1 : Nat) : Int), vi (((dc1_p_e xs).2.2.2 : Nat) : Int), .v (.slice none 0 0)]))] true; rw [hM]; first | (simp only []; exact ⟨rfl, trivial⟩) | exact ⟨rfl, trivial⟩)
 ·refine region_p3 (E := E0) hZ [] trivial (some ⟨91, (c_num_p xs), [(0, 0)], []⟩) (fun r hr => by cases hr; exact num_p_ok xs lnn (bne_k h1)) 1 4 (fun _ => [nd [.cp 0 0] [some (.ob 171 (chain [lb xs]))]]) (.v (.iface 27 (.int .i64 2))) [] [1] [] [(1, some (.ob 84 (chain [vi 0, vi 0, vi 0, .v (.slice none 0 0)])))] 2 (by kernel_rfl) ⟨rfl, trivial⟩ hS.st fun ac gs ws pv hS hpv => ?_
  refine then_pan (block_pan (then_pan (then_pan (block_pan (then_pan ?_)))))
  have hM : dc1_p_e xs = (2, 0, 0, 0) := (dc1_p_ee xs).trans (if_neg h1)
  exact fin_p3 rfl hS hpv (by show _ = (.v (.iface 27 (.int .i64 (((dc1_p_e xs).1 : Nat) : Int))) : D); rw [hM] <;> rfl) (by show H1Ok _ [(1, .ob 84 (chain [vi (((dc1_p_e xs).2.1 : Nat) : Int), vi (((dc1_p_e xs).2.2.1 : Nat) : Int), vi (((dc1_p_e xs).2.2.2 : Nat) : Int), .v (.slice none 0 0)]))] true; rw [hM]; first | (simp only []; exact ⟨rfl, trivial⟩) | exact ⟨rfl, trivial⟩)

theorem dc1_len (xs : List Int) : (dc1_m xs).1.length ≤ xs.length := by
 have h3 := numV_le3 xs
 have h4 := (numV_nn (numV (numV (numV xs).2).2).2).2
 rw [dc1_e]
 show (List.drop _ _).length ≤ _
 rw [List.length_drop]
 omega
theorem small_p_pos (xs : List Int) (m : Nat) : 0 < small_p_e xs m := by
 rw [small_p_ee]; unfold small_p_ev
 repeat (first | decide | split)
theorem rbytes1_p_pos (xs : List Int) (m : Nat) : 0 < rbytes1_p_e xs m := by
 rw [rbytes1_p_ee]; unfold rbytes1_p_ev
 repeat (first | decide | exact small_p_pos _ _ | split)
theorem dc1_p_pos (xs : List Int) : 0 < (dc1_p_e xs).1 := by
 rw [dc1_p_ee]; unfold dc1_p_ev
 repeat' (first | exact (by decide : (0 : Nat) < 2) | exact rbytes1_p_pos _ _ | split)
def rdp_kv (xs : List Int) : Bool := if dc1_k xs = true then (if rend_k ((dc1_m xs).1) = true then true else false) else false
def rdp_k (xs : List Int) : Bool := shut (rdp_kv xs)
theorem rdp_ke (xs : List Int) : rdp_k xs = rdp_kv xs := shut_eq _
def rdp_p_ev (xs : List Int) : Nat × Nat × Nat × Nat × (List Int) := if dc1_k xs = true then (2, ((dc1_m xs).2.1), ((dc1_m xs).2.2.1), ((dc1_m xs).2.2.2.1), (dc1_m xs).2.2.2.2) else (((dc1_p_e xs).1), ((dc1_p_e xs).2.1), ((dc1_p_e xs).2.2.1), ((dc1_p_e xs).2.2.2), [])
def rdp_p_e (xs : List Int) : Nat × Nat × Nat × Nat × (List Int) := shut (rdp_p_ev xs)
theorem rdp_p_ee (xs : List Int) : rdp_p_e xs = rdp_p_ev xs := shut_eq _
def rdp_v (xs : List Int) : Nat × Nat × Nat × (List Int) := (((dc1_m xs).2.1), ((dc1_m xs).2.2.1), ((dc1_m xs).2.2.2.1), (dc1_m xs).2.2.2.2)
def rdp_m (xs : List Int) : Nat × Nat × Nat × (List Int) := shut (rdp_v xs)
theorem rdp_e (xs : List Int) : rdp_m xs = rdp_v xs := shut_eq _
def c_rdp (xs : List Int) : Con := ⟨[lb xs, .fn 90 (chain []) (chain [.cp 0 0])], [(0, .ob 84 (chain [vi 0, vi 0, vi 0, .v (.slice none 0 0)]))], vi 0, [(0, .ob 84 (chain [vi (((rdp_m xs).1 : Nat) : Int), vi (((rdp_m xs).2.1 : Nat) : Int), vi (((rdp_m xs).2.2.1 : Nat) : Int), lb ((rdp_m xs).2.2.2)]))]⟩
theorem rdp_ok (xs : List Int) (h : xs.length ≤ 100000000000000) (hk : rdp_k xs = true) : ConOk Try.prog 89 (c_rdp xs) := by
 refine conOk_ofDf rfl (nb := 1) Try.func89 rfl rfl Try.ntmps89 rfl rfl rfl fun g0 w0 ac gs ws hg0 hS => ?_
 have hlen0 : xs.length ≤ 9223372036854775807 := hS.len 0 rfl
 have hS := hS.sp
 refine s0 [0, 1, 4] [0, 1] 2 hS fun hS => ?_
 refine wp_seq ?_
 have hS := hS.rv [(0, lb xs), (1, .fn 90 (chain []) (chain [.cp 0 0])), (4, .cp 1 0)] [(0, some (.ob 84 (chain [vi 0, vi 0, vi 0, .v (.slice none 0 0)]))), (1, some (.ob 27 (chain [vi 0])))]
 refine defer_x rfl hS (cs := [.cp 1 0]) rfl rfl rfl fun D vds ac hD hcv hB hS => ?_
 have hS := hS.sp
 refine then_n (sA [(1, .call ⟨109, (c_newrd xs), [], [(0, 2)]⟩)] ⟨newrd_ok _ lnn, trivial⟩ (fun C => [ndC C 1]) [1, 4, 5] [0, 1, 2] 3 ⟨rfl, trivial⟩ hS fun hS => ?_)
 refine wp_seq (s0 [1, 4, 5, 10] [0, 1, 2] 3 hS fun hS => ?_)
 refine cond_t hS ?_
 have hz := dc1_p_pos xs
 by_cases h1 : dc1_k xs = true
 ·have hz := dc1_p_pos xs
  refine rA [(2, .call ⟨90, (c_dc1 xs), [(0, 2), (1, 0)], []⟩)] ⟨dc1_ok _ lnn h1, trivial⟩ (fun C => [ndC C 2]) [4, 5] [0, 1, 2] 3 ⟨rfl, trivial⟩ hS fun hS => ?_
  refine then_n (wp_seq ?_)
  have hpl := dc1_len xs
  by_cases h2 : rend_k ((dc1_m xs).1) = true
  ·have hpl := dc1_len xs
   refine rA [(1, .call ⟨110, (c_rend ((dc1_m xs).1)), [(0, 2)], []⟩)] ⟨rend_ok _ h2, trivial⟩ (fun C => [ndC C 1]) [4] [0, 1] 3 ⟨rfl, trivial⟩ hS fun hS => ?_
   refine then_n (s0 [4] [0, 1] 3 hS fun hS => ?_)
   refine wp_ret ?_
   have hM : rdp_m xs = (((dc1_m xs).2.1), ((dc1_m xs).2.2.1), ((dc1_m xs).2.2.2.1), (dc1_m xs).2.2.2.2) := rdp_e xs
   have hS := hS.rv [(4, .cp 1 0)] [(0, some (.ob 84 (chain [vi (((dc1_m xs).2.1 : Nat) : Int), vi (((dc1_m xs).2.2.1 : Nat) : Int), vi (((dc1_m xs).2.2.2.1 : Nat) : Int), lb ((dc1_m xs).2.2.2.2)]))), (1, some (.ob 27 (chain [vi 0])))]
   exact fin_dr (.inr rfl) hS hD (leaves_d ⟨108, (c_rec_r), [(0, 1)], []⟩ [(1, some (.ob 27 (chain [vi 0]))), (0, some (.ob 84 (chain [vi (((dc1_m xs).2.1 : Nat) : Int), vi (((dc1_m xs).2.2.1 : Nat) : Int), vi (((dc1_m xs).2.2.2.1 : Nat) : Int), lb ((dc1_m xs).2.2.2.2)]))), (1, some (.ob 27 (chain [vi 0])))] hB hS hcv (show FrameMode.returning ≠ .run from nofun) rfl rfl rfl (rec_r_ok) rfl ⟨rfl, trivial⟩ rfl (ds := [vi 0]) (by kernel_rfl) rfl (by show H1Ok _ [(0, .ob 84 (chain [vi (((rdp_m xs).1 : Nat) : Int), vi (((rdp_m xs).2.1 : Nat) : Int), vi (((rdp_m xs).2.2.1 : Nat) : Int), lb ((rdp_m xs).2.2.2)]))] true; first | exact ⟨rfl, trivial⟩ | (rw [hM]; first | (simp only []; exact ⟨rfl, trivial⟩) | exact ⟨rfl, trivial⟩)))
  ·have hpl := dc1_len xs
   have hK : rdp_k xs = false := (rdp_ke xs).trans ((if_pos h1).trans (if_neg h2))
   rw [hK] at hk
   cases hk
 ·have hz := dc1_p_pos xs
  have hK : rdp_k xs = false := (rdp_ke xs).trans (if_neg h1)
  rw [hK] at hk
  cases hk
def c_rdp_p (xs : List Int) : Con := ⟨[lb xs, .fn 90 (chain []) (chain [.cp 0 0])], [(0, .ob 84 (chain [vi 0, vi 0, vi 0, .v (.slice none 0 0)]))], vi (((rdp_p_e xs).1 : Nat) : Int), [(0, .ob 84 (chain [vi (((rdp_p_e xs).2.1 : Nat) : Int), vi (((rdp_p_e xs).2.2.1 : Nat) : Int), vi (((rdp_p_e xs).2.2.2.1 : Nat) : Int), lb ((rdp_p_e xs).2.2.2.2)]))]⟩
theorem rdp_p_ok (xs : List Int) (h : xs.length ≤ 100000000000000) (hk : rdp_k xs = false) : ConOk Try.prog 89 (c_rdp_p xs) := by
 refine conOk_ofDf rfl (nb := 1) Try.func89 rfl rfl Try.ntmps89 rfl rfl rfl fun g0 w0 ac gs ws hg0 hS => ?_
 have hlen0 : xs.length ≤ 9223372036854775807 := hS.len 0 rfl
 have hS := hS.sp
 refine s0 [0, 1, 4] [0, 1] 2 hS fun hS => ?_
 refine wp_seq ?_
 have hS := hS.rv [(0, lb xs), (1, .fn 90 (chain []) (chain [.cp 0 0])), (4, .cp 1 0)] [(0, some (.ob 84 (chain [vi 0, vi 0, vi 0, .v (.slice none 0 0)]))), (1, some (.ob 27 (chain [vi 0])))]
 refine defer_x rfl hS (cs := [.cp 1 0]) rfl rfl rfl fun D vds ac hD hcv hB hS => ?_
 have hS := hS.sp
 refine then_n (sA [(1, .call ⟨109, (c_newrd xs), [], [(0, 2)]⟩)] ⟨newrd_ok _ lnn, trivial⟩ (fun C => [ndC C 1]) [1, 4, 5] [0, 1, 2] 3 ⟨rfl, trivial⟩ hS fun hS => ?_)
 refine wp_seq (s0 [1, 4, 5, 10] [0, 1, 2] 3 hS fun hS => ?_)
 refine cond_t hS ?_
 have hz := dc1_p_pos xs
 by_cases h1 : dc1_k xs = true
 ·have hz := dc1_p_pos xs
  refine rA [(2, .call ⟨90, (c_dc1 xs), [(0, 2), (1, 0)], []⟩)] ⟨dc1_ok _ lnn h1, trivial⟩ (fun C => [ndC C 2]) [4, 5] [0, 1, 2] 3 ⟨rfl, trivial⟩ hS fun hS => ?_
  refine then_n (wp_seq ?_)
  have hpl := dc1_len xs
  by_cases h2 : rend_k ((dc1_m xs).1) = true
  ·have hpl := dc1_len xs
   refine rA [(1, .call ⟨110, (c_rend ((dc1_m xs).1)), [(0, 2)], []⟩)] ⟨rend_ok _ h2, trivial⟩ (fun C => [ndC C 1]) [4] [0, 1] 3 ⟨rfl, trivial⟩ hS fun hS => ?_
   refine then_n (s0 [4] [0, 1] 3 hS fun hS => ?_)
   refine wp_ret ?_
   have hK : rdp_k xs = true := (rdp_ke xs).trans ((if_pos h1).trans (if_pos h2))
   rw [hK] at hk
   cases hk
  ·have hpl := dc1_len xs
   refine region_p3 (E := E0) hZ [] trivial (some ⟨110, (c_rend_p ((dc1_m xs).1)), [(0, 2)], []⟩) (fun r hr => by cases hr; exact rend_p_ok ((dc1_m xs).1) (bne_k h2)) 1 0 (fun _ => [nd [.cp 2 0] [some (.ob 171 (chain [lb ((dc1_m xs).1)]))]]) (.v (.iface 27 (.int .i64 2))) [4] [0, 1] [(4, .cp 1 0)] [(0, some (.ob 84 (chain [vi (((dc1_m xs).2.1 : Nat) : Int), vi (((dc1_m xs).2.2.1 : Nat) : Int), vi (((dc1_m xs).2.2.2.1 : Nat) : Int), lb ((dc1_m xs).2.2.2.2)]))), (1, some (.ob 27 (chain [vi 0])))] 3 (by kernel_rfl) ⟨rfl, trivial⟩ hS.st fun ac gs ws pv hS hpv => ?_
   refine then_pan ?_
   obtain rfl := hpv.v_of
   have hM : rdp_p_e xs = (2, ((dc1_m xs).2.1), ((dc1_m xs).2.2.1), ((dc1_m xs).2.2.2.1), (dc1_m xs).2.2.2.2) := (rdp_p_ee xs).trans (if_pos h1)
   exact fin_dp hS hD (leaves_d ⟨108, (c_rec_p 2), [(0, 1)], []⟩ [(1, some (.ob 27 (chain [vi 2]))), (0, some (.ob 84 (chain [vi (((dc1_m xs).2.1 : Nat) : Int), vi (((dc1_m xs).2.2.1 : Nat) : Int), vi (((dc1_m xs).2.2.2.1 : Nat) : Int), lb ((dc1_m xs).2.2.2.2)]))), (1, some (.ob 27 (chain [vi 0])))] hB hS hcv (show FrameMode.panicking _ ≠ .run from nofun) rfl rfl rfl (rec_p_ok 2 omm) rfl ⟨rfl, trivial⟩ rfl (ds := [vi 2]) (by kernel_rfl) (by show weak _ (vi (((rdp_p_e xs).1 : Nat) : Int)) = (vi (((rdp_p_e xs).1 : Nat) : Int)); first | rfl | (rw [hM]; first | (simp only []; rfl) | (simp only []; done) | rfl)) (by show H1Ok _ [(0, .ob 84 (chain [vi (((rdp_p_e xs).2.1 : Nat) : Int), vi (((rdp_p_e xs).2.2.1 : Nat) : Int), vi (((rdp_p_e xs).2.2.2.1 : Nat) : Int), lb ((rdp_p_e xs).2.2.2.2)]))] true; first | exact ⟨rfl, trivial⟩ | (rw [hM]; first | (simp only []; exact ⟨rfl, trivial⟩) | exact ⟨rfl, trivial⟩)))
 ·have hz := dc1_p_pos xs
  refine region_p3 (E := E0) hZ [] trivial (some ⟨90, (c_dc1_p xs), [(0, 2), (1, 0)], []⟩) (fun r hr => by cases hr; exact dc1_p_ok xs lnn (bne_k h1)) 2 0 (fun _ => [nd [.cp 2 0, .cp 0 0] [some (.ob 171 (chain [lb xs])), some (.ob 84 (chain [vi 0, vi 0, vi 0, .v (.slice none 0 0)]))]]) (.v (.iface 27 (.int .i64 (((dc1_p_e xs).1 : Nat) : Int)))) [4] [0, 1] [(4, .cp 1 0)] [(0, some (.ob 84 (chain [vi (((dc1_p_e xs).2.1 : Nat) : Int), vi (((dc1_p_e xs).2.2.1 : Nat) : Int), vi (((dc1_p_e xs).2.2.2 : Nat) : Int), .v (.slice none 0 0)]))), (1, some (.ob 27 (chain [vi 0])))] 3 (by kernel_rfl) ⟨rfl, trivial⟩ hS.st fun ac gs ws pv hS hpv => ?_
  refine then_pan ?_
  have hS := hS.wko 0 [.top, .top, .top, lb []] rfl (H' := [(0, some (.ob 84 (chain [vi (((dc1_p_e xs).2.1 : Nat) : Int), vi (((dc1_p_e xs).2.2.1 : Nat) : Int), vi (((dc1_p_e xs).2.2.2 : Nat) : Int), lb []]))), (0, some (.ob 84 (chain [vi (((dc1_p_e xs).2.1 : Nat) : Int), vi (((dc1_p_e xs).2.2.1 : Nat) : Int), vi (((dc1_p_e xs).2.2.2 : Nat) : Int), .v (.slice none 0 0)]))), (1, some (.ob 27 (chain [vi 0])))]) (by kernel_rfl)
  obtain rfl := hpv.v_of
  have hM : rdp_p_e xs = (((dc1_p_e xs).1), ((dc1_p_e xs).2.1), ((dc1_p_e xs).2.2.1), ((dc1_p_e xs).2.2.2), []) := (rdp_p_ee xs).trans (if_neg h1)
  exact fin_dp hS hD (leaves_d ⟨108, (c_rec_p ((dc1_p_e xs).1)), [(0, 1)], []⟩ [(1, some (.ob 27 (chain [vi ((((dc1_p_e xs).1) : Nat) : Int)]))), (0, some (.ob 84 (chain [vi (((dc1_p_e xs).2.1 : Nat) : Int), vi (((dc1_p_e xs).2.2.1 : Nat) : Int), vi (((dc1_p_e xs).2.2.2 : Nat) : Int), lb []]))), (0, some (.ob 84 (chain [vi (((dc1_p_e xs).2.1 : Nat) : Int), vi (((dc1_p_e xs).2.2.1 : Nat) : Int), vi (((dc1_p_e xs).2.2.2 : Nat) : Int), .v (.slice none 0 0)]))), (1, some (.ob 27 (chain [vi 0])))] hB hS hcv (show FrameMode.panicking _ ≠ .run from nofun) rfl rfl rfl (rec_p_ok ((dc1_p_e xs).1) omm) rfl ⟨rfl, trivial⟩ rfl (ds := [vi ((((dc1_p_e xs).1) : Nat) : Int)]) (by kernel_rfl) (by show weak _ (vi (((rdp_p_e xs).1 : Nat) : Int)) = (vi (((rdp_p_e xs).1 : Nat) : Int)); first | rfl | (rw [hM]; first | (simp only []; rfl) | (simp only []; done) | rfl)) (by show H1Ok _ [(0, .ob 84 (chain [vi (((rdp_p_e xs).2.1 : Nat) : Int), vi (((rdp_p_e xs).2.2.1 : Nat) : Int), vi (((rdp_p_e xs).2.2.2.1 : Nat) : Int), lb ((rdp_p_e xs).2.2.2.2)]))] true; first | exact ⟨rfl, trivial⟩ | (rw [hM]; first | (simp only []; exact ⟨rfl, trivial⟩) | exact ⟨rfl, trivial⟩)))

theorem rbytes1_k_le {ys : List Int} {m : Nat} (h : rbytes1_k ys m = true) : (numV ys).1.toNat ≤ m := by
 rw [rbytes1_ke] at h; unfold rbytes1_kv at h
 split at h
 ·rename_i h1
  rw [small_ke] at h1; unfold small_kv at h1
  split at h1
  ·split at h1
   ·cases h1
   ·omega
  ·cases h1
 ·cases h
def pcB (i a c : Nat) (d : List Int) : Prop := (i ≤ 100000000000 ∧ a ≤ 100000000000 ∧ c ≤ 100000000000) ∧ d.length ≤ 100000
theorem dc1_le {xs : List Int} (hk : dc1_k xs = true) : pcB (dc1_m xs).2.1 (dc1_m xs).2.2.1 (dc1_m xs).2.2.2.1 (dc1_m xs).2.2.2.2 := by
 rw [dc1_e]; rw [dc1_ke] at hk; unfold dc1_kv at hk; unfold dc1_v
 split at hk
 ·split at hk
  ·cases hk
  ·split at hk
   ·split at hk
    ·cases hk
    ·split at hk
     ·split at hk
      ·cases hk
      ·split at hk
       ·rename_i h7
        have h8 := rbytes1_k_le h7
        refine ⟨⟨?_, ?_, ?_⟩, ?_⟩
        ·show Int.toNat _ ≤ _; omega
        ·show Int.toNat _ ≤ _; omega
        ·show Int.toNat _ ≤ _; omega
        ·show (List.take _ _).length ≤ _
         rw [List.length_take]; omega
       ·cases hk
     ·cases hk
   ·cases hk
 ·cases hk
theorem dc1_p_le (xs : List Int) : pcB (dc1_p_e xs).2.1 (dc1_p_e xs).2.2.1 (dc1_p_e xs).2.2.2 [] := by
 rw [dc1_p_ee]; unfold dc1_p_ev
 have z : (0 : Nat) ≤ 100000000000 := by decide
 have f : ∀ y : Int, ¬ 1073741824 < y → y.toNat ≤ 100000000000 := fun y hy => by omega
 repeat' (first | exact ⟨⟨z, z, z⟩, by decide⟩ | exact ⟨⟨f _ asm, z, z⟩, by decide⟩ | exact ⟨⟨f _ asm, f _ asm, z⟩, by decide⟩ | exact ⟨⟨f _ asm, f _ asm, f _ asm⟩, by decide⟩ | split)
theorem rdp_le {xs : List Int} (hk : rdp_k xs = true) : pcB (rdp_m xs).1 (rdp_m xs).2.1 (rdp_m xs).2.2.1 (rdp_m xs).2.2.2 := by
 rw [rdp_e]; rw [rdp_ke] at hk; unfold rdp_kv at hk
 split at hk
 ·rename_i h; exact dc1_le h
 ·cases hk
theorem rdp_p_le (xs : List Int) : pcB (rdp_p_e xs).2.1 (rdp_p_e xs).2.2.1 (rdp_p_e xs).2.2.2.1 (rdp_p_e xs).2.2.2.2 := by
 rw [rdp_p_ee]; unfold rdp_p_ev
 split
 ·rename_i h; exact dc1_le h
 ·exact dc1_p_le xs
theorem rdp_p_pos (xs : List Int) : 0 < (rdp_p_e xs).1 := by
 rw [rdp_p_ee]; unfold rdp_p_ev
 split
 ·exact (by decide : (0 : Nat) < 2)
 ·exact dc1_p_pos xs
def decode_v (xs : List Int) : Nat × Nat × Nat × (List Int) × Nat := if rdp_k xs = true then (if (((encode_m ((rdp_m xs).1) ((rdp_m xs).2.1) ((rdp_m xs).2.2.1) ((rdp_m xs).2.2.2)).2 : Nat) : Int) = 0 then (if ((encode_m ((rdp_m xs).1) ((rdp_m xs).2.1) ((rdp_m xs).2.2.1) ((rdp_m xs).2.2.2)).1) = xs then (((rdp_m xs).1), ((rdp_m xs).2.1), ((rdp_m xs).2.2.1), (rdp_m xs).2.2.2, 0) else (0, 0, 0, [], 2)) else (0, 0, 0, [], 2)) else (0, 0, 0, [], 2)
def decode_m (xs : List Int) : Nat × Nat × Nat × (List Int) × Nat := shut (decode_v xs)
theorem decode_e (xs : List Int) : decode_m xs = decode_v xs := shut_eq _
def c_decode (xs : List Int) : Con := ⟨[lb xs], [], .tu (chain [.ag (chain [vi (((decode_m xs).1 : Nat) : Int), vi (((decode_m xs).2.1 : Nat) : Int), vi (((decode_m xs).2.2.1 : Nat) : Int), lb ((decode_m xs).2.2.2.1)]), vi (((decode_m xs).2.2.2.2 : Nat) : Int)]), []⟩
theorem decode_ok (xs : List Int) (h : xs.length ≤ 100000000000000) : ConOk Try.prog 54 (c_decode xs) := by
 refine conOk_of rfl (nb := 0) Try.func54 rfl rfl Try.ntmps54 rfl rfl rfl fun g0 w0 ac gs ws hg0 hS => ?_
 have hlen0 : xs.length ≤ 9223372036854775807 := hS.len 0 rfl
 have hS := hS.sp
 refine s0 [0, 2, 3] [0] 1 hS fun hS => ?_
 refine s0 [0, 2, 3, 4] [0, 1] 2 hS fun hS => ?_
 refine wp_seq ?_
 by_cases h1 : rdp_k xs = true
 ·refine rA [(2, .call ⟨89, (c_rdp xs), [(0, 1)], []⟩)] ⟨rdp_ok _ lnn h1, trivial⟩ (fun C => [ndC C 2]) [0, 2, 3, 4, 5] [0, 1] 2 ⟨rfl, trivial⟩ hS fun hS => ?_
  have hpb := rdp_le h1
  have hpc := hpb.1
  have hpd := hpb.2
  refine then_n (sA [(1, .call ⟨51, (c_encode ((rdp_m xs).1) ((rdp_m xs).2.1) ((rdp_m xs).2.2.1) ((rdp_m xs).2.2.2)), [], []⟩)] ⟨encode_ok _ _ _ _ omm lnn, trivial⟩ (fun C => [ndC C 1]) [0, 2, 3, 4, 5, 6, 7] [0, 1] 2 ⟨rfl, trivial⟩ hS fun hS => ?_)
  refine wp_seq (wp_seq ?_)
  by_cases h2 : (((encode_m ((rdp_m xs).1) ((rdp_m xs).2.1) ((rdp_m xs).2.2.1) ((rdp_m xs).2.2.2)).2 : Nat) : Int) = 0
  ·refine rA [(4, .ob false), (9, .call ⟨36, (c_equal ((encode_m ((rdp_m xs).1) ((rdp_m xs).2.1) ((rdp_m xs).2.2.1) ((rdp_m xs).2.2.2)).1) xs), [], []⟩)] ⟨equal_ok _ _, trivial⟩ (fun C => [(!decide ((((encode_m ((rdp_m xs).1) ((rdp_m xs).2.1) ((rdp_m xs).2.2.1) ((rdp_m xs).2.2.2)).2 : Nat) : Int) = 0)) = false, ndC C 9]) [2, 3, 4, 27] [0, 1] 2 ⟨by rw [decide_eq_true h2]; rfl, rfl, trivial⟩ hS fun hS => ?_
   refine then_n ?_
   refine if_n (((encode_m ((rdp_m xs).1) ((rdp_m xs).2.1) ((rdp_m xs).2.2.1) ((rdp_m xs).2.2.2)).1) = xs) hS (fun h3 => ?_) (fun h3 => ?_)
   ·refine s0 [2, 3, 4] [0, 1] 2 hS fun hS => ?_
    refine wp_ret (then_ret ?_)
    have hM : decode_m xs = (0, 0, 0, [], 2) := (decode_e xs).trans ((if_pos h1).trans ((if_pos h2).trans (if_neg h3)))
    have hS := hS.wko 0 [.top, .top, .top, lb []]
    exact fin_y rfl (.inr rfl) hS [.ag (chain [vi 0, vi 0, vi 0, lb []]), vi 2] [] (by show weak _ (.tu (chain [.ag (chain [vi (((decode_m xs).1 : Nat) : Int), vi (((decode_m xs).2.1 : Nat) : Int), vi (((decode_m xs).2.2.1 : Nat) : Int), lb ((decode_m xs).2.2.2.1)]), vi (((decode_m xs).2.2.2.2 : Nat) : Int)])) = (.tu (chain [.ag (chain [vi (((decode_m xs).1 : Nat) : Int), vi (((decode_m xs).2.1 : Nat) : Int), vi (((decode_m xs).2.2.1 : Nat) : Int), lb ((decode_m xs).2.2.2.1)]), vi (((decode_m xs).2.2.2.2 : Nat) : Int)])); rw [hM]; first | (simp only []; rfl) | (simp only []; done) | rfl) trivial
   ·refine wp_skip (then_n (s0 [2, 3] [0] 2 hS fun hS => ?_))
    refine wp_ret ?_
    have hM : decode_m xs = (((rdp_m xs).1), ((rdp_m xs).2.1), ((rdp_m xs).2.2.1), (rdp_m xs).2.2.2, 0) := (decode_e xs).trans ((if_pos h1).trans ((if_pos h2).trans (if_pos h3)))
    exact fin_y rfl (.inr rfl) hS [.ag (chain [vi (((rdp_m xs).1 : Nat) : Int), vi (((rdp_m xs).2.1 : Nat) : Int), vi (((rdp_m xs).2.2.1 : Nat) : Int), lb ((rdp_m xs).2.2.2)]), vi 0] [] (by show weak _ (.tu (chain [.ag (chain [vi (((decode_m xs).1 : Nat) : Int), vi (((decode_m xs).2.1 : Nat) : Int), vi (((decode_m xs).2.2.1 : Nat) : Int), lb ((decode_m xs).2.2.2.1)]), vi (((decode_m xs).2.2.2.2 : Nat) : Int)])) = (.tu (chain [.ag (chain [vi (((decode_m xs).1 : Nat) : Int), vi (((decode_m xs).2.1 : Nat) : Int), vi (((decode_m xs).2.2.1 : Nat) : Int), lb ((decode_m xs).2.2.2.1)]), vi (((decode_m xs).2.2.2.2 : Nat) : Int)])); rw [hM]; first | (simp only []; rfl) | (simp only []; done) | rfl) trivial
  ·refine rA [(4, .ob true)] trivial (fun _ => [(!decide ((((encode_m ((rdp_m xs).1) ((rdp_m xs).2.1) ((rdp_m xs).2.2.1) ((rdp_m xs).2.2.2)).2 : Nat) : Int) = 0)) = true]) [2, 3, 4, 27] [0, 1] 2 ⟨by rw [decide_eq_false h2]; rfl, trivial⟩ hS fun hS => ?_
   refine then_n (cond_t hS ?_)
   refine s0 [2, 3, 4] [0, 1] 2 hS fun hS => ?_
   refine wp_ret (then_ret ?_)
   have hM : decode_m xs = (0, 0, 0, [], 2) := (decode_e xs).trans ((if_pos h1).trans (if_neg h2))
   have hS := hS.wko 0 [.top, .top, .top, lb []]
   exact fin_y rfl (.inr rfl) hS [.ag (chain [vi 0, vi 0, vi 0, lb []]), vi 2] [] (by show weak _ (.tu (chain [.ag (chain [vi (((decode_m xs).1 : Nat) : Int), vi (((decode_m xs).2.1 : Nat) : Int), vi (((decode_m xs).2.2.1 : Nat) : Int), lb ((decode_m xs).2.2.2.1)]), vi (((decode_m xs).2.2.2.2 : Nat) : Int)])) = (.tu (chain [.ag (chain [vi (((decode_m xs).1 : Nat) : Int), vi (((decode_m xs).2.1 : Nat) : Int), vi (((decode_m xs).2.2.1 : Nat) : Int), lb ((decode_m xs).2.2.2.1)]), vi (((decode_m xs).2.2.2.2 : Nat) : Int)])); rw [hM]; first | (simp only []; rfl) | (simp only []; done) | rfl) trivial
 ·refine rA [(2, .call ⟨89, (c_rdp_p xs), [(0, 1)], []⟩)] ⟨rdp_p_ok _ lnn (bne_k h1), trivial⟩ (fun C => [ndC C 2]) [0, 2, 3, 4, 5] [0, 1] 2 ⟨rfl, trivial⟩ hS fun hS => ?_
  have hpb := rdp_p_le xs
  have hpc := hpb.1
  have hpd := hpb.2
  have hpp := rdp_p_pos xs
  have hp0 : ¬ (((rdp_p_e xs).1 : Nat) : Int) = 0 := by omega
  refine then_n (sA [(1, .call ⟨51, (c_encode ((rdp_p_e xs).2.1) ((rdp_p_e xs).2.2.1) ((rdp_p_e xs).2.2.2.1) ((rdp_p_e xs).2.2.2.2)), [], []⟩)] ⟨encode_ok _ _ _ _ omm lnn, trivial⟩ (fun C => [ndC C 1]) [0, 2, 3, 4, 5, 6, 7] [0, 1] 2 ⟨rfl, trivial⟩ hS fun hS => ?_)
  refine wp_seq (sA [(1, .ob true)] trivial (fun _ => [(!decide ((((rdp_p_e xs).1 : Nat) : Int) = 0)) = true]) [2, 3, 4, 27] [0, 1] 2 ⟨by rw [decide_eq_false hp0]; rfl, trivial⟩ hS fun hS => ?_)
  refine cond_t hS ?_
  refine s0 [2, 3, 4] [0, 1] 2 hS fun hS => ?_
  refine wp_ret (then_ret ?_)
  have hM : decode_m xs = (0, 0, 0, [], 2) := (decode_e xs).trans (if_neg h1)
  have hS := hS.wko 0 [.top, .top, .top, lb []]
  exact fin_y rfl (.inr rfl) hS [.ag (chain [vi 0, vi 0, vi 0, lb []]), vi 2] [] (by show weak _ (.tu (chain [.ag (chain [vi (((decode_m xs).1 : Nat) : Int), vi (((decode_m xs).2.1 : Nat) : Int), vi (((decode_m xs).2.2.1 : Nat) : Int), lb ((decode_m xs).2.2.2.1)]), vi (((decode_m xs).2.2.2.2 : Nat) : Int)])) = (.tu (chain [.ag (chain [vi (((decode_m xs).1 : Nat) : Int), vi (((decode_m xs).2.1 : Nat) : Int), vi (((decode_m xs).2.2.1 : Nat) : Int), lb ((decode_m xs).2.2.2.1)]), vi (((decode_m xs).2.2.2.2 : Nat) : Int)])); rw [hM]; first | (simp only []; rfl) | (simp only []; done) | rfl) trivial

end
end Go.Sx.Try
