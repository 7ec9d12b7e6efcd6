/- What the transforms of ring do to sums, differences and products: plain Lean, over the numbers mod 3329. -/
import Derived.Test.YthnkcocemlcpgaaR0
namespace Go.Mi.Ring
open Go.Mi
set_option maxRecDepth 100000
/-- the numbers mod 3329 -/
abbrev Q := Fin 3329
def q (x : Int) : Q := ⟨(x % 3329).toNat, by omega⟩
theorem q_ext {x y : Q} (h : x.val = y.val) : x = y := Fin.ext h
theorem q_mod (x : Int) : q (x % 3329) = q x := by apply q_ext; simp only [q]; rw [Int.emod_emod_of_dvd _ (Int.dvd_refl _)]
theorem q_add (x y : Int) : q (x + y) = q x + q y := by apply q_ext; simp only [q, Fin.val_add]; omega
theorem q_sub (x y : Int) : q (x - y) = q x - q y := by apply q_ext; simp only [q, Fin.sub_def]; omega
theorem q_mul (x y : Int) : q (x * y) = q x * q y := by
  apply q_ext
  simp only [q, Fin.val_mul]
  have h : x * y % 3329 = (x % 3329) * (y % 3329) % 3329 := Int.mul_emod _ _ _
  obtain ⟨a, ha⟩ := Int.eq_ofNat_of_zero_le (show 0 ≤ x % 3329 by omega)
  obtain ⟨b, hb⟩ := Int.eq_ofNat_of_zero_le (show 0 ≤ y % 3329 by omega)
  rw [h, ha, hb]
  simp only [Int.toNat_natCast]
  rw [← Int.natCast_mul]
  omega
theorem q_q : q 3329 = 0 := by decide
theorem q_0 : q 0 = 0 := by decide
theorem q_inj {x y : Int} (hx : 0 ≤ x ∧ x < 3329) (hy : 0 ≤ y ∧ y < 3329) (h : q x = q y) : x = y := by
  have := congrArg Fin.val h
  simp only [q] at this
  omega
theorem q_rd (F : Nat → Int) : (fun i => q (rd F i)) = fun i => q (F i) := by funext i; exact q_mod _

/-- alike at all places -/
def E (F G : Nat → Q) : Prop := ∀ i, i < 256 → F i = G i
theorem E.refl (F : Nat → Q) : E F F := fun _ _ => rfl
theorem E.symm {F G : Nat → Q} (h : E F G) : E G F := fun i hi => (h i hi).symm
theorem E.trans {F G H : Nat → Q} (h : E F G) (h' : E G H) : E F H := fun i hi => (h i hi).trans (h' i hi)

def zq (k : Nat) : Q := q (zt k)
def wq (k : Nat) : Q := if k = 1 then -1 else if k % 2 = 0 then zq (k / 2) else - zq (k / 2)
def sqB (k : Nat) : Bool := decide (k = 0) || decide (zq k * zq k = wq k)
theorem sq_all : (List.range 128).all sqB = true := by kernel_rfl
theorem sq {k : Nat} (h : 1 ≤ k) (h' : k < 128) : zq k * zq k = wq k := by
  have := List.all_eq_true.1 sq_all k (List.mem_range.2 h')
  simp only [sqB, Bool.or_eq_true, decide_eq_true_eq] at this
  rcases this with h0 | h0
  · omega
  · exact h0
def gaB (k : Nat) : Bool := decide (q (gam k) = wq (128 + k))
theorem ga_all : (List.range 128).all gaB = true := by kernel_rfl
theorem ga {k : Nat} (h : k < 128) : q (gam k) = wq (128 + k) := by
  have := List.all_eq_true.1 ga_all k (List.mem_range.2 h)
  simpa only [gaB, decide_eq_true_eq] using this
def pairB (m b : Nat) : Bool := decide (zq (2 * m - 1 - b) * zq (m + b) = -1)
theorem pair_all : (List.range 7).all (fun s => (List.range (mOf s)).all (pairB (mOf s))) = true := by kernel_rfl
theorem pair {s b : Nat} (h : s ≤ 6) (hb : b < mOf s) : zq (2 * mOf s - 1 - b) * zq (mOf s + b) = -1 := by
  have := List.all_eq_true.1 (List.all_eq_true.1 pair_all s (List.mem_range.2 (by omega))) b (List.mem_range.2 hb)
  simpa only [pairB, decide_eq_true_eq] using this

def Lq (h m : Nat) (F : Nat → Q) : Nat → Q := fun i =>
  if i % (2 * h) < h then F i + zq (m + i / (2 * h)) * F (i + h) else F (i - h) - zq (m + i / (2 * h)) * F i
def Lqs : Nat → (Nat → Q) → Nat → Q
  | 0, F => F
  | s + 1, F => Lq (hOf s) (mOf s) (Lqs s F)
theorem q_lay (h m : Nat) (F : Nat → Int) : (fun i => q (lay h m F i)) = Lq h m fun i => q (F i) := by
  funext i
  simp only [lay, Lq, zq]
  split
  · rw [q_mod, q_add, q_mod, q_mul]
  · rw [q_mod, q_sub, q_add, q_mod, q_mul, q_q]; grind
theorem q_lys (s : Nat) (F : Nat → Int) : (fun i => q (lys s F i)) = Lqs s fun i => q (F i) := by
  induction s with
  | zero => rfl
  | succ s ih => simp only [lys, Lqs]; rw [q_lay, ih]
theorem q_ntt (F : Nat → Int) : (fun i => q (sNTT F i)) = Lqs 7 fun i => q (F i) := by
  simp only [sNTT]; rw [q_lys, q_rd]
theorem Lq_lin (h m : Nat) (F G : Nat → Q) (a : Q) : Lq h m (fun i => F i + a * G i) = fun i => Lq h m F i + a * Lq h m G i := by
  funext i; simp only [Lq]; split <;> grind
theorem Lqs_lin (s : Nat) (F G : Nat → Q) (a : Q) : Lqs s (fun i => F i + a * G i) = fun i => Lqs s F i + a * Lqs s G i := by
  induction s with
  | zero => rfl
  | succ s ih => simp only [Lqs]; rw [ih, Lq_lin]
theorem Lq_zero (h m : Nat) : Lq h m (fun _ => 0) = fun _ => 0 := by funext i; simp only [Lq]; split <;> grind
theorem Lqs_zero (s : Nat) : Lqs s (fun _ => 0) = fun _ => 0 := by
  induction s with
  | zero => rfl
  | succ s ih => simp only [Lqs]; rw [ih, Lq_zero]

theorem s7 {s : Nat} (h : s ≤ 6) : (hOf s = 128 ∧ mOf s = 1) ∨ (hOf s = 64 ∧ mOf s = 2) ∨ (hOf s = 32 ∧ mOf s = 4) ∨ (hOf s = 16 ∧ mOf s = 8) ∨ (hOf s = 8 ∧ mOf s = 16) ∨ (hOf s = 4 ∧ mOf s = 32) ∨ (hOf s = 2 ∧ mOf s = 64) := by
  have : s = 0 ∨ s = 1 ∨ s = 2 ∨ s = 3 ∨ s = 4 ∨ s = 5 ∨ s = 6 := by omega
  rcases this with rfl | rfl | rfl | rfl | rfl | rfl | rfl <;> decide
theorem Lq_congr {s : Nat} (h : s ≤ 6) {F G : Nat → Q} (e : E F G) : E (Lq (hOf s) (mOf s) F) (Lq (hOf s) (mOf s) G) := by
  intro i hi
  simp only [Lq]
  split
  · rw [e i hi, e (i + hOf s) (by have h7 := s7 h; generalize hOf s = H at *; generalize mOf s = M at *; rcases h7 with ⟨rfl, rfl⟩ | ⟨rfl, rfl⟩ | ⟨rfl, rfl⟩ | ⟨rfl, rfl⟩ | ⟨rfl, rfl⟩ | ⟨rfl, rfl⟩ | ⟨rfl, rfl⟩ <;> omega)]
  · rw [e i hi, e (i - hOf s) (by omega)]
theorem Lqs_congr {s : Nat} (h : s ≤ 7) {F G : Nat → Q} (e : E F G) : E (Lqs s F) (Lqs s G) := by
  induction s with
  | zero => exact e
  | succ s ih => exact Lq_congr (by omega) (ih (by omega))

/-! ### the way back -/
def Iq (h m : Nat) (F : Nat → Q) : Nat → Q := fun i =>
  if i % (2 * h) < h then F i + F (i + h) else zq (2 * m - 1 - i / (2 * h)) * (F i - F (i - h))
def Iqs : Nat → (Nat → Q) → Nat → Q
  | 0, F => F
  | s + 1, F => Iq (hOf (6 - s)) (mOf (6 - s)) (Iqs s F)
theorem gn {s : Nat} (h : s ≤ 6) : gI s = hOf (6 - s) ∧ nI s = mOf (6 - s) := by
  have : s = 0 ∨ s = 1 ∨ s = 2 ∨ s = 3 ∨ s = 4 ∨ s = 5 ∨ s = 6 := by omega
  rcases this with rfl | rfl | rfl | rfl | rfl | rfl | rfl <;> decide
theorem q_ilay (h m : Nat) (F : Nat → Int) : (fun i => q (ilay h m F i)) = Iq h m fun i => q (F i) := by
  funext i
  simp only [ilay, Iq, zq]
  split
  · rw [q_mod, q_add]
  · rw [q_mod, q_mul, q_sub, q_add, q_q]; grind
theorem q_ilys {s : Nat} (h : s ≤ 7) (F : Nat → Int) : (fun i => q (ilys s F i)) = Iqs s fun i => q (F i) := by
  induction s with
  | zero => rfl
  | succ s ih => simp only [ilys, Iqs]; rw [q_ilay, ih (by omega), (gn (show s ≤ 6 by omega)).1, (gn (show s ≤ 6 by omega)).2]
theorem q_inv (F : Nat → Int) (i : Nat) : q (sInv F i) = Iqs 7 (fun i => q (F i)) i * 3303 := by
  simp only [sInv]
  rw [q_mod, q_mul]
  have := congrFun (q_ilys (show 7 ≤ 7 by omega) (rd F)) i
  rw [this, q_rd]
  rfl
theorem Iq_congr {s : Nat} (h : s ≤ 6) {F G : Nat → Q} (e : E F G) : E (Iq (hOf s) (mOf s) F) (Iq (hOf s) (mOf s) G) := by
  intro i hi
  simp only [Iq]
  split
  · rw [e i hi, e (i + hOf s) (by have h7 := s7 h; generalize hOf s = H at *; generalize mOf s = M at *; rcases h7 with ⟨rfl, rfl⟩ | ⟨rfl, rfl⟩ | ⟨rfl, rfl⟩ | ⟨rfl, rfl⟩ | ⟨rfl, rfl⟩ | ⟨rfl, rfl⟩ | ⟨rfl, rfl⟩ <;> omega)]
  · rw [e i hi, e (i - hOf s) (by omega)]
theorem Iqs_congr {s : Nat} (h : s ≤ 7) {F G : Nat → Q} (e : E F G) : E (Iqs s F) (Iqs s G) := by
  induction s with
  | zero => exact e
  | succ s ih => exact Iq_congr (by omega) (ih (by omega))
theorem Iq_sc (h m : Nat) (F : Nat → Q) (a : Q) : Iq h m (fun i => a * F i) = fun i => a * Iq h m F i := by
  funext i; simp only [Iq]; split <;> grind
/-- a place of a block -/
theorem place {s i : Nat} (h : s ≤ 6) (hi : i < 256) : i / (2 * hOf s) < mOf s ∧
    (i % (2 * hOf s) < hOf s → (i + hOf s) % (2 * hOf s) = i % (2 * hOf s) + hOf s ∧ (i + hOf s) / (2 * hOf s) = i / (2 * hOf s)) ∧
    (¬ i % (2 * hOf s) < hOf s → (i - hOf s) % (2 * hOf s) = i % (2 * hOf s) - hOf s ∧ (i - hOf s) / (2 * hOf s) = i / (2 * hOf s) ∧ hOf s ≤ i) := by
  have h7 := s7 h; generalize hOf s = H at *; generalize mOf s = M at *; rcases h7 with ⟨rfl, rfl⟩ | ⟨rfl, rfl⟩ | ⟨rfl, rfl⟩ | ⟨rfl, rfl⟩ | ⟨rfl, rfl⟩ | ⟨rfl, rfl⟩ | ⟨rfl, rfl⟩ <;> omega
theorem Iq_Lq {s : Nat} (h : s ≤ 6) (F : Nat → Q) : E (Iq (hOf s) (mOf s) (Lq (hOf s) (mOf s) F)) fun i => 2 * F i := by
  intro i hi
  obtain ⟨h0, h1, h2⟩ := place h hi
  have hp := pair h h0
  simp only [Iq]
  by_cases hl : i % (2 * hOf s) < hOf s
  · obtain ⟨h3, h4⟩ := h1 hl
    rw [if_pos hl]
    simp only [Lq]
    rw [if_pos hl, h3, h4, if_neg (by omega), show i + hOf s - hOf s = i by omega]
    grind
  · obtain ⟨h3, h4, h5⟩ := h2 hl
    have h6 : i % (2 * hOf s) < 2 * hOf s := Nat.mod_lt _ (by have := hm h; omega)
    rw [if_neg hl]
    simp only [Lq]
    rw [if_neg hl, h3, h4, if_pos (by omega), show i - hOf s + hOf s = i by omega]
    grind
theorem back {s : Nat} (h : s ≤ 7) (F : Nat → Q) : E (Iqs s (Lqs 7 F)) fun i => q (2 ^ s) * Lqs (7 - s) F i := by
  induction s with
  | zero => intro i hi; simp only [Iqs]; rw [show q (2 ^ 0) = 1 by decide]; grind
  | succ s ih =>
    simp only [Iqs]
    refine (Iq_congr (by omega) (ih (by omega))).trans ?_
    rw [Iq_sc, show 7 - s = 6 - s + 1 by omega]
    simp only [Lqs]
    intro i hi
    have := Iq_Lq (show 6 - s ≤ 6 by omega) (Lqs (6 - s) F) i hi
    simp only at this ⊢
    rw [this, show 7 - (s + 1) = 6 - s by omega, Int.pow_succ, q_mul, show q 2 = 2 by decide]
    grind
theorem back7 (F : Nat → Q) {i : Nat} (hi : i < 256) : Iqs 7 (Lqs 7 F) i * 3303 = F i := by
  have := back (show 7 ≤ 7 by omega) F i hi
  simp only at this
  rw [this, show q (2 ^ 7) = 128 by decide, show 7 - 7 = 0 from rfl]
  simp only [Lqs]
  grind
theorem sInv_sNTT {F : Nat → Int} (h : Red F) {i : Nat} (hi : i < 256) : sInv (sNTT F) i = F i := by
  refine q_inj (sInv_red _ i hi) (h i hi) ?_
  rw [q_inv, q_ntt, back7 _ hi]

/-! ### sums and differences -/
theorem q_sAdd (F G : Nat → Int) : (fun i => q (sAdd F G i)) = fun i => q (F i) + 1 * q (G i) := by
  funext i; simp only [sAdd]; rw [q_mod, q_add]; grind
theorem q_sSub (F G : Nat → Int) : (fun i => q (sSub F G i)) = fun i => q (F i) + -1 * q (G i) := by
  funext i; simp only [sSub]; rw [q_mod, q_sub, q_add, q_mod, q_q]; grind
theorem sNTT_add (F G : Nat → Int) {i : Nat} (hi : i < 256) : sNTT (sAdd F G) i = sAdd (sNTT F) (sNTT G) i := by
  refine q_inj (sNTT_red _ i hi) (sAdd_red _ _ i hi) ?_
  have h1 := congrFun (q_ntt (sAdd F G)) i
  have h2 := congrFun (q_sAdd (sNTT F) (sNTT G)) i
  have h3 := congrFun (q_ntt F) i
  have h4 := congrFun (q_ntt G) i
  rw [h1, h2, h3, h4, q_sAdd, Lqs_lin]
theorem sNTT_sub (F G : Nat → Int) {i : Nat} (hi : i < 256) : sNTT (sSub F G) i = sSub (sNTT F) (sNTT G) i := by
  refine q_inj (sNTT_red _ i hi) (sSub_red _ _ i hi) ?_
  have h1 := congrFun (q_ntt (sSub F G)) i
  have h2 := congrFun (q_sSub (sNTT F) (sNTT G)) i
  have h3 := congrFun (q_ntt F) i
  have h4 := congrFun (q_ntt G) i
  rw [h1, h2, h3, h4, q_sSub, Lqs_lin]

/-! ### products -/
/-- times x -/
def Xq (n m : Nat) (F : Nat → Q) : Nat → Q := fun i => if i % n = 0 then wq (m + i / n) * F (i + n - 1) else F (i - 1)
theorem wq_even {k : Nat} (h : 1 ≤ k) : wq (2 * k) = zq k := by
  simp only [wq]; rw [if_neg (by omega), if_pos (by omega), show 2 * k / 2 = k by omega]
theorem wq_odd {k : Nat} (h : 1 ≤ k) : wq (2 * k + 1) = - zq k := by
  simp only [wq]; rw [if_neg (by omega), if_neg (by omega), show (2 * k + 1) / 2 = k by omega]
theorem blk {s b : Nat} (h : s ≤ 6) (hb : b < mOf s) : zq (mOf s + b) * zq (mOf s + b) = wq (mOf s + b) ∧ wq (2 * (mOf s + b)) = zq (mOf s + b) ∧ wq (2 * (mOf s + b) + 1) = - zq (mOf s + b) := by
  have := hm h
  exact ⟨sq (by omega) (by omega), wq_even (by omega), wq_odd (by omega)⟩
theorem LX {s : Nat} (h : s ≤ 6) (F : Nat → Q) : E (Lq (hOf s) (mOf s) (Xq (2 * hOf s) (mOf s) F)) (Xq (hOf s) (2 * mOf s) (Lq (hOf s) (mOf s) F)) := by
  intro i hi
  obtain ⟨h0, -, -⟩ := place h hi
  obtain ⟨hs, he, ho⟩ := blk h h0
  simp only [Lq, Xq]
  by_cases hl : i % (2 * hOf s) < hOf s
  · rw [if_pos hl]
    by_cases hz : i % (2 * hOf s) = 0
    · rw [if_pos hz, if_neg (show ¬ (i + hOf s) % (2 * hOf s) = 0 by have h7 := s7 h; generalize hOf s = H at *; generalize mOf s = M at *; rcases h7 with ⟨rfl, rfl⟩ | ⟨rfl, rfl⟩ | ⟨rfl, rfl⟩ | ⟨rfl, rfl⟩ | ⟨rfl, rfl⟩ | ⟨rfl, rfl⟩ | ⟨rfl, rfl⟩ <;> omega),
        if_pos (show i % hOf s = 0 by have h7 := s7 h; generalize hOf s = H at *; generalize mOf s = M at *; rcases h7 with ⟨rfl, rfl⟩ | ⟨rfl, rfl⟩ | ⟨rfl, rfl⟩ | ⟨rfl, rfl⟩ | ⟨rfl, rfl⟩ | ⟨rfl, rfl⟩ | ⟨rfl, rfl⟩ <;> omega),
        if_pos (show (i + hOf s - 1) % (2 * hOf s) < hOf s by have h7 := s7 h; generalize hOf s = H at *; generalize mOf s = M at *; rcases h7 with ⟨rfl, rfl⟩ | ⟨rfl, rfl⟩ | ⟨rfl, rfl⟩ | ⟨rfl, rfl⟩ | ⟨rfl, rfl⟩ | ⟨rfl, rfl⟩ | ⟨rfl, rfl⟩ <;> omega),
        show 2 * mOf s + i / hOf s = 2 * (mOf s + i / (2 * hOf s)) by have h7 := s7 h; generalize hOf s = H at *; generalize mOf s = M at *; rcases h7 with ⟨rfl, rfl⟩ | ⟨rfl, rfl⟩ | ⟨rfl, rfl⟩ | ⟨rfl, rfl⟩ | ⟨rfl, rfl⟩ | ⟨rfl, rfl⟩ | ⟨rfl, rfl⟩ <;> omega,
        show (i + hOf s - 1) / (2 * hOf s) = i / (2 * hOf s) by have h7 := s7 h; generalize hOf s = H at *; generalize mOf s = M at *; rcases h7 with ⟨rfl, rfl⟩ | ⟨rfl, rfl⟩ | ⟨rfl, rfl⟩ | ⟨rfl, rfl⟩ | ⟨rfl, rfl⟩ | ⟨rfl, rfl⟩ | ⟨rfl, rfl⟩ <;> omega,
        show i + hOf s - 1 + hOf s = i + 2 * hOf s - 1 by have := hm h; omega, he]
      grind
    · rw [if_neg hz, if_neg (show ¬ (i + hOf s) % (2 * hOf s) = 0 by have h7 := s7 h; generalize hOf s = H at *; generalize mOf s = M at *; rcases h7 with ⟨rfl, rfl⟩ | ⟨rfl, rfl⟩ | ⟨rfl, rfl⟩ | ⟨rfl, rfl⟩ | ⟨rfl, rfl⟩ | ⟨rfl, rfl⟩ | ⟨rfl, rfl⟩ <;> omega),
        if_neg (show ¬ i % hOf s = 0 by have h7 := s7 h; generalize hOf s = H at *; generalize mOf s = M at *; rcases h7 with ⟨rfl, rfl⟩ | ⟨rfl, rfl⟩ | ⟨rfl, rfl⟩ | ⟨rfl, rfl⟩ | ⟨rfl, rfl⟩ | ⟨rfl, rfl⟩ | ⟨rfl, rfl⟩ <;> omega),
        if_pos (show (i - 1) % (2 * hOf s) < hOf s by have h7 := s7 h; generalize hOf s = H at *; generalize mOf s = M at *; rcases h7 with ⟨rfl, rfl⟩ | ⟨rfl, rfl⟩ | ⟨rfl, rfl⟩ | ⟨rfl, rfl⟩ | ⟨rfl, rfl⟩ | ⟨rfl, rfl⟩ | ⟨rfl, rfl⟩ <;> omega),
        show (i - 1) / (2 * hOf s) = i / (2 * hOf s) by have h7 := s7 h; generalize hOf s = H at *; generalize mOf s = M at *; rcases h7 with ⟨rfl, rfl⟩ | ⟨rfl, rfl⟩ | ⟨rfl, rfl⟩ | ⟨rfl, rfl⟩ | ⟨rfl, rfl⟩ | ⟨rfl, rfl⟩ | ⟨rfl, rfl⟩ <;> omega,
        show i - 1 + hOf s = i + hOf s - 1 by have h7 := s7 h; generalize hOf s = H at *; generalize mOf s = M at *; rcases h7 with ⟨rfl, rfl⟩ | ⟨rfl, rfl⟩ | ⟨rfl, rfl⟩ | ⟨rfl, rfl⟩ | ⟨rfl, rfl⟩ | ⟨rfl, rfl⟩ | ⟨rfl, rfl⟩ <;> omega]
  · rw [if_neg hl]
    by_cases hz : i % (2 * hOf s) = hOf s
    · rw [if_pos (show (i - hOf s) % (2 * hOf s) = 0 by have h7 := s7 h; generalize hOf s = H at *; generalize mOf s = M at *; rcases h7 with ⟨rfl, rfl⟩ | ⟨rfl, rfl⟩ | ⟨rfl, rfl⟩ | ⟨rfl, rfl⟩ | ⟨rfl, rfl⟩ | ⟨rfl, rfl⟩ | ⟨rfl, rfl⟩ <;> omega),
        if_neg (show ¬ i % (2 * hOf s) = 0 by have := hm h; omega),
        if_pos (show i % hOf s = 0 by have h7 := s7 h; generalize hOf s = H at *; generalize mOf s = M at *; rcases h7 with ⟨rfl, rfl⟩ | ⟨rfl, rfl⟩ | ⟨rfl, rfl⟩ | ⟨rfl, rfl⟩ | ⟨rfl, rfl⟩ | ⟨rfl, rfl⟩ | ⟨rfl, rfl⟩ <;> omega),
        if_neg (show ¬ (i + hOf s - 1) % (2 * hOf s) < hOf s by have h7 := s7 h; generalize hOf s = H at *; generalize mOf s = M at *; rcases h7 with ⟨rfl, rfl⟩ | ⟨rfl, rfl⟩ | ⟨rfl, rfl⟩ | ⟨rfl, rfl⟩ | ⟨rfl, rfl⟩ | ⟨rfl, rfl⟩ | ⟨rfl, rfl⟩ <;> omega),
        show 2 * mOf s + i / hOf s = 2 * (mOf s + i / (2 * hOf s)) + 1 by have h7 := s7 h; generalize hOf s = H at *; generalize mOf s = M at *; rcases h7 with ⟨rfl, rfl⟩ | ⟨rfl, rfl⟩ | ⟨rfl, rfl⟩ | ⟨rfl, rfl⟩ | ⟨rfl, rfl⟩ | ⟨rfl, rfl⟩ | ⟨rfl, rfl⟩ <;> omega,
        show (i - hOf s) / (2 * hOf s) = i / (2 * hOf s) by have h7 := s7 h; generalize hOf s = H at *; generalize mOf s = M at *; rcases h7 with ⟨rfl, rfl⟩ | ⟨rfl, rfl⟩ | ⟨rfl, rfl⟩ | ⟨rfl, rfl⟩ | ⟨rfl, rfl⟩ | ⟨rfl, rfl⟩ | ⟨rfl, rfl⟩ <;> omega,
        show (i + hOf s - 1) / (2 * hOf s) = i / (2 * hOf s) by have h7 := s7 h; generalize hOf s = H at *; generalize mOf s = M at *; rcases h7 with ⟨rfl, rfl⟩ | ⟨rfl, rfl⟩ | ⟨rfl, rfl⟩ | ⟨rfl, rfl⟩ | ⟨rfl, rfl⟩ | ⟨rfl, rfl⟩ | ⟨rfl, rfl⟩ <;> omega,
        show i - hOf s + 2 * hOf s - 1 = i + hOf s - 1 by have h7 := s7 h; generalize hOf s = H at *; generalize mOf s = M at *; rcases h7 with ⟨rfl, rfl⟩ | ⟨rfl, rfl⟩ | ⟨rfl, rfl⟩ | ⟨rfl, rfl⟩ | ⟨rfl, rfl⟩ | ⟨rfl, rfl⟩ | ⟨rfl, rfl⟩ <;> omega,
        show i + hOf s - 1 - hOf s = i - 1 by have h7 := s7 h; generalize hOf s = H at *; generalize mOf s = M at *; rcases h7 with ⟨rfl, rfl⟩ | ⟨rfl, rfl⟩ | ⟨rfl, rfl⟩ | ⟨rfl, rfl⟩ | ⟨rfl, rfl⟩ | ⟨rfl, rfl⟩ | ⟨rfl, rfl⟩ <;> omega, ho]
      grind
    · rw [if_neg (show ¬ (i - hOf s) % (2 * hOf s) = 0 by have h7 := s7 h; generalize hOf s = H at *; generalize mOf s = M at *; rcases h7 with ⟨rfl, rfl⟩ | ⟨rfl, rfl⟩ | ⟨rfl, rfl⟩ | ⟨rfl, rfl⟩ | ⟨rfl, rfl⟩ | ⟨rfl, rfl⟩ | ⟨rfl, rfl⟩ <;> omega),
        if_neg (show ¬ i % (2 * hOf s) = 0 by have := hm h; omega),
        if_neg (show ¬ i % hOf s = 0 by have h7 := s7 h; generalize hOf s = H at *; generalize mOf s = M at *; rcases h7 with ⟨rfl, rfl⟩ | ⟨rfl, rfl⟩ | ⟨rfl, rfl⟩ | ⟨rfl, rfl⟩ | ⟨rfl, rfl⟩ | ⟨rfl, rfl⟩ | ⟨rfl, rfl⟩ <;> omega),
        if_neg (show ¬ (i - 1) % (2 * hOf s) < hOf s by have h7 := s7 h; generalize hOf s = H at *; generalize mOf s = M at *; rcases h7 with ⟨rfl, rfl⟩ | ⟨rfl, rfl⟩ | ⟨rfl, rfl⟩ | ⟨rfl, rfl⟩ | ⟨rfl, rfl⟩ | ⟨rfl, rfl⟩ | ⟨rfl, rfl⟩ <;> omega),
        show (i - 1) / (2 * hOf s) = i / (2 * hOf s) by have h7 := s7 h; generalize hOf s = H at *; generalize mOf s = M at *; rcases h7 with ⟨rfl, rfl⟩ | ⟨rfl, rfl⟩ | ⟨rfl, rfl⟩ | ⟨rfl, rfl⟩ | ⟨rfl, rfl⟩ | ⟨rfl, rfl⟩ | ⟨rfl, rfl⟩ <;> omega,
        show i - hOf s - 1 = i - 1 - hOf s by omega]
theorem Xq_congr {s : Nat} (h : s ≤ 7) {F G : Nat → Q} (e : E F G) : E (Xq (256 / 2 ^ s) (2 ^ s) F) (Xq (256 / 2 ^ s) (2 ^ s) G) := by
  intro i hi
  simp only [Xq]
  split
  · rw [e _ (by
      have : s = 0 ∨ s = 1 ∨ s = 2 ∨ s = 3 ∨ s = 4 ∨ s = 5 ∨ s = 6 ∨ s = 7 := by omega
      rcases this with rfl | rfl | rfl | rfl | rfl | rfl | rfl | rfl <;> simp only [Nat.reducePow, Nat.reduceDiv] at * <;> omega)]
  · rw [e _ (by omega)]
theorem hx {s : Nat} (h : s ≤ 6) : 2 * hOf s = 256 / 2 ^ s ∧ mOf s = 2 ^ s ∧ hOf s = 256 / 2 ^ (s + 1) ∧ 2 * mOf s = 2 ^ (s + 1) := by
  have : s = 0 ∨ s = 1 ∨ s = 2 ∨ s = 3 ∨ s = 4 ∨ s = 5 ∨ s = 6 := by omega
  rcases this with rfl | rfl | rfl | rfl | rfl | rfl | rfl <;> decide
theorem LXs {s : Nat} (h : s ≤ 7) (F : Nat → Q) : E (Lqs s (Xq 256 1 F)) (Xq (256 / 2 ^ s) (2 ^ s) (Lqs s F)) := by
  induction s with
  | zero => exact E.refl _
  | succ s ih =>
    have h1 := Lq_congr (show s ≤ 6 by omega) (ih (by omega))
    have h2 := LX (show s ≤ 6 by omega) (Lqs s F)
    have hxs := hx (show s ≤ 6 by omega)
    rw [hxs.1] at h2
    rw [← hxs.2.2.1, ← hxs.2.2.2]
    rw [← hxs.2.1] at h1
    exact h1.trans h2
theorem LX7 (F : Nat → Q) : E (Lqs 7 (Xq 256 1 F)) (Xq 2 128 (Lqs 7 F)) := LXs (show 7 ≤ 7 by omega) F
theorem X7_congr {F G : Nat → Q} (e : E F G) : E (Xq 2 128 F) (Xq 2 128 G) := Xq_congr (show 7 ≤ 7 by omega) e

/-- times x so many times -/
def sh (k : Nat) (G : Nat → Q) : Nat → Q := fun t => if k ≤ t then G (t - k) else - G (256 + t - k)
theorem sh_zero (G : Nat → Q) : sh 0 G = G := by funext t; simp [sh]
theorem sh_succ {k : Nat} (hk : k ≤ 255) (G : Nat → Q) : E (sh (k + 1) G) (Xq 256 1 (sh k G)) := by
  intro t ht
  simp only [sh, Xq]
  by_cases h : t = 0
  · subst h
    rw [if_neg (show ¬ k + 1 ≤ 0 by omega), if_pos (show 0 % 256 = 0 from rfl), show 1 + 0 / 256 = 1 from rfl, show wq 1 = -1 from rfl]
    rw [if_pos (show k ≤ 0 + 256 - 1 by omega), show 256 + 0 - (k + 1) = 0 + 256 - 1 - k by omega]; grind
  · rw [if_neg (show ¬ t % 256 = 0 by omega)]
    by_cases h' : k + 1 ≤ t
    · rw [if_pos h', if_pos (by omega), show t - (k + 1) = t - 1 - k by omega]
    · rw [if_neg h', if_neg (by omega), show 256 + t - (k + 1) = 256 + (t - 1) - k by omega]
def Xs : Nat → (Nat → Q) → Nat → Q
  | 0, F => F
  | k + 1, F => Xq 2 128 (Xs k F)
theorem Xs_congr (k : Nat) {F G : Nat → Q} (e : E F G) : E (Xs k F) (Xs k G) := by
  induction k with
  | zero => exact e
  | succ k ih => exact X7_congr ih
theorem L_sh {k : Nat} (hk : k ≤ 256) (G : Nat → Q) : E (Lqs 7 (sh k G)) (Xs k (Lqs 7 G)) := by
  induction k with
  | zero => rw [sh_zero]; exact E.refl _
  | succ k ih => exact ((Lqs_congr (by omega) (sh_succ (by omega) G)).trans (LX7 _)).trans (X7_congr (ih (by omega)))

def Mq (F G : Nat → Q) : Nat → Q := fun i =>
  if i % 2 = 0 then F i * G i + F (i + 1) * G (i + 1) * wq (128 + i / 2) else F (i - 1) * G i + F i * G (i - 1)
theorem q_sMul (F G : Nat → Int) : E (fun i => q (sMul F G i)) (Mq (fun i => q (F i)) fun i => q (G i)) := by
  intro i hi
  simp only [sMul, Mq]
  split
  · rw [q_mod, q_add, q_mul, q_mul, q_mod, q_mul, ga (show i / 2 < 128 by omega)]
    simp only [rd, q_mod]
  · rw [q_mod, q_add, q_mul, q_mul]
    simp only [rd, q_mod]
theorem Mq_congr {F F' G G' : Nat → Q} (e : E F F') (e' : E G G') : E (Mq F G) (Mq F' G') := by
  intro i hi
  simp only [Mq]
  split
  · rw [e i hi, e' i hi, e (i + 1) (by omega), e' (i + 1) (by omega)]
  · rw [e i hi, e' i hi, e (i - 1) (by omega), e' (i - 1) (by omega)]
theorem Mq_comm (F G : Nat → Q) : Mq F G = Mq G F := by funext i; simp only [Mq]; split <;> grind
theorem Mq_lin (F K G : Nat → Q) (a : Q) : Mq (fun i => F i + a * K i) G = fun i => Mq F G i + a * Mq K G i := by
  funext i; simp only [Mq]; split <;> grind
theorem Mq_zero (G : Nat → Q) : Mq (fun _ => 0) G = fun _ => 0 := by
  funext i; simp only [Mq]; split <;> grind
theorem Mq_X (F G : Nat → Q) : Mq (Xq 2 128 F) G = Xq 2 128 (Mq F G) := by
  funext i
  simp only [Mq, Xq]
  by_cases h : i % 2 = 0
  · rw [if_pos h, if_pos h, if_neg (show ¬ (i + 1) % 2 = 0 by omega), if_pos h, if_neg (show ¬ (i + 2 - 1) % 2 = 0 by omega), show i + 2 - 1 = i + 1 by omega, show i + 1 - 1 = i by omega]
    grind
  · rw [if_neg h, if_neg h, if_pos (show (i - 1) % 2 = 0 by omega), if_neg h, if_pos (show (i - 1) % 2 = 0 by omega), show i - 1 + 2 - 1 = i by omega, show i - 1 + 1 = i by omega]
    grind
theorem Mq_Xs (k : Nat) (F G : Nat → Q) : Mq (Xs k F) G = Xs k (Mq F G) := by
  induction k with
  | zero => rfl
  | succ k ih => simp only [Xs]; rw [Mq_X, ih]
def one (n : Nat) : Nat → Q := fun i => if i % n = 0 then 1 else 0
theorem one_L {s : Nat} (h : s ≤ 6) : E (Lq (hOf s) (mOf s) (one (2 * hOf s))) (one (hOf s)) := by
  intro i hi
  simp only [Lq, one]
  by_cases hl : i % (2 * hOf s) < hOf s
  · rw [if_pos hl, if_neg (show ¬ (i + hOf s) % (2 * hOf s) = 0 by have h7 := s7 h; generalize hOf s = H at *; generalize mOf s = M at *; rcases h7 with ⟨rfl, rfl⟩ | ⟨rfl, rfl⟩ | ⟨rfl, rfl⟩ | ⟨rfl, rfl⟩ | ⟨rfl, rfl⟩ | ⟨rfl, rfl⟩ | ⟨rfl, rfl⟩ <;> omega)]
    by_cases hz : i % (2 * hOf s) = 0
    · rw [if_pos hz, if_pos (show i % hOf s = 0 by have h7 := s7 h; generalize hOf s = H at *; generalize mOf s = M at *; rcases h7 with ⟨rfl, rfl⟩ | ⟨rfl, rfl⟩ | ⟨rfl, rfl⟩ | ⟨rfl, rfl⟩ | ⟨rfl, rfl⟩ | ⟨rfl, rfl⟩ | ⟨rfl, rfl⟩ <;> omega)]
      grind
    · rw [if_neg hz, if_neg (show ¬ i % hOf s = 0 by have h7 := s7 h; generalize hOf s = H at *; generalize mOf s = M at *; rcases h7 with ⟨rfl, rfl⟩ | ⟨rfl, rfl⟩ | ⟨rfl, rfl⟩ | ⟨rfl, rfl⟩ | ⟨rfl, rfl⟩ | ⟨rfl, rfl⟩ | ⟨rfl, rfl⟩ <;> omega)]
      grind
  · rw [if_neg hl, if_neg (show ¬ i % (2 * hOf s) = 0 by have := hm h; omega)]
    by_cases hz : i % (2 * hOf s) = hOf s
    · rw [if_pos (show (i - hOf s) % (2 * hOf s) = 0 by have h7 := s7 h; generalize hOf s = H at *; generalize mOf s = M at *; rcases h7 with ⟨rfl, rfl⟩ | ⟨rfl, rfl⟩ | ⟨rfl, rfl⟩ | ⟨rfl, rfl⟩ | ⟨rfl, rfl⟩ | ⟨rfl, rfl⟩ | ⟨rfl, rfl⟩ <;> omega),
        if_pos (show i % hOf s = 0 by have h7 := s7 h; generalize hOf s = H at *; generalize mOf s = M at *; rcases h7 with ⟨rfl, rfl⟩ | ⟨rfl, rfl⟩ | ⟨rfl, rfl⟩ | ⟨rfl, rfl⟩ | ⟨rfl, rfl⟩ | ⟨rfl, rfl⟩ | ⟨rfl, rfl⟩ <;> omega)]
      grind
    · rw [if_neg (show ¬ (i - hOf s) % (2 * hOf s) = 0 by have h7 := s7 h; generalize hOf s = H at *; generalize mOf s = M at *; rcases h7 with ⟨rfl, rfl⟩ | ⟨rfl, rfl⟩ | ⟨rfl, rfl⟩ | ⟨rfl, rfl⟩ | ⟨rfl, rfl⟩ | ⟨rfl, rfl⟩ | ⟨rfl, rfl⟩ <;> omega),
        if_neg (show ¬ i % hOf s = 0 by have h7 := s7 h; generalize hOf s = H at *; generalize mOf s = M at *; rcases h7 with ⟨rfl, rfl⟩ | ⟨rfl, rfl⟩ | ⟨rfl, rfl⟩ | ⟨rfl, rfl⟩ | ⟨rfl, rfl⟩ | ⟨rfl, rfl⟩ | ⟨rfl, rfl⟩ <;> omega)]
      grind
theorem one_Ls {s : Nat} (h : s ≤ 7) : E (Lqs s (one 256)) (one (256 / 2 ^ s)) := by
  induction s with
  | zero => exact E.refl _
  | succ s ih =>
    have hxs := hx (show s ≤ 6 by omega)
    have h1 := ih (by omega)
    rw [← hxs.1] at h1
    rw [← hxs.2.2.1]
    exact (Lq_congr (by omega) h1).trans (one_L (by omega))
theorem Mq_one (G : Nat → Q) : Mq (one 2) G = G := by
  funext i
  simp only [Mq, one]
  by_cases h : i % 2 = 0
  · rw [if_pos h, if_pos h, if_neg (by omega)]; grind
  · rw [if_neg h, if_neg h, if_pos (by omega)]; grind
/-- the product with x to the k -/
theorem times_x {k : Nat} (hk : k ≤ 256) (G : Nat → Q) : E (Mq (Lqs 7 (sh k (one 256))) (Lqs 7 G)) (Lqs 7 (sh k G)) := by
  have h1 := (L_sh hk (one 256)).trans (Xs_congr k (one_Ls (show 7 ≤ 7 by omega)))
  refine (Mq_congr h1 (E.refl _)).trans ?_
  rw [Mq_Xs, show 256 / 2 ^ 7 = 2 from rfl, Mq_one]
  exact (L_sh hk G).symm
def fst (F : Nat → Q) (n : Nat) : Nat → Q := fun t => if t < n then F t else 0
theorem fst_succ (F : Nat → Q) {n : Nat} (h : n < 256) : E (fst F (n + 1)) fun t => fst F n t + F n * sh n (one 256) t := by
  intro t ht
  simp only [fst, sh, one]
  by_cases h1 : t = n
  · subst h1
    rw [if_pos (show t < t + 1 by omega), if_neg (show ¬ t < t by omega), if_pos (show t ≤ t by omega), if_pos (show (t - t) % 256 = 0 by omega)]; grind
  · by_cases h2 : t < n
    · rw [if_pos (show t < n + 1 by omega), if_pos h2, if_neg (show ¬ n ≤ t by omega), if_neg (show ¬ (256 + t - n) % 256 = 0 by omega)]; grind
    · rw [if_neg (show ¬ t < n + 1 by omega), if_neg h2, if_pos (show n ≤ t by omega), if_neg (show ¬ (t - n) % 256 = 0 by omega)]; grind
def Aq (F G : Nat → Q) : Nat → Nat → Q
  | 0 => fun _ => 0
  | n + 1 => fun t => Aq F G n t + F n * sh n G t
theorem Aq_L (F G : Nat → Q) {n : Nat} (h : n ≤ 256) : E (Lqs 7 (Aq F G n)) (Mq (Lqs 7 (fst F n)) (Lqs 7 G)) := by
  induction n with
  | zero =>
    rw [show Aq F G 0 = fun _ => 0 from rfl, show fst F 0 = fun _ => 0 by funext t; simp [fst], Lqs_zero, Mq_zero]
    exact E.refl _
  | succ n ih =>
    simp only [Aq]
    have h1 := Lqs_congr (show 7 ≤ 7 by omega) (fst_succ F (show n < 256 by omega))
    rw [Lqs_lin] at h1
    refine E.trans ?_ (Mq_congr h1 (E.refl _)).symm
    rw [Lqs_lin, Mq_lin]
    intro i hi
    have h2 := ih (by omega) i hi
    have h3 := times_x (show n ≤ 256 by omega) G i hi
    simp only at h2 h3 ⊢
    rw [h2, h3]
theorem Aq_all (F G : Nat → Q) : E (Lqs 7 (Aq F G 256)) (Mq (Lqs 7 F) (Lqs 7 G)) :=
  (Aq_L F G (Nat.le_refl _)).trans (Mq_congr (Lqs_congr (by omega) fun i hi => by simp only [fst]; rw [if_pos hi]) (E.refl _))
theorem cS_A (F G : Nat → Int) {n : Nat} (h : n ≤ 256) {t : Nat} (ht : t < 256) : q (cS F G n t) - q (cS F G n (t + 256)) = Aq (fun i => q (F i)) (fun i => q (G i)) n t := by
  induction n with
  | zero => simp only [cS, Aq]; decide
  | succ n ih =>
    have h1 := ih (by omega)
    simp only [cS, Aq]
    rw [← h1]
    simp only [cRow, sh]
    by_cases h2 : n ≤ t
    · rw [if_pos (show n ≤ t ∧ t < n + 256 by omega), if_neg (show ¬ (n ≤ t + 256 ∧ t + 256 < n + 256) by omega), if_pos h2, q_mod, q_add, q_mul, q_mod, q_mod]
      grind
    · rw [if_neg (show ¬ (n ≤ t ∧ t < n + 256) by omega), if_pos (show n ≤ t + 256 ∧ t + 256 < n + 256 by omega), if_neg h2, q_mod, q_add, q_mul, q_mod, q_mod, Nat.add_comm t 256]
      grind
theorem q_slow (F G : Nat → Int) {t : Nat} (ht : t < 256) : q (sSlow F G t) = Aq (fun i => q (F i)) (fun i => q (G i)) 256 t := by
  rw [← cS_A F G (Nat.le_refl _) ht]
  simp only [sSlow]
  rw [q_mod, q_sub, q_add, q_q]
  grind
theorem sSlow_red (F G : Nat → Int) : Red (sSlow F G) := fun i _ => by unfold sSlow; omega
theorem q_prod (F G : Nat → Int) {i : Nat} (hi : i < 256) : q (sInv (sMul (sNTT F) (sNTT G)) i) = Aq (fun i => q (F i)) (fun i => q (G i)) 256 i := by
  rw [q_inv]
  have h1 := q_sMul (sNTT F) (sNTT G)
  rw [q_ntt, q_ntt] at h1
  have h2 := Iqs_congr (show 7 ≤ 7 by omega) (h1.trans (Aq_all _ _).symm) i hi
  rw [h2, back7 _ hi]
theorem sInv_sMul (F G : Nat → Int) {i : Nat} (hi : i < 256) : sInv (sMul (sNTT F) (sNTT G)) i = sSlow F G i :=
  q_inj (sInv_red _ i hi) (sSlow_red _ _ i hi) (by rw [q_prod F G hi, q_slow F G hi])
theorem sMul_comm (F G : Nat → Int) (i : Nat) : sMul F G i = sMul G F i := by
  simp only [sMul]
  split
  · rw [Int.mul_comm (rd F i), Int.mul_comm (rd F (i + 1))]
  · rw [Int.mul_comm (rd F (i - 1)), Int.mul_comm (rd F i), Int.add_comm]
/-- the numbers gone round -/
def rnd (k : Nat) (F : Nat → Int) : Nat → Int := fun t => if k ≤ t then F (t - k) else if F (256 + t - k) = 0 then 0 else 3329 - F (256 + t - k)
theorem rnd_red {k : Nat} (hk : k < 256) {F : Nat → Int} (h : Red F) : Red (rnd k F) := fun t ht => by
  unfold rnd
  split
  · exact h _ (by omega)
  · have := h (256 + t - k) (by omega)
    split <;> omega
theorem sInv_x {k : Nat} (hk : k < 256) {F S : Nat → Int} (h : Red F) (hS : ∀ i, i < 256 → S i = if i = k then 1 else 0) {i : Nat} (hi : i < 256) : sInv (sMul (sNTT F) (sNTT S)) i = rnd k F i := by
  refine q_inj (sInv_red _ i hi) (rnd_red hk h i hi) ?_
  rw [q_inv]
  have h1 := q_sMul (sNTT F) (sNTT S)
  rw [q_ntt, q_ntt, Mq_comm] at h1
  have h0 : E (fun i => q (S i)) (sh k (one 256)) := by
    intro t ht
    simp only [sh, one]
    rw [hS t ht]
    by_cases h2 : t = k
    · subst h2; rw [if_pos rfl, if_pos (Nat.le_refl _), if_pos (by omega)]; decide
    · rw [if_neg h2]
      by_cases h3 : k ≤ t
      · rw [if_pos h3, if_neg (by omega)]; decide
      · rw [if_neg h3, if_neg (by omega)]; decide
  have h2 := (h1.trans (Mq_congr (Lqs_congr (show 7 ≤ 7 by omega) h0) (E.refl _))).trans (times_x (by omega) _)
  have h3 := Iqs_congr (show 7 ≤ 7 by omega) h2 i hi
  rw [h3, back7 _ hi]
  simp only [sh, rnd]
  split
  · rfl
  · split
    · rename_i h4; rw [h4]; decide
    · rw [q_sub, q_q]; grind
/-- the place-by-place product with x to the k, of the first i places -/
def gone (K i : Nat) (F : Nat → Int) : Nat → Int := fun t => if t < 256 ∧ (t + 256 - K) % 256 < i then rnd K F t else 0
theorem gone_zero (K : Nat) (F : Nat → Int) : gone K 0 F = fun _ => 0 := by funext t; simp only [gone]; rw [if_neg (by omega)]
theorem gone_all (K : Nat) (F : Nat → Int) {t : Nat} (h : t < 256) : gone K 256 F t = rnd K F t := by simp only [gone]; rw [if_pos (by omega)]
theorem gone_step {K i : Nat} {F : Nat → Int} {v : Int} (hK : K < 256) (hi : i < 256) (h : v = if 256 ≤ i + K then (if F i = 0 then 0 else 3329 - F i) else F i) : upd (gone K i F) ((i + K) % 256) v = gone K (i + 1) F := by
  subst h
  funext t
  simp only [upd, gone]
  by_cases h1 : t = (i + K) % 256
  · rw [if_pos h1, if_pos (show t < 256 ∧ (t + 256 - K) % 256 < i + 1 by omega)]
    simp only [rnd]
    by_cases h2 : 256 ≤ i + K
    · rw [if_pos h2, if_neg (show ¬ K ≤ t by omega), show 256 + t - K = i by omega]
    · rw [if_neg h2, if_pos (show K ≤ t by omega), show t - K = i by omega]
  · rw [if_neg h1]
    by_cases h2 : t < 256 ∧ (t + 256 - K) % 256 < i
    · rw [if_pos h2, if_pos (show t < 256 ∧ (t + 256 - K) % 256 < i + 1 by omega)]
    · rw [if_neg h2, if_neg (show ¬ (t < 256 ∧ (t + 256 - K) % 256 < i + 1) by omega)]
end Go.Mi.Ring
