/- General lemmas, walks. -/
import Derived.Test.YtmkplecnmklbfaaJ3PLost
set_option maxRecDepth 100000
set_option maxHeartbeats 1000000
set_option linter.unusedSimpArgs false
set_option linter.unusedVariables false
set_option linter.unnecessarySimpa false
set_option linter.unusedSectionVars false
namespace Go.Sx.Try
open Go.Mi Go.RowKit Go.Sx Go.Proofs
noncomputable section
def PQ (h : Nat) : Prop := h = 2 ∨ h = 4 ∨ h = 8 ∨ h = 16 ∨ h = 32 ∨ h = 64 ∨ h = 128 ∨ h = 256
set_option maxRecDepth 10000 in
theorem inv_a {h k : Nat} (h2 : h ≤ 128) (hh : PQ h) (hk : (k + 1) * h = 256) : (k + 1) * (2 * h) + 0 = 512 ∧ PQ (h * 2) ∧ 1 ≤ h := by
 unfold PQ at hh ⊢
 rcases hh with rfl | rfl | rfl | rfl | rfl | rfl | rfl | rfl <;> omega
set_option maxRecDepth 10000 in
theorem inv_b {h k f : Nat} (h2 : h ≤ 128) (hh : PQ h) (hk : (k + 1) * (2 * h) + f = 512) (hf : f < 256) : f + 2 * h ≤ 256 ∧ k < 128 ∧ 1 ≤ k ∧ (k - 1 + 1) * (2 * h) + (f + 2 * h) = 512 ∧ 2 ≤ h := by
 unfold PQ at hh
 rcases hh with rfl | rfl | rfl | rfl | rfl | rfl | rfl | rfl <;> omega
set_option maxRecDepth 10000 in
theorem inv_c {h k f : Nat} (h2 : h ≤ 128) (hh : PQ h) (hk : (k + 1) * (2 * h) + f = 512) (hf : f = 256) : (k + 1) * (h * 2) = 256 := by
 unfold PQ at hh
 rcases hh with rfl | rfl | rfl | rfl | rfl | rfl | rfl | rfl <;> omega
def inverse_l3_s (f : Nat → Int) (k1 : Nat) (x4 x5 : Nat) (o1_0 : Nat → Int) (k2 : Nat) (x4_2 x6 : Nat) (o1_0_2 : Nat → Int) (k3 : Nat) : (Nat × (Nat → Int)) → (Nat × (Nat → Int)) := fun z_ => match z_ with | (x7, o1_0_3) => (x7 + 1, upd (upd o1_0_3 x7 (mod_m (iadd .u32 (IntKind.wrap .u32 (o1_0_3 x7)) (IntKind.wrap .u32 (o1_0_3 (x7 + x5)))))) (x7 + x5) (mod_m (imul .u32 (zetas_m x4_2) (isub .u32 (iadd .u32 (IntKind.wrap .u32 ((upd o1_0_3 x7 (mod_m (iadd .u32 (IntKind.wrap .u32 (o1_0_3 x7)) (IntKind.wrap .u32 (o1_0_3 (x7 + x5)))))) (x7 + x5))) 3329) (IntKind.wrap .u32 (o1_0_3 x7))))))
def inverse_l3 (f : Nat → Int) (k1 : Nat) (x4 x5 : Nat) (o1_0 : Nat → Int) (k2 : Nat) (x4_2 x6 : Nat) (o1_0_2 : Nat → Int) : Nat → Nat × (Nat → Int)
 | 0 => (x6, o1_0_2)
 | k3 + 1 => inverse_l3_s f k1 x4 x5 o1_0 k2 x4_2 x6 o1_0_2 k3 (inverse_l3 f k1 x4 x5 o1_0 k2 x4_2 x6 o1_0_2 k3)
def inverse_l3_c (f : Nat → Int) (k1 : Nat) (x4 x5 : Nat) (o1_0 : Nat → Int) (k2 : Nat) (x4_2 x6 : Nat) (o1_0_2 : Nat → Int) : (Nat × (Nat → Int)) → Prop := fun z_ => match z_ with | (x7, o1_0_3) => ((x7 : Nat) : Int) < ((x6 + x5 : Nat) : Int)
def inverse_l2_s (f : Nat → Int) (k1 : Nat) (x4 x5 : Nat) (o1_0 : Nat → Int) (k2 : Nat) : (Nat × Nat × (Nat → Int)) → (Nat × Nat × (Nat → Int)) := fun z_ => match z_ with | (x4_2, x6, o1_0_2) => (x4_2 - 1, x6 + (2 * x5), (inverse_l3 f k1 x4 x5 o1_0 k2 x4_2 x6 o1_0_2 (lst fun j => inverse_l3_c f k1 x4 x5 o1_0 k2 x4_2 x6 o1_0_2 (inverse_l3 f k1 x4 x5 o1_0 k2 x4_2 x6 o1_0_2 j))).2)
def inverse_l2 (f : Nat → Int) (k1 : Nat) (x4 x5 : Nat) (o1_0 : Nat → Int) : Nat → Nat × Nat × (Nat → Int)
 | 0 => (x4, 0, o1_0)
 | k2 + 1 => inverse_l2_s f k1 x4 x5 o1_0 k2 (inverse_l2 f k1 x4 x5 o1_0 k2)
def inverse_l2_c (f : Nat → Int) (k1 : Nat) (x4 x5 : Nat) (o1_0 : Nat → Int) : (Nat × Nat × (Nat → Int)) → Prop := fun z_ => match z_ with | (x4_2, x6, o1_0_2) => ((x6 : Nat) : Int) < 256
def inverse_l1_s (f : Nat → Int) (k1 : Nat) : (Nat × Nat × (Nat → Int)) → (Nat × Nat × (Nat → Int)) := fun z_ => match z_ with | (x4, x5, o1_0) => ((inverse_l2 f k1 x4 x5 o1_0 (lst fun j => inverse_l2_c f k1 x4 x5 o1_0 (inverse_l2 f k1 x4 x5 o1_0 j))).1, x5 * 2, (inverse_l2 f k1 x4 x5 o1_0 (lst fun j => inverse_l2_c f k1 x4 x5 o1_0 (inverse_l2 f k1 x4 x5 o1_0 j))).2.2)
def inverse_l1 (f : Nat → Int) : Nat → Nat × Nat × (Nat → Int)
 | 0 => (127, 2, add_m f (fun _ => 0))
 | k1 + 1 => inverse_l1_s f k1 (inverse_l1 f k1)
def inverse_l1_c (f : Nat → Int) : (Nat × Nat × (Nat → Int)) → Prop := fun z_ => match z_ with | (x4, x5, o1_0) => ((x5 : Nat) : Int) ≤ 128
def inverse_l4_s (f : Nat → Int) (x67 : Nat) : (Nat → Int) → (Nat → Int) := fun o1_0 => upd o1_0 x67 (mod_m (imul .u32 (IntKind.wrap .u32 (o1_0 x67)) 3303))
def inverse_l4 (f : Nat → Int) : Nat → (Nat → Int)
 | 0 => (inverse_l1 f (lst fun j => inverse_l1_c f (inverse_l1 f j))).2.2
 | x67 + 1 => inverse_l4_s f x67 (inverse_l4 f x67)
def inverse_v (f : Nat → Int) : (Nat → Int) := inverse_l4 f 256
def inverse_m (f : Nat → Int) : (Nat → Int) := shut (inverse_v f)
theorem inverse_e (f : Nat → Int) : inverse_m f = inverse_v f := shut_eq _
def c_inverse (f : Nat → Int) : Con := ⟨[.ar .u16 256 f], [], .ar .u16 256 (inverse_m f), []⟩
theorem inverse_ok (f : Nat → Int) : ConOk Try.prog 77 (c_inverse f) := by
 refine conOk_of rfl (nb := 0) Try.func77 rfl rfl Try.ntmps77 rfl rfl rfl fun g0 w0 ac gs ws hg0 hS => ?_
 have hS := hS.sp
 refine s0 [1, 2] [0, 1] 2 hS fun hS => ?_
 refine sA [(0, .ov (.ar .u16 256 f)), (2, .call ⟨42, (c_add f (fun _ => 0)), [], []⟩)] ⟨add_ok _ _, trivial⟩ (fun _ => [(.ar .u16 256 f : D) = (.ar .u16 256 f), nd [.ar .u16 256 f, .ar .u16 256 (fun _ => 0)] []]) [1, 2] [0, 1] 2 ⟨rfl, rfl, trivial⟩ hS fun hS => ?_
 refine sA [(0, .call ⟨70, (c_zetas), [], []⟩)] ⟨zetas_ok, trivial⟩ (fun C => [ndC C 0]) [1, 2, 3, 4] [0, 1, 2] 3 ⟨rfl, trivial⟩ hS fun hS => ?_
 refine wp_seq (s0 [1, 2, 3, 4, 5] [0, 1, 2] 3 hS fun hS => ?_)
 refine wp_block (loop_y (ι := Nat × Nat × Nat × (Nat → Int)) hg0 hS (fun z_ => match z_ with | (k1, x4, x5, o1_0) => 256 - x5) (fun z_ => match z_ with | (k1, x4, x5, o1_0) => [(1, .cp 0 0), (2, .cp 1 0), (3, .cp 2 0), (4, vi ((x4 : Nat) : Int)), (5, vi ((x5 : Nat) : Int))]) (fun z_ => match z_ with | (k1, x4, x5, o1_0) => [(0, .ob 60 (chain [.ar .u16 256 o1_0])), (1, .ob 60 (chain [.ar .u16 256 (fun _ => 0)])), (2, .ob 106 (chain [.ar .u32 128 zetas_m]))]) (fun z_ => match z_ with | (k1, x4, x5, o1_0) => ((x4, x5, o1_0) = inverse_l1 f k1) ∧ (∀ j, j < k1 → inverse_l1_c f (inverse_l1 f j)) ∧ (PQ x5) ∧ ((x4 + 1) * x5 = 256) ∧ True) 3 (0, 127, 2, add_m f (fun _ => 0)) [(0, 0), (1, 1), (2, 2)] ⟨rfl, (fun j h => absurd h (Nat.not_lt_zero j)), (by unfold PQ; omega), rfl, trivial⟩ ?_)
 rintro ⟨k1, x4, x5, o1_0⟩ ac gs ws ⟨hq1, hj1, pw, pk, _⟩ hS
 refine wp_seq (s0 [1, 2, 3, 4, 5, 15] [0, 1, 2] 3 hS fun hS => ?_)
 refine if_d ((x5 : Int) ≤ 128) hS (fun h1 => ?_) (fun h1 => ?_)
 ·refine wp_skip (then_n (wp_seq (wp_block (wp_seq ?_))))
  have pa := inv_a omm pw pk
  refine r0 [1, 2, 3, 4, 5, 6] [0, 1, 2] 3 hS fun hS => ?_
  refine then_n (wp_block (loop_y (ι := Nat × Nat × Nat × (Nat → Int)) hg0 hS (fun z_ => match z_ with | (k2, x4_2, x6, o1_0_2) => 256 - x6) (fun z_ => match z_ with | (k2, x4_2, x6, o1_0_2) => [(1, .cp 0 0), (2, .cp 1 0), (3, .cp 2 0), (4, vi ((x4_2 : Nat) : Int)), (5, vi (x5 : Int)), (6, vi ((x6 : Nat) : Int))]) (fun z_ => match z_ with | (k2, x4_2, x6, o1_0_2) => [(0, .ob 60 (chain [.ar .u16 256 o1_0_2])), (1, .ob 60 (chain [.ar .u16 256 (fun _ => 0)])), (2, .ob 106 (chain [.ar .u32 128 zetas_m]))]) (fun z_ => match z_ with | (k2, x4_2, x6, o1_0_2) => ((x4_2, x6, o1_0_2) = inverse_l2 f k1 x4 x5 o1_0 k2) ∧ (∀ j, j < k2 → inverse_l2_c f k1 x4 x5 o1_0 (inverse_l2 f k1 x4 x5 o1_0 j)) ∧ ((x4_2 + 1) * (2 * x5) + x6 = 512) ∧ (x6 ≤ 256) ∧ True) 3 (0, x4, 0, o1_0) [(0, 0), (1, 1), (2, 2)] ⟨rfl, (fun j h => absurd h (Nat.not_lt_zero j)), pa.1, omm, trivial⟩ ?_))
  rintro ⟨k2, x4_2, x6, o1_0_2⟩ ac gs ws ⟨hq2, hj2, p2, p3, _⟩ hS
  refine wp_seq (s0 [1, 2, 3, 4, 5, 6, 19] [0, 1, 2] 3 hS fun hS => ?_)
  refine if_d ((x6 : Int) < 256) hS (fun h2 => ?_) (fun h2 => ?_)
  ·refine wp_skip (then_n (wp_seq (wp_block (wp_seq (wp_seq ?_)))))
   have pb := inv_b omm pw p2 omm
   refine r0 [1, 2, 3, 4, 5, 6, 7] [0, 1, 2] 3 hS fun hS => ?_
   refine then_n (wp_block (loop_y (ι := Nat × Nat × (Nat → Int)) hg0 hS (fun z_ => match z_ with | (k3, x7, o1_0_3) => x6 + x5 - x7) (fun z_ => match z_ with | (k3, x7, o1_0_3) => [(1, .cp 0 0), (2, .cp 1 0), (3, .cp 2 0), (4, vi (x4_2 : Int)), (5, vi (x5 : Int)), (6, vi (x6 : Int)), (7, vi ((x7 : Nat) : Int))]) (fun z_ => match z_ with | (k3, x7, o1_0_3) => [(0, .ob 60 (chain [.ar .u16 256 o1_0_3])), (1, .ob 60 (chain [.ar .u16 256 (fun _ => 0)])), (2, .ob 106 (chain [.ar .u32 128 zetas_m]))]) (fun z_ => match z_ with | (k3, x7, o1_0_3) => ((x7, o1_0_3) = inverse_l3 f k1 x4 x5 o1_0 k2 x4_2 x6 o1_0_2 k3) ∧ (∀ j, j < k3 → inverse_l3_c f k1 x4 x5 o1_0 k2 x4_2 x6 o1_0_2 (inverse_l3 f k1 x4 x5 o1_0 k2 x4_2 x6 o1_0_2 j)) ∧ (x6 ≤ x7) ∧ (x7 ≤ x6 + x5) ∧ True) 3 (0, x6, o1_0_2) [(0, 0), (1, 1), (2, 2)] ⟨rfl, (fun j h => absurd h (Nat.not_lt_zero j)), omm, omm, trivial⟩ ?_))
   rintro ⟨k3, x7, o1_0_3⟩ ac gs ws ⟨hq3, hj3, p4, p5, _⟩ hS
   refine wp_seq (sA [(3, .oi ((x6 + x5 : Nat) : Int))] trivial (fun _ => [iadd .i64 (x6 : Int) (x5 : Int) = ((x6 + x5 : Nat) : Int)]) [1, 2, 3, 4, 5, 6, 7, 29] [0, 1, 2] 3 ⟨by rw [iadd64 omm omm]; omega, trivial⟩ hS fun hS => ?_)
   refine if_d ((x7 : Int) < ((x6 + x5 : Nat) : Int)) hS (fun h3 => ?_) (fun h3 => ?_)
   ·refine wp_skip (then_n (wp_seq (wp_block (sA [] trivial (fun _ => [(0 : Int) ≤ (x7 : Int) ∧ ((x7 : Int) : Int) < 256]) [1, 2, 3, 4, 5, 6, 7, 8] [0, 1, 2] 3 ⟨by omega, trivial⟩ hS fun hS => ?_))))
    refine sA [(4, .oi ((x7 + x5 : Nat) : Int)), (9, .call ⟨71, (c_mod (iadd .u32 (IntKind.wrap .u32 (o1_0_3 x7)) (IntKind.wrap .u32 (o1_0_3 (x7 + x5))))), [], []⟩)] ⟨mod_ok _, trivial⟩ (fun C => [iadd .i64 (x7 : Int) (x5 : Int) = ((x7 + x5 : Nat) : Int), (0 : Int) ≤ ((x7 + x5 : Nat) : Int) ∧ (((x7 + x5 : Nat) : Int) : Int) < 256, ndC C 9, (0 : Int) ≤ (x7 : Int) ∧ ((x7 : Int) : Int) < 256]) [1, 2, 3, 4, 5, 6, 7, 8] [0, 1, 2] 3 ⟨by rw [iadd64 omm omm]; omega, by omega, rfl, by omega, trivial⟩ hS fun hS => ?_
    refine rA [(2, .oi ((x7 + x5 : Nat) : Int)), (8, .oi ((x7 + x5 : Nat) : Int)), (16, .call ⟨71, (c_mod (imul .u32 (zetas_m x4_2) (isub .u32 (iadd .u32 (IntKind.wrap .u32 ((upd o1_0_3 x7 (mod_m (iadd .u32 (IntKind.wrap .u32 (o1_0_3 x7)) (IntKind.wrap .u32 (o1_0_3 (x7 + x5)))))) (x7 + x5))) 3329) (IntKind.wrap .u32 (o1_0_3 x7))))), [], []⟩)] ⟨mod_ok _, trivial⟩ (fun C => [iadd .i64 (x7 : Int) (x5 : Int) = ((x7 + x5 : Nat) : Int), (0 : Int) ≤ (x4_2 : Int) ∧ ((x4_2 : Int) : Int) < 128, iadd .i64 (x7 : Int) (x5 : Int) = ((x7 + x5 : Nat) : Int), (0 : Int) ≤ ((x7 + x5 : Nat) : Int) ∧ (((x7 + x5 : Nat) : Int) : Int) < 256, ndC C 16, (0 : Int) ≤ ((x7 + x5 : Nat) : Int) ∧ (((x7 + x5 : Nat) : Int) : Int) < 256]) [1, 2, 3, 4, 5, 6, 7] [0, 1, 2] 3 ⟨by rw [iadd64 omm omm]; omega, by omega, by rw [iadd64 omm omm]; omega, by omega, rfl, by omega, trivial⟩ hS fun hS => ?_
    refine block_n (then_n (rA [(1, .oi ((x7 + 1 : Nat) : Int))] trivial (fun _ => [iadd .i64 (x7 : Int) 1 = ((x7 + 1 : Nat) : Int)]) [1, 2, 3, 4, 5, 6, 7] [0, 1, 2] 3 ⟨by rw [iadd64 omm omm]; omega, trivial⟩ hS fun hS => ?_))
    refine then_n ?_
    exact next_y hg0 hS (s := (k3, x7, o1_0_3)) (k3 + 1, x7 + 1, upd (upd o1_0_3 x7 (mod_m (iadd .u32 (IntKind.wrap .u32 (o1_0_3 x7)) (IntKind.wrap .u32 (o1_0_3 (x7 + x5)))))) (x7 + x5) (mod_m (imul .u32 (zetas_m x4_2) (isub .u32 (iadd .u32 (IntKind.wrap .u32 ((upd o1_0_3 x7 (mod_m (iadd .u32 (IntKind.wrap .u32 (o1_0_3 x7)) (IntKind.wrap .u32 (o1_0_3 (x7 + x5)))))) (x7 + x5))) 3329) (IntKind.wrap .u32 (o1_0_3 x7)))))) [(0, 0), (1, 1), (2, 2)] (show x6 + x5 - (x7 + 1) < x6 + x5 - x7 from by omega) ⟨(it_next (F := inverse_l3 f k1 x4 x5 o1_0 k2 x4_2 x6 o1_0_2) (st := inverse_l3_s f k1 x4 x5 o1_0 k2 x4_2 x6 o1_0_2) (fun _ => rfl) hq3 rfl), (lst_next hj3 (by rw [← hq3]; exact h3)), omm, omm, trivial⟩
   ·have hScur := hS
    obtain rfl := lst_eq (P := fun j => inverse_l3_c f k1 x4 x5 o1_0 k2 x4_2 x6 o1_0_2 (inverse_l3 f k1 x4 x5 o1_0 k2 x4_2 x6 o1_0_2 j)) (by rw [← hq3]; first | exact h3 | exact not_not_intro h3) hj3
    obtain rfl : (inverse_l3 f k1 x4 x5 o1_0 k2 x4_2 x6 o1_0_2 (lst fun j => inverse_l3_c f k1 x4 x5 o1_0 k2 x4_2 x6 o1_0_2 (inverse_l3 f k1 x4 x5 o1_0 k2 x4_2 x6 o1_0_2 j))).1 = x7 := Eq.symm (congrArg (fun z => z.1) hq3)
    obtain rfl : (inverse_l3 f k1 x4 x5 o1_0 k2 x4_2 x6 o1_0_2 (lst fun j => inverse_l3_c f k1 x4 x5 o1_0 k2 x4_2 x6 o1_0_2 (inverse_l3 f k1 x4 x5 o1_0 k2 x4_2 x6 o1_0_2 j))).2 = o1_0_3 := Eq.symm (congrArg (fun z => z.2) hq3)
    have hS := hScur
    clear hScur
    refine wp_exit (then_exit (then_exit (block_exit (then_n (rA [(1, .oi ((x4_2 - 1 : Nat) : Int))] trivial (fun _ => [isub .i64 (x4_2 : Int) 1 = ((x4_2 - 1 : Nat) : Int)]) [1, 2, 3, 4, 5, 6] [0, 1, 2] 3 ⟨by rw [isub64 omm omm]; omega, trivial⟩ hS fun hS => ?_)))))
    refine block_n (then_n (rA [(2, .oi ((2 * x5 : Nat) : Int)), (3, .oi ((x6 + (2 * x5) : Nat) : Int))] trivial (fun _ => [imul .i64 2 (x5 : Int) = ((2 * x5 : Nat) : Int), iadd .i64 (x6 : Int) ((2 * x5 : Nat) : Int) = ((x6 + (2 * x5) : Nat) : Int)]) [1, 2, 3, 4, 5, 6] [0, 1, 2] 3 ⟨by rw [imul64 omm omm]; omega, by rw [iadd64 omm omm]; omega, trivial⟩ hS fun hS => ?_))
    refine then_n ?_
    exact next_y hg0 hS (s := (k2, x4_2, x6, o1_0_2)) (k2 + 1, x4_2 - 1, x6 + (2 * x5), (inverse_l3 f k1 x4 x5 o1_0 k2 x4_2 x6 o1_0_2 (lst fun j => inverse_l3_c f k1 x4 x5 o1_0 k2 x4_2 x6 o1_0_2 (inverse_l3 f k1 x4 x5 o1_0 k2 x4_2 x6 o1_0_2 j))).2) [(0, 0), (1, 1), (2, 2)] (show 256 - (x6 + (2 * x5)) < 256 - x6 from by omega) ⟨(it_next (F := inverse_l2 f k1 x4 x5 o1_0) (st := inverse_l2_s f k1 x4 x5 o1_0) (fun _ => rfl) hq2 rfl), (lst_next hj2 (by rw [← hq2]; exact h2)), pb.2.2.2.1, pb.1, trivial⟩
  ·have hScur := hS
   have pe := inv_c omm pw p2 omm
   have pn := pa.2.1
   have pz := pa.2.2
   obtain rfl := lst_eq (P := fun j => inverse_l2_c f k1 x4 x5 o1_0 (inverse_l2 f k1 x4 x5 o1_0 j)) (by rw [← hq2]; first | exact h2 | exact not_not_intro h2) hj2
   obtain rfl : (inverse_l2 f k1 x4 x5 o1_0 (lst fun j => inverse_l2_c f k1 x4 x5 o1_0 (inverse_l2 f k1 x4 x5 o1_0 j))).1 = x4_2 := Eq.symm (congrArg (fun z => z.1) hq2)
   obtain rfl : (inverse_l2 f k1 x4 x5 o1_0 (lst fun j => inverse_l2_c f k1 x4 x5 o1_0 (inverse_l2 f k1 x4 x5 o1_0 j))).2.1 = x6 := Eq.symm (congrArg (fun z => z.2.1) hq2)
   obtain rfl : (inverse_l2 f k1 x4 x5 o1_0 (lst fun j => inverse_l2_c f k1 x4 x5 o1_0 (inverse_l2 f k1 x4 x5 o1_0 j))).2.2 = o1_0_2 := Eq.symm (congrArg (fun z => z.2.2) hq2)
   have hS := hScur
   clear hScur
   refine wp_exit (then_exit (then_exit (block_exit (block_n (then_n (rA [(1, .oi ((x5 * 2 : Nat) : Int))] trivial (fun _ => [imul .i64 (x5 : Int) 2 = ((x5 * 2 : Nat) : Int)]) [1, 2, 3, 4, 5] [0, 1, 2] 3 ⟨by rw [imul64 omm omm]; omega, trivial⟩ hS fun hS => ?_))))))
   refine then_n ?_
   exact next_y hg0 hS (s := (k1, x4, x5, o1_0)) (k1 + 1, (inverse_l2 f k1 x4 x5 o1_0 (lst fun j => inverse_l2_c f k1 x4 x5 o1_0 (inverse_l2 f k1 x4 x5 o1_0 j))).1, x5 * 2, (inverse_l2 f k1 x4 x5 o1_0 (lst fun j => inverse_l2_c f k1 x4 x5 o1_0 (inverse_l2 f k1 x4 x5 o1_0 j))).2.2) [(0, 0), (1, 1), (2, 2)] (show 256 - (x5 * 2) < 256 - x5 from by omega) ⟨(it_next (F := inverse_l1 f) (st := inverse_l1_s f) (fun _ => rfl) hq1 rfl), (lst_next hj1 (by rw [← hq1]; exact h1)), pn, pe, trivial⟩
 ·have hScur := hS
  obtain rfl := lst_eq (P := fun j => inverse_l1_c f (inverse_l1 f j)) (by rw [← hq1]; first | exact h1 | exact not_not_intro h1) hj1
  obtain rfl : (inverse_l1 f (lst fun j => inverse_l1_c f (inverse_l1 f j))).1 = x4 := Eq.symm (congrArg (fun z => z.1) hq1)
  obtain rfl : (inverse_l1 f (lst fun j => inverse_l1_c f (inverse_l1 f j))).2.1 = x5 := Eq.symm (congrArg (fun z => z.2.1) hq1)
  obtain rfl : (inverse_l1 f (lst fun j => inverse_l1_c f (inverse_l1 f j))).2.2 = o1_0 := Eq.symm (congrArg (fun z => z.2.2) hq1)
  have hS := hScur
  clear hScur
  refine wp_exit (then_exit (then_exit (block_exit (then_n (wp_seq (s0 [1, 2, 67] [0, 1] 3 hS fun hS => ?_))))))
  refine wp_block (loop_y (ι := Nat × (Nat → Int)) hg0 hS (fun z_ => match z_ with | (x67, o1_0) => 256 - x67) (fun z_ => match z_ with | (x67, o1_0) => [(1, .cp 0 0), (2, .cp 1 0), (67, vi ((x67 : Nat) : Int))]) (fun z_ => match z_ with | (x67, o1_0) => [(0, .ob 60 (chain [.ar .u16 256 o1_0])), (1, .ob 60 (chain [.ar .u16 256 (fun _ => 0)]))]) (fun z_ => match z_ with | (x67, o1_0) => (x67 ≤ 256) ∧ (o1_0 = inverse_l4 f x67) ∧ True) 2 (0, (inverse_l1 f (lst fun j => inverse_l1_c f (inverse_l1 f j))).2.2) [(0, 0), (1, 1)] ⟨omm, rfl, trivial⟩ ?_)
  rintro ⟨x67, o1_0⟩ ac gs ws ⟨hx67, hq4, _⟩ hS
  refine s0 [1, 2, 67, 68] [0, 1] 2 hS fun hS => ?_
  refine wp_seq ?_
  refine if_d ((x67 : Int) < 256) hS (fun h4 => ?_) (fun h4 => ?_)
  ·refine wp_skip (then_n (wp_seq (wp_block (s0 [1, 2, 9, 67] [0, 1] 2 hS fun hS => ?_))))
   refine rA [(6, .call ⟨71, (c_mod (imul .u32 (IntKind.wrap .u32 (o1_0 x67)) 3303)), [], []⟩)] ⟨mod_ok _, trivial⟩ (fun C => [(0 : Int) ≤ (x67 : Int) ∧ ((x67 : Int) : Int) < 256, ndC C 6, (0 : Int) ≤ (x67 : Int) ∧ ((x67 : Int) : Int) < 256]) [1, 2, 67] [0, 1] 2 ⟨by omega, rfl, by omega, trivial⟩ hS fun hS => ?_
   refine block_n (then_n (rA [(0, .oi ((x67 + 1 : Nat) : Int))] trivial (fun _ => [iadd .i64 (x67 : Int) 1 = ((x67 + 1 : Nat) : Int)]) [1, 2, 67] [0, 1] 2 ⟨by rw [iadd64 omm omm]; omega, trivial⟩ hS fun hS => ?_))
   refine then_n ?_
   exact next_y hg0 hS (s := (x67, o1_0)) (x67 + 1, upd o1_0 x67 (mod_m (imul .u32 (IntKind.wrap .u32 (o1_0 x67)) 3303))) [(0, 0), (1, 1)] (show 256 - (x67 + 1) < 256 - x67 from by omega) ⟨omm, (it_next (F := inverse_l4 f) (st := inverse_l4_s f) (fun _ => rfl) hq4 rfl), trivial⟩
  ·have hScur := hS
   obtain rfl : 256 = x67 := by omega
   obtain rfl : inverse_l4 f 256 = o1_0 := Eq.symm (congrArg (fun z => z) hq4)
   have hS := hScur
   clear hScur
   refine wp_exit (then_exit (then_exit (block_exit (then_n (s0 [2] [1] 2 hS fun hS => ?_)))))
   refine wp_ret ?_
   have hM : inverse_m f = inverse_l4 f 256 := inverse_e f
   exact fin_y rfl (.inr rfl) hS [.ar .u16 256 (inverse_l4 f 256)] [] (by show weak _ (.ar .u16 256 (inverse_m f)) = (.ar .u16 256 (inverse_m f)); rw [hM]; first | (simp only []; rfl) | (simp only []; done) | rfl) trivial

def mul_l1_s (f g : Nat → Int) (k1 : Nat) : (Nat × (Nat → Int)) → (Nat × (Nat → Int)) := fun z_ => match z_ with | (x6, o2_0) => (x6 + 2, upd (upd o2_0 x6 (mod_m (iadd .u32 (imul .u32 (IntKind.wrap .u32 (o2_0 x6)) (IntKind.wrap .u32 ((add_m g (fun _ => 0)) x6))) (imul .u32 (irem (imul .u32 (IntKind.wrap .u32 (o2_0 (x6 + 1))) (IntKind.wrap .u32 ((add_m g (fun _ => 0)) (x6 + 1)))) 3329) (irem (imul .u32 (irem (imul .u32 (zetas_m (x6 / 2)) (zetas_m (x6 / 2))) 3329) 17) 3329))))) (x6 + 1) (mod_m (iadd .u32 (imul .u32 (IntKind.wrap .u32 (o2_0 x6)) (IntKind.wrap .u32 ((add_m g (fun _ => 0)) (x6 + 1)))) (imul .u32 (IntKind.wrap .u32 (o2_0 (x6 + 1))) (IntKind.wrap .u32 ((add_m g (fun _ => 0)) x6))))))
def mul_l1 (f g : Nat → Int) : Nat → Nat × (Nat → Int)
 | 0 => (0, add_m f (fun _ => 0))
 | k1 + 1 => mul_l1_s f g k1 (mul_l1 f g k1)
def mul_l1_c (f g : Nat → Int) : (Nat × (Nat → Int)) → Prop := fun z_ => match z_ with | (x6, o2_0) => ((x6 : Nat) : Int) < 256
def mul_v (f g : Nat → Int) : (Nat → Int) := (mul_l1 f g (lst fun j => mul_l1_c f g (mul_l1 f g j))).2
def mul_m (f g : Nat → Int) : (Nat → Int) := shut (mul_v f g)
theorem mul_e (f g : Nat → Int) : mul_m f g = mul_v f g := shut_eq _
def c_mul (f g : Nat → Int) : Con := ⟨[.ar .u16 256 f, .ar .u16 256 g], [], .ar .u16 256 (mul_m f g), []⟩
theorem mul_ok (f g : Nat → Int) : ConOk Try.prog 74 (c_mul f g) := by
 refine conOk_of rfl (nb := 0) Try.func74 rfl rfl Try.ntmps74 rfl rfl rfl fun g0 w0 ac gs ws hg0 hS => ?_
 have hS := hS.sp
 refine s0 [2, 3, 4] [0, 1, 2] 3 hS fun hS => ?_
 refine sA [(0, .ov (.ar .u16 256 f)), (2, .call ⟨42, (c_add f (fun _ => 0)), [], []⟩), (3, .ov (.ar .u16 256 g)), (5, .call ⟨42, (c_add g (fun _ => 0)), [], []⟩)] ⟨add_ok _ _, add_ok _ _, trivial⟩ (fun _ => [(.ar .u16 256 f : D) = (.ar .u16 256 f), nd [.ar .u16 256 f, .ar .u16 256 (fun _ => 0)] [], (.ar .u16 256 g : D) = (.ar .u16 256 g), nd [.ar .u16 256 g, .ar .u16 256 (fun _ => 0)] []]) [2, 3, 4] [0, 1, 2] 3 ⟨rfl, rfl, rfl, rfl, trivial⟩ hS fun hS => ?_
 refine sA [(0, .call ⟨70, (c_zetas), [], []⟩)] ⟨zetas_ok, trivial⟩ (fun C => [ndC C 0]) [2, 3, 4, 5] [0, 1, 2, 3] 4 ⟨rfl, trivial⟩ hS fun hS => ?_
 refine wp_seq (s0 [2, 3, 4, 5, 6] [0, 1, 2, 3] 4 hS fun hS => ?_)
 refine wp_block (loop_y (ι := Nat × Nat × (Nat → Int)) hg0 hS (fun z_ => match z_ with | (k1, x6, o2_0) => 256 - x6) (fun z_ => match z_ with | (k1, x6, o2_0) => [(2, .cp 0 0), (3, .cp 1 0), (4, .cp 2 0), (5, .cp 3 0), (6, vi ((x6 : Nat) : Int))]) (fun z_ => match z_ with | (k1, x6, o2_0) => [(0, .ob 60 (chain [.ar .u16 256 o2_0])), (1, .ob 60 (chain [.ar .u16 256 (add_m g (fun _ => 0))])), (2, .ob 60 (chain [.ar .u16 256 (fun _ => 0)])), (3, .ob 106 (chain [.ar .u32 128 zetas_m]))]) (fun z_ => match z_ with | (k1, x6, o2_0) => ((x6, o2_0) = mul_l1 f g k1) ∧ (∀ j, j < k1 → mul_l1_c f g (mul_l1 f g j)) ∧ (x6 ≤ 256) ∧ (x6 % 2 = 0) ∧ True) 4 (0, 0, add_m f (fun _ => 0)) [(0, 0), (1, 1), (2, 2), (3, 3)] ⟨rfl, (fun j h => absurd h (Nat.not_lt_zero j)), omm, rfl, trivial⟩ ?_)
 rintro ⟨k1, x6, o2_0⟩ ac gs ws ⟨hq1, hj1, p1, p2, _⟩ hS
 refine wp_seq (s0 [2, 3, 4, 5, 6, 20] [0, 1, 2, 3] 4 hS fun hS => ?_)
 refine if_d ((x6 : Int) < 256) hS (fun h1 => ?_) (fun h1 => ?_)
 ·refine wp_skip (then_n (wp_seq (wp_block (sA [(1, .oi ((x6 / 2 : Nat) : Int)), (5, .oi ((x6 / 2 : Nat) : Int))] trivial (fun _ => [iquo .i64 (x6 : Int) 2 = ((x6 / 2 : Nat) : Int), (2 : Int) ≠ 0, (0 : Int) ≤ ((x6 / 2 : Nat) : Int) ∧ (((x6 / 2 : Nat) : Int) : Int) < 128, iquo .i64 (x6 : Int) 2 = ((x6 / 2 : Nat) : Int), (2 : Int) ≠ 0, (0 : Int) ≤ ((x6 / 2 : Nat) : Int) ∧ (((x6 / 2 : Nat) : Int) : Int) < 128, (3329 : Int) ≠ 0, (3329 : Int) ≠ 0]) [2, 3, 4, 5, 6, 7] [0, 1, 2, 3] 4 ⟨by rw [iquo64 omm omm omm]; omega, by omega, by omega, by rw [iquo64 omm omm omm]; omega, by omega, by omega, by omega, by omega, trivial⟩ hS fun hS => ?_))))
  refine sA [(5, .oi ((x6 + 1 : Nat) : Int)), (14, .oi ((x6 + 1 : Nat) : Int))] trivial (fun _ => [(0 : Int) ≤ (x6 : Int) ∧ ((x6 : Int) : Int) < 256, iadd .i64 (x6 : Int) 1 = ((x6 + 1 : Nat) : Int), (0 : Int) ≤ ((x6 + 1 : Nat) : Int) ∧ (((x6 + 1 : Nat) : Int) : Int) < 256, (0 : Int) ≤ (x6 : Int) ∧ ((x6 : Int) : Int) < 256, iadd .i64 (x6 : Int) 1 = ((x6 + 1 : Nat) : Int), (0 : Int) ≤ ((x6 + 1 : Nat) : Int) ∧ (((x6 + 1 : Nat) : Int) : Int) < 256]) [2, 3, 4, 5, 6, 7, 8, 9, 10, 11] [0, 1, 2, 3] 4 ⟨by omega, by rw [iadd64 omm omm]; omega, by omega, by omega, by rw [iadd64 omm omm]; omega, by omega, trivial⟩ hS fun hS => ?_
  refine rA [(2, .oi ((x6 + 1 : Nat) : Int)), (13, .call ⟨71, (c_mod (iadd .u32 (imul .u32 (IntKind.wrap .u32 (o2_0 x6)) (IntKind.wrap .u32 ((add_m g (fun _ => 0)) x6))) (imul .u32 (irem (imul .u32 (IntKind.wrap .u32 (o2_0 (x6 + 1))) (IntKind.wrap .u32 ((add_m g (fun _ => 0)) (x6 + 1)))) 3329) (irem (imul .u32 (irem (imul .u32 (zetas_m (x6 / 2)) (zetas_m (x6 / 2))) 3329) 17) 3329)))), [], []⟩), (21, .call ⟨71, (c_mod (iadd .u32 (imul .u32 (IntKind.wrap .u32 (o2_0 x6)) (IntKind.wrap .u32 ((add_m g (fun _ => 0)) (x6 + 1)))) (imul .u32 (IntKind.wrap .u32 (o2_0 (x6 + 1))) (IntKind.wrap .u32 ((add_m g (fun _ => 0)) x6))))), [], []⟩)] ⟨mod_ok _, mod_ok _, trivial⟩ (fun C => [iadd .i64 (x6 : Int) 1 = ((x6 + 1 : Nat) : Int), (3329 : Int) ≠ 0, ndC C 13, ndC C 21, (0 : Int) ≤ (x6 : Int) ∧ ((x6 : Int) : Int) < 256, (0 : Int) ≤ ((x6 + 1 : Nat) : Int) ∧ (((x6 + 1 : Nat) : Int) : Int) < 256]) [2, 3, 4, 5, 6] [0, 1, 2, 3] 4 ⟨by rw [iadd64 omm omm]; omega, by omega, rfl, rfl, by omega, by omega, trivial⟩ hS fun hS => ?_
  refine block_n (then_n (rA [(1, .oi ((x6 + 2 : Nat) : Int))] trivial (fun _ => [iadd .i64 (x6 : Int) 2 = ((x6 + 2 : Nat) : Int)]) [2, 3, 4, 5, 6] [0, 1, 2, 3] 4 ⟨by rw [iadd64 omm omm]; omega, trivial⟩ hS fun hS => ?_))
  refine then_n ?_
  exact next_y hg0 hS (s := (k1, x6, o2_0)) (k1 + 1, x6 + 2, upd (upd o2_0 x6 (mod_m (iadd .u32 (imul .u32 (IntKind.wrap .u32 (o2_0 x6)) (IntKind.wrap .u32 ((add_m g (fun _ => 0)) x6))) (imul .u32 (irem (imul .u32 (IntKind.wrap .u32 (o2_0 (x6 + 1))) (IntKind.wrap .u32 ((add_m g (fun _ => 0)) (x6 + 1)))) 3329) (irem (imul .u32 (irem (imul .u32 (zetas_m (x6 / 2)) (zetas_m (x6 / 2))) 3329) 17) 3329))))) (x6 + 1) (mod_m (iadd .u32 (imul .u32 (IntKind.wrap .u32 (o2_0 x6)) (IntKind.wrap .u32 ((add_m g (fun _ => 0)) (x6 + 1)))) (imul .u32 (IntKind.wrap .u32 (o2_0 (x6 + 1))) (IntKind.wrap .u32 ((add_m g (fun _ => 0)) x6)))))) [(0, 0), (1, 1), (2, 2), (3, 3)] (show 256 - (x6 + 2) < 256 - x6 from by omega) ⟨(it_next (F := mul_l1 f g) (st := mul_l1_s f g) (fun _ => rfl) hq1 rfl), (lst_next hj1 (by rw [← hq1]; exact h1)), omm, omm, trivial⟩
 ·have hScur := hS
  obtain rfl := lst_eq (P := fun j => mul_l1_c f g (mul_l1 f g j)) (by rw [← hq1]; first | exact h1 | exact not_not_intro h1) hj1
  obtain rfl : (mul_l1 f g (lst fun j => mul_l1_c f g (mul_l1 f g j))).1 = x6 := Eq.symm (congrArg (fun z => z.1) hq1)
  obtain rfl : (mul_l1 f g (lst fun j => mul_l1_c f g (mul_l1 f g j))).2 = o2_0 := Eq.symm (congrArg (fun z => z.2) hq1)
  have hS := hScur
  clear hScur
  refine wp_exit (then_exit (then_exit (block_exit (then_n (s0 [4] [2] 4 hS fun hS => ?_)))))
  refine wp_ret ?_
  have hM : mul_m f g = (mul_l1 f g (lst fun j => mul_l1_c f g (mul_l1 f g j))).2 := mul_e f g
  exact fin_y rfl (.inr rfl) hS [.ar .u16 256 ((mul_l1 f g (lst fun j => mul_l1_c f g (mul_l1 f g j))).2)] [] (by show weak _ (.ar .u16 256 (mul_m f g)) = (.ar .u16 256 (mul_m f g)); rw [hM]; first | (simp only []; rfl) | (simp only []; done) | rfl) trivial

def compress10_l1_s (f : Nat → Int) (x16 : Nat) : (Nat → Int) → (Nat → Int) := fun o2_0 => upd o2_0 x16 (IntKind.wrap .u16 (iand .u32 (iquo .u32 (iadd .u32 (ishl .u32 (IntKind.wrap .u32 (irem (f x16) 3329)) 11) 3329) 6658) 1023))
def compress10_l1 (f : Nat → Int) : Nat → (Nat → Int)
 | 0 => f
 | x16 + 1 => compress10_l1_s f x16 (compress10_l1 f x16)
def compress10_v (f : Nat → Int) : (Nat → Int) := compress10_l1 f 256
def compress10_m (f : Nat → Int) : (Nat → Int) := shut (compress10_v f)
theorem compress10_e (f : Nat → Int) : compress10_m f = compress10_v f := shut_eq _
def c_compress10 (f : Nat → Int) : Con := ⟨[.ar .u16 256 f, vi 10], [], .tu (chain [.ar .u16 256 (compress10_m f), vi 0]), []⟩
theorem compress10_ok (f : Nat → Int) : ConOk Try.prog 78 (c_compress10 f) := by
 refine conOk_of rfl (nb := 0) Try.func78 rfl rfl Try.ntmps78 rfl rfl rfl fun g0 w0 ac gs ws hg0 hS => ?_
 have hS := hS.sp
 refine s0 [1, 2, 4, 5] [0, 1] 2 hS fun hS => ?_
 refine wp_seq (s0 [1, 2, 4, 5, 13] [0, 1] 2 hS fun hS => ?_)
 refine cond_f hS ?_
 refine wp_skip (then_n (wp_seq (s0 [1, 2, 4, 5, 15, 16] [0, 1] 2 hS fun hS => ?_)))
 refine wp_block (loop_y (ι := Nat × (Nat → Int)) hg0 hS (fun z_ => match z_ with | (x16, o2_0) => 256 - x16) (fun z_ => match z_ with | (x16, o2_0) => [(1, vi 10), (2, .cp 0 0), (4, .cp 1 0), (5, vi 0), (15, .ar .u16 256 f), (16, vi ((x16 : Nat) : Int))]) (fun z_ => match z_ with | (x16, o2_0) => [(0, .ob 60 (chain [.ar .u16 256 o2_0])), (1, .ob 60 (chain [.ar .u16 256 (fun _ => 0)]))]) (fun z_ => match z_ with | (x16, o2_0) => (x16 ≤ 256) ∧ (o2_0 = compress10_l1 f x16) ∧ True) 2 (0, f) [(0, 0), (1, 1)] ⟨omm, rfl, trivial⟩ ?_)
 rintro ⟨x16, o2_0⟩ ac gs ws ⟨hx16, hq1, _⟩ hS
 refine s0 [1, 2, 4, 5, 15, 16, 17] [0, 1] 2 hS fun hS => ?_
 refine wp_seq ?_
 refine if_d ((x16 : Int) < 256) hS (fun h1 => ?_) (fun h1 => ?_)
 ·refine wp_skip (then_n (wp_seq (wp_block (sA [] trivial (fun _ => [(0 : Int) ≤ (x16 : Int) ∧ ((x16 : Int) : Int) < 256]) [1, 2, 4, 5, 6, 7, 15, 16] [0, 1] 2 ⟨by omega, trivial⟩ hS fun hS => ?_))))
  refine rA [] trivial (fun _ => [(3329 : Int) ≠ 0, (0 : Int) ≤ 11, (6658 : Int) ≠ 0, (0 : Int) ≤ 10, (0 : Int) ≤ (x16 : Int) ∧ ((x16 : Int) : Int) < 256]) [1, 2, 4, 5, 15, 16] [0, 1] 2 ⟨by omega, by omega, by omega, by omega, by omega, trivial⟩ hS fun hS => ?_
  refine block_n (then_n (rA [(0, .oi ((x16 + 1 : Nat) : Int))] trivial (fun _ => [iadd .i64 (x16 : Int) 1 = ((x16 + 1 : Nat) : Int)]) [1, 2, 4, 5, 15, 16] [0, 1] 2 ⟨by rw [iadd64 omm omm]; omega, trivial⟩ hS fun hS => ?_))
  refine then_n ?_
  exact next_y hg0 hS (s := (x16, o2_0)) (x16 + 1, upd o2_0 x16 (IntKind.wrap .u16 (iand .u32 (iquo .u32 (iadd .u32 (ishl .u32 (IntKind.wrap .u32 (irem (f x16) 3329)) 11) 3329) 6658) 1023))) [(0, 0), (1, 1)] (show 256 - (x16 + 1) < 256 - x16 from by omega) ⟨omm, (it_next (F := compress10_l1 f) (st := compress10_l1_s f) (fun _ => rfl) hq1 rfl), trivial⟩
 ·have hScur := hS
  obtain rfl : 256 = x16 := by omega
  obtain rfl : compress10_l1 f 256 = o2_0 := Eq.symm (congrArg (fun z => z) hq1)
  have hS := hScur
  clear hScur
  refine wp_exit (then_exit (then_exit (block_exit (then_n (s0 [4, 5] [1] 2 hS fun hS => ?_)))))
  refine wp_ret ?_
  have hM : compress10_m f = compress10_l1 f 256 := compress10_e f
  exact fin_y rfl (.inr rfl) hS [.ar .u16 256 (compress10_l1 f 256), vi 0] [] (by show weak _ (.tu (chain [.ar .u16 256 (compress10_m f), vi 0])) = (.tu (chain [.ar .u16 256 (compress10_m f), vi 0])); rw [hM]; first | (simp only []; rfl) | (simp only []; done) | rfl) trivial

def expand10_l1_s (f : Nat → Int) (x16 : Nat) : (Nat → Int) → (Nat → Int) := fun o2_0 => upd o2_0 x16 (IntKind.wrap .u16 (ishr .u32 (iadd .u32 (imul .u32 (iand .u32 (IntKind.wrap .u32 (f x16)) 1023) 3329) 512) 10))
def expand10_l1 (f : Nat → Int) : Nat → (Nat → Int)
 | 0 => f
 | x16 + 1 => expand10_l1_s f x16 (expand10_l1 f x16)
def expand10_v (f : Nat → Int) : (Nat → Int) := expand10_l1 f 256
def expand10_m (f : Nat → Int) : (Nat → Int) := shut (expand10_v f)
theorem expand10_e (f : Nat → Int) : expand10_m f = expand10_v f := shut_eq _
def c_expand10 (f : Nat → Int) : Con := ⟨[.ar .u16 256 f, vi 10], [], .tu (chain [.ar .u16 256 (expand10_m f), vi 0]), []⟩
theorem expand10_ok (f : Nat → Int) : ConOk Try.prog 79 (c_expand10 f) := by
 refine conOk_of rfl (nb := 0) Try.func79 rfl rfl Try.ntmps79 rfl rfl rfl fun g0 w0 ac gs ws hg0 hS => ?_
 have hS := hS.sp
 refine s0 [1, 2, 4, 5] [0, 1] 2 hS fun hS => ?_
 refine wp_seq (s0 [1, 2, 4, 5, 13] [0, 1] 2 hS fun hS => ?_)
 refine cond_f hS ?_
 refine wp_skip (then_n (wp_seq (s0 [1, 2, 4, 5, 15, 16] [0, 1] 2 hS fun hS => ?_)))
 refine wp_block (loop_y (ι := Nat × (Nat → Int)) hg0 hS (fun z_ => match z_ with | (x16, o2_0) => 256 - x16) (fun z_ => match z_ with | (x16, o2_0) => [(1, vi 10), (2, .cp 0 0), (4, .cp 1 0), (5, vi 0), (15, .ar .u16 256 f), (16, vi ((x16 : Nat) : Int))]) (fun z_ => match z_ with | (x16, o2_0) => [(0, .ob 60 (chain [.ar .u16 256 o2_0])), (1, .ob 60 (chain [.ar .u16 256 (fun _ => 0)]))]) (fun z_ => match z_ with | (x16, o2_0) => (x16 ≤ 256) ∧ (o2_0 = expand10_l1 f x16) ∧ True) 2 (0, f) [(0, 0), (1, 1)] ⟨omm, rfl, trivial⟩ ?_)
 rintro ⟨x16, o2_0⟩ ac gs ws ⟨hx16, hq1, _⟩ hS
 refine s0 [1, 2, 4, 5, 15, 16, 17] [0, 1] 2 hS fun hS => ?_
 refine wp_seq ?_
 refine if_d ((x16 : Int) < 256) hS (fun h1 => ?_) (fun h1 => ?_)
 ·refine wp_skip (then_n (wp_seq (wp_block (sA [] trivial (fun _ => [(0 : Int) ≤ (x16 : Int) ∧ ((x16 : Int) : Int) < 256]) [1, 2, 4, 5, 6, 7, 15, 16] [0, 1] 2 ⟨by omega, trivial⟩ hS fun hS => ?_))))
  refine rA [] trivial (fun _ => [(0 : Int) ≤ 10, (0 : Int) ≤ 9, (0 : Int) ≤ 10, (0 : Int) ≤ (x16 : Int) ∧ ((x16 : Int) : Int) < 256]) [1, 2, 4, 5, 15, 16] [0, 1] 2 ⟨by omega, by omega, by omega, by omega, trivial⟩ hS fun hS => ?_
  refine block_n (then_n (rA [(0, .oi ((x16 + 1 : Nat) : Int))] trivial (fun _ => [iadd .i64 (x16 : Int) 1 = ((x16 + 1 : Nat) : Int)]) [1, 2, 4, 5, 15, 16] [0, 1] 2 ⟨by rw [iadd64 omm omm]; omega, trivial⟩ hS fun hS => ?_))
  refine then_n ?_
  exact next_y hg0 hS (s := (x16, o2_0)) (x16 + 1, upd o2_0 x16 (IntKind.wrap .u16 (ishr .u32 (iadd .u32 (imul .u32 (iand .u32 (IntKind.wrap .u32 (f x16)) 1023) 3329) 512) 10))) [(0, 0), (1, 1)] (show 256 - (x16 + 1) < 256 - x16 from by omega) ⟨omm, (it_next (F := expand10_l1 f) (st := expand10_l1_s f) (fun _ => rfl) hq1 rfl), trivial⟩
 ·have hScur := hS
  obtain rfl : 256 = x16 := by omega
  obtain rfl : expand10_l1 f 256 = o2_0 := Eq.symm (congrArg (fun z => z) hq1)
  have hS := hScur
  clear hScur
  refine wp_exit (then_exit (then_exit (block_exit (then_n (s0 [4, 5] [1] 2 hS fun hS => ?_)))))
  refine wp_ret ?_
  have hM : expand10_m f = expand10_l1 f 256 := expand10_e f
  exact fin_y rfl (.inr rfl) hS [.ar .u16 256 (expand10_l1 f 256), vi 0] [] (by show weak _ (.tu (chain [.ar .u16 256 (expand10_m f), vi 0])) = (.tu (chain [.ar .u16 256 (expand10_m f), vi 0])); rw [hM]; first | (simp only []; rfl) | (simp only []; done) | rfl) trivial

def compress4_l1_s (f : Nat → Int) (x16 : Nat) : (Nat → Int) → (Nat → Int) := fun o2_0 => upd o2_0 x16 (IntKind.wrap .u16 (iand .u32 (iquo .u32 (iadd .u32 (ishl .u32 (IntKind.wrap .u32 (irem (f x16) 3329)) 5) 3329) 6658) 15))
def compress4_l1 (f : Nat → Int) : Nat → (Nat → Int)
 | 0 => f
 | x16 + 1 => compress4_l1_s f x16 (compress4_l1 f x16)
def compress4_v (f : Nat → Int) : (Nat → Int) := compress4_l1 f 256
def compress4_m (f : Nat → Int) : (Nat → Int) := shut (compress4_v f)
theorem compress4_e (f : Nat → Int) : compress4_m f = compress4_v f := shut_eq _
def c_compress4 (f : Nat → Int) : Con := ⟨[.ar .u16 256 f, vi 4], [], .tu (chain [.ar .u16 256 (compress4_m f), vi 0]), []⟩
theorem compress4_ok (f : Nat → Int) : ConOk Try.prog 78 (c_compress4 f) := by
 refine conOk_of rfl (nb := 0) Try.func78 rfl rfl Try.ntmps78 rfl rfl rfl fun g0 w0 ac gs ws hg0 hS => ?_
 have hS := hS.sp
 refine s0 [1, 2, 4, 5] [0, 1] 2 hS fun hS => ?_
 refine wp_seq (s0 [1, 2, 4, 5, 13] [0, 1] 2 hS fun hS => ?_)
 refine cond_f hS ?_
 refine wp_skip (then_n (wp_seq (s0 [1, 2, 4, 5, 15, 16] [0, 1] 2 hS fun hS => ?_)))
 refine wp_block (loop_y (ι := Nat × (Nat → Int)) hg0 hS (fun z_ => match z_ with | (x16, o2_0) => 256 - x16) (fun z_ => match z_ with | (x16, o2_0) => [(1, vi 4), (2, .cp 0 0), (4, .cp 1 0), (5, vi 0), (15, .ar .u16 256 f), (16, vi ((x16 : Nat) : Int))]) (fun z_ => match z_ with | (x16, o2_0) => [(0, .ob 60 (chain [.ar .u16 256 o2_0])), (1, .ob 60 (chain [.ar .u16 256 (fun _ => 0)]))]) (fun z_ => match z_ with | (x16, o2_0) => (x16 ≤ 256) ∧ (o2_0 = compress4_l1 f x16) ∧ True) 2 (0, f) [(0, 0), (1, 1)] ⟨omm, rfl, trivial⟩ ?_)
 rintro ⟨x16, o2_0⟩ ac gs ws ⟨hx16, hq1, _⟩ hS
 refine s0 [1, 2, 4, 5, 15, 16, 17] [0, 1] 2 hS fun hS => ?_
 refine wp_seq ?_
 refine if_d ((x16 : Int) < 256) hS (fun h1 => ?_) (fun h1 => ?_)
 ·refine wp_skip (then_n (wp_seq (wp_block (sA [] trivial (fun _ => [(0 : Int) ≤ (x16 : Int) ∧ ((x16 : Int) : Int) < 256]) [1, 2, 4, 5, 6, 7, 15, 16] [0, 1] 2 ⟨by omega, trivial⟩ hS fun hS => ?_))))
  refine rA [] trivial (fun _ => [(3329 : Int) ≠ 0, (0 : Int) ≤ 5, (6658 : Int) ≠ 0, (0 : Int) ≤ 4, (0 : Int) ≤ (x16 : Int) ∧ ((x16 : Int) : Int) < 256]) [1, 2, 4, 5, 15, 16] [0, 1] 2 ⟨by omega, by omega, by omega, by omega, by omega, trivial⟩ hS fun hS => ?_
  refine block_n (then_n (rA [(0, .oi ((x16 + 1 : Nat) : Int))] trivial (fun _ => [iadd .i64 (x16 : Int) 1 = ((x16 + 1 : Nat) : Int)]) [1, 2, 4, 5, 15, 16] [0, 1] 2 ⟨by rw [iadd64 omm omm]; omega, trivial⟩ hS fun hS => ?_))
  refine then_n ?_
  exact next_y hg0 hS (s := (x16, o2_0)) (x16 + 1, upd o2_0 x16 (IntKind.wrap .u16 (iand .u32 (iquo .u32 (iadd .u32 (ishl .u32 (IntKind.wrap .u32 (irem (f x16) 3329)) 5) 3329) 6658) 15))) [(0, 0), (1, 1)] (show 256 - (x16 + 1) < 256 - x16 from by omega) ⟨omm, (it_next (F := compress4_l1 f) (st := compress4_l1_s f) (fun _ => rfl) hq1 rfl), trivial⟩
 ·have hScur := hS
  obtain rfl : 256 = x16 := by omega
  obtain rfl : compress4_l1 f 256 = o2_0 := Eq.symm (congrArg (fun z => z) hq1)
  have hS := hScur
  clear hScur
  refine wp_exit (then_exit (then_exit (block_exit (then_n (s0 [4, 5] [1] 2 hS fun hS => ?_)))))
  refine wp_ret ?_
  have hM : compress4_m f = compress4_l1 f 256 := compress4_e f
  exact fin_y rfl (.inr rfl) hS [.ar .u16 256 (compress4_l1 f 256), vi 0] [] (by show weak _ (.tu (chain [.ar .u16 256 (compress4_m f), vi 0])) = (.tu (chain [.ar .u16 256 (compress4_m f), vi 0])); rw [hM]; first | (simp only []; rfl) | (simp only []; done) | rfl) trivial

def expand4_l1_s (f : Nat → Int) (x16 : Nat) : (Nat → Int) → (Nat → Int) := fun o2_0 => upd o2_0 x16 (IntKind.wrap .u16 (ishr .u32 (iadd .u32 (imul .u32 (iand .u32 (IntKind.wrap .u32 (f x16)) 15) 3329) 8) 4))
def expand4_l1 (f : Nat → Int) : Nat → (Nat → Int)
 | 0 => f
 | x16 + 1 => expand4_l1_s f x16 (expand4_l1 f x16)
def expand4_v (f : Nat → Int) : (Nat → Int) := expand4_l1 f 256
def expand4_m (f : Nat → Int) : (Nat → Int) := shut (expand4_v f)
theorem expand4_e (f : Nat → Int) : expand4_m f = expand4_v f := shut_eq _
def c_expand4 (f : Nat → Int) : Con := ⟨[.ar .u16 256 f, vi 4], [], .tu (chain [.ar .u16 256 (expand4_m f), vi 0]), []⟩
theorem expand4_ok (f : Nat → Int) : ConOk Try.prog 79 (c_expand4 f) := by
 refine conOk_of rfl (nb := 0) Try.func79 rfl rfl Try.ntmps79 rfl rfl rfl fun g0 w0 ac gs ws hg0 hS => ?_
 have hS := hS.sp
 refine s0 [1, 2, 4, 5] [0, 1] 2 hS fun hS => ?_
 refine wp_seq (s0 [1, 2, 4, 5, 13] [0, 1] 2 hS fun hS => ?_)
 refine cond_f hS ?_
 refine wp_skip (then_n (wp_seq (s0 [1, 2, 4, 5, 15, 16] [0, 1] 2 hS fun hS => ?_)))
 refine wp_block (loop_y (ι := Nat × (Nat → Int)) hg0 hS (fun z_ => match z_ with | (x16, o2_0) => 256 - x16) (fun z_ => match z_ with | (x16, o2_0) => [(1, vi 4), (2, .cp 0 0), (4, .cp 1 0), (5, vi 0), (15, .ar .u16 256 f), (16, vi ((x16 : Nat) : Int))]) (fun z_ => match z_ with | (x16, o2_0) => [(0, .ob 60 (chain [.ar .u16 256 o2_0])), (1, .ob 60 (chain [.ar .u16 256 (fun _ => 0)]))]) (fun z_ => match z_ with | (x16, o2_0) => (x16 ≤ 256) ∧ (o2_0 = expand4_l1 f x16) ∧ True) 2 (0, f) [(0, 0), (1, 1)] ⟨omm, rfl, trivial⟩ ?_)
 rintro ⟨x16, o2_0⟩ ac gs ws ⟨hx16, hq1, _⟩ hS
 refine s0 [1, 2, 4, 5, 15, 16, 17] [0, 1] 2 hS fun hS => ?_
 refine wp_seq ?_
 refine if_d ((x16 : Int) < 256) hS (fun h1 => ?_) (fun h1 => ?_)
 ·refine wp_skip (then_n (wp_seq (wp_block (sA [] trivial (fun _ => [(0 : Int) ≤ (x16 : Int) ∧ ((x16 : Int) : Int) < 256]) [1, 2, 4, 5, 6, 7, 15, 16] [0, 1] 2 ⟨by omega, trivial⟩ hS fun hS => ?_))))
  refine rA [] trivial (fun _ => [(0 : Int) ≤ 4, (0 : Int) ≤ 3, (0 : Int) ≤ 4, (0 : Int) ≤ (x16 : Int) ∧ ((x16 : Int) : Int) < 256]) [1, 2, 4, 5, 15, 16] [0, 1] 2 ⟨by omega, by omega, by omega, by omega, trivial⟩ hS fun hS => ?_
  refine block_n (then_n (rA [(0, .oi ((x16 + 1 : Nat) : Int))] trivial (fun _ => [iadd .i64 (x16 : Int) 1 = ((x16 + 1 : Nat) : Int)]) [1, 2, 4, 5, 15, 16] [0, 1] 2 ⟨by rw [iadd64 omm omm]; omega, trivial⟩ hS fun hS => ?_))
  refine then_n ?_
  exact next_y hg0 hS (s := (x16, o2_0)) (x16 + 1, upd o2_0 x16 (IntKind.wrap .u16 (ishr .u32 (iadd .u32 (imul .u32 (iand .u32 (IntKind.wrap .u32 (f x16)) 15) 3329) 8) 4))) [(0, 0), (1, 1)] (show 256 - (x16 + 1) < 256 - x16 from by omega) ⟨omm, (it_next (F := expand4_l1 f) (st := expand4_l1_s f) (fun _ => rfl) hq1 rfl), trivial⟩
 ·have hScur := hS
  obtain rfl : 256 = x16 := by omega
  obtain rfl : expand4_l1 f 256 = o2_0 := Eq.symm (congrArg (fun z => z) hq1)
  have hS := hScur
  clear hScur
  refine wp_exit (then_exit (then_exit (block_exit (then_n (s0 [4, 5] [1] 2 hS fun hS => ?_)))))
  refine wp_ret ?_
  have hM : expand4_m f = expand4_l1 f 256 := expand4_e f
  exact fin_y rfl (.inr rfl) hS [.ar .u16 256 (expand4_l1 f 256), vi 0] [] (by show weak _ (.tu (chain [.ar .u16 256 (expand4_m f), vi 0])) = (.tu (chain [.ar .u16 256 (expand4_m f), vi 0])); rw [hM]; first | (simp only []; rfl) | (simp only []; done) | rfl) trivial

def compress1_l1_s (f : Nat → Int) (x16 : Nat) : (Nat → Int) → (Nat → Int) := fun o2_0 => upd o2_0 x16 (IntKind.wrap .u16 (iand .u32 (iquo .u32 (iadd .u32 (ishl .u32 (IntKind.wrap .u32 (irem (f x16) 3329)) 2) 3329) 6658) 1))
def compress1_l1 (f : Nat → Int) : Nat → (Nat → Int)
 | 0 => f
 | x16 + 1 => compress1_l1_s f x16 (compress1_l1 f x16)
def compress1_v (f : Nat → Int) : (Nat → Int) := compress1_l1 f 256
def compress1_m (f : Nat → Int) : (Nat → Int) := shut (compress1_v f)
theorem compress1_e (f : Nat → Int) : compress1_m f = compress1_v f := shut_eq _
def c_compress1 (f : Nat → Int) : Con := ⟨[.ar .u16 256 f, vi 1], [], .tu (chain [.ar .u16 256 (compress1_m f), vi 0]), []⟩
theorem compress1_ok (f : Nat → Int) : ConOk Try.prog 78 (c_compress1 f) := by
 refine conOk_of rfl (nb := 0) Try.func78 rfl rfl Try.ntmps78 rfl rfl rfl fun g0 w0 ac gs ws hg0 hS => ?_
 have hS := hS.sp
 refine s0 [1, 2, 4, 5] [0, 1] 2 hS fun hS => ?_
 refine wp_seq (s0 [1, 2, 4, 5, 13] [0, 1] 2 hS fun hS => ?_)
 refine cond_f hS ?_
 refine wp_skip (then_n (wp_seq (s0 [1, 2, 4, 5, 15, 16] [0, 1] 2 hS fun hS => ?_)))
 refine wp_block (loop_y (ι := Nat × (Nat → Int)) hg0 hS (fun z_ => match z_ with | (x16, o2_0) => 256 - x16) (fun z_ => match z_ with | (x16, o2_0) => [(1, vi 1), (2, .cp 0 0), (4, .cp 1 0), (5, vi 0), (15, .ar .u16 256 f), (16, vi ((x16 : Nat) : Int))]) (fun z_ => match z_ with | (x16, o2_0) => [(0, .ob 60 (chain [.ar .u16 256 o2_0])), (1, .ob 60 (chain [.ar .u16 256 (fun _ => 0)]))]) (fun z_ => match z_ with | (x16, o2_0) => (x16 ≤ 256) ∧ (o2_0 = compress1_l1 f x16) ∧ True) 2 (0, f) [(0, 0), (1, 1)] ⟨omm, rfl, trivial⟩ ?_)
 rintro ⟨x16, o2_0⟩ ac gs ws ⟨hx16, hq1, _⟩ hS
 refine s0 [1, 2, 4, 5, 15, 16, 17] [0, 1] 2 hS fun hS => ?_
 refine wp_seq ?_
 refine if_d ((x16 : Int) < 256) hS (fun h1 => ?_) (fun h1 => ?_)
 ·refine wp_skip (then_n (wp_seq (wp_block (sA [] trivial (fun _ => [(0 : Int) ≤ (x16 : Int) ∧ ((x16 : Int) : Int) < 256]) [1, 2, 4, 5, 6, 7, 15, 16] [0, 1] 2 ⟨by omega, trivial⟩ hS fun hS => ?_))))
  refine rA [] trivial (fun _ => [(3329 : Int) ≠ 0, (0 : Int) ≤ 2, (6658 : Int) ≠ 0, (0 : Int) ≤ 1, (0 : Int) ≤ (x16 : Int) ∧ ((x16 : Int) : Int) < 256]) [1, 2, 4, 5, 15, 16] [0, 1] 2 ⟨by omega, by omega, by omega, by omega, by omega, trivial⟩ hS fun hS => ?_
  refine block_n (then_n (rA [(0, .oi ((x16 + 1 : Nat) : Int))] trivial (fun _ => [iadd .i64 (x16 : Int) 1 = ((x16 + 1 : Nat) : Int)]) [1, 2, 4, 5, 15, 16] [0, 1] 2 ⟨by rw [iadd64 omm omm]; omega, trivial⟩ hS fun hS => ?_))
  refine then_n ?_
  exact next_y hg0 hS (s := (x16, o2_0)) (x16 + 1, upd o2_0 x16 (IntKind.wrap .u16 (iand .u32 (iquo .u32 (iadd .u32 (ishl .u32 (IntKind.wrap .u32 (irem (f x16) 3329)) 2) 3329) 6658) 1))) [(0, 0), (1, 1)] (show 256 - (x16 + 1) < 256 - x16 from by omega) ⟨omm, (it_next (F := compress1_l1 f) (st := compress1_l1_s f) (fun _ => rfl) hq1 rfl), trivial⟩
 ·have hScur := hS
  obtain rfl : 256 = x16 := by omega
  obtain rfl : compress1_l1 f 256 = o2_0 := Eq.symm (congrArg (fun z => z) hq1)
  have hS := hScur
  clear hScur
  refine wp_exit (then_exit (then_exit (block_exit (then_n (s0 [4, 5] [1] 2 hS fun hS => ?_)))))
  refine wp_ret ?_
  have hM : compress1_m f = compress1_l1 f 256 := compress1_e f
  exact fin_y rfl (.inr rfl) hS [.ar .u16 256 (compress1_l1 f 256), vi 0] [] (by show weak _ (.tu (chain [.ar .u16 256 (compress1_m f), vi 0])) = (.tu (chain [.ar .u16 256 (compress1_m f), vi 0])); rw [hM]; first | (simp only []; rfl) | (simp only []; done) | rfl) trivial

def expand1_l1_s (f : Nat → Int) (x16 : Nat) : (Nat → Int) → (Nat → Int) := fun o2_0 => upd o2_0 x16 (IntKind.wrap .u16 (ishr .u32 (iadd .u32 (imul .u32 (iand .u32 (IntKind.wrap .u32 (f x16)) 1) 3329) 1) 1))
def expand1_l1 (f : Nat → Int) : Nat → (Nat → Int)
 | 0 => f
 | x16 + 1 => expand1_l1_s f x16 (expand1_l1 f x16)
def expand1_v (f : Nat → Int) : (Nat → Int) := expand1_l1 f 256
def expand1_m (f : Nat → Int) : (Nat → Int) := shut (expand1_v f)
theorem expand1_e (f : Nat → Int) : expand1_m f = expand1_v f := shut_eq _
def c_expand1 (f : Nat → Int) : Con := ⟨[.ar .u16 256 f, vi 1], [], .tu (chain [.ar .u16 256 (expand1_m f), vi 0]), []⟩
theorem expand1_ok (f : Nat → Int) : ConOk Try.prog 79 (c_expand1 f) := by
 refine conOk_of rfl (nb := 0) Try.func79 rfl rfl Try.ntmps79 rfl rfl rfl fun g0 w0 ac gs ws hg0 hS => ?_
 have hS := hS.sp
 refine s0 [1, 2, 4, 5] [0, 1] 2 hS fun hS => ?_
 refine wp_seq (s0 [1, 2, 4, 5, 13] [0, 1] 2 hS fun hS => ?_)
 refine cond_f hS ?_
 refine wp_skip (then_n (wp_seq (s0 [1, 2, 4, 5, 15, 16] [0, 1] 2 hS fun hS => ?_)))
 refine wp_block (loop_y (ι := Nat × (Nat → Int)) hg0 hS (fun z_ => match z_ with | (x16, o2_0) => 256 - x16) (fun z_ => match z_ with | (x16, o2_0) => [(1, vi 1), (2, .cp 0 0), (4, .cp 1 0), (5, vi 0), (15, .ar .u16 256 f), (16, vi ((x16 : Nat) : Int))]) (fun z_ => match z_ with | (x16, o2_0) => [(0, .ob 60 (chain [.ar .u16 256 o2_0])), (1, .ob 60 (chain [.ar .u16 256 (fun _ => 0)]))]) (fun z_ => match z_ with | (x16, o2_0) => (x16 ≤ 256) ∧ (o2_0 = expand1_l1 f x16) ∧ True) 2 (0, f) [(0, 0), (1, 1)] ⟨omm, rfl, trivial⟩ ?_)
 rintro ⟨x16, o2_0⟩ ac gs ws ⟨hx16, hq1, _⟩ hS
 refine s0 [1, 2, 4, 5, 15, 16, 17] [0, 1] 2 hS fun hS => ?_
 refine wp_seq ?_
 refine if_d ((x16 : Int) < 256) hS (fun h1 => ?_) (fun h1 => ?_)
 ·refine wp_skip (then_n (wp_seq (wp_block (sA [] trivial (fun _ => [(0 : Int) ≤ (x16 : Int) ∧ ((x16 : Int) : Int) < 256]) [1, 2, 4, 5, 6, 7, 15, 16] [0, 1] 2 ⟨by omega, trivial⟩ hS fun hS => ?_))))
  refine rA [] trivial (fun _ => [(0 : Int) ≤ 1, (0 : Int) ≤ 0, (0 : Int) ≤ 1, (0 : Int) ≤ (x16 : Int) ∧ ((x16 : Int) : Int) < 256]) [1, 2, 4, 5, 15, 16] [0, 1] 2 ⟨by omega, by omega, by omega, by omega, trivial⟩ hS fun hS => ?_
  refine block_n (then_n (rA [(0, .oi ((x16 + 1 : Nat) : Int))] trivial (fun _ => [iadd .i64 (x16 : Int) 1 = ((x16 + 1 : Nat) : Int)]) [1, 2, 4, 5, 15, 16] [0, 1] 2 ⟨by rw [iadd64 omm omm]; omega, trivial⟩ hS fun hS => ?_))
  refine then_n ?_
  exact next_y hg0 hS (s := (x16, o2_0)) (x16 + 1, upd o2_0 x16 (IntKind.wrap .u16 (ishr .u32 (iadd .u32 (imul .u32 (iand .u32 (IntKind.wrap .u32 (f x16)) 1) 3329) 1) 1))) [(0, 0), (1, 1)] (show 256 - (x16 + 1) < 256 - x16 from by omega) ⟨omm, (it_next (F := expand1_l1 f) (st := expand1_l1_s f) (fun _ => rfl) hq1 rfl), trivial⟩
 ·have hScur := hS
  obtain rfl : 256 = x16 := by omega
  obtain rfl : expand1_l1 f 256 = o2_0 := Eq.symm (congrArg (fun z => z) hq1)
  have hS := hScur
  clear hScur
  refine wp_exit (then_exit (then_exit (block_exit (then_n (s0 [4, 5] [1] 2 hS fun hS => ?_)))))
  refine wp_ret ?_
  have hM : expand1_m f = expand1_l1 f 256 := expand1_e f
  exact fin_y rfl (.inr rfl) hS [.ar .u16 256 (expand1_l1 f 256), vi 0] [] (by show weak _ (.tu (chain [.ar .u16 256 (expand1_m f), vi 0])) = (.tu (chain [.ar .u16 256 (expand1_m f), vi 0])); rw [hM]; first | (simp only []; rfl) | (simp only []; done) | rfl) trivial

def encode12_l2_s (f : Nat → Int) (x21 : Nat) (x6 : List Int) (x30 : Nat) : (List Int) → (List Int) := fun x6_2 => x6_2.set (((x21 * 12) + x30) / 8) (ior .u8 (x6_2.getD (((x21 * 12) + x30) / 8) 0) (ishl .u8 (IntKind.wrap .u8 (iand .u16 (ishr .u16 (irem (f x21) 3329) (x30 : Int)) 1)) ((((x21 * 12) + x30) % 8 : Nat) : Int)))
def encode12_l2 (f : Nat → Int) (x21 : Nat) (x6 : List Int) : Nat → (List Int)
 | 0 => x6
 | x30 + 1 => encode12_l2_s f x21 x6 x30 (encode12_l2 f x21 x6 x30)
def encode12_l1_s (f : Nat → Int) (x21 : Nat) : (List Int) → (List Int) := fun x6 => encode12_l2 f x21 x6 12
def encode12_l1 (f : Nat → Int) : Nat → (List Int)
 | 0 => List.replicate 384 (0 : Int)
 | x21 + 1 => encode12_l1_s f x21 (encode12_l1 f x21)
def encode12_v (f : Nat → Int) : (List Int) := encode12_l1 f 256
def encode12_m (f : Nat → Int) : (List Int) := shut (encode12_v f)
theorem encode12_e (f : Nat → Int) : encode12_m f = encode12_v f := shut_eq _
def c_encode12 (f : Nat → Int) : Con := ⟨[.ar .u16 256 f, vi 12], [], .tu (chain [.sk 0, vi 0]), [(0, .sl 5 [.int .u8] (encode12_m f))]⟩
theorem encode12_ok (f : Nat → Int) : ConOk Try.prog 76 (c_encode12 f) := by
 refine conOk_of rfl (nb := 0) Try.func76 rfl rfl Try.ntmps76 rfl rfl rfl fun g0 w0 ac gs ws hg0 hS => ?_
 have hS := hS.sp
 refine s0 [1, 2, 4, 5] [0] 1 hS fun hS => ?_
 refine wp_seq (s0 [1, 2, 4, 5, 16] [0] 1 hS fun hS => ?_)
 refine cond_f hS ?_
 refine wp_skip (then_n (sA [] trivial (fun _ => [(384 : Int) = 384, (0 : Int) ≤ 384, 1 * 384 ≤ 281474976710656, (384 : Int) ≤ 9223372036854775807]) [1, 2, 4, 5, 6] [0, 1] 2 ⟨rfl, by omega, by omega, by omega, trivial⟩ hS fun hS => ?_))
 refine wp_seq (s0 [1, 4, 5, 6, 20, 21] [1] 2 hS fun hS => ?_)
 refine wp_block (loop_y (ι := Nat × (List Int)) hg0 hS (fun z_ => match z_ with | (x21, x6) => 256 - x21) (fun z_ => match z_ with | (x21, x6) => [(1, vi 12), (4, .v (.slice none 0 0)), (5, vi 0), (6, .sk 1), (20, .ar .u16 256 f), (21, vi ((x21 : Nat) : Int))]) (fun z_ => match z_ with | (x21, x6) => [(1, .sl 5 [.int .u8] x6)]) (fun z_ => match z_ with | (x21, x6) => (x21 ≤ 256) ∧ (x6 = encode12_l1 f x21) ∧ (x6.length = 384) ∧ True) 2 (0, List.replicate 384 (0 : Int)) [(1, 1)] ⟨omm, rfl, (by simp), trivial⟩ ?_)
 rintro ⟨x21, x6⟩ ac gs ws ⟨hx21, hq1, p1, _⟩ hS
 refine s0 [1, 4, 5, 6, 20, 21, 22] [1] 2 hS fun hS => ?_
 refine wp_seq ?_
 refine if_d ((x21 : Int) < 256) hS (fun h1 => ?_) (fun h1 => ?_)
 ·refine wp_skip (then_n (wp_seq (wp_block (sA [] trivial (fun _ => [(0 : Int) ≤ (x21 : Int) ∧ ((x21 : Int) : Int) < 256]) [1, 4, 5, 6, 7, 8, 20, 21] [1] 2 ⟨by omega, trivial⟩ hS fun hS => ?_))))
  refine wp_seq (s0 [1, 4, 5, 6, 7, 8, 20, 21, 26] [1] 2 hS fun hS => ?_)
  refine cond_t hS ?_
  refine rA [] trivial (fun _ => [(3329 : Int) ≠ 0]) [1, 4, 5, 6, 7, 8, 20, 21] [1] 2 ⟨by omega, trivial⟩ hS fun hS => ?_
  refine then_n (s0 [1, 4, 5, 6, 7, 8, 20, 21, 29, 30] [1] 2 hS fun hS => ?_)
  refine wp_block (loop_y (ι := Nat × (List Int)) hg0 hS (fun z_ => match z_ with | (x30, x6_2) => 12 - x30) (fun z_ => match z_ with | (x30, x6_2) => [(1, vi 12), (4, .v (.slice none 0 0)), (5, vi 0), (6, .sk 1), (7, vi (x21 : Int)), (8, .v (.int .u16 (irem (f x21) 3329))), (20, .ar .u16 256 f), (21, vi (x21 : Int)), (29, vi 12), (30, vi ((x30 : Nat) : Int))]) (fun z_ => match z_ with | (x30, x6_2) => [(1, .sl 5 [.int .u8] x6_2)]) (fun z_ => match z_ with | (x30, x6_2) => (x30 ≤ 12) ∧ (x6_2 = encode12_l2 f x21 x6 x30) ∧ (x6_2.length = 384) ∧ True) 2 (0, x6) [(1, 1)] ⟨omm, rfl, p1, trivial⟩ ?_)
  rintro ⟨x30, x6_2⟩ ac gs ws ⟨hx30, hq2, p2, _⟩ hS
  refine s0 [1, 4, 5, 6, 7, 8, 20, 21, 29, 30, 31] [1] 2 hS fun hS => ?_
  refine wp_seq ?_
  refine if_d ((x30 : Int) < 12) hS (fun h2 => ?_) (fun h2 => ?_)
  ·refine wp_skip (then_n (wp_seq (wp_block (s0 [1, 4, 5, 6, 7, 8, 9, 20, 21, 29, 30] [1] 2 hS fun hS => ?_))))
   refine sA [(2, .oi ((x21 * 12 : Nat) : Int)), (4, .oi (((x21 * 12) + x30 : Nat) : Int))] trivial (fun _ => [imul .i64 (x21 : Int) 12 = ((x21 * 12 : Nat) : Int), iadd .i64 ((x21 * 12 : Nat) : Int) (x30 : Int) = (((x21 * 12) + x30 : Nat) : Int)]) [1, 4, 5, 6, 7, 8, 9, 10, 20, 21, 29, 30] [1] 2 ⟨by rw [imul64 omm omm]; omega, by rw [iadd64 omm omm]; omega, trivial⟩ hS fun hS => ?_
   refine rA [(2, .oi ((((x21 * 12) + x30) / 8 : Nat) : Int)), (11, .oi ((((x21 * 12) + x30) % 8 : Nat) : Int))] trivial (fun _ => [iquo .i64 (((x21 * 12) + x30 : Nat) : Int) 8 = ((((x21 * 12) + x30) / 8 : Nat) : Int), (8 : Int) ≠ 0, (0 : Int) ≤ ((((x21 * 12) + x30) / 8 : Nat) : Int) ∧ ((((x21 * 12) + x30) / 8 : Nat) : Int) < ((x6_2.length : Nat) : Int), (0 : Int) ≤ (x30 : Int), irem (((x21 * 12) + x30 : Nat) : Int) 8 = ((((x21 * 12) + x30) % 8 : Nat) : Int), (8 : Int) ≠ 0, (0 : Int) ≤ ((((x21 * 12) + x30) % 8 : Nat) : Int), (0 : Int) ≤ ((((x21 * 12) + x30) / 8 : Nat) : Int) ∧ ((((x21 * 12) + x30) / 8 : Nat) : Int) < ((x6_2.length : Nat) : Int)]) [1, 4, 5, 6, 7, 8, 20, 21, 29, 30] [1] 2 ⟨by rw [iquo64 omm omm omm]; omega, by omega, by omega, by omega, by rw [irem64 omm]; omega, by omega, by omega, by omega, trivial⟩ hS fun hS => ?_
   refine block_n (then_n (rA [(0, .oi ((x30 + 1 : Nat) : Int))] trivial (fun _ => [iadd .i64 (x30 : Int) 1 = ((x30 + 1 : Nat) : Int)]) [1, 4, 5, 6, 7, 8, 20, 21, 29, 30] [1] 2 ⟨by rw [iadd64 omm omm]; omega, trivial⟩ hS fun hS => ?_))
   refine then_n ?_
   exact next_y hg0 hS (s := (x30, x6_2)) (x30 + 1, x6_2.set (((x21 * 12) + x30) / 8) (ior .u8 (x6_2.getD (((x21 * 12) + x30) / 8) 0) (ishl .u8 (IntKind.wrap .u8 (iand .u16 (ishr .u16 (irem (f x21) 3329) (x30 : Int)) 1)) ((((x21 * 12) + x30) % 8 : Nat) : Int)))) [(1, 1)] (show 12 - (x30 + 1) < 12 - x30 from by omega) ⟨omm, (it_next (F := encode12_l2 f x21 x6) (st := encode12_l2_s f x21 x6) (fun _ => rfl) hq2 rfl), (by simpa using p2), trivial⟩
  ·have hScur := hS
   obtain rfl : 12 = x30 := by omega
   obtain rfl : encode12_l2 f x21 x6 12 = x6_2 := Eq.symm (congrArg (fun z => z) hq2)
   have hS := hScur
   clear hScur
   refine wp_exit (then_exit (then_exit (block_exit (block_n (then_n (rA [(0, .oi ((x21 + 1 : Nat) : Int))] trivial (fun _ => [iadd .i64 (x21 : Int) 1 = ((x21 + 1 : Nat) : Int)]) [1, 4, 5, 6, 20, 21] [1] 2 ⟨by rw [iadd64 omm omm]; omega, trivial⟩ hS fun hS => ?_))))))
   refine then_n ?_
   exact next_y hg0 hS (s := (x21, x6)) (x21 + 1, encode12_l2 f x21 x6 12) [(1, 1)] (show 256 - (x21 + 1) < 256 - x21 from by omega) ⟨omm, (it_next (F := encode12_l1 f) (st := encode12_l1_s f) (fun _ => rfl) hq1 rfl), p2, trivial⟩
 ·have hScur := hS
  obtain rfl : 256 = x21 := by omega
  obtain rfl : encode12_l1 f 256 = x6 := Eq.symm (congrArg (fun z => z) hq1)
  have hS := hScur
  clear hScur
  refine wp_exit (then_exit (then_exit (block_exit (then_n (s0 [4, 5] [1] 2 hS fun hS => ?_)))))
  refine wp_ret ?_
  have hM : encode12_m f = encode12_l1 f 256 := encode12_e f
  obtain ⟨gs, hS⟩ := hS.rn [(0, 1)] [(4, .sk 0), (5, vi 0)] [(0, .sl 5 [.int .u8] (encode12_l1 f 256))] 1 hg0
  exact fin_y rfl (.inr rfl) hS [.sk 0, vi 0] [(0, some (.sl 5 [.int .u8] (encode12_l1 f 256)))] rfl (by show H1Ok _ [(0, .sl 5 [.int .u8] (encode12_m f))] true; rw [hM]; first | (simp only []; exact ⟨rfl, trivial⟩) | exact ⟨rfl, trivial⟩)

def unpack12_l2_s (xs : List Int) (x8 : Nat) (o4_0 : Nat → Int) (x12 : Nat) : (Nat → Int) → (Nat → Int) := fun o4_0_2 => upd o4_0_2 x8 (ior .u16 (o4_0_2 x8) (ishl .u16 (IntKind.wrap .u16 (iand .u8 (ishr .u8 (xs.getD (((x8 * 12) + x12) / 8) 0) ((((x8 * 12) + x12) % 8 : Nat) : Int)) 1)) (x12 : Int)))
def unpack12_l2 (xs : List Int) (x8 : Nat) (o4_0 : Nat → Int) : Nat → (Nat → Int)
 | 0 => o4_0
 | x12 + 1 => unpack12_l2_s xs x8 o4_0 x12 (unpack12_l2 xs x8 o4_0 x12)
def unpack12_l1_s (xs : List Int) (x8 : Nat) : (Nat → Int) → (Nat → Int) := fun o4_0 => unpack12_l2 xs x8 o4_0 12
def unpack12_l1 (xs : List Int) : Nat → (Nat → Int)
 | 0 => fun _ => 0
 | x8 + 1 => unpack12_l1_s xs x8 (unpack12_l1 xs x8)
def unpack12_v (xs : List Int) : (Nat → Int) := unpack12_l1 xs 256
def unpack12_m (xs : List Int) : (Nat → Int) := shut (unpack12_v xs)
theorem unpack12_e (xs : List Int) : unpack12_m xs = unpack12_v xs := shut_eq _
def c_unpack12 (xs : List Int) : Con := ⟨[vi 12, lb xs], [], .ar .u16 256 (unpack12_m xs), []⟩
theorem unpack12_ok (xs : List Int) (h : 384 ≤ xs.length) : ConOk Try.prog 64 (c_unpack12 xs) := by
 refine conOk_of rfl (nb := 0) Try.func64 rfl rfl Try.ntmps64 rfl rfl rfl fun g0 w0 ac gs ws hg0 hS => ?_
 have hlen1 : xs.length ≤ 9223372036854775807 := hS.len 1 rfl
 have hS := hS.sp
 refine s0 [0, 1, 4] [0] 1 hS fun hS => ?_
 refine wp_seq (s0 [0, 1, 4, 8] [0] 1 hS fun hS => ?_)
 refine wp_block (loop_y (ι := Nat × (Nat → Int)) hg0 hS (fun z_ => match z_ with | (x8, o4_0) => 256 - x8) (fun z_ => match z_ with | (x8, o4_0) => [(0, vi 12), (1, lb xs), (4, .cp 0 0), (8, vi ((x8 : Nat) : Int))]) (fun z_ => match z_ with | (x8, o4_0) => [(0, .ob 60 (chain [.ar .u16 256 o4_0]))]) (fun z_ => match z_ with | (x8, o4_0) => (x8 ≤ 256) ∧ (o4_0 = unpack12_l1 xs x8) ∧ True) 1 (0, fun _ => 0) [(0, 0)] ⟨omm, rfl, trivial⟩ ?_)
 rintro ⟨x8, o4_0⟩ ac gs ws ⟨hx8, hq1, _⟩ hS
 refine s0 [0, 1, 4, 8, 9] [0] 1 hS fun hS => ?_
 refine wp_seq ?_
 refine if_d ((x8 : Int) < 256) hS (fun h1 => ?_) (fun h1 => ?_)
 ·refine wp_skip (then_n (wp_seq (wp_block (s0 [0, 1, 4, 5, 8] [0] 1 hS fun hS => ?_))))
  refine s0 [0, 1, 4, 5, 8, 11, 12] [0] 1 hS fun hS => ?_
  refine wp_block (loop_y (ι := Nat × (Nat → Int)) hg0 hS (fun z_ => match z_ with | (x12, o4_0_2) => 12 - x12) (fun z_ => match z_ with | (x12, o4_0_2) => [(0, vi 12), (1, lb xs), (4, .cp 0 0), (5, vi (x8 : Int)), (8, vi (x8 : Int)), (11, vi 12), (12, vi ((x12 : Nat) : Int))]) (fun z_ => match z_ with | (x12, o4_0_2) => [(0, .ob 60 (chain [.ar .u16 256 o4_0_2]))]) (fun z_ => match z_ with | (x12, o4_0_2) => (x12 ≤ 12) ∧ (o4_0_2 = unpack12_l2 xs x8 o4_0 x12) ∧ True) 1 (0, o4_0) [(0, 0)] ⟨omm, rfl, trivial⟩ ?_)
  rintro ⟨x12, o4_0_2⟩ ac gs ws ⟨hx12, hq2, _⟩ hS
  refine s0 [0, 1, 4, 5, 8, 11, 12, 13] [0] 1 hS fun hS => ?_
  refine wp_seq ?_
  refine if_d ((x12 : Int) < 12) hS (fun h2 => ?_) (fun h2 => ?_)
  ·refine wp_skip (then_n (wp_seq (wp_block (s0 [0, 1, 4, 5, 6, 8, 11, 12] [0] 1 hS fun hS => ?_))))
   refine sA [(2, .oi ((x8 * 12 : Nat) : Int)), (4, .oi (((x8 * 12) + x12 : Nat) : Int))] trivial (fun _ => [imul .i64 (x8 : Int) 12 = ((x8 * 12 : Nat) : Int), iadd .i64 ((x8 * 12 : Nat) : Int) (x12 : Int) = (((x8 * 12) + x12 : Nat) : Int)]) [0, 1, 4, 5, 6, 7, 8, 11, 12] [0] 1 ⟨by rw [imul64 omm omm]; omega, by rw [iadd64 omm omm]; omega, trivial⟩ hS fun hS => ?_
   refine rA [(5, .oi ((((x8 * 12) + x12) / 8 : Nat) : Int)), (9, .oi ((((x8 * 12) + x12) % 8 : Nat) : Int))] trivial (fun _ => [(0 : Int) ≤ (x8 : Int) ∧ ((x8 : Int) : Int) < 256, iquo .i64 (((x8 * 12) + x12 : Nat) : Int) 8 = ((((x8 * 12) + x12) / 8 : Nat) : Int), (8 : Int) ≠ 0, (0 : Int) ≤ ((((x8 * 12) + x12) / 8 : Nat) : Int) ∧ ((((x8 * 12) + x12) / 8 : Nat) : Int) < ((xs.length : Nat) : Int), irem (((x8 * 12) + x12 : Nat) : Int) 8 = ((((x8 * 12) + x12) % 8 : Nat) : Int), (8 : Int) ≠ 0, (0 : Int) ≤ ((((x8 * 12) + x12) % 8 : Nat) : Int), (0 : Int) ≤ (x12 : Int), (0 : Int) ≤ (x8 : Int) ∧ ((x8 : Int) : Int) < 256]) [0, 1, 4, 5, 8, 11, 12] [0] 1 ⟨by omega, by rw [iquo64 omm omm omm]; omega, by omega, by omega, by rw [irem64 omm]; omega, by omega, by omega, by omega, by omega, trivial⟩ hS fun hS => ?_
   refine block_n (then_n (rA [(0, .oi ((x12 + 1 : Nat) : Int))] trivial (fun _ => [iadd .i64 (x12 : Int) 1 = ((x12 + 1 : Nat) : Int)]) [0, 1, 4, 5, 8, 11, 12] [0] 1 ⟨by rw [iadd64 omm omm]; omega, trivial⟩ hS fun hS => ?_))
   refine then_n ?_
   exact next_y hg0 hS (s := (x12, o4_0_2)) (x12 + 1, upd o4_0_2 x8 (ior .u16 (o4_0_2 x8) (ishl .u16 (IntKind.wrap .u16 (iand .u8 (ishr .u8 (xs.getD (((x8 * 12) + x12) / 8) 0) ((((x8 * 12) + x12) % 8 : Nat) : Int)) 1)) (x12 : Int)))) [(0, 0)] (show 12 - (x12 + 1) < 12 - x12 from by omega) ⟨omm, (it_next (F := unpack12_l2 xs x8 o4_0) (st := unpack12_l2_s xs x8 o4_0) (fun _ => rfl) hq2 rfl), trivial⟩
  ·have hScur := hS
   obtain rfl : 12 = x12 := by omega
   obtain rfl : unpack12_l2 xs x8 o4_0 12 = o4_0_2 := Eq.symm (congrArg (fun z => z) hq2)
   have hS := hScur
   clear hScur
   refine wp_exit (then_exit (then_exit (block_exit (block_n (then_n (rA [(0, .oi ((x8 + 1 : Nat) : Int))] trivial (fun _ => [iadd .i64 (x8 : Int) 1 = ((x8 + 1 : Nat) : Int)]) [0, 1, 4, 8] [0] 1 ⟨by rw [iadd64 omm omm]; omega, trivial⟩ hS fun hS => ?_))))))
   refine then_n ?_
   exact next_y hg0 hS (s := (x8, o4_0)) (x8 + 1, unpack12_l2 xs x8 o4_0 12) [(0, 0)] (show 256 - (x8 + 1) < 256 - x8 from by omega) ⟨omm, (it_next (F := unpack12_l1 xs) (st := unpack12_l1_s xs) (fun _ => rfl) hq1 rfl), trivial⟩
 ·have hScur := hS
  obtain rfl : 256 = x8 := by omega
  obtain rfl : unpack12_l1 xs 256 = o4_0 := Eq.symm (congrArg (fun z => z) hq1)
  have hS := hScur
  clear hScur
  refine wp_exit (then_exit (then_exit (block_exit (then_n (s0 [4] [0] 1 hS fun hS => ?_)))))
  refine wp_ret ?_
  have hM : unpack12_m xs = unpack12_l1 xs 256 := unpack12_e xs
  exact fin_y rfl (.inr rfl) hS [.ar .u16 256 (unpack12_l1 xs 256)] [] (by show weak _ (.ar .u16 256 (unpack12_m xs)) = (.ar .u16 256 (unpack12_m xs)); rw [hM]; first | (simp only []; rfl) | (simp only []; done) | rfl) trivial

def encode10_l2_s (f : Nat → Int) (x21 : Nat) (x6 : List Int) (x30 : Nat) : (List Int) → (List Int) := fun x6_2 => x6_2.set (((x21 * 10) + x30) / 8) (ior .u8 (x6_2.getD (((x21 * 10) + x30) / 8) 0) (ishl .u8 (IntKind.wrap .u8 (iand .u16 (ishr .u16 (f x21) (x30 : Int)) 1)) ((((x21 * 10) + x30) % 8 : Nat) : Int)))
def encode10_l2 (f : Nat → Int) (x21 : Nat) (x6 : List Int) : Nat → (List Int)
 | 0 => x6
 | x30 + 1 => encode10_l2_s f x21 x6 x30 (encode10_l2 f x21 x6 x30)
def encode10_l1_s (f : Nat → Int) (x21 : Nat) : (List Int) → (List Int) := fun x6 => encode10_l2 f x21 x6 10
def encode10_l1 (f : Nat → Int) : Nat → (List Int)
 | 0 => List.replicate 320 (0 : Int)
 | x21 + 1 => encode10_l1_s f x21 (encode10_l1 f x21)
def encode10_v (f : Nat → Int) : (List Int) := encode10_l1 f 256
def encode10_m (f : Nat → Int) : (List Int) := shut (encode10_v f)
theorem encode10_e (f : Nat → Int) : encode10_m f = encode10_v f := shut_eq _
def c_encode10 (f : Nat → Int) : Con := ⟨[.ar .u16 256 f, vi 10], [], .tu (chain [.sk 0, vi 0]), [(0, .sl 5 [.int .u8] (encode10_m f))]⟩
theorem encode10_ok (f : Nat → Int) : ConOk Try.prog 76 (c_encode10 f) := by
 refine conOk_of rfl (nb := 0) Try.func76 rfl rfl Try.ntmps76 rfl rfl rfl fun g0 w0 ac gs ws hg0 hS => ?_
 have hS := hS.sp
 refine s0 [1, 2, 4, 5] [0] 1 hS fun hS => ?_
 refine wp_seq (s0 [1, 2, 4, 5, 16] [0] 1 hS fun hS => ?_)
 refine cond_f hS ?_
 refine wp_skip (then_n (sA [] trivial (fun _ => [(320 : Int) = 320, (0 : Int) ≤ 320, 1 * 320 ≤ 281474976710656, (320 : Int) ≤ 9223372036854775807]) [1, 2, 4, 5, 6] [0, 1] 2 ⟨rfl, by omega, by omega, by omega, trivial⟩ hS fun hS => ?_))
 refine wp_seq (s0 [1, 4, 5, 6, 20, 21] [1] 2 hS fun hS => ?_)
 refine wp_block (loop_y (ι := Nat × (List Int)) hg0 hS (fun z_ => match z_ with | (x21, x6) => 256 - x21) (fun z_ => match z_ with | (x21, x6) => [(1, vi 10), (4, .v (.slice none 0 0)), (5, vi 0), (6, .sk 1), (20, .ar .u16 256 f), (21, vi ((x21 : Nat) : Int))]) (fun z_ => match z_ with | (x21, x6) => [(1, .sl 5 [.int .u8] x6)]) (fun z_ => match z_ with | (x21, x6) => (x21 ≤ 256) ∧ (x6 = encode10_l1 f x21) ∧ (x6.length = 320) ∧ True) 2 (0, List.replicate 320 (0 : Int)) [(1, 1)] ⟨omm, rfl, (by simp), trivial⟩ ?_)
 rintro ⟨x21, x6⟩ ac gs ws ⟨hx21, hq1, p1, _⟩ hS
 refine s0 [1, 4, 5, 6, 20, 21, 22] [1] 2 hS fun hS => ?_
 refine wp_seq ?_
 refine if_d ((x21 : Int) < 256) hS (fun h1 => ?_) (fun h1 => ?_)
 ·refine wp_skip (then_n (wp_seq (wp_block (sA [] trivial (fun _ => [(0 : Int) ≤ (x21 : Int) ∧ ((x21 : Int) : Int) < 256]) [1, 4, 5, 6, 7, 8, 20, 21] [1] 2 ⟨by omega, trivial⟩ hS fun hS => ?_))))
  refine wp_seq (s0 [1, 4, 5, 6, 7, 8, 20, 21, 26] [1] 2 hS fun hS => ?_)
  refine cond_f hS ?_
  refine wp_skip (then_n (s0 [1, 4, 5, 6, 7, 8, 20, 21, 29, 30] [1] 2 hS fun hS => ?_))
  refine wp_block (loop_y (ι := Nat × (List Int)) hg0 hS (fun z_ => match z_ with | (x30, x6_2) => 10 - x30) (fun z_ => match z_ with | (x30, x6_2) => [(1, vi 10), (4, .v (.slice none 0 0)), (5, vi 0), (6, .sk 1), (7, vi (x21 : Int)), (8, .v (.int .u16 (f x21))), (20, .ar .u16 256 f), (21, vi (x21 : Int)), (29, vi 10), (30, vi ((x30 : Nat) : Int))]) (fun z_ => match z_ with | (x30, x6_2) => [(1, .sl 5 [.int .u8] x6_2)]) (fun z_ => match z_ with | (x30, x6_2) => (x30 ≤ 10) ∧ (x6_2 = encode10_l2 f x21 x6 x30) ∧ (x6_2.length = 320) ∧ True) 2 (0, x6) [(1, 1)] ⟨omm, rfl, p1, trivial⟩ ?_)
  rintro ⟨x30, x6_2⟩ ac gs ws ⟨hx30, hq2, p2, _⟩ hS
  refine s0 [1, 4, 5, 6, 7, 8, 20, 21, 29, 30, 31] [1] 2 hS fun hS => ?_
  refine wp_seq ?_
  refine if_d ((x30 : Int) < 10) hS (fun h2 => ?_) (fun h2 => ?_)
  ·refine wp_skip (then_n (wp_seq (wp_block (s0 [1, 4, 5, 6, 7, 8, 9, 20, 21, 29, 30] [1] 2 hS fun hS => ?_))))
   refine sA [(2, .oi ((x21 * 10 : Nat) : Int)), (4, .oi (((x21 * 10) + x30 : Nat) : Int))] trivial (fun _ => [imul .i64 (x21 : Int) 10 = ((x21 * 10 : Nat) : Int), iadd .i64 ((x21 * 10 : Nat) : Int) (x30 : Int) = (((x21 * 10) + x30 : Nat) : Int)]) [1, 4, 5, 6, 7, 8, 9, 10, 20, 21, 29, 30] [1] 2 ⟨by rw [imul64 omm omm]; omega, by rw [iadd64 omm omm]; omega, trivial⟩ hS fun hS => ?_
   refine rA [(2, .oi ((((x21 * 10) + x30) / 8 : Nat) : Int)), (11, .oi ((((x21 * 10) + x30) % 8 : Nat) : Int))] trivial (fun _ => [iquo .i64 (((x21 * 10) + x30 : Nat) : Int) 8 = ((((x21 * 10) + x30) / 8 : Nat) : Int), (8 : Int) ≠ 0, (0 : Int) ≤ ((((x21 * 10) + x30) / 8 : Nat) : Int) ∧ ((((x21 * 10) + x30) / 8 : Nat) : Int) < ((x6_2.length : Nat) : Int), (0 : Int) ≤ (x30 : Int), irem (((x21 * 10) + x30 : Nat) : Int) 8 = ((((x21 * 10) + x30) % 8 : Nat) : Int), (8 : Int) ≠ 0, (0 : Int) ≤ ((((x21 * 10) + x30) % 8 : Nat) : Int), (0 : Int) ≤ ((((x21 * 10) + x30) / 8 : Nat) : Int) ∧ ((((x21 * 10) + x30) / 8 : Nat) : Int) < ((x6_2.length : Nat) : Int)]) [1, 4, 5, 6, 7, 8, 20, 21, 29, 30] [1] 2 ⟨by rw [iquo64 omm omm omm]; omega, by omega, by omega, by omega, by rw [irem64 omm]; omega, by omega, by omega, by omega, trivial⟩ hS fun hS => ?_
   refine block_n (then_n (rA [(0, .oi ((x30 + 1 : Nat) : Int))] trivial (fun _ => [iadd .i64 (x30 : Int) 1 = ((x30 + 1 : Nat) : Int)]) [1, 4, 5, 6, 7, 8, 20, 21, 29, 30] [1] 2 ⟨by rw [iadd64 omm omm]; omega, trivial⟩ hS fun hS => ?_))
   refine then_n ?_
   exact next_y hg0 hS (s := (x30, x6_2)) (x30 + 1, x6_2.set (((x21 * 10) + x30) / 8) (ior .u8 (x6_2.getD (((x21 * 10) + x30) / 8) 0) (ishl .u8 (IntKind.wrap .u8 (iand .u16 (ishr .u16 (f x21) (x30 : Int)) 1)) ((((x21 * 10) + x30) % 8 : Nat) : Int)))) [(1, 1)] (show 10 - (x30 + 1) < 10 - x30 from by omega) ⟨omm, (it_next (F := encode10_l2 f x21 x6) (st := encode10_l2_s f x21 x6) (fun _ => rfl) hq2 rfl), (by simpa using p2), trivial⟩
  ·have hScur := hS
   obtain rfl : 10 = x30 := by omega
   obtain rfl : encode10_l2 f x21 x6 10 = x6_2 := Eq.symm (congrArg (fun z => z) hq2)
   have hS := hScur
   clear hScur
   refine wp_exit (then_exit (then_exit (block_exit (block_n (then_n (rA [(0, .oi ((x21 + 1 : Nat) : Int))] trivial (fun _ => [iadd .i64 (x21 : Int) 1 = ((x21 + 1 : Nat) : Int)]) [1, 4, 5, 6, 20, 21] [1] 2 ⟨by rw [iadd64 omm omm]; omega, trivial⟩ hS fun hS => ?_))))))
   refine then_n ?_
   exact next_y hg0 hS (s := (x21, x6)) (x21 + 1, encode10_l2 f x21 x6 10) [(1, 1)] (show 256 - (x21 + 1) < 256 - x21 from by omega) ⟨omm, (it_next (F := encode10_l1 f) (st := encode10_l1_s f) (fun _ => rfl) hq1 rfl), p2, trivial⟩
 ·have hScur := hS
  obtain rfl : 256 = x21 := by omega
  obtain rfl : encode10_l1 f 256 = x6 := Eq.symm (congrArg (fun z => z) hq1)
  have hS := hScur
  clear hScur
  refine wp_exit (then_exit (then_exit (block_exit (then_n (s0 [4, 5] [1] 2 hS fun hS => ?_)))))
  refine wp_ret ?_
  have hM : encode10_m f = encode10_l1 f 256 := encode10_e f
  obtain ⟨gs, hS⟩ := hS.rn [(0, 1)] [(4, .sk 0), (5, vi 0)] [(0, .sl 5 [.int .u8] (encode10_l1 f 256))] 1 hg0
  exact fin_y rfl (.inr rfl) hS [.sk 0, vi 0] [(0, some (.sl 5 [.int .u8] (encode10_l1 f 256)))] rfl (by show H1Ok _ [(0, .sl 5 [.int .u8] (encode10_m f))] true; rw [hM]; first | (simp only []; exact ⟨rfl, trivial⟩) | exact ⟨rfl, trivial⟩)

def unpack10_l2_s (xs : List Int) (x8 : Nat) (o4_0 : Nat → Int) (x12 : Nat) : (Nat → Int) → (Nat → Int) := fun o4_0_2 => upd o4_0_2 x8 (ior .u16 (o4_0_2 x8) (ishl .u16 (IntKind.wrap .u16 (iand .u8 (ishr .u8 (xs.getD (((x8 * 10) + x12) / 8) 0) ((((x8 * 10) + x12) % 8 : Nat) : Int)) 1)) (x12 : Int)))
def unpack10_l2 (xs : List Int) (x8 : Nat) (o4_0 : Nat → Int) : Nat → (Nat → Int)
 | 0 => o4_0
 | x12 + 1 => unpack10_l2_s xs x8 o4_0 x12 (unpack10_l2 xs x8 o4_0 x12)
def unpack10_l1_s (xs : List Int) (x8 : Nat) : (Nat → Int) → (Nat → Int) := fun o4_0 => unpack10_l2 xs x8 o4_0 10
def unpack10_l1 (xs : List Int) : Nat → (Nat → Int)
 | 0 => fun _ => 0
 | x8 + 1 => unpack10_l1_s xs x8 (unpack10_l1 xs x8)
def unpack10_v (xs : List Int) : (Nat → Int) := unpack10_l1 xs 256
def unpack10_m (xs : List Int) : (Nat → Int) := shut (unpack10_v xs)
theorem unpack10_e (xs : List Int) : unpack10_m xs = unpack10_v xs := shut_eq _
def c_unpack10 (xs : List Int) : Con := ⟨[vi 10, lb xs], [], .ar .u16 256 (unpack10_m xs), []⟩
theorem unpack10_ok (xs : List Int) (h : 320 ≤ xs.length) : ConOk Try.prog 64 (c_unpack10 xs) := by
 refine conOk_of rfl (nb := 0) Try.func64 rfl rfl Try.ntmps64 rfl rfl rfl fun g0 w0 ac gs ws hg0 hS => ?_
 have hlen1 : xs.length ≤ 9223372036854775807 := hS.len 1 rfl
 have hS := hS.sp
 refine s0 [0, 1, 4] [0] 1 hS fun hS => ?_
 refine wp_seq (s0 [0, 1, 4, 8] [0] 1 hS fun hS => ?_)
 refine wp_block (loop_y (ι := Nat × (Nat → Int)) hg0 hS (fun z_ => match z_ with | (x8, o4_0) => 256 - x8) (fun z_ => match z_ with | (x8, o4_0) => [(0, vi 10), (1, lb xs), (4, .cp 0 0), (8, vi ((x8 : Nat) : Int))]) (fun z_ => match z_ with | (x8, o4_0) => [(0, .ob 60 (chain [.ar .u16 256 o4_0]))]) (fun z_ => match z_ with | (x8, o4_0) => (x8 ≤ 256) ∧ (o4_0 = unpack10_l1 xs x8) ∧ True) 1 (0, fun _ => 0) [(0, 0)] ⟨omm, rfl, trivial⟩ ?_)
 rintro ⟨x8, o4_0⟩ ac gs ws ⟨hx8, hq1, _⟩ hS
 refine s0 [0, 1, 4, 8, 9] [0] 1 hS fun hS => ?_
 refine wp_seq ?_
 refine if_d ((x8 : Int) < 256) hS (fun h1 => ?_) (fun h1 => ?_)
 ·refine wp_skip (then_n (wp_seq (wp_block (s0 [0, 1, 4, 5, 8] [0] 1 hS fun hS => ?_))))
  refine s0 [0, 1, 4, 5, 8, 11, 12] [0] 1 hS fun hS => ?_
  refine wp_block (loop_y (ι := Nat × (Nat → Int)) hg0 hS (fun z_ => match z_ with | (x12, o4_0_2) => 10 - x12) (fun z_ => match z_ with | (x12, o4_0_2) => [(0, vi 10), (1, lb xs), (4, .cp 0 0), (5, vi (x8 : Int)), (8, vi (x8 : Int)), (11, vi 10), (12, vi ((x12 : Nat) : Int))]) (fun z_ => match z_ with | (x12, o4_0_2) => [(0, .ob 60 (chain [.ar .u16 256 o4_0_2]))]) (fun z_ => match z_ with | (x12, o4_0_2) => (x12 ≤ 10) ∧ (o4_0_2 = unpack10_l2 xs x8 o4_0 x12) ∧ True) 1 (0, o4_0) [(0, 0)] ⟨omm, rfl, trivial⟩ ?_)
  rintro ⟨x12, o4_0_2⟩ ac gs ws ⟨hx12, hq2, _⟩ hS
  refine s0 [0, 1, 4, 5, 8, 11, 12, 13] [0] 1 hS fun hS => ?_
  refine wp_seq ?_
  refine if_d ((x12 : Int) < 10) hS (fun h2 => ?_) (fun h2 => ?_)
  ·refine wp_skip (then_n (wp_seq (wp_block (s0 [0, 1, 4, 5, 6, 8, 11, 12] [0] 1 hS fun hS => ?_))))
   refine sA [(2, .oi ((x8 * 10 : Nat) : Int)), (4, .oi (((x8 * 10) + x12 : Nat) : Int))] trivial (fun _ => [imul .i64 (x8 : Int) 10 = ((x8 * 10 : Nat) : Int), iadd .i64 ((x8 * 10 : Nat) : Int) (x12 : Int) = (((x8 * 10) + x12 : Nat) : Int)]) [0, 1, 4, 5, 6, 7, 8, 11, 12] [0] 1 ⟨by rw [imul64 omm omm]; omega, by rw [iadd64 omm omm]; omega, trivial⟩ hS fun hS => ?_
   refine rA [(5, .oi ((((x8 * 10) + x12) / 8 : Nat) : Int)), (9, .oi ((((x8 * 10) + x12) % 8 : Nat) : Int))] trivial (fun _ => [(0 : Int) ≤ (x8 : Int) ∧ ((x8 : Int) : Int) < 256, iquo .i64 (((x8 * 10) + x12 : Nat) : Int) 8 = ((((x8 * 10) + x12) / 8 : Nat) : Int), (8 : Int) ≠ 0, (0 : Int) ≤ ((((x8 * 10) + x12) / 8 : Nat) : Int) ∧ ((((x8 * 10) + x12) / 8 : Nat) : Int) < ((xs.length : Nat) : Int), irem (((x8 * 10) + x12 : Nat) : Int) 8 = ((((x8 * 10) + x12) % 8 : Nat) : Int), (8 : Int) ≠ 0, (0 : Int) ≤ ((((x8 * 10) + x12) % 8 : Nat) : Int), (0 : Int) ≤ (x12 : Int), (0 : Int) ≤ (x8 : Int) ∧ ((x8 : Int) : Int) < 256]) [0, 1, 4, 5, 8, 11, 12] [0] 1 ⟨by omega, by rw [iquo64 omm omm omm]; omega, by omega, by omega, by rw [irem64 omm]; omega, by omega, by omega, by omega, by omega, trivial⟩ hS fun hS => ?_
   refine block_n (then_n (rA [(0, .oi ((x12 + 1 : Nat) : Int))] trivial (fun _ => [iadd .i64 (x12 : Int) 1 = ((x12 + 1 : Nat) : Int)]) [0, 1, 4, 5, 8, 11, 12] [0] 1 ⟨by rw [iadd64 omm omm]; omega, trivial⟩ hS fun hS => ?_))
   refine then_n ?_
   exact next_y hg0 hS (s := (x12, o4_0_2)) (x12 + 1, upd o4_0_2 x8 (ior .u16 (o4_0_2 x8) (ishl .u16 (IntKind.wrap .u16 (iand .u8 (ishr .u8 (xs.getD (((x8 * 10) + x12) / 8) 0) ((((x8 * 10) + x12) % 8 : Nat) : Int)) 1)) (x12 : Int)))) [(0, 0)] (show 10 - (x12 + 1) < 10 - x12 from by omega) ⟨omm, (it_next (F := unpack10_l2 xs x8 o4_0) (st := unpack10_l2_s xs x8 o4_0) (fun _ => rfl) hq2 rfl), trivial⟩
  ·have hScur := hS
   obtain rfl : 10 = x12 := by omega
   obtain rfl : unpack10_l2 xs x8 o4_0 10 = o4_0_2 := Eq.symm (congrArg (fun z => z) hq2)
   have hS := hScur
   clear hScur
   refine wp_exit (then_exit (then_exit (block_exit (block_n (then_n (rA [(0, .oi ((x8 + 1 : Nat) : Int))] trivial (fun _ => [iadd .i64 (x8 : Int) 1 = ((x8 + 1 : Nat) : Int)]) [0, 1, 4, 8] [0] 1 ⟨by rw [iadd64 omm omm]; omega, trivial⟩ hS fun hS => ?_))))))
   refine then_n ?_
   exact next_y hg0 hS (s := (x8, o4_0)) (x8 + 1, unpack10_l2 xs x8 o4_0 10) [(0, 0)] (show 256 - (x8 + 1) < 256 - x8 from by omega) ⟨omm, (it_next (F := unpack10_l1 xs) (st := unpack10_l1_s xs) (fun _ => rfl) hq1 rfl), trivial⟩
 ·have hScur := hS
  obtain rfl : 256 = x8 := by omega
  obtain rfl : unpack10_l1 xs 256 = o4_0 := Eq.symm (congrArg (fun z => z) hq1)
  have hS := hScur
  clear hScur
  refine wp_exit (then_exit (then_exit (block_exit (then_n (s0 [4] [0] 1 hS fun hS => ?_)))))
  refine wp_ret ?_
  have hM : unpack10_m xs = unpack10_l1 xs 256 := unpack10_e xs
  exact fin_y rfl (.inr rfl) hS [.ar .u16 256 (unpack10_l1 xs 256)] [] (by show weak _ (.ar .u16 256 (unpack10_m xs)) = (.ar .u16 256 (unpack10_m xs)); rw [hM]; first | (simp only []; rfl) | (simp only []; done) | rfl) trivial

def encode4_l2_s (f : Nat → Int) (x21 : Nat) (x6 : List Int) (x30 : Nat) : (List Int) → (List Int) := fun x6_2 => x6_2.set (((x21 * 4) + x30) / 8) (ior .u8 (x6_2.getD (((x21 * 4) + x30) / 8) 0) (ishl .u8 (IntKind.wrap .u8 (iand .u16 (ishr .u16 (f x21) (x30 : Int)) 1)) ((((x21 * 4) + x30) % 8 : Nat) : Int)))
def encode4_l2 (f : Nat → Int) (x21 : Nat) (x6 : List Int) : Nat → (List Int)
 | 0 => x6
 | x30 + 1 => encode4_l2_s f x21 x6 x30 (encode4_l2 f x21 x6 x30)
def encode4_l1_s (f : Nat → Int) (x21 : Nat) : (List Int) → (List Int) := fun x6 => encode4_l2 f x21 x6 4
def encode4_l1 (f : Nat → Int) : Nat → (List Int)
 | 0 => List.replicate 128 (0 : Int)
 | x21 + 1 => encode4_l1_s f x21 (encode4_l1 f x21)
def encode4_v (f : Nat → Int) : (List Int) := encode4_l1 f 256
def encode4_m (f : Nat → Int) : (List Int) := shut (encode4_v f)
theorem encode4_e (f : Nat → Int) : encode4_m f = encode4_v f := shut_eq _
def c_encode4 (f : Nat → Int) : Con := ⟨[.ar .u16 256 f, vi 4], [], .tu (chain [.sk 0, vi 0]), [(0, .sl 5 [.int .u8] (encode4_m f))]⟩
theorem encode4_ok (f : Nat → Int) : ConOk Try.prog 76 (c_encode4 f) := by
 refine conOk_of rfl (nb := 0) Try.func76 rfl rfl Try.ntmps76 rfl rfl rfl fun g0 w0 ac gs ws hg0 hS => ?_
 have hS := hS.sp
 refine s0 [1, 2, 4, 5] [0] 1 hS fun hS => ?_
 refine wp_seq (s0 [1, 2, 4, 5, 16] [0] 1 hS fun hS => ?_)
 refine cond_f hS ?_
 refine wp_skip (then_n (sA [] trivial (fun _ => [(128 : Int) = 128, (0 : Int) ≤ 128, 1 * 128 ≤ 281474976710656, (128 : Int) ≤ 9223372036854775807]) [1, 2, 4, 5, 6] [0, 1] 2 ⟨rfl, by omega, by omega, by omega, trivial⟩ hS fun hS => ?_))
 refine wp_seq (s0 [1, 4, 5, 6, 20, 21] [1] 2 hS fun hS => ?_)
 refine wp_block (loop_y (ι := Nat × (List Int)) hg0 hS (fun z_ => match z_ with | (x21, x6) => 256 - x21) (fun z_ => match z_ with | (x21, x6) => [(1, vi 4), (4, .v (.slice none 0 0)), (5, vi 0), (6, .sk 1), (20, .ar .u16 256 f), (21, vi ((x21 : Nat) : Int))]) (fun z_ => match z_ with | (x21, x6) => [(1, .sl 5 [.int .u8] x6)]) (fun z_ => match z_ with | (x21, x6) => (x21 ≤ 256) ∧ (x6 = encode4_l1 f x21) ∧ (x6.length = 128) ∧ True) 2 (0, List.replicate 128 (0 : Int)) [(1, 1)] ⟨omm, rfl, (by simp), trivial⟩ ?_)
 rintro ⟨x21, x6⟩ ac gs ws ⟨hx21, hq1, p1, _⟩ hS
 refine s0 [1, 4, 5, 6, 20, 21, 22] [1] 2 hS fun hS => ?_
 refine wp_seq ?_
 refine if_d ((x21 : Int) < 256) hS (fun h1 => ?_) (fun h1 => ?_)
 ·refine wp_skip (then_n (wp_seq (wp_block (sA [] trivial (fun _ => [(0 : Int) ≤ (x21 : Int) ∧ ((x21 : Int) : Int) < 256]) [1, 4, 5, 6, 7, 8, 20, 21] [1] 2 ⟨by omega, trivial⟩ hS fun hS => ?_))))
  refine wp_seq (s0 [1, 4, 5, 6, 7, 8, 20, 21, 26] [1] 2 hS fun hS => ?_)
  refine cond_f hS ?_
  refine wp_skip (then_n (s0 [1, 4, 5, 6, 7, 8, 20, 21, 29, 30] [1] 2 hS fun hS => ?_))
  refine wp_block (loop_y (ι := Nat × (List Int)) hg0 hS (fun z_ => match z_ with | (x30, x6_2) => 4 - x30) (fun z_ => match z_ with | (x30, x6_2) => [(1, vi 4), (4, .v (.slice none 0 0)), (5, vi 0), (6, .sk 1), (7, vi (x21 : Int)), (8, .v (.int .u16 (f x21))), (20, .ar .u16 256 f), (21, vi (x21 : Int)), (29, vi 4), (30, vi ((x30 : Nat) : Int))]) (fun z_ => match z_ with | (x30, x6_2) => [(1, .sl 5 [.int .u8] x6_2)]) (fun z_ => match z_ with | (x30, x6_2) => (x30 ≤ 4) ∧ (x6_2 = encode4_l2 f x21 x6 x30) ∧ (x6_2.length = 128) ∧ True) 2 (0, x6) [(1, 1)] ⟨omm, rfl, p1, trivial⟩ ?_)
  rintro ⟨x30, x6_2⟩ ac gs ws ⟨hx30, hq2, p2, _⟩ hS
  refine s0 [1, 4, 5, 6, 7, 8, 20, 21, 29, 30, 31] [1] 2 hS fun hS => ?_
  refine wp_seq ?_
  refine if_d ((x30 : Int) < 4) hS (fun h2 => ?_) (fun h2 => ?_)
  ·refine wp_skip (then_n (wp_seq (wp_block (s0 [1, 4, 5, 6, 7, 8, 9, 20, 21, 29, 30] [1] 2 hS fun hS => ?_))))
   refine sA [(2, .oi ((x21 * 4 : Nat) : Int)), (4, .oi (((x21 * 4) + x30 : Nat) : Int))] trivial (fun _ => [imul .i64 (x21 : Int) 4 = ((x21 * 4 : Nat) : Int), iadd .i64 ((x21 * 4 : Nat) : Int) (x30 : Int) = (((x21 * 4) + x30 : Nat) : Int)]) [1, 4, 5, 6, 7, 8, 9, 10, 20, 21, 29, 30] [1] 2 ⟨by rw [imul64 omm omm]; omega, by rw [iadd64 omm omm]; omega, trivial⟩ hS fun hS => ?_
   refine rA [(2, .oi ((((x21 * 4) + x30) / 8 : Nat) : Int)), (11, .oi ((((x21 * 4) + x30) % 8 : Nat) : Int))] trivial (fun _ => [iquo .i64 (((x21 * 4) + x30 : Nat) : Int) 8 = ((((x21 * 4) + x30) / 8 : Nat) : Int), (8 : Int) ≠ 0, (0 : Int) ≤ ((((x21 * 4) + x30) / 8 : Nat) : Int) ∧ ((((x21 * 4) + x30) / 8 : Nat) : Int) < ((x6_2.length : Nat) : Int), (0 : Int) ≤ (x30 : Int), irem (((x21 * 4) + x30 : Nat) : Int) 8 = ((((x21 * 4) + x30) % 8 : Nat) : Int), (8 : Int) ≠ 0, (0 : Int) ≤ ((((x21 * 4) + x30) % 8 : Nat) : Int), (0 : Int) ≤ ((((x21 * 4) + x30) / 8 : Nat) : Int) ∧ ((((x21 * 4) + x30) / 8 : Nat) : Int) < ((x6_2.length : Nat) : Int)]) [1, 4, 5, 6, 7, 8, 20, 21, 29, 30] [1] 2 ⟨by rw [iquo64 omm omm omm]; omega, by omega, by omega, by omega, by rw [irem64 omm]; omega, by omega, by omega, by omega, trivial⟩ hS fun hS => ?_
   refine block_n (then_n (rA [(0, .oi ((x30 + 1 : Nat) : Int))] trivial (fun _ => [iadd .i64 (x30 : Int) 1 = ((x30 + 1 : Nat) : Int)]) [1, 4, 5, 6, 7, 8, 20, 21, 29, 30] [1] 2 ⟨by rw [iadd64 omm omm]; omega, trivial⟩ hS fun hS => ?_))
   refine then_n ?_
   exact next_y hg0 hS (s := (x30, x6_2)) (x30 + 1, x6_2.set (((x21 * 4) + x30) / 8) (ior .u8 (x6_2.getD (((x21 * 4) + x30) / 8) 0) (ishl .u8 (IntKind.wrap .u8 (iand .u16 (ishr .u16 (f x21) (x30 : Int)) 1)) ((((x21 * 4) + x30) % 8 : Nat) : Int)))) [(1, 1)] (show 4 - (x30 + 1) < 4 - x30 from by omega) ⟨omm, (it_next (F := encode4_l2 f x21 x6) (st := encode4_l2_s f x21 x6) (fun _ => rfl) hq2 rfl), (by simpa using p2), trivial⟩
  ·have hScur := hS
   obtain rfl : 4 = x30 := by omega
   obtain rfl : encode4_l2 f x21 x6 4 = x6_2 := Eq.symm (congrArg (fun z => z) hq2)
   have hS := hScur
   clear hScur
   refine wp_exit (then_exit (then_exit (block_exit (block_n (then_n (rA [(0, .oi ((x21 + 1 : Nat) : Int))] trivial (fun _ => [iadd .i64 (x21 : Int) 1 = ((x21 + 1 : Nat) : Int)]) [1, 4, 5, 6, 20, 21] [1] 2 ⟨by rw [iadd64 omm omm]; omega, trivial⟩ hS fun hS => ?_))))))
   refine then_n ?_
   exact next_y hg0 hS (s := (x21, x6)) (x21 + 1, encode4_l2 f x21 x6 4) [(1, 1)] (show 256 - (x21 + 1) < 256 - x21 from by omega) ⟨omm, (it_next (F := encode4_l1 f) (st := encode4_l1_s f) (fun _ => rfl) hq1 rfl), p2, trivial⟩
 ·have hScur := hS
  obtain rfl : 256 = x21 := by omega
  obtain rfl : encode4_l1 f 256 = x6 := Eq.symm (congrArg (fun z => z) hq1)
  have hS := hScur
  clear hScur
  refine wp_exit (then_exit (then_exit (block_exit (then_n (s0 [4, 5] [1] 2 hS fun hS => ?_)))))
  refine wp_ret ?_
  have hM : encode4_m f = encode4_l1 f 256 := encode4_e f
  obtain ⟨gs, hS⟩ := hS.rn [(0, 1)] [(4, .sk 0), (5, vi 0)] [(0, .sl 5 [.int .u8] (encode4_l1 f 256))] 1 hg0
  exact fin_y rfl (.inr rfl) hS [.sk 0, vi 0] [(0, some (.sl 5 [.int .u8] (encode4_l1 f 256)))] rfl (by show H1Ok _ [(0, .sl 5 [.int .u8] (encode4_m f))] true; rw [hM]; first | (simp only []; exact ⟨rfl, trivial⟩) | exact ⟨rfl, trivial⟩)

def unpack4_l2_s (xs : List Int) (x8 : Nat) (o4_0 : Nat → Int) (x12 : Nat) : (Nat → Int) → (Nat → Int) := fun o4_0_2 => upd o4_0_2 x8 (ior .u16 (o4_0_2 x8) (ishl .u16 (IntKind.wrap .u16 (iand .u8 (ishr .u8 (xs.getD (((x8 * 4) + x12) / 8) 0) ((((x8 * 4) + x12) % 8 : Nat) : Int)) 1)) (x12 : Int)))
def unpack4_l2 (xs : List Int) (x8 : Nat) (o4_0 : Nat → Int) : Nat → (Nat → Int)
 | 0 => o4_0
 | x12 + 1 => unpack4_l2_s xs x8 o4_0 x12 (unpack4_l2 xs x8 o4_0 x12)
def unpack4_l1_s (xs : List Int) (x8 : Nat) : (Nat → Int) → (Nat → Int) := fun o4_0 => unpack4_l2 xs x8 o4_0 4
def unpack4_l1 (xs : List Int) : Nat → (Nat → Int)
 | 0 => fun _ => 0
 | x8 + 1 => unpack4_l1_s xs x8 (unpack4_l1 xs x8)
def unpack4_v (xs : List Int) : (Nat → Int) := unpack4_l1 xs 256
def unpack4_m (xs : List Int) : (Nat → Int) := shut (unpack4_v xs)
theorem unpack4_e (xs : List Int) : unpack4_m xs = unpack4_v xs := shut_eq _
def c_unpack4 (xs : List Int) : Con := ⟨[vi 4, lb xs], [], .ar .u16 256 (unpack4_m xs), []⟩
theorem unpack4_ok (xs : List Int) (h : 128 ≤ xs.length) : ConOk Try.prog 64 (c_unpack4 xs) := by
 refine conOk_of rfl (nb := 0) Try.func64 rfl rfl Try.ntmps64 rfl rfl rfl fun g0 w0 ac gs ws hg0 hS => ?_
 have hlen1 : xs.length ≤ 9223372036854775807 := hS.len 1 rfl
 have hS := hS.sp
 refine s0 [0, 1, 4] [0] 1 hS fun hS => ?_
 refine wp_seq (s0 [0, 1, 4, 8] [0] 1 hS fun hS => ?_)
 refine wp_block (loop_y (ι := Nat × (Nat → Int)) hg0 hS (fun z_ => match z_ with | (x8, o4_0) => 256 - x8) (fun z_ => match z_ with | (x8, o4_0) => [(0, vi 4), (1, lb xs), (4, .cp 0 0), (8, vi ((x8 : Nat) : Int))]) (fun z_ => match z_ with | (x8, o4_0) => [(0, .ob 60 (chain [.ar .u16 256 o4_0]))]) (fun z_ => match z_ with | (x8, o4_0) => (x8 ≤ 256) ∧ (o4_0 = unpack4_l1 xs x8) ∧ True) 1 (0, fun _ => 0) [(0, 0)] ⟨omm, rfl, trivial⟩ ?_)
 rintro ⟨x8, o4_0⟩ ac gs ws ⟨hx8, hq1, _⟩ hS
 refine s0 [0, 1, 4, 8, 9] [0] 1 hS fun hS => ?_
 refine wp_seq ?_
 refine if_d ((x8 : Int) < 256) hS (fun h1 => ?_) (fun h1 => ?_)
 ·refine wp_skip (then_n (wp_seq (wp_block (s0 [0, 1, 4, 5, 8] [0] 1 hS fun hS => ?_))))
  refine s0 [0, 1, 4, 5, 8, 11, 12] [0] 1 hS fun hS => ?_
  refine wp_block (loop_y (ι := Nat × (Nat → Int)) hg0 hS (fun z_ => match z_ with | (x12, o4_0_2) => 4 - x12) (fun z_ => match z_ with | (x12, o4_0_2) => [(0, vi 4), (1, lb xs), (4, .cp 0 0), (5, vi (x8 : Int)), (8, vi (x8 : Int)), (11, vi 4), (12, vi ((x12 : Nat) : Int))]) (fun z_ => match z_ with | (x12, o4_0_2) => [(0, .ob 60 (chain [.ar .u16 256 o4_0_2]))]) (fun z_ => match z_ with | (x12, o4_0_2) => (x12 ≤ 4) ∧ (o4_0_2 = unpack4_l2 xs x8 o4_0 x12) ∧ True) 1 (0, o4_0) [(0, 0)] ⟨omm, rfl, trivial⟩ ?_)
  rintro ⟨x12, o4_0_2⟩ ac gs ws ⟨hx12, hq2, _⟩ hS
  refine s0 [0, 1, 4, 5, 8, 11, 12, 13] [0] 1 hS fun hS => ?_
  refine wp_seq ?_
  refine if_d ((x12 : Int) < 4) hS (fun h2 => ?_) (fun h2 => ?_)
  ·refine wp_skip (then_n (wp_seq (wp_block (s0 [0, 1, 4, 5, 6, 8, 11, 12] [0] 1 hS fun hS => ?_))))
   refine sA [(2, .oi ((x8 * 4 : Nat) : Int)), (4, .oi (((x8 * 4) + x12 : Nat) : Int))] trivial (fun _ => [imul .i64 (x8 : Int) 4 = ((x8 * 4 : Nat) : Int), iadd .i64 ((x8 * 4 : Nat) : Int) (x12 : Int) = (((x8 * 4) + x12 : Nat) : Int)]) [0, 1, 4, 5, 6, 7, 8, 11, 12] [0] 1 ⟨by rw [imul64 omm omm]; omega, by rw [iadd64 omm omm]; omega, trivial⟩ hS fun hS => ?_
   refine rA [(5, .oi ((((x8 * 4) + x12) / 8 : Nat) : Int)), (9, .oi ((((x8 * 4) + x12) % 8 : Nat) : Int))] trivial (fun _ => [(0 : Int) ≤ (x8 : Int) ∧ ((x8 : Int) : Int) < 256, iquo .i64 (((x8 * 4) + x12 : Nat) : Int) 8 = ((((x8 * 4) + x12) / 8 : Nat) : Int), (8 : Int) ≠ 0, (0 : Int) ≤ ((((x8 * 4) + x12) / 8 : Nat) : Int) ∧ ((((x8 * 4) + x12) / 8 : Nat) : Int) < ((xs.length : Nat) : Int), irem (((x8 * 4) + x12 : Nat) : Int) 8 = ((((x8 * 4) + x12) % 8 : Nat) : Int), (8 : Int) ≠ 0, (0 : Int) ≤ ((((x8 * 4) + x12) % 8 : Nat) : Int), (0 : Int) ≤ (x12 : Int), (0 : Int) ≤ (x8 : Int) ∧ ((x8 : Int) : Int) < 256]) [0, 1, 4, 5, 8, 11, 12] [0] 1 ⟨by omega, by rw [iquo64 omm omm omm]; omega, by omega, by omega, by rw [irem64 omm]; omega, by omega, by omega, by omega, by omega, trivial⟩ hS fun hS => ?_
   refine block_n (then_n (rA [(0, .oi ((x12 + 1 : Nat) : Int))] trivial (fun _ => [iadd .i64 (x12 : Int) 1 = ((x12 + 1 : Nat) : Int)]) [0, 1, 4, 5, 8, 11, 12] [0] 1 ⟨by rw [iadd64 omm omm]; omega, trivial⟩ hS fun hS => ?_))
   refine then_n ?_
   exact next_y hg0 hS (s := (x12, o4_0_2)) (x12 + 1, upd o4_0_2 x8 (ior .u16 (o4_0_2 x8) (ishl .u16 (IntKind.wrap .u16 (iand .u8 (ishr .u8 (xs.getD (((x8 * 4) + x12) / 8) 0) ((((x8 * 4) + x12) % 8 : Nat) : Int)) 1)) (x12 : Int)))) [(0, 0)] (show 4 - (x12 + 1) < 4 - x12 from by omega) ⟨omm, (it_next (F := unpack4_l2 xs x8 o4_0) (st := unpack4_l2_s xs x8 o4_0) (fun _ => rfl) hq2 rfl), trivial⟩
  ·have hScur := hS
   obtain rfl : 4 = x12 := by omega
   obtain rfl : unpack4_l2 xs x8 o4_0 4 = o4_0_2 := Eq.symm (congrArg (fun z => z) hq2)
   have hS := hScur
   clear hScur
   refine wp_exit (then_exit (then_exit (block_exit (block_n (then_n (rA [(0, .oi ((x8 + 1 : Nat) : Int))] trivial (fun _ => [iadd .i64 (x8 : Int) 1 = ((x8 + 1 : Nat) : Int)]) [0, 1, 4, 8] [0] 1 ⟨by rw [iadd64 omm omm]; omega, trivial⟩ hS fun hS => ?_))))))
   refine then_n ?_
   exact next_y hg0 hS (s := (x8, o4_0)) (x8 + 1, unpack4_l2 xs x8 o4_0 4) [(0, 0)] (show 256 - (x8 + 1) < 256 - x8 from by omega) ⟨omm, (it_next (F := unpack4_l1 xs) (st := unpack4_l1_s xs) (fun _ => rfl) hq1 rfl), trivial⟩
 ·have hScur := hS
  obtain rfl : 256 = x8 := by omega
  obtain rfl : unpack4_l1 xs 256 = o4_0 := Eq.symm (congrArg (fun z => z) hq1)
  have hS := hScur
  clear hScur
  refine wp_exit (then_exit (then_exit (block_exit (then_n (s0 [4] [0] 1 hS fun hS => ?_)))))
  refine wp_ret ?_
  have hM : unpack4_m xs = unpack4_l1 xs 256 := unpack4_e xs
  exact fin_y rfl (.inr rfl) hS [.ar .u16 256 (unpack4_l1 xs 256)] [] (by show weak _ (.ar .u16 256 (unpack4_m xs)) = (.ar .u16 256 (unpack4_m xs)); rw [hM]; first | (simp only []; rfl) | (simp only []; done) | rfl) trivial

def encode1_l2_s (f : Nat → Int) (x21 : Nat) (x6 : List Int) (x30 : Nat) : (List Int) → (List Int) := fun x6_2 => x6_2.set ((x21 + x30) / 8) (ior .u8 (x6_2.getD ((x21 + x30) / 8) 0) (ishl .u8 (IntKind.wrap .u8 (iand .u16 (ishr .u16 (f x21) (x30 : Int)) 1)) (((x21 + x30) % 8 : Nat) : Int)))
def encode1_l2 (f : Nat → Int) (x21 : Nat) (x6 : List Int) : Nat → (List Int)
 | 0 => x6
 | x30 + 1 => encode1_l2_s f x21 x6 x30 (encode1_l2 f x21 x6 x30)
def encode1_l1_s (f : Nat → Int) (x21 : Nat) : (List Int) → (List Int) := fun x6 => encode1_l2 f x21 x6 1
def encode1_l1 (f : Nat → Int) : Nat → (List Int)
 | 0 => List.replicate 32 (0 : Int)
 | x21 + 1 => encode1_l1_s f x21 (encode1_l1 f x21)
def encode1_v (f : Nat → Int) : (List Int) := encode1_l1 f 256
def encode1_m (f : Nat → Int) : (List Int) := shut (encode1_v f)
theorem encode1_e (f : Nat → Int) : encode1_m f = encode1_v f := shut_eq _
def c_encode1 (f : Nat → Int) : Con := ⟨[.ar .u16 256 f, vi 1], [], .tu (chain [.sk 0, vi 0]), [(0, .sl 5 [.int .u8] (encode1_m f))]⟩
theorem encode1_ok (f : Nat → Int) : ConOk Try.prog 76 (c_encode1 f) := by
 refine conOk_of rfl (nb := 0) Try.func76 rfl rfl Try.ntmps76 rfl rfl rfl fun g0 w0 ac gs ws hg0 hS => ?_
 have hS := hS.sp
 refine s0 [1, 2, 4, 5] [0] 1 hS fun hS => ?_
 refine wp_seq (s0 [1, 2, 4, 5, 16] [0] 1 hS fun hS => ?_)
 refine cond_f hS ?_
 refine wp_skip (then_n (sA [] trivial (fun _ => [(32 : Int) = 32, (0 : Int) ≤ 32, 1 * 32 ≤ 281474976710656, (32 : Int) ≤ 9223372036854775807]) [1, 2, 4, 5, 6] [0, 1] 2 ⟨rfl, by omega, by omega, by omega, trivial⟩ hS fun hS => ?_))
 refine wp_seq (s0 [1, 4, 5, 6, 20, 21] [1] 2 hS fun hS => ?_)
 refine wp_block (loop_y (ι := Nat × (List Int)) hg0 hS (fun z_ => match z_ with | (x21, x6) => 256 - x21) (fun z_ => match z_ with | (x21, x6) => [(1, vi 1), (4, .v (.slice none 0 0)), (5, vi 0), (6, .sk 1), (20, .ar .u16 256 f), (21, vi ((x21 : Nat) : Int))]) (fun z_ => match z_ with | (x21, x6) => [(1, .sl 5 [.int .u8] x6)]) (fun z_ => match z_ with | (x21, x6) => (x21 ≤ 256) ∧ (x6 = encode1_l1 f x21) ∧ (x6.length = 32) ∧ True) 2 (0, List.replicate 32 (0 : Int)) [(1, 1)] ⟨omm, rfl, (by simp), trivial⟩ ?_)
 rintro ⟨x21, x6⟩ ac gs ws ⟨hx21, hq1, p1, _⟩ hS
 refine s0 [1, 4, 5, 6, 20, 21, 22] [1] 2 hS fun hS => ?_
 refine wp_seq ?_
 refine if_d ((x21 : Int) < 256) hS (fun h1 => ?_) (fun h1 => ?_)
 ·refine wp_skip (then_n (wp_seq (wp_block (sA [] trivial (fun _ => [(0 : Int) ≤ (x21 : Int) ∧ ((x21 : Int) : Int) < 256]) [1, 4, 5, 6, 7, 8, 20, 21] [1] 2 ⟨by omega, trivial⟩ hS fun hS => ?_))))
  refine wp_seq (s0 [1, 4, 5, 6, 7, 8, 20, 21, 26] [1] 2 hS fun hS => ?_)
  refine cond_f hS ?_
  refine wp_skip (then_n (s0 [1, 4, 5, 6, 7, 8, 20, 21, 29, 30] [1] 2 hS fun hS => ?_))
  refine wp_block (loop_y (ι := Nat × (List Int)) hg0 hS (fun z_ => match z_ with | (x30, x6_2) => 1 - x30) (fun z_ => match z_ with | (x30, x6_2) => [(1, vi 1), (4, .v (.slice none 0 0)), (5, vi 0), (6, .sk 1), (7, vi (x21 : Int)), (8, .v (.int .u16 (f x21))), (20, .ar .u16 256 f), (21, vi (x21 : Int)), (29, vi 1), (30, vi ((x30 : Nat) : Int))]) (fun z_ => match z_ with | (x30, x6_2) => [(1, .sl 5 [.int .u8] x6_2)]) (fun z_ => match z_ with | (x30, x6_2) => (x30 ≤ 1) ∧ (x6_2 = encode1_l2 f x21 x6 x30) ∧ (x6_2.length = 32) ∧ True) 2 (0, x6) [(1, 1)] ⟨omm, rfl, p1, trivial⟩ ?_)
  rintro ⟨x30, x6_2⟩ ac gs ws ⟨hx30, hq2, p2, _⟩ hS
  refine s0 [1, 4, 5, 6, 7, 8, 20, 21, 29, 30, 31] [1] 2 hS fun hS => ?_
  refine wp_seq ?_
  refine if_d ((x30 : Int) < 1) hS (fun h2 => ?_) (fun h2 => ?_)
  ·refine wp_skip (then_n (wp_seq (wp_block (s0 [1, 4, 5, 6, 7, 8, 9, 20, 21, 29, 30] [1] 2 hS fun hS => ?_))))
   refine sA [(2, .oi (x21 : Int)), (4, .oi ((x21 + x30 : Nat) : Int))] trivial (fun _ => [imul .i64 (x21 : Int) 1 = (x21 : Int), iadd .i64 (x21 : Int) (x30 : Int) = ((x21 + x30 : Nat) : Int)]) [1, 4, 5, 6, 7, 8, 9, 10, 20, 21, 29, 30] [1] 2 ⟨by rw [imul64 omm omm]; omega, by rw [iadd64 omm omm]; omega, trivial⟩ hS fun hS => ?_
   refine rA [(2, .oi (((x21 + x30) / 8 : Nat) : Int)), (11, .oi (((x21 + x30) % 8 : Nat) : Int))] trivial (fun _ => [iquo .i64 ((x21 + x30 : Nat) : Int) 8 = (((x21 + x30) / 8 : Nat) : Int), (8 : Int) ≠ 0, (0 : Int) ≤ (((x21 + x30) / 8 : Nat) : Int) ∧ (((x21 + x30) / 8 : Nat) : Int) < ((x6_2.length : Nat) : Int), (0 : Int) ≤ (x30 : Int), irem ((x21 + x30 : Nat) : Int) 8 = (((x21 + x30) % 8 : Nat) : Int), (8 : Int) ≠ 0, (0 : Int) ≤ (((x21 + x30) % 8 : Nat) : Int), (0 : Int) ≤ (((x21 + x30) / 8 : Nat) : Int) ∧ (((x21 + x30) / 8 : Nat) : Int) < ((x6_2.length : Nat) : Int)]) [1, 4, 5, 6, 7, 8, 20, 21, 29, 30] [1] 2 ⟨by rw [iquo64 omm omm omm]; omega, by omega, by omega, by omega, by rw [irem64 omm]; omega, by omega, by omega, by omega, trivial⟩ hS fun hS => ?_
   refine block_n (then_n (rA [(0, .oi ((x30 + 1 : Nat) : Int))] trivial (fun _ => [iadd .i64 (x30 : Int) 1 = ((x30 + 1 : Nat) : Int)]) [1, 4, 5, 6, 7, 8, 20, 21, 29, 30] [1] 2 ⟨by rw [iadd64 omm omm]; omega, trivial⟩ hS fun hS => ?_))
   refine then_n ?_
   exact next_y hg0 hS (s := (x30, x6_2)) (x30 + 1, x6_2.set ((x21 + x30) / 8) (ior .u8 (x6_2.getD ((x21 + x30) / 8) 0) (ishl .u8 (IntKind.wrap .u8 (iand .u16 (ishr .u16 (f x21) (x30 : Int)) 1)) (((x21 + x30) % 8 : Nat) : Int)))) [(1, 1)] (show 1 - (x30 + 1) < 1 - x30 from by omega) ⟨omm, (it_next (F := encode1_l2 f x21 x6) (st := encode1_l2_s f x21 x6) (fun _ => rfl) hq2 rfl), (by simpa using p2), trivial⟩
  ·have hScur := hS
   obtain rfl : 1 = x30 := by omega
   obtain rfl : encode1_l2 f x21 x6 1 = x6_2 := Eq.symm (congrArg (fun z => z) hq2)
   have hS := hScur
   clear hScur
   refine wp_exit (then_exit (then_exit (block_exit (block_n (then_n (rA [(0, .oi ((x21 + 1 : Nat) : Int))] trivial (fun _ => [iadd .i64 (x21 : Int) 1 = ((x21 + 1 : Nat) : Int)]) [1, 4, 5, 6, 20, 21] [1] 2 ⟨by rw [iadd64 omm omm]; omega, trivial⟩ hS fun hS => ?_))))))
   refine then_n ?_
   exact next_y hg0 hS (s := (x21, x6)) (x21 + 1, encode1_l2 f x21 x6 1) [(1, 1)] (show 256 - (x21 + 1) < 256 - x21 from by omega) ⟨omm, (it_next (F := encode1_l1 f) (st := encode1_l1_s f) (fun _ => rfl) hq1 rfl), p2, trivial⟩
 ·have hScur := hS
  obtain rfl : 256 = x21 := by omega
  obtain rfl : encode1_l1 f 256 = x6 := Eq.symm (congrArg (fun z => z) hq1)
  have hS := hScur
  clear hScur
  refine wp_exit (then_exit (then_exit (block_exit (then_n (s0 [4, 5] [1] 2 hS fun hS => ?_)))))
  refine wp_ret ?_
  have hM : encode1_m f = encode1_l1 f 256 := encode1_e f
  obtain ⟨gs, hS⟩ := hS.rn [(0, 1)] [(4, .sk 0), (5, vi 0)] [(0, .sl 5 [.int .u8] (encode1_l1 f 256))] 1 hg0
  exact fin_y rfl (.inr rfl) hS [.sk 0, vi 0] [(0, some (.sl 5 [.int .u8] (encode1_l1 f 256)))] rfl (by show H1Ok _ [(0, .sl 5 [.int .u8] (encode1_m f))] true; rw [hM]; first | (simp only []; exact ⟨rfl, trivial⟩) | exact ⟨rfl, trivial⟩)

def unpack1_l2_s (xs : List Int) (x8 : Nat) (o4_0 : Nat → Int) (x12 : Nat) : (Nat → Int) → (Nat → Int) := fun o4_0_2 => upd o4_0_2 x8 (ior .u16 (o4_0_2 x8) (ishl .u16 (IntKind.wrap .u16 (iand .u8 (ishr .u8 (xs.getD ((x8 + x12) / 8) 0) (((x8 + x12) % 8 : Nat) : Int)) 1)) (x12 : Int)))
def unpack1_l2 (xs : List Int) (x8 : Nat) (o4_0 : Nat → Int) : Nat → (Nat → Int)
 | 0 => o4_0
 | x12 + 1 => unpack1_l2_s xs x8 o4_0 x12 (unpack1_l2 xs x8 o4_0 x12)
def unpack1_l1_s (xs : List Int) (x8 : Nat) : (Nat → Int) → (Nat → Int) := fun o4_0 => unpack1_l2 xs x8 o4_0 1
def unpack1_l1 (xs : List Int) : Nat → (Nat → Int)
 | 0 => fun _ => 0
 | x8 + 1 => unpack1_l1_s xs x8 (unpack1_l1 xs x8)
def unpack1_v (xs : List Int) : (Nat → Int) := unpack1_l1 xs 256
def unpack1_m (xs : List Int) : (Nat → Int) := shut (unpack1_v xs)
theorem unpack1_e (xs : List Int) : unpack1_m xs = unpack1_v xs := shut_eq _
def c_unpack1 (xs : List Int) : Con := ⟨[vi 1, lb xs], [], .ar .u16 256 (unpack1_m xs), []⟩
theorem unpack1_ok (xs : List Int) (h : 32 ≤ xs.length) : ConOk Try.prog 64 (c_unpack1 xs) := by
 refine conOk_of rfl (nb := 0) Try.func64 rfl rfl Try.ntmps64 rfl rfl rfl fun g0 w0 ac gs ws hg0 hS => ?_
 have hlen1 : xs.length ≤ 9223372036854775807 := hS.len 1 rfl
 have hS := hS.sp
 refine s0 [0, 1, 4] [0] 1 hS fun hS => ?_
 refine wp_seq (s0 [0, 1, 4, 8] [0] 1 hS fun hS => ?_)
 refine wp_block (loop_y (ι := Nat × (Nat → Int)) hg0 hS (fun z_ => match z_ with | (x8, o4_0) => 256 - x8) (fun z_ => match z_ with | (x8, o4_0) => [(0, vi 1), (1, lb xs), (4, .cp 0 0), (8, vi ((x8 : Nat) : Int))]) (fun z_ => match z_ with | (x8, o4_0) => [(0, .ob 60 (chain [.ar .u16 256 o4_0]))]) (fun z_ => match z_ with | (x8, o4_0) => (x8 ≤ 256) ∧ (o4_0 = unpack1_l1 xs x8) ∧ True) 1 (0, fun _ => 0) [(0, 0)] ⟨omm, rfl, trivial⟩ ?_)
 rintro ⟨x8, o4_0⟩ ac gs ws ⟨hx8, hq1, _⟩ hS
 refine s0 [0, 1, 4, 8, 9] [0] 1 hS fun hS => ?_
 refine wp_seq ?_
 refine if_d ((x8 : Int) < 256) hS (fun h1 => ?_) (fun h1 => ?_)
 ·refine wp_skip (then_n (wp_seq (wp_block (s0 [0, 1, 4, 5, 8] [0] 1 hS fun hS => ?_))))
  refine s0 [0, 1, 4, 5, 8, 11, 12] [0] 1 hS fun hS => ?_
  refine wp_block (loop_y (ι := Nat × (Nat → Int)) hg0 hS (fun z_ => match z_ with | (x12, o4_0_2) => 1 - x12) (fun z_ => match z_ with | (x12, o4_0_2) => [(0, vi 1), (1, lb xs), (4, .cp 0 0), (5, vi (x8 : Int)), (8, vi (x8 : Int)), (11, vi 1), (12, vi ((x12 : Nat) : Int))]) (fun z_ => match z_ with | (x12, o4_0_2) => [(0, .ob 60 (chain [.ar .u16 256 o4_0_2]))]) (fun z_ => match z_ with | (x12, o4_0_2) => (x12 ≤ 1) ∧ (o4_0_2 = unpack1_l2 xs x8 o4_0 x12) ∧ True) 1 (0, o4_0) [(0, 0)] ⟨omm, rfl, trivial⟩ ?_)
  rintro ⟨x12, o4_0_2⟩ ac gs ws ⟨hx12, hq2, _⟩ hS
  refine s0 [0, 1, 4, 5, 8, 11, 12, 13] [0] 1 hS fun hS => ?_
  refine wp_seq ?_
  refine if_d ((x12 : Int) < 1) hS (fun h2 => ?_) (fun h2 => ?_)
  ·refine wp_skip (then_n (wp_seq (wp_block (s0 [0, 1, 4, 5, 6, 8, 11, 12] [0] 1 hS fun hS => ?_))))
   refine sA [(2, .oi (x8 : Int)), (4, .oi ((x8 + x12 : Nat) : Int))] trivial (fun _ => [imul .i64 (x8 : Int) 1 = (x8 : Int), iadd .i64 (x8 : Int) (x12 : Int) = ((x8 + x12 : Nat) : Int)]) [0, 1, 4, 5, 6, 7, 8, 11, 12] [0] 1 ⟨by rw [imul64 omm omm]; omega, by rw [iadd64 omm omm]; omega, trivial⟩ hS fun hS => ?_
   refine rA [(5, .oi (((x8 + x12) / 8 : Nat) : Int)), (9, .oi (((x8 + x12) % 8 : Nat) : Int))] trivial (fun _ => [(0 : Int) ≤ (x8 : Int) ∧ ((x8 : Int) : Int) < 256, iquo .i64 ((x8 + x12 : Nat) : Int) 8 = (((x8 + x12) / 8 : Nat) : Int), (8 : Int) ≠ 0, (0 : Int) ≤ (((x8 + x12) / 8 : Nat) : Int) ∧ (((x8 + x12) / 8 : Nat) : Int) < ((xs.length : Nat) : Int), irem ((x8 + x12 : Nat) : Int) 8 = (((x8 + x12) % 8 : Nat) : Int), (8 : Int) ≠ 0, (0 : Int) ≤ (((x8 + x12) % 8 : Nat) : Int), (0 : Int) ≤ (x12 : Int), (0 : Int) ≤ (x8 : Int) ∧ ((x8 : Int) : Int) < 256]) [0, 1, 4, 5, 8, 11, 12] [0] 1 ⟨by omega, by rw [iquo64 omm omm omm]; omega, by omega, by omega, by rw [irem64 omm]; omega, by omega, by omega, by omega, by omega, trivial⟩ hS fun hS => ?_
   refine block_n (then_n (rA [(0, .oi ((x12 + 1 : Nat) : Int))] trivial (fun _ => [iadd .i64 (x12 : Int) 1 = ((x12 + 1 : Nat) : Int)]) [0, 1, 4, 5, 8, 11, 12] [0] 1 ⟨by rw [iadd64 omm omm]; omega, trivial⟩ hS fun hS => ?_))
   refine then_n ?_
   exact next_y hg0 hS (s := (x12, o4_0_2)) (x12 + 1, upd o4_0_2 x8 (ior .u16 (o4_0_2 x8) (ishl .u16 (IntKind.wrap .u16 (iand .u8 (ishr .u8 (xs.getD ((x8 + x12) / 8) 0) (((x8 + x12) % 8 : Nat) : Int)) 1)) (x12 : Int)))) [(0, 0)] (show 1 - (x12 + 1) < 1 - x12 from by omega) ⟨omm, (it_next (F := unpack1_l2 xs x8 o4_0) (st := unpack1_l2_s xs x8 o4_0) (fun _ => rfl) hq2 rfl), trivial⟩
  ·have hScur := hS
   obtain rfl : 1 = x12 := by omega
   obtain rfl : unpack1_l2 xs x8 o4_0 1 = o4_0_2 := Eq.symm (congrArg (fun z => z) hq2)
   have hS := hScur
   clear hScur
   refine wp_exit (then_exit (then_exit (block_exit (block_n (then_n (rA [(0, .oi ((x8 + 1 : Nat) : Int))] trivial (fun _ => [iadd .i64 (x8 : Int) 1 = ((x8 + 1 : Nat) : Int)]) [0, 1, 4, 8] [0] 1 ⟨by rw [iadd64 omm omm]; omega, trivial⟩ hS fun hS => ?_))))))
   refine then_n ?_
   exact next_y hg0 hS (s := (x8, o4_0)) (x8 + 1, unpack1_l2 xs x8 o4_0 1) [(0, 0)] (show 256 - (x8 + 1) < 256 - x8 from by omega) ⟨omm, (it_next (F := unpack1_l1 xs) (st := unpack1_l1_s xs) (fun _ => rfl) hq1 rfl), trivial⟩
 ·have hScur := hS
  obtain rfl : 256 = x8 := by omega
  obtain rfl : unpack1_l1 xs 256 = o4_0 := Eq.symm (congrArg (fun z => z) hq1)
  have hS := hScur
  clear hScur
  refine wp_exit (then_exit (then_exit (block_exit (then_n (s0 [4] [0] 1 hS fun hS => ?_)))))
  refine wp_ret ?_
  have hM : unpack1_m xs = unpack1_l1 xs 256 := unpack1_e xs
  exact fin_y rfl (.inr rfl) hS [.ar .u16 256 (unpack1_l1 xs 256)] [] (by show weak _ (.ar .u16 256 (unpack1_m xs)) = (.ar .u16 256 (unpack1_m xs)); rw [hM]; first | (simp only []; rfl) | (simp only []; done) | rfl) trivial

def mayB (f : Nat → Int) : Bool := (List.range 256).all fun i => decide (f i < 3329)
theorem may_no {f : Nat → Int} {i : Nat} (hi : i < 256) (h : (3329 : Int) ≤ f i) : mayB f = false := by
 cases hb : mayB f with
 | false => rfl
 | true =>
  have := List.all_eq_true.1 hb i (List.mem_range.2 hi)
  simp only [decide_eq_true_iff] at this
  omega
theorem may_yes {f : Nat → Int} (h : ∀ i, i < 256 → f i < 3329) : mayB f = true := by
 unfold mayB
 rw [List.all_eq_true]
 intro i hi
 rw [decide_eq_true_iff]
 exact h i (List.mem_range.1 hi)
def c_may (f : Nat → Int) : Con := ⟨[.ar .u16 256 f], [], .v (.bool (mayB f)), []⟩
theorem may_ok (f : Nat → Int) : ConOk Try.prog 34 (c_may f) := by
 refine conOk_of rfl (nb := 0) Try.func34 rfl rfl Try.ntmps34 rfl rfl rfl fun g0 w0 ac gs ws hg0 hS => ?_
 have hS := hS.sp
 refine s0 [1, 2] [0] 1 hS fun hS => ?_
 refine wp_seq (s0 [2, 5, 6] [] 1 hS fun hS => ?_)
 refine wp_block (loop_y (ι := Nat) hg0 hS (fun i => 256 - i) (fun i => [(5, .ar .u16 256 f), (6, vi ((i : Nat) : Int))]) (fun i => []) (fun i => (i ≤ 256) ∧ (∀ j, j < i → f j < 3329) ∧ True) 0 0 [] ⟨omm, (fun j h => absurd h (Nat.not_lt_zero j)), trivial⟩ ?_)
 rintro i ac gs ws ⟨hi, pm, _⟩ hS
 refine s0 [5, 6, 7] [] 0 hS fun hS => ?_
 refine wp_seq ?_
 refine if_d ((i : Int) < 256) hS (fun h1 => ?_) (fun h1 => ?_)
 ·refine wp_skip (then_n (wp_seq (wp_block (sA [] trivial (fun _ => [(0 : Int) ≤ (i : Int) ∧ ((i : Int) : Int) < 256]) [4, 5, 6] [] 0 ⟨by omega, trivial⟩ hS fun hS => ?_))))
  refine s0 [5, 6, 10] [] 0 hS fun hS => ?_
  refine if_d ((3329 : Int) ≤ (f i)) hS (fun h2 => ?_) (fun h2 => ?_)
  ·refine s0 [2, 5, 6] [] 0 hS fun hS => ?_
   refine wp_ret (block_ret (then_ret (then_ret (block_ret (then_ret ?_)))))
   exact fin_y rfl (.inr rfl) hS [.v (.bool false)] [] (by show weak _ (.v (.bool (mayB f))) = .v (.bool (mayB f)); rw [may_no omm h2]; rfl) trivial
  ·refine wp_skip (block_n (then_n (rA [(0, .oi ((i + 1 : Nat) : Int))] trivial (fun _ => [iadd .i64 (i : Int) 1 = ((i + 1 : Nat) : Int)]) [5, 6] [] 0 ⟨by rw [iadd64 omm omm]; omega, trivial⟩ hS fun hS => ?_)))
   refine then_n ?_
   exact next_y hg0 hS (s := (i)) (i + 1) [] (show 256 - (i + 1) < 256 - i from by omega) ⟨omm, (lst_next pm omm), trivial⟩
 ·have hScur := hS
  obtain rfl : 256 = i := by omega
  have hS := hScur
  clear hScur
  refine wp_exit (then_exit (then_exit (block_exit (then_n (s0 [2] [] 0 hS fun hS => ?_)))))
  refine wp_ret ?_
  exact fin_y rfl (.inr rfl) hS [.v (.bool true)] [] (by show weak _ (.v (.bool (mayB f))) = .v (.bool (mayB f)); rw [may_yes pm]; rfl) trivial

end
end Go.Sx.Try
namespace Go.Sx.Try
open Go.Mi Go.RowKit Go.Sx Go.Proofs
noncomputable section
def sum256_v (l : List (List Int)) : (List Int) := (rdA 136 (spg 136 6 l) 0 32).2.2
def sum256_m (l : List (List Int)) : (List Int) := shut (sum256_v l)
theorem sum256_e (l : List (List Int)) : sum256_m l = sum256_v l := shut_eq _
@[simp] theorem sum256_len (l : List (List Int)) : (sum256_m l).length = 32 := by rw [sum256_e]; exact rd_len ..
def c_sum256 (l : List (List Int)) : Con := ⟨[.ls false [.sl (.int .u8)] l], [], lb (sum256_m l), []⟩
theorem sum256_ok (l : List (List Int)) (h : l.flatten.length ≤ 140000000000000) : ConOk Try.prog 37 (c_sum256 l) := by
 refine conOk_of rfl (nb := 0) Try.func37 rfl rfl Try.ntmps37 rfl rfl rfl fun g0 w0 ac gs ws hg0 hS => ?_
 have hlen0 : l.length ≤ 9223372036854775807 := hS.len 0 rfl
 have hS := hS.sp
 refine s0 [0, 2] [] 0 hS fun hS => ?_
 refine sA [(1, .call ⟨67, (c_soaked 136 6 l), [], [(0, 0)]⟩), (2, .call ⟨68, (c_read 136 (spg 136 6 l) 0 32), [(0, 0)], []⟩)] ⟨soaked_ok _ _ _ omm omm (by first | omega | (simp only [List.flatten_cons, List.flatten_nil, List.length_append, List.length_cons, List.length_nil, List.length_take, List.length_drop, List.length_replicate] <;> omega) | (simp <;> omega)), read_ok _ _ _ _ omm omm omm omm, trivial⟩ (fun C => [ndC C 1, ndC C 2]) [2] [] 1 ⟨rfl, rfl, trivial⟩ hS fun hS => ?_
 refine wp_ret ?_
 have hM : sum256_m l = (rdA 136 (spg 136 6 l) 0 32).2.2 := sum256_e l
 exact fin_y rfl (.inr rfl) hS [lb ((rdA 136 (spg 136 6 l) 0 32).2.2)] [] (by show weak _ (lb (sum256_m l)) = (lb (sum256_m l)); rw [hM]; first | (simp only []; rfl) | (simp only []; done) | rfl) trivial

def sum512_v (l : List (List Int)) : (List Int) := (rdA 72 (spg 72 6 l) 0 64).2.2
def sum512_m (l : List (List Int)) : (List Int) := shut (sum512_v l)
theorem sum512_e (l : List (List Int)) : sum512_m l = sum512_v l := shut_eq _
@[simp] theorem sum512_len (l : List (List Int)) : (sum512_m l).length = 64 := by rw [sum512_e]; exact rd_len ..
def c_sum512 (l : List (List Int)) : Con := ⟨[.ls false [.sl (.int .u8)] l], [], lb (sum512_m l), []⟩
theorem sum512_ok (l : List (List Int)) (h : l.flatten.length ≤ 140000000000000) : ConOk Try.prog 38 (c_sum512 l) := by
 refine conOk_of rfl (nb := 0) Try.func38 rfl rfl Try.ntmps38 rfl rfl rfl fun g0 w0 ac gs ws hg0 hS => ?_
 have hlen0 : l.length ≤ 9223372036854775807 := hS.len 0 rfl
 have hS := hS.sp
 refine s0 [0, 2] [] 0 hS fun hS => ?_
 refine sA [(1, .call ⟨67, (c_soaked 72 6 l), [], [(0, 0)]⟩), (2, .call ⟨68, (c_read 72 (spg 72 6 l) 0 64), [(0, 0)], []⟩)] ⟨soaked_ok _ _ _ omm omm (by first | omega | (simp only [List.flatten_cons, List.flatten_nil, List.length_append, List.length_cons, List.length_nil, List.length_take, List.length_drop, List.length_replicate] <;> omega) | (simp <;> omega)), read_ok _ _ _ _ omm omm omm omm, trivial⟩ (fun C => [ndC C 1, ndC C 2]) [2] [] 1 ⟨rfl, rfl, trivial⟩ hS fun hS => ?_
 refine wp_ret ?_
 have hM : sum512_m l = (rdA 72 (spg 72 6 l) 0 64).2.2 := sum512_e l
 exact fin_y rfl (.inr rfl) hS [lb ((rdA 72 (spg 72 6 l) 0 64).2.2)] [] (by show weak _ (lb (sum512_m l)) = (lb (sum512_m l)); rw [hM]; first | (simp only []; rfl) | (simp only []; done) | rfl) trivial

def shake128_v (l : List (List Int)) : (List Int) := (rdA 136 (spg 136 31 l) 0 128).2.2
def shake128_m (l : List (List Int)) : (List Int) := shut (shake128_v l)
theorem shake128_e (l : List (List Int)) : shake128_m l = shake128_v l := shut_eq _
@[simp] theorem shake128_len (l : List (List Int)) : (shake128_m l).length = 128 := by rw [shake128_e]; exact rd_len ..
def c_shake128 (l : List (List Int)) : Con := ⟨[vi 128, .ls false [.sl (.int .u8)] l], [], lb (shake128_m l), []⟩
theorem shake128_ok (l : List (List Int)) (h : l.flatten.length ≤ 140000000000000) : ConOk Try.prog 98 (c_shake128 l) := by
 refine conOk_of rfl (nb := 0) Try.func98 rfl rfl Try.ntmps98 rfl rfl rfl fun g0 w0 ac gs ws hg0 hS => ?_
 have hlen1 : l.length ≤ 9223372036854775807 := hS.len 1 rfl
 have hS := hS.sp
 refine s0 [0, 1, 4] [] 0 hS fun hS => ?_
 refine sA [(1, .call ⟨67, (c_soaked 136 31 l), [], [(0, 0)]⟩), (4, .call ⟨68, (c_read 136 (spg 136 31 l) 0 128), [(0, 0)], []⟩)] ⟨soaked_ok _ _ _ omm omm (by first | omega | (simp only [List.flatten_cons, List.flatten_nil, List.length_append, List.length_cons, List.length_nil, List.length_take, List.length_drop, List.length_replicate] <;> omega) | (simp <;> omega)), read_ok _ _ _ _ omm omm omm omm, trivial⟩ (fun C => [ndC C 1, ndC C 4]) [4] [] 1 ⟨rfl, rfl, trivial⟩ hS fun hS => ?_
 refine wp_ret ?_
 have hM : shake128_m l = (rdA 136 (spg 136 31 l) 0 128).2.2 := shake128_e l
 exact fin_y rfl (.inr rfl) hS [lb ((rdA 136 (spg 136 31 l) 0 128).2.2)] [] (by show weak _ (lb (shake128_m l)) = (lb (shake128_m l)); rw [hM]; first | (simp only []; rfl) | (simp only []; done) | rfl) trivial

def shake32_v (l : List (List Int)) : (List Int) := (rdA 136 (spg 136 31 l) 0 32).2.2
def shake32_m (l : List (List Int)) : (List Int) := shut (shake32_v l)
theorem shake32_e (l : List (List Int)) : shake32_m l = shake32_v l := shut_eq _
@[simp] theorem shake32_len (l : List (List Int)) : (shake32_m l).length = 32 := by rw [shake32_e]; exact rd_len ..
def c_shake32 (l : List (List Int)) : Con := ⟨[vi 32, .ls false [.sl (.int .u8)] l], [], lb (shake32_m l), []⟩
theorem shake32_ok (l : List (List Int)) (h : l.flatten.length ≤ 140000000000000) : ConOk Try.prog 98 (c_shake32 l) := by
 refine conOk_of rfl (nb := 0) Try.func98 rfl rfl Try.ntmps98 rfl rfl rfl fun g0 w0 ac gs ws hg0 hS => ?_
 have hlen1 : l.length ≤ 9223372036854775807 := hS.len 1 rfl
 have hS := hS.sp
 refine s0 [0, 1, 4] [] 0 hS fun hS => ?_
 refine sA [(1, .call ⟨67, (c_soaked 136 31 l), [], [(0, 0)]⟩), (4, .call ⟨68, (c_read 136 (spg 136 31 l) 0 32), [(0, 0)], []⟩)] ⟨soaked_ok _ _ _ omm omm (by first | omega | (simp only [List.flatten_cons, List.flatten_nil, List.length_append, List.length_cons, List.length_nil, List.length_take, List.length_drop, List.length_replicate] <;> omega) | (simp <;> omega)), read_ok _ _ _ _ omm omm omm omm, trivial⟩ (fun C => [ndC C 1, ndC C 4]) [4] [] 1 ⟨rfl, rfl, trivial⟩ hS fun hS => ?_
 refine wp_ret ?_
 have hM : shake32_m l = (rdA 136 (spg 136 31 l) 0 32).2.2 := shake32_e l
 exact fin_y rfl (.inr rfl) hS [lb ((rdA 136 (spg 136 31 l) 0 32).2.2)] [] (by show weak _ (lb (shake32_m l)) = (lb (shake32_m l)); rw [hM]; first | (simp only []; rfl) | (simp only []; done) | rfl) trivial

def noise_l1_s (sd : List Int) (k : Int) (x13 : Nat) : (Nat → Int) → (Nat → Int) := fun o4_0 => upd o4_0 x13 (mod_m (isub .u32 (isub .u32 (iadd .u32 (iadd .u32 (iand .u32 (ishr .u32 (IntKind.wrap .u32 ((shake128_m [sd, [k]]).getD (x13 / 2) 0)) (((x13 % 2) * 4 : Nat) : Int)) 1) (iand .u32 (ishr .u32 (ishr .u32 (IntKind.wrap .u32 ((shake128_m [sd, [k]]).getD (x13 / 2) 0)) (((x13 % 2) * 4 : Nat) : Int)) 1) 1)) 3329) (iand .u32 (ishr .u32 (ishr .u32 (IntKind.wrap .u32 ((shake128_m [sd, [k]]).getD (x13 / 2) 0)) (((x13 % 2) * 4 : Nat) : Int)) 2) 1)) (iand .u32 (ishr .u32 (ishr .u32 (IntKind.wrap .u32 ((shake128_m [sd, [k]]).getD (x13 / 2) 0)) (((x13 % 2) * 4 : Nat) : Int)) 3) 1)))
def noise_l1 (sd : List Int) (k : Int) : Nat → (Nat → Int)
 | 0 => fun _ => 0
 | x13 + 1 => noise_l1_s sd k x13 (noise_l1 sd k x13)
def noise_v (sd : List Int) (k : Int) : (Nat → Int) := noise_l1 sd k 256
def noise_m (sd : List Int) (k : Int) : (Nat → Int) := shut (noise_v sd k)
theorem noise_e (sd : List Int) (k : Int) : noise_m sd k = noise_v sd k := shut_eq _
def c_noise (sd : List Int) (k : Int) : Con := ⟨[lb sd, .v (.int .u8 k)], [], .ar .u16 256 (noise_m sd k), []⟩
theorem noise_ok (sd : List Int) (k : Int) (h : sd.length ≤ 100000000000000) : ConOk Try.prog 69 (c_noise sd k) := by
 refine conOk_of rfl (nb := 0) Try.func69 rfl rfl Try.ntmps69 rfl rfl rfl fun g0 w0 ac gs ws hg0 hS => ?_
 have hlen0 : sd.length ≤ 9223372036854775807 := hS.len 0 rfl
 have hS := hS.sp
 refine s0 [0, 1, 4] [0] 1 hS fun hS => ?_
 refine wp_seq (rA [(4, .call ⟨98, (c_shake128 [sd, [k]]), [], []⟩)] ⟨shake128_ok _ (by first | omega | (simp only [List.flatten_cons, List.flatten_nil, List.length_append, List.length_cons, List.length_nil, List.length_take, List.length_drop, List.length_replicate] <;> omega) | (simp <;> omega)), trivial⟩ (fun C => [ndC C 4]) [4, 5] [0] 1 ⟨rfl, trivial⟩ hS fun hS => ?_)
 have hl := shake128_len [sd, [k]]
 refine then_n (wp_seq (s0 [4, 5, 13] [0] 1 hS fun hS => ?_))
 refine wp_block (loop_y (ι := Nat × (Nat → Int)) hg0 hS (fun z_ => match z_ with | (x13, o4_0) => 256 - x13) (fun z_ => match z_ with | (x13, o4_0) => [(4, .cp 0 0), (5, lb (shake128_m [sd, [k]])), (13, vi ((x13 : Nat) : Int))]) (fun z_ => match z_ with | (x13, o4_0) => [(0, .ob 60 (chain [.ar .u16 256 o4_0]))]) (fun z_ => match z_ with | (x13, o4_0) => (x13 ≤ 256) ∧ (o4_0 = noise_l1 sd k x13) ∧ True) 1 (0, fun _ => 0) [(0, 0)] ⟨omm, rfl, trivial⟩ ?_)
 rintro ⟨x13, o4_0⟩ ac gs ws ⟨hx13, hq1, _⟩ hS
 refine s0 [4, 5, 13, 14] [0] 1 hS fun hS => ?_
 refine wp_seq ?_
 refine if_d ((x13 : Int) < 256) hS (fun h1 => ?_) (fun h1 => ?_)
 ·refine wp_skip (then_n (wp_seq (wp_block (s0 [4, 5, 6, 13] [0] 1 hS fun hS => ?_))))
  refine sA [(2, .oi ((x13 / 2 : Nat) : Int)), (7, .oi ((x13 % 2 : Nat) : Int)), (8, .oi (((x13 % 2) * 4 : Nat) : Int))] trivial (fun _ => [iquo .i64 (x13 : Int) 2 = ((x13 / 2 : Nat) : Int), (2 : Int) ≠ 0, (0 : Int) ≤ ((x13 / 2 : Nat) : Int) ∧ ((x13 / 2 : Nat) : Int) < (((shake128_m [sd, [k]]).length : Nat) : Int), irem (x13 : Int) 2 = ((x13 % 2 : Nat) : Int), (2 : Int) ≠ 0, imul .i64 ((x13 % 2 : Nat) : Int) 4 = (((x13 % 2) * 4 : Nat) : Int), (0 : Int) ≤ (((x13 % 2) * 4 : Nat) : Int)]) [4, 5, 6, 7, 13] [0] 1 ⟨by rw [iquo64 omm omm omm]; omega, by omega, by omega, by rw [irem64 omm]; omega, by omega, by rw [imul64 omm omm]; omega, by omega, trivial⟩ hS fun hS => ?_
  refine rA [(16, .call ⟨71, (c_mod (isub .u32 (isub .u32 (iadd .u32 (iadd .u32 (iand .u32 (ishr .u32 (IntKind.wrap .u32 ((shake128_m [sd, [k]]).getD (x13 / 2) 0)) (((x13 % 2) * 4 : Nat) : Int)) 1) (iand .u32 (ishr .u32 (ishr .u32 (IntKind.wrap .u32 ((shake128_m [sd, [k]]).getD (x13 / 2) 0)) (((x13 % 2) * 4 : Nat) : Int)) 1) 1)) 3329) (iand .u32 (ishr .u32 (ishr .u32 (IntKind.wrap .u32 ((shake128_m [sd, [k]]).getD (x13 / 2) 0)) (((x13 % 2) * 4 : Nat) : Int)) 2) 1)) (iand .u32 (ishr .u32 (ishr .u32 (IntKind.wrap .u32 ((shake128_m [sd, [k]]).getD (x13 / 2) 0)) (((x13 % 2) * 4 : Nat) : Int)) 3) 1))), [], []⟩)] ⟨mod_ok _, trivial⟩ (fun C => [(0 : Int) ≤ 1, (0 : Int) ≤ 2, (0 : Int) ≤ 3, ndC C 16, (0 : Int) ≤ (x13 : Int) ∧ ((x13 : Int) : Int) < 256]) [4, 5, 13] [0] 1 ⟨by omega, by omega, by omega, rfl, by omega, trivial⟩ hS fun hS => ?_
  refine block_n (then_n (rA [(0, .oi ((x13 + 1 : Nat) : Int))] trivial (fun _ => [iadd .i64 (x13 : Int) 1 = ((x13 + 1 : Nat) : Int)]) [4, 5, 13] [0] 1 ⟨by rw [iadd64 omm omm]; omega, trivial⟩ hS fun hS => ?_))
  refine then_n ?_
  exact next_y hg0 hS (s := (x13, o4_0)) (x13 + 1, upd o4_0 x13 (mod_m (isub .u32 (isub .u32 (iadd .u32 (iadd .u32 (iand .u32 (ishr .u32 (IntKind.wrap .u32 ((shake128_m [sd, [k]]).getD (x13 / 2) 0)) (((x13 % 2) * 4 : Nat) : Int)) 1) (iand .u32 (ishr .u32 (ishr .u32 (IntKind.wrap .u32 ((shake128_m [sd, [k]]).getD (x13 / 2) 0)) (((x13 % 2) * 4 : Nat) : Int)) 1) 1)) 3329) (iand .u32 (ishr .u32 (ishr .u32 (IntKind.wrap .u32 ((shake128_m [sd, [k]]).getD (x13 / 2) 0)) (((x13 % 2) * 4 : Nat) : Int)) 2) 1)) (iand .u32 (ishr .u32 (ishr .u32 (IntKind.wrap .u32 ((shake128_m [sd, [k]]).getD (x13 / 2) 0)) (((x13 % 2) * 4 : Nat) : Int)) 3) 1)))) [(0, 0)] (show 256 - (x13 + 1) < 256 - x13 from by omega) ⟨omm, (it_next (F := noise_l1 sd k) (st := noise_l1_s sd k) (fun _ => rfl) hq1 rfl), trivial⟩
 ·have hScur := hS
  obtain rfl : 256 = x13 := by omega
  obtain rfl : noise_l1 sd k 256 = o4_0 := Eq.symm (congrArg (fun z => z) hq1)
  have hS := hScur
  clear hScur
  refine wp_exit (then_exit (then_exit (block_exit (then_n (s0 [4] [0] 1 hS fun hS => ?_)))))
  refine wp_ret ?_
  have hM : noise_m sd k = noise_l1 sd k 256 := noise_e sd k
  exact fin_y rfl (.inr rfl) hS [.ar .u16 256 (noise_l1 sd k 256)] [] (by show weak _ (.ar .u16 256 (noise_m sd k)) = (.ar .u16 256 (noise_m sd k)); rw [hM]; first | (simp only []; rfl) | (simp only []; done) | rfl) trivial

def c_newreader (l : List (List Int)) : Con := ⟨[.ls false [.sl (.int .u8)] l], [], .cp 0 0, [(0, .ob 162 (chain [.cp 1 0])), (1, .ob 141 (chain [.ar .u64 25 (spg 168 31 l), vi 168, vi 0]))]⟩
theorem newreader_ok (l : List (List Int)) (h : l.flatten.length ≤ 140000000000000) : ConOk Try.prog 100 (c_newreader l) := by
 refine conOk_of rfl (nb := 0) Try.func100 rfl rfl Try.ntmps100 rfl rfl rfl fun g0 w0 ac gs ws hg0 hS => ?_
 have hlen0 : l.length ≤ 9223372036854775807 := hS.len 0 rfl
 have hS := hS.sp
 refine s0 [0, 2] [] 0 hS fun hS => ?_
 refine sA [(1, .call ⟨67, (c_soaked 168 31 l), [], [(0, 0)]⟩)] ⟨soaked_ok _ _ _ omm omm (by first | omega | (simp only [List.flatten_cons, List.flatten_nil, List.length_append, List.length_cons, List.length_nil, List.length_take, List.length_drop, List.length_replicate] <;> omega) | (simp <;> omega)), trivial⟩ (fun C => [ndC C 1]) [2] [0, 1] 2 ⟨rfl, trivial⟩ hS fun hS => ?_
 refine wp_ret ?_
 obtain ⟨gs, hS⟩ := hS.rn [(0, 1), (1, 0)] [(2, .cp 0 0)] [(0, .ob 162 (chain [.cp 1 0])), (1, .ob 141 (chain [.ar .u64 25 (spg 168 31 l), vi 168, vi 0]))] 2 hg0
 exact fin_y rfl (.inr rfl) hS [.cp 0 0] [(0, some (.ob 162 (chain [.cp 1 0]))), (1, some (.ob 141 (chain [.ar .u64 25 (spg 168 31 l), vi 168, vi 0])))] rfl ⟨rfl, rfl, trivial⟩

def c_rread (f : Nat → Int) (a : Nat) : Con := ⟨[.cp 0 0, vi 504], [(0, .ob 162 (chain [.cp 1 0])), (1, .ob 141 (chain [.ar .u64 25 f, vi 168, vi (a : Int)]))], lb ((rdA 168 f a 504).2.2), [(0, .ob 162 (chain [.cp 1 0])), (1, .ob 141 (chain [.ar .u64 25 ((rdA 168 f a 504).1), vi 168, vi ((((rdA 168 f a 504).2.1) : Nat) : Int)]))]⟩
theorem rread_ok (f : Nat → Int) (a : Nat) (h : a ≤ 168) : ConOk Try.prog 101 (c_rread f a) := by
 refine conOk_of rfl (nb := 2) Try.func101 rfl rfl Try.ntmps101 rfl rfl rfl fun g0 w0 ac gs ws hg0 hS => ?_
 have hS := hS.sp
 refine s0 [0, 1, 4] [0, 1] 2 hS fun hS => ?_
 refine wp_seq (s0 [0, 1, 4, 14] [0, 1] 2 hS fun hS => ?_)
 refine cond_f hS ?_
 refine wp_skip (then_n (wp_seq (s0 [0, 1, 4, 19] [0, 1] 2 hS fun hS => ?_)))
 refine cond_f hS ?_
 refine wp_skip (then_n (sA [(5, .call ⟨68, (c_read 168 f a 504), [(0, 1)], []⟩)] ⟨read_ok _ _ _ _ omm omm omm omm, trivial⟩ (fun C => [ndC C 5]) [4] [0, 1] 2 ⟨rfl, trivial⟩ hS fun hS => ?_))
 refine wp_ret ?_
 exact fin_y rfl (.inr rfl) hS [lb ((rdA 168 f a 504).2.2)] [(0, some (.ob 162 (chain [.cp 1 0]))), (1, some (.ob 141 (chain [.ar .u64 25 ((rdA 168 f a 504).1), vi 168, vi (((rdA 168 f a 504).2.1 : Nat) : Int)])))] rfl ⟨rfl, rfl, trivial⟩

end
end Go.Sx.Try
namespace Go.Sx
open Go.Mi Go.RowKit
def bv (f : Nat → Int) : Ke.St := fun i => BitVec.ofInt 64 (f i)
def Rg (f : Nat → Int) : Prop := ∀ i, i < 25 → 0 ≤ f i ∧ f i < 18446744073709551616
theorem wrap64 (x : Int) : IntKind.wrap .u64 x = x % 18446744073709551616 := by
 simp [IntKind.wrap, IntKind.bits, IntKind.signed]
theorem wrap64_rg (x : Int) : 0 ≤ IntKind.wrap .u64 x ∧ IntKind.wrap .u64 x < 18446744073709551616 := by rw [wrap64]; omega
theorem bv_wrap (x : Int) : BitVec.ofInt 64 (IntKind.wrap .u64 x) = BitVec.ofInt 64 x := by
 apply BitVec.eq_of_toInt_eq
 simp only [BitVec.toInt_ofInt, wrap64]
 unfold Int.bmod
 simp
theorem bv_nat (x : BitVec 64) : BitVec.ofInt 64 (x.toNat : Int) = x := by simp
theorem bv_xor (p q : Int) : BitVec.ofInt 64 (ixor .u64 p q) = BitVec.ofInt 64 p ^^^ BitVec.ofInt 64 q := by
 unfold ixor; rw [bv_wrap]; exact bv_nat _
theorem bv_and (p q : Int) : BitVec.ofInt 64 (iand .u64 p q) = BitVec.ofInt 64 p &&& BitVec.ofInt 64 q := by
 unfold iand; rw [bv_wrap]; exact bv_nat _
theorem bv_or (p q : Int) : BitVec.ofInt 64 (ior .u64 p q) = BitVec.ofInt 64 p ||| BitVec.ofInt 64 q := by
 unfold ior; rw [bv_wrap]; exact bv_nat _
theorem bv_not (p : Int) : BitVec.ofInt 64 (inot .u64 p) = ~~~ BitVec.ofInt 64 p := by
 unfold inot; rw [bv_xor]
 rw [show BitVec.ofInt 64 (if IntKind.signed .u64 then -1 else IntKind.max .u64) = BitVec.allOnes 64 from rfl, BitVec.allOnes_xor]
theorem ixor_rg (p q : Int) : 0 ≤ ixor .u64 p q ∧ ixor .u64 p q < 18446744073709551616 := wrap64_rg _
theorem ior_rg (p q : Int) : 0 ≤ ior .u64 p q ∧ ior .u64 p q < 18446744073709551616 := wrap64_rg _
theorem ofInt_toNat {x : Int} (h : 0 ≤ x ∧ x < 18446744073709551616) : (BitVec.ofInt 64 x).toNat = x.toNat := by
 rw [BitVec.toNat_ofInt]; omega
theorem bv_shl (p : Int) (k : Nat) (hk : k ≤ 64) : BitVec.ofInt 64 (ishl .u64 p (k : Int)) = BitVec.ofInt 64 p <<< k := by
 unfold ishl
 rw [bv_wrap, show min (k : Int).toNat (IntKind.bits .u64) = k by simp [IntKind.bits]; omega]
 apply BitVec.eq_of_toNat_eq
 rw [BitVec.toNat_shiftLeft, Nat.shiftLeft_eq, BitVec.toNat_ofInt, BitVec.toNat_ofInt]
 have h1 : (p * 2 ^ k) % ((2 ^ 64 : Nat) : Int) = ((p % ((2 ^ 64 : Nat) : Int)) * ((2 ^ k : Nat) : Int)) % ((2 ^ 64 : Nat) : Int) := by
  rw [show ((2 ^ k : Nat) : Int) = (2 : Int) ^ k by simp]
  have e1 := Int.mul_emod p (2 ^ k) ((2 ^ 64 : Nat) : Int)
  have e2 := Int.mul_emod (p % ((2 ^ 64 : Nat) : Int)) (2 ^ k) ((2 ^ 64 : Nat) : Int)
  rw [Int.emod_emod_of_dvd _ (Int.dvd_refl _)] at e2
  rw [e1, e2]
 rw [h1]
 have h2 : 0 ≤ p % ((2 ^ 64 : Nat) : Int) := Int.emod_nonneg _ (by decide)
 obtain ⟨n, hn⟩ := Int.eq_ofNat_of_zero_le h2
 rw [hn]
 have h3 : (((n : Int) * ((2 ^ k : Nat) : Int)) % ((2 ^ 64 : Nat) : Int)).toNat = n * 2 ^ k % 2 ^ 64 := by
  rw [← Int.natCast_mul, ← Int.natCast_emod, Int.toNat_natCast]
 rw [h3]
 rfl
theorem bv_shr {p : Int} (h : 0 ≤ p ∧ p < 18446744073709551616) (k : Nat) (hk : k ≤ 64) : BitVec.ofInt 64 (ishr .u64 p (k : Int)) = BitVec.ofInt 64 p >>> k := by
 unfold ishr
 rw [show min (k : Int).toNat (IntKind.bits .u64) = k by simp [IntKind.bits]; omega]
 obtain ⟨n, rfl⟩ := Int.eq_ofNat_of_zero_le h.1
 apply BitVec.eq_of_toNat_eq
 rw [BitVec.toNat_ushiftRight, Nat.shiftRight_eq_div_pow, ofInt_toNat h]
 rw [Int.fdiv_eq_ediv_of_nonneg _ (Int.pow_nonneg (by decide)), show (2 : Int) ^ k = ((2 ^ k : Nat) : Int) by simp]
 rw [show (((n : Nat) : Int) / ((2 ^ k : Nat) : Int)) = ((n / 2 ^ k : Nat) : Int) from rfl]
 have h3 : n / 2 ^ k ≤ n := Nat.div_le_self _ _
 have h4 : n < 18446744073709551616 := by have := h.2; omega
 rw [ofInt_toNat ⟨Int.natCast_nonneg _, by omega⟩, Int.toNat_natCast, Int.toNat_natCast]
theorem rotl_bv {x : Int} (h : 0 ≤ x ∧ x < 18446744073709551616) (k : Nat) (hk : k < 1000) : BitVec.ofInt 64 (rotl x (k : Int)) = Ke.rot (BitVec.ofInt 64 x) k := by
 have hm : iand .u64 (IntKind.wrap .u64 (k : Int)) 63 = ((k % 64 : Nat) : Int) := by
  unfold iand
  rw [wrap64, BitVec.toNat_and, show (BitVec.ofInt (IntKind.bits .u64) 63).toNat = 2 ^ 6 - 1 from rfl, Nat.and_two_pow_sub_one_eq_mod]
  have e : (BitVec.ofInt (IntKind.bits .u64) (IntKind.wrap .u64 (k : Int))).toNat = k := by
   rw [wrap64]
   show (BitVec.ofInt 64 _).toNat = k
   rw [ofInt_toNat ⟨by omega, by omega⟩]; omega
  rw [e]
  omega
 have hs : isub .u64 64 (iand .u64 (IntKind.wrap .u64 (k : Int)) 63) = ((64 - k % 64 : Nat) : Int) := by
  rw [hm]; unfold isub; rw [wrap64]; omega
 unfold rotl
 rw [bv_or, hs, hm, bv_shl _ _ (by omega), bv_shr h _ (by omega)]
 unfold Ke.rot
 rw [BitVec.rotateLeft_def]
theorem rotl_rg (x k : Int) : 0 ≤ rotl x k ∧ rotl x k < 18446744073709551616 := ior_rg _ _
theorem thC_s (a : Nat → Int) (n x : Nat) : thC a (n + 1) x = if x = n % 5 then ixor .u64 (thC a n x) (a n) else thC a n x := by
 simp only [thC, upd]
 split
 ·rename_i h; rw [h]
 ·rfl
theorem thC_5 (a : Nat → Int) (k x : Nat) (hx : x < 5) : thC a (5 * k + 5) x = ixor .u64 (thC a (5 * k) x) (a (5 * k + x)) := by
 have h5 : x = 0 ∨ x = 1 ∨ x = 2 ∨ x = 3 ∨ x = 4 := by omega
 rw [show 5 * k + 5 = 5 * k + 4 + 1 from rfl, thC_s, show 5 * k + 4 = 5 * k + 3 + 1 from rfl, thC_s, show 5 * k + 3 = 5 * k + 2 + 1 from rfl, thC_s, show 5 * k + 2 = 5 * k + 1 + 1 from rfl, thC_s, thC_s]
 rcases h5 with rfl | rfl | rfl | rfl | rfl <;> repeat (first | rw [if_pos (by omega)] | rw [if_neg (by omega)] | rfl)
theorem thC_at (a : Nat → Int) (x : Nat) (hx : x < 5) : BitVec.ofInt 64 (thC a 25 x) = Ke.par (bv a) x := by
 have h1 := thC_5 a 4 x hx
 have h2 := thC_5 a 3 x hx
 have h3 := thC_5 a 2 x hx
 have h4 := thC_5 a 1 x hx
 have h5 := thC_5 a 0 x hx
 have h6 : thC a 0 x = 0 := rfl
 show BitVec.ofInt 64 (thC a (5 * 4 + 5) x) = _
 rw [h1, show thC a (5 * 4) x = thC a (5 * 3 + 5) x from rfl, h2, show thC a (5 * 3) x = thC a (5 * 2 + 5) x from rfl, h3, show thC a (5 * 2) x = thC a (5 * 1 + 5) x from rfl, h4, show thC a (5 * 1) x = thC a (5 * 0 + 5) x from rfl, h5, show thC a (5 * 0) x = 0 from rfl]
 simp only [bv_xor]
 unfold Ke.par bv
 rw [Nat.mod_eq_of_lt hx]
 simp [Nat.add_comm]
theorem thA_at (a c : Nat → Int) : ∀ n i, thA a c n i = if i < n then ixor .u64 (a i) (ixor .u64 (c ((i % 5 + 4) % 5)) (rotl (c ((i % 5 + 1) % 5)) 1)) else a i
 | 0, i => by simp [thA]
 | n + 1, i => by
  simp only [thA, upd]
  by_cases h : i = n
  ·subst h; rw [if_pos rfl, thA_at a c i i, if_neg (Nat.lt_irrefl _), if_pos (Nat.lt_succ_self _)]
  ·rw [if_neg h, thA_at a c n i]
   by_cases h2 : i < n
   ·rw [if_pos h2, if_pos (by omega)]
   ·rw [if_neg h2, if_neg (by omega)]
theorem thC_rg (a : Nat → Int) : ∀ n i, 0 ≤ thC a n i ∧ thC a n i < 18446744073709551616
 | 0, i => by simp [thC]
 | n + 1, i => by
  simp only [thC, upd]
  split
  ·exact ixor_rg _ _
  ·exact thC_rg a n i
theorem theta_bv (a : Nat → Int) : Ke.Eq25 (bv (theta a)) (Ke.theta (bv a)) := by
 intro i hi
 unfold bv theta Ke.theta Ke.dif
 rw [thA_at, if_pos hi, bv_xor, bv_xor, thC_at _ _ (by omega), show (1 : Int) = ((1 : Nat) : Int) from rfl, rotl_bv (thC_rg _ _ _) 1 (by omega), thC_at _ _ (by omega)]
 rw [show (i % 5 + 4) % 5 = (i + 4) % 5 by omega, show (i % 5 + 1) % 5 = (i + 1) % 5 by omega, Ke.par_mod, Ke.par_mod]
 rfl
theorem theta_rg (a : Nat → Int) : Rg (theta a) := fun i hi => by
 unfold theta; rw [thA_at, if_pos hi]; exact ixor_rg _ _
theorem rhoA_bv {a : Nat → Int} (ha : Rg a) : ∀ n, n ≤ 24 → Rg (rhoA a n) ∧ Ke.Eq25 (bv (rhoA a n)) (Ke.rhoN (bv a) n)
 | 0, _ => ⟨ha, fun i _ => rfl⟩
 | n + 1, hn => by
  obtain ⟨h1, h2⟩ := rhoA_bv ha n (by omega)
  have hk : iquo .i64 (imul .i64 ((n + 1 : Nat) : Int) ((n + 2 : Nat) : Int)) 2 = (((n + 1) * (n + 2) / 2 : Nat) : Int) := by
   have key : ((List.range 24).all fun n => decide (iquo .i64 (imul .i64 ((n + 1 : Nat) : Int) ((n + 2 : Nat) : Int)) 2 = (((n + 1) * (n + 2) / 2 : Nat) : Int))) = true := by kernel_rfl
   exact of_decide_eq_true (List.all_eq_true.1 key n (List.mem_range.2 (by omega)))
  have hk2 : (n + 1) * (n + 2) / 2 < 1000 := by
   have : (n + 1) * (n + 2) ≤ 24 * 25 := Nat.mul_le_mul (by omega) (by omega)
   omega
  have hp := Ke.ps_lt n (by omega)
  refine ⟨fun i hi => ?_, fun i hi => ?_⟩
  ·simp only [rhoA, upd]
   split
   ·exact rotl_rg _ _
   ·exact h1 i hi
  ·simp only [rhoA, upd, bv, Ke.rhoN]
   show BitVec.ofInt 64 (if i = Ke.ps (n + 1) then _ else _) = _
   split
   ·rw [hk]; exact rotl_bv (ha _ hp) _ hk2
   ·exact h2 i hi
theorem rho_bv {a : Nat → Int} (ha : Rg a) : Ke.Eq25 (bv (rho a)) (Ke.rho (bv a)) := (rhoA_bv ha 24 (Nat.le_refl _)).2
theorem chiA_at (a : Nat → Int) : ∀ n i, chiA a n i = if i < n then ixor .u64 (a i) (iand .u64 (inot .u64 (a (i - i % 5 + (i + 1) % 5))) (a (i - i % 5 + (i + 2) % 5))) else a i
 | 0, i => by simp [chiA]
 | n + 1, i => by
  simp only [chiA, upd]
  by_cases h : i = n
  ·subst h; rw [if_pos rfl, chiA_at a i i, if_neg (Nat.lt_irrefl _), if_pos (Nat.lt_succ_self _)]
  ·rw [if_neg h, chiA_at a n i]
   by_cases h2 : i < n
   ·rw [if_pos h2, if_pos (by omega)]
   ·rw [if_neg h2, if_neg (by omega)]
theorem chi_bv (a : Nat → Int) : Ke.Eq25 (bv (chi a)) (Ke.chi (bv a)) := by
 intro i hi
 unfold bv chi Ke.chi
 rw [chiA_at, if_pos hi, bv_xor, bv_and, bv_not]
theorem chi_rg (a : Nat → Int) : Rg (chi a) := fun i hi => by
 unfold chi; rw [chiA_at, if_pos hi]; exact ixor_rg _ _
theorem kst3 (b : Nat → Int) : kst b 3 = chi (rho (theta b)) := by simp only [kst, kstp]
def RCl (n : Nat) : List Ke.Ln := (List.range n).map fun i => BitVec.ofInt 64 (RC i)
theorem rounds_app : ∀ (l m : List Ke.Ln) (a : Ke.St), Ke.rounds (l ++ m) a = Ke.rounds m (Ke.rounds l a)
 | [], m, a => rfl
 | c :: l, m, a => rounds_app l m (Ke.round c a)
theorem perA_bv {a : Nat → Int} (ha : Rg a) : ∀ n, Rg (perA a n) ∧ Ke.Eq25 (bv (perA a n)) (Ke.rounds (RCl n) (bv a))
 | 0 => ⟨ha, fun i _ => rfl⟩
 | n + 1 => by
  obtain ⟨h1, h2⟩ := perA_bv ha n
  generalize hK : Ke.rounds (RCl n) (bv a) = K at h2
  have e : Ke.rounds (RCl (n + 1)) (bv a) = Ke.round (BitVec.ofInt 64 (RC n)) K := by
   rw [← hK]; unfold RCl; rw [List.range_succ, List.map_append, rounds_app]; rfl
  have k1 : Rg (kst (perA a n) 3) := by rw [kst3]; exact chi_rg _
  have k2 : Ke.Eq25 (bv (kst (perA a n) 3)) (Ke.chi (Ke.rho (Ke.theta K))) := by
   have t1 : Ke.Eq25 (bv (theta (perA a n))) (Ke.theta K) := fun i hi => by rw [theta_bv _ i hi, Ke.theta_congr h2 i hi]
   have t2 : Ke.Eq25 (bv (rho (theta (perA a n)))) (Ke.rho (Ke.theta K)) := fun i hi => by
    rw [rho_bv (theta_rg _) i hi]; exact Ke.rhoN_congr t1 24 (Nat.le_refl _) i hi
   intro i hi
   rw [kst3, chi_bv _ i hi, Ke.chi_congr t2 i hi]
  have pe : perA a (n + 1) = upd (kst (perA a n) 3) 0 (ixor .u64 (kst (perA a n) 3 0) (RC n)) := rfl
  generalize kst (perA a n) 3 = q at k1 k2 pe
  rw [pe]
  refine ⟨fun i hi => ?_, fun i hi => ?_⟩
  ·unfold upd
   split
   ·exact ixor_rg _ _
   ·exact k1 i hi
  ·rw [e]
   unfold Ke.round Ke.iota bv upd
   split
   ·rw [bv_xor]
    have := k2 0 (by omega)
    unfold bv at this
    rw [this]
   ·exact k2 i hi
def permK (a : Ke.St) : Ke.St := Ke.rounds (RCl 24) a
theorem perm_bv {a : Nat → Int} (ha : Rg a) : Ke.Eq25 (bv (perm a)) (permK (bv a)) := (perA_bv ha 24).2
theorem perm_rg {a : Nat → Int} (ha : Rg a) : Rg (perm a) := (perA_bv ha 24).1
def permN (a : Nat → Int) : Nat → Nat → Int
 | 0 => a
 | n + 1 => perm (permN a n)
theorem permN_bv {a : Nat → Int} (ha : Rg a) : ∀ n, Rg (permN a n) ∧ Ke.Eq25 (bv (permN a n)) (Ke.iter permK n (bv a))
 | 0 => ⟨ha, fun _ _ => rfl⟩
 | n + 1 => by
  obtain ⟨h1, h2⟩ := permN_bv ha n
  refine ⟨perm_rg h1, fun i hi => ?_⟩
  show bv (perm (permN a n)) i = permK (Ke.iter permK n (bv a)) i
  rw [perm_bv h1 i hi]
  exact Ke.rounds_congr (RCl 24) h2 i hi
theorem perm_again {a : Nat → Int} (ha : Rg a) (m : Nat) : ∃ n, m < n ∧ ∀ i, i < 25 → permN a n i = a i := by
 obtain ⟨n, h1, h2⟩ := Ke.again_late (f := permK) (fun h => Ke.rounds_inj _ h) (fun h => Ke.rounds_congr _ h) (bv a) m
 refine ⟨n, h1, fun i hi => ?_⟩
 obtain ⟨h3, h4⟩ := permN_bv ha n
 have h5 := (h4 i hi).trans (h2 i hi)
 unfold bv at h5
 have h6 := congrArg BitVec.toNat h5
 rw [ofInt_toNat (h3 i hi), ofInt_toNat (ha i hi)] at h6
 have := h3 i hi
 have := ha i hi
 omega
end Go.Sx
namespace Go.Sx
open Go.Mi Go.RowKit
def Bt (f : Nat → Int) (i : Nat) : Int := IntKind.wrap .u8 (ishr .u64 (f (i / 8)) ((8 * (i % 8) : Nat) : Int))
def bts (f : Nat → Int) (a n : Nat) : List Int := (List.range n).map fun i => Bt f (a + i)
theorem bts_s (f : Nat → Int) (a n : Nat) : bts f a (n + 1) = bts f a n ++ [Bt f (a + n)] := by unfold bts; rw [List.range_succ, List.map_append]; rfl
theorem bts_len (f : Nat → Int) (a n : Nat) : (bts f a n).length = n := by simp [bts]
theorem rdA_in {r : Nat} (f : Nat → Int) (a : Nat) : ∀ n, a + n ≤ r → rdA r f a n = (f, a + n, bts f a n)
 | 0, _ => (rd_0 r f a).symm
 | n + 1, h => by
  rw [rdA_s, rdA_in f a n (by omega), bts_s]
  simp only
  rw [if_neg (by omega)]
  rfl
theorem rdA_app (r : Nat) (f : Nat → Int) (a m : Nat) : ∀ n, rdA r f a (m + n) = ((rdA r (rdA r f a m).1 (rdA r f a m).2.1 n).1, (rdA r (rdA r f a m).1 (rdA r f a m).2.1 n).2.1, (rdA r f a m).2.2 ++ (rdA r (rdA r f a m).1 (rdA r f a m).2.1 n).2.2)
 | 0 => by
  rw [← rd_0]
  simp
 | n + 1 => by
  have ih := rdA_app r f a m n
  rw [show m + (n + 1) = (m + n) + 1 from rfl, rdA_s, ih, rdA_s]
  generalize rdA r (rdA r f a m).1 (rdA r f a m).2.1 n = q
  obtain ⟨g, b, o⟩ := q
  simp only
  split <;> simp
theorem rdA_full {r : Nat} (hr : 0 < r) (f : Nat → Int) (n : Nat) : rdA r f r (n + 1) = rdA r (perm f) 0 (n + 1) := by
 rw [Nat.add_comm n 1, rdA_app r f r 1, rdA_app r (perm f) 0 1]
 have h1 : rdA r f r 1 = (perm f, 1, [Bt (perm f) 0]) := by rw [rdA_s, ← rd_0]; simp only [if_true]; rfl
 have h2 : rdA r (perm f) 0 1 = (perm f, 1, [Bt (perm f) 0]) := by rw [rdA_s, ← rd_0]; simp only; rw [if_neg (by omega)]; rfl
 rw [h1, h2]
def blk (f : Nat → Int) : List Int := bts f 0 168
theorem blk_len (f : Nat → Int) : (blk f).length = 168 := bts_len ..
theorem rdA_r {r : Nat} (hr : 0 < r) (h : Nat → Int) : rdA r h 0 (r + (r + r)) = (perm (perm h), r, bts h 0 r ++ bts (perm h) 0 r ++ bts (perm (perm h)) 0 r) := by
 have e : ∀ h, rdA r h 0 r = (h, r, bts h 0 r) := fun h => by rw [rdA_in h 0 r (by omega), Nat.zero_add]
 have e2 : ∀ h, rdA r h r r = (perm h, r, bts (perm h) 0 r) := fun h => by
  obtain ⟨n, rfl⟩ : ∃ n, r = n + 1 := ⟨r - 1, by omega⟩
  rw [rdA_full hr, e]
 rw [rdA_app, e, rdA_app, e2, e2, List.append_assoc]
theorem rdA_3 (h : Nat → Int) : rdA 168 h 0 504 = (perm (perm h), 168, blk h ++ blk (perm h) ++ blk (perm (perm h))) := rdA_r (by decide) h
theorem rdA_4 (h : Nat → Int) : rdA 168 h 168 504 = (perm (perm (perm h)), 168, blk (perm h) ++ blk (perm (perm h)) ++ blk (perm (perm (perm h)))) := (rdA_full (r := 168) (by decide) h 503).trans (rdA_3 (perm h))
def acc1 (x : Int) (s : (Nat → Int) × Nat) : (Nat → Int) × Nat := if x < 3329 then (if s.2 < 256 then (upd s.1 s.2 x, s.2 + 1) else s) else s
def ux1 (a b : Int) : Int := ior .u16 (IntKind.wrap .u16 a) (ishl .u16 (IntKind.wrap .u16 (iand .u8 b 15)) 8)
def ux2 (b c : Int) : Int := ior .u16 (IntKind.wrap .u16 (ishr .u8 b 4)) (ishl .u16 (IntKind.wrap .u16 c) 4)
def acc : List Int → (Nat → Int) × Nat → (Nat → Int) × Nat
 | a :: b :: c :: r, s => acc r (acc1 (ux2 b c) (acc1 (ux1 a b) s))
 | _, s => s
theorem acc_step {b : List Int} (h : 3 ≤ b.length) (s : (Nat → Int) × Nat) : acc b s = acc (b.drop 3) (acc1 (ux2 (b.getD 1 0) (b.getD 2 0)) (acc1 (ux1 (b.getD 0 0) (b.getD 1 0)) s)) := by
 match b, h with
 | x :: y :: z :: r, _ => rfl
theorem acc_nil (s : (Nat → Int) × Nat) : acc [] s = s := rfl
theorem acc1_mono (x : Int) (s : (Nat → Int) × Nat) : s.2 ≤ (acc1 x s).2 ∧ ((acc1 x s).2 ≤ s.2 + 1) ∧ (s.2 ≤ 256 → (acc1 x s).2 ≤ 256) := by
 unfold acc1
 split
 ·split
  ·simp only; omega
  ·omega
 ·omega
theorem acc_mono : ∀ (l : List Int) (s : (Nat → Int) × Nat), s.2 ≤ (acc l s).2 ∧ (s.2 ≤ 256 → (acc l s).2 ≤ 256) := by
 intro l
 induction h : l.length using Nat.strongRecOn generalizing l with
 | _ n ih =>
  intro s
  match l, h with
  | [], _ => exact ⟨Nat.le_refl _, id⟩
  | [_], _ => exact ⟨Nat.le_refl _, id⟩
  | [_, _], _ => exact ⟨Nat.le_refl _, id⟩
  | a :: b :: c :: r, h =>
   have h1 := acc1_mono (ux1 a b) s
   have h2 := acc1_mono (ux2 b c) (acc1 (ux1 a b) s)
   have h3 := ih r.length (by rw [← h]; simp only [List.length_cons]; omega) r rfl (acc1 (ux2 b c) (acc1 (ux1 a b) s))
   exact ⟨by show s.2 ≤ (acc r _).2; omega, fun h4 => h3.2 (h2.2.2 (h1.2.2 h4))⟩
theorem acc_app : ∀ (p r : List Int) (s : (Nat → Int) × Nat), p.length % 3 = 0 → acc (p ++ r) s = acc r (acc p s) := by
 intro p
 induction h : p.length using Nat.strongRecOn generalizing p with
 | _ n ih =>
  intro r s hm
  match p, h with
  | [], _ => rfl
  | [_], h => simp only [List.length_cons, List.length_nil] at h; omega
  | [_, _], h => simp only [List.length_cons, List.length_nil] at h; omega
  | a :: b :: c :: q, h =>
   simp only [List.length_cons] at h
   exact ih q.length (by omega) q rfl r _ (by omega)
theorem acc_zero {p r : List Int} (hp : p.length % 3 = 0) {s : (Nat → Int) × Nat} (hs : s.2 < 256) : s.2 < (acc (p ++ 0 :: 0 :: 0 :: r) s).2 := by
 rw [acc_app _ _ _ hp]
 have h1 := (acc_mono p s).1
 show s.2 < (acc r (acc1 (ux2 0 0) (acc1 (ux1 0 0) (acc p s)))).2
 rw [show ux1 0 0 = 0 from rfl, show ux2 0 0 = 0 from rfl]
 generalize acc p s = t at h1
 have h2 := acc1_mono 0 (acc1 0 t)
 have h3 := (acc_mono r (acc1 0 (acc1 0 t))).1
 have h4 : t.2 < 256 → (acc1 0 t).2 = t.2 + 1 := fun h => by unfold acc1; rw [if_pos (by decide), if_pos h]
 have h5 := acc1_mono 0 t
 omega
def uR (g0 : Nat → Int) : Nat → (Nat → Int) × Nat × (Nat → Int) × Nat
 | 0 => (g0, 0, fun _ => 0, 0)
 | k + 1 => ((rdA 168 (uR g0 k).1 (uR g0 k).2.1 504).1, (rdA 168 (uR g0 k).1 (uR g0 k).2.1 504).2.1, acc (rdA 168 (uR g0 k).1 (uR g0 k).2.1 504).2.2 (uR g0 k).2.2)
theorem permN_s (a : Nat → Int) : ∀ n, permN (perm a) n = permN a (n + 1)
 | 0 => rfl
 | n + 1 => congrArg perm (permN_s a n)
theorem uR_at (g0 : Nat → Int) : ∀ k, rdA 168 (uR g0 k).1 (uR g0 k).2.1 504 = (permN g0 (3 * k + 2), 168, blk (permN g0 (3 * k)) ++ blk (permN g0 (3 * k + 1)) ++ blk (permN g0 (3 * k + 2)))
 | 0 => rdA_3 g0
 | k + 1 => by
  have ih := uR_at g0 k
  have e : uR g0 (k + 1) = (permN g0 (3 * k + 2), 168, acc (blk (permN g0 (3 * k)) ++ blk (permN g0 (3 * k + 1)) ++ blk (permN g0 (3 * k + 2))) (uR g0 k).2.2) := by
   show ((rdA 168 (uR g0 k).1 (uR g0 k).2.1 504).1, (rdA 168 (uR g0 k).1 (uR g0 k).2.1 504).2.1, acc (rdA 168 (uR g0 k).1 (uR g0 k).2.1 504).2.2 (uR g0 k).2.2) = _
   rw [ih]
  rw [e]
  simp only
  rw [rdA_4]
  rfl
theorem uR_next (g0 : Nat → Int) (k : Nat) : (uR g0 (k + 1)).2.2 = acc (blk (permN g0 (3 * k)) ++ blk (permN g0 (3 * k + 1)) ++ blk (permN g0 (3 * k + 2))) (uR g0 k).2.2 := by
 show acc (rdA 168 (uR g0 k).1 (uR g0 k).2.1 504).2.2 (uR g0 k).2.2 = _
 rw [uR_at]
theorem Bt_zero {f : Nat → Int} {i : Nat} (h : f (i / 8) = 0) : Bt f i = 0 := by
 unfold Bt; rw [h]; unfold ishr; rw [Int.zero_fdiv]; rfl
theorem blk_zero {f : Nat → Int} (h : f 5 = 0) : ∃ p r, blk f = p ++ 0 :: 0 :: 0 :: r ∧ p.length = 42 := by
 have hb : ∀ i, i < 168 → (blk f)[i]? = some (Bt f i) := fun i hi => by simp [blk, bts, hi]
 have hl := blk_len f
 refine ⟨(blk f).take 42, (blk f).drop 45, ?_, by simp [hl]⟩
 have e : (blk f).drop 42 = 0 :: 0 :: 0 :: (blk f).drop 45 := by
  have at' : ∀ i, i < 168 → (blk f).drop i = Bt f i :: (blk f).drop (i + 1) := fun i hi => by
   rw [List.drop_eq_getElem_cons (by rw [hl]; exact hi)]
   have := hb i hi
   rw [List.getElem?_eq_getElem (by rw [hl]; exact hi)] at this
   rw [Option.some.inj this]
  rw [at' 42 (by omega), at' 43 (by omega), at' 44 (by omega), Bt_zero h, Bt_zero h, Bt_zero h]
 rw [← e, List.take_append_drop]
theorem uR_mono (g0 : Nat → Int) : ∀ k, (uR g0 k).2.2.2 ≤ (uR g0 (k + 1)).2.2.2 ∧ (uR g0 k).2.2.2 ≤ 256
 | 0 => ⟨Nat.zero_le _, Nat.zero_le _⟩
 | k + 1 => by
  have ih := uR_mono g0 k
  refine ⟨?_, ?_⟩
  ·rw [uR_next g0 (k + 1)]; exact (acc_mono _ _).1
  ·rw [uR_next g0 k]; exact (acc_mono _ _).2 ih.2
theorem uR_le (g0 : Nat → Int) (k : Nat) : ∀ d, (uR g0 k).2.2.2 ≤ (uR g0 (k + d)).2.2.2
 | 0 => Nat.le_refl _
 | d + 1 => Nat.le_trans (uR_le g0 k d) (uR_mono g0 (k + d)).1
theorem uR_more {g0 : Nat → Int} {t : Nat} (h : permN g0 t 5 = 0) (hk : (uR g0 (t / 3)).2.2.2 < 256) : (uR g0 (t / 3)).2.2.2 < (uR g0 (t / 3 + 1)).2.2.2 := by
 rw [uR_next]
 have h3 : t % 3 = 0 ∨ t % 3 = 1 ∨ t % 3 = 2 := by omega
 obtain ⟨p, r, e, hp⟩ := blk_zero h
 rcases h3 with h3 | h3 | h3
 ·rw [show 3 * (t / 3) = t by omega, e]
  have := acc_zero (p := p) (r := r ++ blk (permN g0 (t + 1)) ++ blk (permN g0 (t + 2))) (by rw [hp]) hk
  simpa using this
 ·rw [show 3 * (t / 3) + 1 = t by omega, e]
  have := acc_zero (p := blk (permN g0 (3 * (t / 3))) ++ p) (r := r ++ blk (permN g0 (3 * (t / 3) + 2))) (by rw [List.length_append, hp, blk_len]) hk
  simpa using this
 ·rw [show 3 * (t / 3) + 2 = t by omega, e]
  have := acc_zero (p := blk (permN g0 (3 * (t / 3))) ++ blk (permN g0 (3 * (t / 3) + 1)) ++ p) (r := r) (by rw [List.length_append, List.length_append, hp, blk_len, blk_len]) hk
  simpa using this
theorem uR_ends {g0 : Nat → Int} (h : ∀ m, ∃ t, m ≤ t ∧ permN g0 t 5 = 0) : ∃ K, ∀ k, (uR g0 k).2.2.2 < 256 → k < K := by
 have key : ∀ c, c ≤ 256 → ∃ K, ∀ k, K ≤ k → c ≤ (uR g0 k).2.2.2 := by
  intro c
  induction c with
  | zero => exact fun _ => ⟨0, fun _ _ => Nat.zero_le _⟩
  | succ c ih =>
   intro hc
   obtain ⟨K, hK⟩ := ih (by omega)
   obtain ⟨t, h1, h2⟩ := h (3 * K)
   refine ⟨t / 3 + 1, fun k hk => ?_⟩
   have h3 := hK (t / 3) (by omega)
   have h4 := uR_le g0 (t / 3 + 1) (k - (t / 3 + 1))
   rw [show t / 3 + 1 + (k - (t / 3 + 1)) = k by omega] at h4
   have h6 := uR_le g0 (t / 3) 1
   by_cases h5 : (uR g0 (t / 3)).2.2.2 < 256
   ·have := uR_more h2 h5
    omega
   ·omega
 obtain ⟨K, hK⟩ := key 256 (Nat.le_refl _)
 refine ⟨K, fun k hk => ?_⟩
 rcases Nat.lt_or_ge k K with h1 | h1
 ·exact h1
 ·have := hK k h1; omega
theorem xin_rg (b : List Int) : ∀ n, Rg (xin b (fun _ => 0) n)
 | 0 => fun i _ => by simp [xin]
 | n + 1 => fun i hi => by
  simp only [xin, upd]
  split
  ·exact ixor_rg _ _
  ·exact xin_rg b n i hi
theorem xin_zero {b : List Int} {l : Nat} (h : ∀ i, i / 8 = l → b.getD i 0 = 0) : ∀ n, xin b (fun _ => 0) n l = 0
 | 0 => rfl
 | n + 1 => by
  simp only [xin, upd]
  split
  ·rename_i e
   rw [← e, xin_zero h n, h n e.symm]
   have e2 : ∀ m : Nat, m < 8 → ixor .u64 0 (ishl .u64 (IntKind.wrap .u64 0) ((8 * m : Nat) : Int)) = 0 := by
    intro m hm
    have : m = 0 ∨ m = 1 ∨ m = 2 ∨ m = 3 ∨ m = 4 ∨ m = 5 ∨ m = 6 ∨ m = 7 := by omega
    rcases this with rfl | rfl | rfl | rfl | rfl | rfl | rfl | rfl <;> rfl
   exact e2 (n % 8) (Nat.mod_lt _ (by decide))
  ·exact xin_zero h n
theorem pad_one {l : List (List Int)} (h : l.flatten.length < 40) : (pad 168 31 l).length = 168 ∧ ∀ i, i / 8 = 5 → (pad 168 31 l).getD i 0 = 0 := by
 have hl : (l.flatten ++ [(31 : Int)]).length = l.flatten.length + 1 := by simp
 have hz : (padZ 168 31 l).length = 168 := by
  unfold padZ
  rw [List.length_append, List.length_replicate, hl]
  omega
 refine ⟨by rw [pad_len, hz], fun i hi => ?_⟩
 unfold pad
 rw [hz, List.getD_eq_getElem?_getD, List.getElem?_set_ne (by omega)]
 unfold padZ
 rw [List.getElem?_append_right (by rw [hl]; omega)]
 rw [List.getElem?_replicate]
 split <;> rfl
theorem spg_one {l : List (List Int)} (h : l.flatten.length < 40) : ∃ x0, Rg x0 ∧ x0 5 = 0 ∧ spg 168 31 l = perm x0 := by
 obtain ⟨h1, h2⟩ := pad_one h
 refine ⟨xin (pad 168 31 l) (fun _ => 0) 168, xin_rg _ _, xin_zero h2 _, ?_⟩
 unfold spg
 rw [h1]
 show perm (xin ((pad 168 31 l).drop (0 * 168)) (soakN (pad 168 31 l) 168 0) 168) = _
 rw [Nat.zero_mul, List.drop_zero]
 rfl
theorem spg_again {l : List (List Int)} (h : l.flatten.length < 40) (m : Nat) : ∃ t, m ≤ t ∧ permN (spg 168 31 l) t 5 = 0 := by
 obtain ⟨x0, h1, h2, h3⟩ := spg_one h
 obtain ⟨n, h4, h5⟩ := perm_again h1 m
 refine ⟨n - 1, by omega, ?_⟩
 rw [h3, permN_s, show n - 1 + 1 = n by omega, h5 5 (by omega), h2]
noncomputable def uK (l : List (List Int)) : Nat := Classical.epsilon fun K => ∀ k, (uR (spg 168 31 l) k).2.2.2 < 256 → k < K
theorem uK_ok {l : List (List Int)} (h : l.flatten.length < 40) {k : Nat} (hk : (uR (spg 168 31 l) k).2.2.2 < 256) : k < uK l :=
 Classical.epsilon_spec (uR_ends (spg_again h)) k hk
noncomputable def uniform (l : List (List Int)) : Nat → Int := (uR (spg 168 31 l) (lst fun k => (uR (spg 168 31 l) k).2.2.2 < 256)).2.2.1
def accs (xs : List Int) (s : (Nat → Int) × Nat) : Nat → (Nat → Int) × Nat
 | 0 => s
 | i + 1 => acc1 (xs.getD i 0) (accs xs s i)
theorem acc1_y {x : Int} {f : Nat → Int} {n : Nat} (h : x < 3329) (h2 : ((n : Nat) : Int) < 256) : acc1 x (f, n) = (upd f n x, n + 1) := by
 unfold acc1; rw [if_pos h, if_pos (by simp only; omega)]
theorem acc1_n {x : Int} {f : Nat → Int} {n : Nat} (h : x < 3329) (h2 : ¬ ((n : Nat) : Int) < 256) : acc1 x (f, n) = (f, n) := by
 unfold acc1; rw [if_pos h, if_neg (by simp only; omega)]
theorem acc1_z {x : Int} {f : Nat → Int} {n : Nat} (h : ¬ x < 3329) : acc1 x (f, n) = (f, n) := by
 unfold acc1; rw [if_neg h]
theorem accs_next {xs : List Int} {s s' : (Nat → Int) × Nat} {t : Nat} {f : Nat → Int} {n : Nat} (h : (f, n) = accs xs s t) (h2 : s' = acc1 (xs.getD t 0) (f, n)) : s' = accs xs s (t + 1) := by
 show _ = acc1 _ (accs xs s t)
 rw [← h]; exact h2
theorem acc_nx {b : List Int} {s r : (Nat → Int) × Nat} (h : 3 ≤ b.length) (hc : acc b s = r) : acc (b.drop 3) (accs [ux1 (b.getD 0 0) (b.getD 1 0), ux2 (b.getD 1 0) (b.getD 2 0)] s 2) = r := (acc_step h s).symm.trans hc
theorem uR_nx {g0 g f : Nat → Int} {k a n : Nat} (hq : (g, a, f, n) = uR g0 k) : ((rdA 168 g a 504).1, (rdA 168 g a 504).2.1, acc (rdA 168 g a 504).2.2 (f, n)) = uR g0 (k + 1) := by
 show _ = ((rdA 168 (uR g0 k).1 (uR g0 k).2.1 504).1, (rdA 168 (uR g0 k).1 (uR g0 k).2.1 504).2.1, acc (rdA 168 (uR g0 k).1 (uR g0 k).2.1 504).2.2 (uR g0 k).2.2)
 rw [← hq]
theorem uR_a {g0 g f : Nat → Int} {k a n : Nat} (hq : (g, a, f, n) = uR g0 k) : a ≤ 168 := by
 cases k with
 | zero => have := congrArg (·.2.1) hq; simp only [uR] at this; omega
 | succ k =>
  have := congrArg (·.2.1) hq
  have e : (uR g0 (k + 1)).2.1 = (rdA 168 (uR g0 k).1 (uR g0 k).2.1 504).2.1 := rfl
  simp only [e, uR_at] at this
  omega
end Go.Sx
namespace Go.Sx.Try
open Go.Mi Go.RowKit Go.Sx Go.Proofs
noncomputable section
def c_uniform (sd : List Int) (bi bj : Int) : Con := ⟨[lb sd, .v (.int .u8 bi), .v (.int .u8 bj)], [], .ar .u16 256 (uniform [sd, [bi, bj]]), []⟩
theorem uniform_ok (sd : List Int) (bi bj : Int) (h : sd.length = 32) : ConOk Try.prog 72 (c_uniform sd bi bj) := by
 refine conOk_of rfl (nb := 0) Try.func72 rfl rfl Try.ntmps72 rfl rfl rfl fun g0 w0 ac gs ws hg0 hS => ?_
 have hlen0 : sd.length ≤ 9223372036854775807 := hS.len 0 rfl
 have hS := hS.sp
 refine s0 [0, 1, 2, 6] [0] 1 hS fun hS => ?_
 refine sA [(5, .call ⟨100, (c_newreader [sd, [bi, bj]]), [], [(0, 1), (1, 2)]⟩)] ⟨newreader_ok _ (by first | omega | (simp only [List.flatten_cons, List.flatten_nil, List.length_append, List.length_cons, List.length_nil, List.length_take, List.length_drop, List.length_replicate] <;> omega) | (simp <;> omega)), trivial⟩ (fun C => [ndC C 5]) [6, 7] [0, 1, 2] 3 ⟨rfl, trivial⟩ hS fun hS => ?_
 refine s0 [6, 7, 8] [0, 1, 2] 3 hS fun hS => ?_
 refine wp_seq (wp_block (loop_y (ι := Nat × (Nat → Int) × Nat × (Nat → Int) × Nat) hg0 hS (fun z_ => match z_ with | (k, g, a, f, n) => uK [sd, [bi, bj]] - k) (fun z_ => match z_ with | (k, g, a, f, n) => [(6, .cp 0 0), (7, .cp 1 0), (8, vi ((n : Nat) : Int))]) (fun z_ => match z_ with | (k, g, a, f, n) => [(0, .ob 60 (chain [.ar .u16 256 f])), (1, .ob 162 (chain [.cp 2 0])), (2, .ob 141 (chain [.ar .u64 25 g, vi 168, vi ((a : Nat) : Int)]))]) (fun z_ => match z_ with | (k, g, a, f, n) => ((g, a, f, n) = uR (spg 168 31 [sd, [bi, bj]]) k) ∧ (∀ j, j < k → (uR (spg 168 31 [sd, [bi, bj]]) j).2.2.2 < 256) ∧ True) 3 (0, (spg 168 31 [sd, [bi, bj]]), 0, fun _ => 0, 0) [(0, 0), (1, 1), (2, 2)] ⟨rfl, (fun j h => absurd h (Nat.not_lt_zero j)), trivial⟩ ?_))
 rintro ⟨k, g, a, f, n⟩ ac gs ws ⟨hq, hj, _⟩ hS
 refine wp_seq (s0 [6, 7, 8, 19] [0, 1, 2] 3 hS fun hS => ?_)
 refine if_d ((n : Int) < 256) hS (fun h1 => ?_) (fun h1 => ?_)
 ·refine wp_skip (then_n (wp_block (wp_seq ?_)))
  have ha := uR_a hq
  have hnk : (uR (spg 168 31 [sd, [bi, bj]]) k).2.2.2 < 256 := by rw [← hq]; simp only; omega
  have hk := uK_ok (l := [sd, [bi, bj]]) (by simp only [List.flatten_cons, List.flatten_nil, List.length_append, List.length_cons, List.length_nil]; omega) hnk
  refine rA [(1, .call ⟨101, (c_rread g a), [(0, 1), (1, 2)], []⟩)] ⟨rread_ok _ _ omm, trivial⟩ (fun C => [ndC C 1]) [6, 7, 8, 9] [0, 1, 2] 3 ⟨rfl, trivial⟩ hS fun hS => ?_
  refine then_n (wp_block (loop_y (ι := (List Int) × (Nat → Int) × Nat) hg0 hS (fun z_ => match z_ with | (b, f2, n2) => b.length) (fun z_ => match z_ with | (b, f2, n2) => [(6, .cp 0 0), (7, .cp 1 0), (8, vi ((n2 : Nat) : Int)), (9, lb b)]) (fun z_ => match z_ with | (b, f2, n2) => [(0, .ob 60 (chain [.ar .u16 256 f2])), (1, .ob 162 (chain [.cp 2 0])), (2, .ob 141 (chain [.ar .u64 25 ((rdA 168 g a 504).1), vi 168, vi ((((rdA 168 g a 504).2.1) : Nat) : Int)]))]) (fun z_ => match z_ with | (b, f2, n2) => (b.length % 3 = 0) ∧ (acc b (f2, n2) = acc (rdA 168 g a 504).2.2 (f, n)) ∧ True) 3 (((rdA 168 g a 504).2.2), f, n) [(0, 0), (1, 1), (2, 2)] ⟨(by rw [rd_len]), rfl, trivial⟩ ?_))
  rintro ⟨b, f2, n2⟩ ac gs ws ⟨hb, hc, _⟩ hS
  refine wp_seq (s0 [6, 7, 8, 9, 24] [0, 1, 2] 3 hS fun hS => ?_)
  refine if_d ((0 : Int) < ((b.length : Nat) : Int)) hS (fun h2 => ?_) (fun h2 => ?_)
  ·refine wp_skip (then_n (wp_seq (wp_block (sA [] trivial (fun _ => [(0 : Int) ≤ 0 ∧ 0 < ((b.length : Nat) : Int), (0 : Int) ≤ 1 ∧ 1 < ((b.length : Nat) : Int), (0 : Int) ≤ 8, (0 : Int) ≤ 1 ∧ 1 < ((b.length : Nat) : Int), (0 : Int) ≤ 4, (0 : Int) ≤ 2 ∧ 2 < ((b.length : Nat) : Int), (0 : Int) ≤ 4]) [6, 7, 8, 9, 49, 50, 51] [0, 1, 2] 3 ⟨by omega, by omega, by omega, by omega, by omega, by omega, by omega, trivial⟩ hS fun hS => ?_))))
   refine wp_block (loop_y (ι := Nat × (Nat → Int) × Nat) hg0 hS (fun z_ => match z_ with | (t, f3, n3) => 2 - t) (fun z_ => match z_ with | (t, f3, n3) => [(6, .cp 0 0), (7, .cp 1 0), (8, vi ((n3 : Nat) : Int)), (9, lb b), (49, .ls true [.int .u16] [(ior .u16 (IntKind.wrap .u16 (b.getD 0 0)) (ishl .u16 (IntKind.wrap .u16 (iand .u8 (b.getD 1 0) 15)) 8)), (ior .u16 (IntKind.wrap .u16 (ishr .u8 (b.getD 1 0) 4)) (ishl .u16 (IntKind.wrap .u16 (b.getD 2 0)) 4))]), (50, vi 2), (51, vi ((t : Nat) : Int))]) (fun z_ => match z_ with | (t, f3, n3) => [(0, .ob 60 (chain [.ar .u16 256 f3])), (1, .ob 162 (chain [.cp 2 0])), (2, .ob 141 (chain [.ar .u64 25 ((rdA 168 g a 504).1), vi 168, vi ((((rdA 168 g a 504).2.1) : Nat) : Int)]))]) (fun z_ => match z_ with | (t, f3, n3) => (t ≤ 2) ∧ ((f3, n3) = accs [(ior .u16 (IntKind.wrap .u16 (b.getD 0 0)) (ishl .u16 (IntKind.wrap .u16 (iand .u8 (b.getD 1 0) 15)) 8)), (ior .u16 (IntKind.wrap .u16 (ishr .u8 (b.getD 1 0) 4)) (ishl .u16 (IntKind.wrap .u16 (b.getD 2 0)) 4))] (f2, n2) t) ∧ True) 3 (0, f2, n2) [(0, 0), (1, 1), (2, 2)] ⟨omm, rfl, trivial⟩ ?_)
   rintro ⟨t, f3, n3⟩ ac gs ws ⟨ht, hs, _⟩ hS
   refine s0 [6, 7, 8, 9, 49, 50, 51, 52] [0, 1, 2] 3 hS fun hS => ?_
   refine wp_seq ?_
   refine if_d ((t : Int) < 2) hS (fun h3 => ?_) (fun h3 => ?_)
   ·refine wp_skip (then_n (wp_seq (wp_block (sA [] trivial (fun _ => [(0 : Int) ≤ (t : Int) ∧ ((t : Int) : Int) < 2]) [6, 7, 8, 9, 11, 49, 50, 51] [0, 1, 2] 3 ⟨by omega, trivial⟩ hS fun hS => ?_))))
    refine wp_seq ?_
    by_cases h4 : ([(ior .u16 (IntKind.wrap .u16 (b.getD 0 0)) (ishl .u16 (IntKind.wrap .u16 (iand .u8 (b.getD 1 0) 15)) 8)), (ior .u16 (IntKind.wrap .u16 (ishr .u8 (b.getD 1 0) 4)) (ishl .u16 (IntKind.wrap .u16 (b.getD 2 0)) 4))].getD t 0) < 3329
    ·refine rA [(1, .ob true)] trivial (fun _ => [(decide (([(ior .u16 (IntKind.wrap .u16 (b.getD 0 0)) (ishl .u16 (IntKind.wrap .u16 (iand .u8 (b.getD 1 0) 15)) 8)), (ior .u16 (IntKind.wrap .u16 (ishr .u8 (b.getD 1 0) 4)) (ishl .u16 (IntKind.wrap .u16 (b.getD 2 0)) 4))].getD t 0) < 3329)) = true]) [6, 7, 8, 9, 11, 49, 50, 51, 60] [0, 1, 2] 3 ⟨decide_eq_true h4, trivial⟩ hS fun hS => ?_
     refine then_n ?_
     refine if_d ((n3 : Int) < 256) hS (fun h5 => ?_) (fun h5 => ?_)
     ·refine sA [] trivial (fun _ => [(0 : Int) ≤ (n3 : Int) ∧ ((n3 : Int) : Int) < 256]) [6, 7, 8, 9, 49, 50, 51] [0, 1, 2] 3 ⟨by omega, trivial⟩ hS fun hS => ?_
      refine rA [(1, .oi ((n3 + 1 : Nat) : Int))] trivial (fun _ => [iadd .i64 (n3 : Int) 1 = ((n3 + 1 : Nat) : Int)]) [6, 7, 8, 9, 49, 50, 51] [0, 1, 2] 3 ⟨by rw [iadd64 omm omm]; omega, trivial⟩ hS fun hS => ?_
      refine block_n (then_n (rA [(0, .oi ((t + 1 : Nat) : Int))] trivial (fun _ => [iadd .i64 (t : Int) 1 = ((t + 1 : Nat) : Int)]) [6, 7, 8, 9, 49, 50, 51] [0, 1, 2] 3 ⟨by rw [iadd64 omm omm]; omega, trivial⟩ hS fun hS => ?_))
      refine then_n ?_
      exact next_y hg0 hS (s := (t, f3, n3)) (t + 1, upd f3 n3 ([(ior .u16 (IntKind.wrap .u16 (b.getD 0 0)) (ishl .u16 (IntKind.wrap .u16 (iand .u8 (b.getD 1 0) 15)) 8)), (ior .u16 (IntKind.wrap .u16 (ishr .u8 (b.getD 1 0) 4)) (ishl .u16 (IntKind.wrap .u16 (b.getD 2 0)) 4))].getD t 0), n3 + 1) [(0, 0), (1, 1), (2, 2)] (show 2 - (t + 1) < 2 - t from by omega) ⟨omm, (accs_next hs (by first | exact (acc1_y asm asm).symm | exact (acc1_n asm asm).symm | exact (acc1_z asm).symm)), trivial⟩
     ·refine wp_skip (block_n (then_n (rA [(0, .oi ((t + 1 : Nat) : Int))] trivial (fun _ => [iadd .i64 (t : Int) 1 = ((t + 1 : Nat) : Int)]) [6, 7, 8, 9, 49, 50, 51] [0, 1, 2] 3 ⟨by rw [iadd64 omm omm]; omega, trivial⟩ hS fun hS => ?_)))
      refine then_n ?_
      exact next_y hg0 hS (s := (t, f3, n3)) (t + 1, f3, n3) [(0, 0), (1, 1), (2, 2)] (show 2 - (t + 1) < 2 - t from by omega) ⟨omm, (accs_next hs (by first | exact (acc1_y asm asm).symm | exact (acc1_n asm asm).symm | exact (acc1_z asm).symm)), trivial⟩
    ·refine rA [(1, .ob false)] trivial (fun _ => [(decide (([(ior .u16 (IntKind.wrap .u16 (b.getD 0 0)) (ishl .u16 (IntKind.wrap .u16 (iand .u8 (b.getD 1 0) 15)) 8)), (ior .u16 (IntKind.wrap .u16 (ishr .u8 (b.getD 1 0) 4)) (ishl .u16 (IntKind.wrap .u16 (b.getD 2 0)) 4))].getD t 0) < 3329)) = false]) [6, 7, 8, 9, 11, 49, 50, 51, 60] [0, 1, 2] 3 ⟨decide_eq_false h4, trivial⟩ hS fun hS => ?_
     refine then_n (cond_f hS ?_)
     refine wp_skip (block_n (then_n (rA [(0, .oi ((t + 1 : Nat) : Int))] trivial (fun _ => [iadd .i64 (t : Int) 1 = ((t + 1 : Nat) : Int)]) [6, 7, 8, 9, 49, 50, 51] [0, 1, 2] 3 ⟨by rw [iadd64 omm omm]; omega, trivial⟩ hS fun hS => ?_)))
     refine then_n ?_
     exact next_y hg0 hS (s := (t, f3, n3)) (t + 1, f3, n3) [(0, 0), (1, 1), (2, 2)] (show 2 - (t + 1) < 2 - t from by omega) ⟨omm, (accs_next hs (by first | exact (acc1_y asm asm).symm | exact (acc1_n asm asm).symm | exact (acc1_z asm).symm)), trivial⟩
   ·have hScur := hS
    obtain rfl : 2 = t := by omega
    obtain rfl : (accs [(ior .u16 (IntKind.wrap .u16 (b.getD 0 0)) (ishl .u16 (IntKind.wrap .u16 (iand .u8 (b.getD 1 0) 15)) 8)), (ior .u16 (IntKind.wrap .u16 (ishr .u8 (b.getD 1 0) 4)) (ishl .u16 (IntKind.wrap .u16 (b.getD 2 0)) 4))] (f2, n2) 2).1 = f3 := Eq.symm (congrArg (fun z => z.1) hs)
    obtain rfl : (accs [(ior .u16 (IntKind.wrap .u16 (b.getD 0 0)) (ishl .u16 (IntKind.wrap .u16 (iand .u8 (b.getD 1 0) 15)) 8)), (ior .u16 (IntKind.wrap .u16 (ishr .u8 (b.getD 1 0) 4)) (ishl .u16 (IntKind.wrap .u16 (b.getD 2 0)) 4))] (f2, n2) 2).2 = n3 := Eq.symm (congrArg (fun z => z.2) hs)
    have hS := hScur
    clear hScur
    refine wp_exit (then_exit (then_exit (block_exit (block_n (then_n (rA [] trivial (fun _ => [bndP (some 3) none none b.length b.length]) [6, 7, 8, 9] [0, 1, 2] 3 ⟨⟨by simp only [nnI] <;> omega, by simp only [nnI] <;> omega, by simp only [nnI] <;> omega, by simp, by simp only [bl] <;> omega, by simp only [bl] <;> omega, by simp only [bl] <;> omega⟩, trivial⟩ hS fun hS => ?_))))))
    refine then_n ?_
    exact next_y hg0 hS (s := (b, f2, n2)) (b.drop 3, (accs [(ior .u16 (IntKind.wrap .u16 (b.getD 0 0)) (ishl .u16 (IntKind.wrap .u16 (iand .u8 (b.getD 1 0) 15)) 8)), (ior .u16 (IntKind.wrap .u16 (ishr .u8 (b.getD 1 0) 4)) (ishl .u16 (IntKind.wrap .u16 (b.getD 2 0)) 4))] (f2, n2) 2).1, (accs [(ior .u16 (IntKind.wrap .u16 (b.getD 0 0)) (ishl .u16 (IntKind.wrap .u16 (iand .u8 (b.getD 1 0) 15)) 8)), (ior .u16 (IntKind.wrap .u16 (ishr .u8 (b.getD 1 0) 4)) (ishl .u16 (IntKind.wrap .u16 (b.getD 2 0)) 4))] (f2, n2) 2).2) [(0, 0), (1, 1), (2, 2)] (show (b.drop 3).length < b.length from by rw [List.length_drop]; omega) ⟨(by rw [List.length_drop]; omega), (acc_nx omm hc), trivial⟩
  ·have hScur := hS
   have hn : b = [] := List.eq_nil_of_length_eq_zero omm
   obtain rfl : [] = b := Eq.symm hn
   obtain rfl : (acc (rdA 168 g a 504).2.2 (f, n)).1 = f2 := Eq.symm (congrArg (fun z => z.1) ((acc_nil _).symm.trans hc))
   obtain rfl : (acc (rdA 168 g a 504).2.2 (f, n)).2 = n2 := Eq.symm (congrArg (fun z => z.2) ((acc_nil _).symm.trans hc))
   have hS := hScur
   clear hScur
   refine wp_exit (then_exit (then_exit (block_exit (block_n (then_n ?_)))))
   exact next_y hg0 hS (s := (k, g, a, f, n)) (k + 1, ((rdA 168 g a 504).1), (rdA 168 g a 504).2.1, (acc (rdA 168 g a 504).2.2 (f, n)).1, (acc (rdA 168 g a 504).2.2 (f, n)).2) [(0, 0), (1, 1), (2, 2)] (show uK [sd, [bi, bj]] - (k + 1) < uK [sd, [bi, bj]] - k from by omega) ⟨(uR_nx hq), (lst_next hj hnk), trivial⟩
 ·have hScur := hS
  obtain rfl := lst_eq (P := fun k => (uR (spg 168 31 [sd, [bi, bj]]) k).2.2.2 < 256) (by rw [← hq]; simp only; omega) hj
  obtain rfl : uniform [sd, [bi, bj]] = f := Eq.symm (congrArg (fun z => z.2.2.1) hq)
  have hS := hScur
  clear hScur
  refine wp_exit (then_exit (then_exit (block_exit (then_n (s0 [6] [0] 3 hS fun hS => ?_)))))
  refine wp_ret ?_
  exact fin_y rfl (.inr rfl) hS [.ar .u16 256 (uniform [sd, [bi, bj]])] [] rfl trivial

end
end Go.Sx.Try
namespace Go.Sx.Try
open Go.Mi Go.RowKit Go.Sx Go.Proofs
noncomputable section
theorem encode12_l2_len (f : Nat → Int) (i : Nat) (o : List Int) : ∀ k, (encode12_l2 f i o k).length = o.length
 | 0 => rfl
 | k + 1 => by
  show (encode12_l2_s f i o k (encode12_l2 f i o k)).length = o.length
  unfold encode12_l2_s
  rw [List.length_set, encode12_l2_len f i o k]
@[simp] theorem encode12_len (f : Nat → Int) : (encode12_m f).length = 384 := by
 have key : ∀ i, (encode12_l1 f i).length = 384 := by
  intro i
  induction i with
  | zero => exact List.length_replicate
  | succ i ih => exact (encode12_l2_len f i _ 12).trans ih
 rw [encode12_e]
 exact key 256
theorem encode10_l2_len (f : Nat → Int) (i : Nat) (o : List Int) : ∀ k, (encode10_l2 f i o k).length = o.length
 | 0 => rfl
 | k + 1 => by
  show (encode10_l2_s f i o k (encode10_l2 f i o k)).length = o.length
  unfold encode10_l2_s
  rw [List.length_set, encode10_l2_len f i o k]
@[simp] theorem encode10_len (f : Nat → Int) : (encode10_m f).length = 320 := by
 have key : ∀ i, (encode10_l1 f i).length = 320 := by
  intro i
  induction i with
  | zero => exact List.length_replicate
  | succ i ih => exact (encode10_l2_len f i _ 10).trans ih
 rw [encode10_e]
 exact key 256
theorem encode4_l2_len (f : Nat → Int) (i : Nat) (o : List Int) : ∀ k, (encode4_l2 f i o k).length = o.length
 | 0 => rfl
 | k + 1 => by
  show (encode4_l2_s f i o k (encode4_l2 f i o k)).length = o.length
  unfold encode4_l2_s
  rw [List.length_set, encode4_l2_len f i o k]
@[simp] theorem encode4_len (f : Nat → Int) : (encode4_m f).length = 128 := by
 have key : ∀ i, (encode4_l1 f i).length = 128 := by
  intro i
  induction i with
  | zero => exact List.length_replicate
  | succ i ih => exact (encode4_l2_len f i _ 4).trans ih
 rw [encode4_e]
 exact key 256
theorem encode1_l2_len (f : Nat → Int) (i : Nat) (o : List Int) : ∀ k, (encode1_l2 f i o k).length = o.length
 | 0 => rfl
 | k + 1 => by
  show (encode1_l2_s f i o k (encode1_l2 f i o k)).length = o.length
  unfold encode1_l2_s
  rw [List.length_set, encode1_l2_len f i o k]
@[simp] theorem encode1_len (f : Nat → Int) : (encode1_m f).length = 32 := by
 have key : ∀ i, (encode1_l1 f i).length = 32 := by
  intro i
  induction i with
  | zero => exact List.length_replicate
  | succ i ih => exact (encode1_l2_len f i _ 1).trans ih
 rw [encode1_e]
 exact key 256
def each_ntt_l1_s (f : Nat → Int) (x6 : Nat) : (Nat → Int) → (Nat → Int) := fun o2_0 => updW o2_0 (x6 * 256) 256 (ntt_m (fun j => o2_0 (x6 * 256 + j)))
def each_ntt_l1 (f : Nat → Int) : Nat → (Nat → Int)
 | 0 => f
 | x6 + 1 => each_ntt_l1_s f x6 (each_ntt_l1 f x6)
def each_ntt_v (f : Nat → Int) : (Nat → Int) := each_ntt_l1 f 3
def each_ntt_m (f : Nat → Int) : (Nat → Int) := shut (each_ntt_v f)
theorem each_ntt_e (f : Nat → Int) : each_ntt_m f = each_ntt_v f := shut_eq _
def c_each_ntt (f : Nat → Int) : Con := ⟨[.ar .u16 768 f, .v (.func (.func 41) #[] #[])], [], .ar .u16 768 (each_ntt_m f), []⟩
theorem each_ntt_ok (f : Nat → Int) : ConOk Try.prog 40 (c_each_ntt f) := by
 refine conOk_of rfl (nb := 0) Try.func40 rfl rfl Try.ntmps40 rfl rfl rfl fun g0 w0 ac gs ws hg0 hS => ?_
 have hS := hS.sp
 refine s0 [1, 2, 4] [0, 1] 2 hS fun hS => ?_
 refine wp_seq (s0 [1, 2, 4, 6] [0, 1] 2 hS fun hS => ?_)
 refine wp_block (loop_y (ι := Nat × (Nat → Int)) hg0 hS (fun z_ => match z_ with | (x6, o2_0) => 3 - x6) (fun z_ => match z_ with | (x6, o2_0) => [(1, .v (.func (.func 41) #[] #[])), (2, .cp 0 0), (4, .cp 1 0), (6, vi ((x6 : Nat) : Int))]) (fun z_ => match z_ with | (x6, o2_0) => [(0, .ob 62 (chain [.ar .u16 768 o2_0])), (1, .ob 62 (chain [.ar .u16 768 (fun _ => 0)]))]) (fun z_ => match z_ with | (x6, o2_0) => (x6 ≤ 3) ∧ (o2_0 = each_ntt_l1 f x6) ∧ True) 2 (0, f) [(0, 0), (1, 1)] ⟨omm, rfl, trivial⟩ ?_)
 rintro ⟨x6, o2_0⟩ ac gs ws ⟨hx6, hq1, _⟩ hS
 refine s0 [1, 2, 4, 6, 7] [0, 1] 2 hS fun hS => ?_
 refine wp_seq ?_
 refine if_d ((x6 : Int) < 3) hS (fun h1 => ?_) (fun h1 => ?_)
 ·refine wp_skip (then_n (wp_seq (wp_block (s0 [1, 2, 4, 5, 6] [0, 1] 2 hS fun hS => ?_))))
  refine rA [(4, .ov (.ar .u16 256 (fun j => o2_0 (x6 * 256 + j)))), (5, .call ⟨41, (c_ntt (fun j => o2_0 (x6 * 256 + j))), [], []⟩)] ⟨ntt_ok _, trivial⟩ (fun C => [(0 : Int) ≤ (x6 : Int) ∧ ((x6 : Int) : Int) < 3, (.ar .u16 256 (fun j => o2_0 (x6 * 256 + j)) : D) = (.ar .u16 256 (fun j => o2_0 (x6 * 256 + j))), ndC C 5, (0 : Int) ≤ (x6 : Int) ∧ ((x6 : Int) : Int) < 3]) [1, 2, 4, 6] [0, 1] 2 ⟨by omega, rfl, rfl, by omega, trivial⟩ hS fun hS => ?_
  refine block_n (then_n (rA [(0, .oi ((x6 + 1 : Nat) : Int))] trivial (fun _ => [iadd .i64 (x6 : Int) 1 = ((x6 + 1 : Nat) : Int)]) [1, 2, 4, 6] [0, 1] 2 ⟨by rw [iadd64 omm omm]; omega, trivial⟩ hS fun hS => ?_))
  refine then_n ?_
  exact next_y hg0 hS (s := (x6, o2_0)) (x6 + 1, updW o2_0 (x6 * 256) 256 (ntt_m (fun j => o2_0 (x6 * 256 + j)))) [(0, 0), (1, 1)] (show 3 - (x6 + 1) < 3 - x6 from by omega) ⟨omm, (it_next (F := each_ntt_l1 f) (st := each_ntt_l1_s f) (fun _ => rfl) hq1 rfl), trivial⟩
 ·have hScur := hS
  obtain rfl : 3 = x6 := by omega
  obtain rfl : each_ntt_l1 f 3 = o2_0 := Eq.symm (congrArg (fun z => z) hq1)
  have hS := hScur
  clear hScur
  refine wp_exit (then_exit (then_exit (block_exit (then_n (s0 [4] [1] 2 hS fun hS => ?_)))))
  refine wp_ret ?_
  have hM : each_ntt_m f = each_ntt_l1 f 3 := each_ntt_e f
  exact fin_y rfl (.inr rfl) hS [.ar .u16 768 (each_ntt_l1 f 3)] [] (by show weak _ (.ar .u16 768 (each_ntt_m f)) = (.ar .u16 768 (each_ntt_m f)); rw [hM]; first | (simp only []; rfl) | (simp only []; done) | rfl) trivial

def with_mul_l1_s (f g : Nat → Int) (x8 : Nat) : (Nat → Int) → (Nat → Int) := fun o3_0 => updW o3_0 (x8 * 256) 256 (mul_m (fun j => o3_0 (x8 * 256 + j)) (fun j => g (x8 * 256 + j)))
def with_mul_l1 (f g : Nat → Int) : Nat → (Nat → Int)
 | 0 => f
 | x8 + 1 => with_mul_l1_s f g x8 (with_mul_l1 f g x8)
def with_mul_v (f g : Nat → Int) : (Nat → Int) := with_mul_l1 f g 3
def with_mul_m (f g : Nat → Int) : (Nat → Int) := shut (with_mul_v f g)
theorem with_mul_e (f g : Nat → Int) : with_mul_m f g = with_mul_v f g := shut_eq _
def c_with_mul (f g : Nat → Int) : Con := ⟨[.ar .u16 768 f, .ar .u16 768 g, .v (.func (.func 74) #[] #[])], [], .ar .u16 768 (with_mul_m f g), []⟩
theorem with_mul_ok (f g : Nat → Int) : ConOk Try.prog 73 (c_with_mul f g) := by
 refine conOk_of rfl (nb := 0) Try.func73 rfl rfl Try.ntmps73 rfl rfl rfl fun g0 w0 ac gs ws hg0 hS => ?_
 have hS := hS.sp
 refine s0 [2, 3, 4, 6] [0, 1, 2] 3 hS fun hS => ?_
 refine wp_seq (s0 [2, 3, 4, 6, 8] [0, 1, 2] 3 hS fun hS => ?_)
 refine wp_block (loop_y (ι := Nat × (Nat → Int)) hg0 hS (fun z_ => match z_ with | (x8, o3_0) => 3 - x8) (fun z_ => match z_ with | (x8, o3_0) => [(2, .v (.func (.func 74) #[] #[])), (3, .cp 0 0), (4, .cp 1 0), (6, .cp 2 0), (8, vi ((x8 : Nat) : Int))]) (fun z_ => match z_ with | (x8, o3_0) => [(0, .ob 62 (chain [.ar .u16 768 o3_0])), (1, .ob 62 (chain [.ar .u16 768 g])), (2, .ob 62 (chain [.ar .u16 768 (fun _ => 0)]))]) (fun z_ => match z_ with | (x8, o3_0) => (x8 ≤ 3) ∧ (o3_0 = with_mul_l1 f g x8) ∧ True) 3 (0, f) [(0, 0), (1, 1), (2, 2)] ⟨omm, rfl, trivial⟩ ?_)
 rintro ⟨x8, o3_0⟩ ac gs ws ⟨hx8, hq1, _⟩ hS
 refine s0 [2, 3, 4, 6, 8, 9] [0, 1, 2] 3 hS fun hS => ?_
 refine wp_seq ?_
 refine if_d ((x8 : Int) < 3) hS (fun h1 => ?_) (fun h1 => ?_)
 ·refine wp_skip (then_n (wp_seq (wp_block (s0 [2, 3, 4, 6, 7, 8] [0, 1, 2] 3 hS fun hS => ?_))))
  refine rA [(4, .ov (.ar .u16 256 (fun j => o3_0 (x8 * 256 + j)))), (7, .ov (.ar .u16 256 (fun j => g (x8 * 256 + j)))), (8, .call ⟨74, (c_mul (fun j => o3_0 (x8 * 256 + j)) (fun j => g (x8 * 256 + j))), [], []⟩)] ⟨mul_ok _ _, trivial⟩ (fun _ => [(0 : Int) ≤ (x8 : Int) ∧ ((x8 : Int) : Int) < 3, (.ar .u16 256 (fun j => o3_0 (x8 * 256 + j)) : D) = (.ar .u16 256 (fun j => o3_0 (x8 * 256 + j))), (0 : Int) ≤ (x8 : Int) ∧ ((x8 : Int) : Int) < 3, (.ar .u16 256 (fun j => g (x8 * 256 + j)) : D) = (.ar .u16 256 (fun j => g (x8 * 256 + j))), nd [.ar .u16 256 (fun j => o3_0 (x8 * 256 + j)), .ar .u16 256 (fun j => g (x8 * 256 + j))] [], (0 : Int) ≤ (x8 : Int) ∧ ((x8 : Int) : Int) < 3]) [2, 3, 4, 6, 8] [0, 1, 2] 3 ⟨by omega, rfl, by omega, rfl, rfl, by omega, trivial⟩ hS fun hS => ?_
  refine block_n (then_n (rA [(0, .oi ((x8 + 1 : Nat) : Int))] trivial (fun _ => [iadd .i64 (x8 : Int) 1 = ((x8 + 1 : Nat) : Int)]) [2, 3, 4, 6, 8] [0, 1, 2] 3 ⟨by rw [iadd64 omm omm]; omega, trivial⟩ hS fun hS => ?_))
  refine then_n ?_
  exact next_y hg0 hS (s := (x8, o3_0)) (x8 + 1, updW o3_0 (x8 * 256) 256 (mul_m (fun j => o3_0 (x8 * 256 + j)) (fun j => g (x8 * 256 + j)))) [(0, 0), (1, 1), (2, 2)] (show 3 - (x8 + 1) < 3 - x8 from by omega) ⟨omm, (it_next (F := with_mul_l1 f g) (st := with_mul_l1_s f g) (fun _ => rfl) hq1 rfl), trivial⟩
 ·have hScur := hS
  obtain rfl : 3 = x8 := by omega
  obtain rfl : with_mul_l1 f g 3 = o3_0 := Eq.symm (congrArg (fun z => z) hq1)
  have hS := hScur
  clear hScur
  refine wp_exit (then_exit (then_exit (block_exit (then_n (s0 [6] [2] 3 hS fun hS => ?_)))))
  refine wp_ret ?_
  have hM : with_mul_m f g = with_mul_l1 f g 3 := with_mul_e f g
  exact fin_y rfl (.inr rfl) hS [.ar .u16 768 (with_mul_l1 f g 3)] [] (by show weak _ (.ar .u16 768 (with_mul_m f g)) = (.ar .u16 768 (with_mul_m f g)); rw [hM]; first | (simp only []; rfl) | (simp only []; done) | rfl) trivial

def dot_l1_s (f g : Nat → Int) (x10 : Nat) : (Nat → Int) → (Nat → Int) := fun o4_0 => add_m o4_0 (fun j => (with_mul_m f g) (x10 * 256 + j))
def dot_l1 (f g : Nat → Int) : Nat → (Nat → Int)
 | 0 => fun _ => 0
 | x10 + 1 => dot_l1_s f g x10 (dot_l1 f g x10)
def dot_v (f g : Nat → Int) : (Nat → Int) := dot_l1 f g 3
def dot_m (f g : Nat → Int) : (Nat → Int) := shut (dot_v f g)
theorem dot_e (f g : Nat → Int) : dot_m f g = dot_v f g := shut_eq _
def c_dot (f g : Nat → Int) : Con := ⟨[.ar .u16 768 f, .ar .u16 768 g], [], .ar .u16 256 (dot_m f g), []⟩
theorem dot_ok (f g : Nat → Int) : ConOk Try.prog 44 (c_dot f g) := by
 refine conOk_of rfl (nb := 0) Try.func44 rfl rfl Try.ntmps44 rfl rfl rfl fun g0 w0 ac gs ws hg0 hS => ?_
 have hS := hS.sp
 refine s0 [2, 3, 4] [0, 1, 2] 3 hS fun hS => ?_
 refine wp_seq (sA [(0, .ov (.ar .u16 768 f)), (1, .ov (.ar .u16 768 g)), (2, .call ⟨73, (c_with_mul f g), [], []⟩)] ⟨with_mul_ok _ _, trivial⟩ (fun _ => [(.ar .u16 768 f : D) = (.ar .u16 768 f), (.ar .u16 768 g : D) = (.ar .u16 768 g), nd [.ar .u16 768 f, .ar .u16 768 g, .v (.func (.func 74) #[] #[])] []]) [4, 9, 10] [2] 3 ⟨rfl, rfl, rfl, trivial⟩ hS fun hS => ?_)
 refine wp_block (loop_y (ι := Nat × (Nat → Int)) hg0 hS (fun z_ => match z_ with | (x10, o4_0) => 3 - x10) (fun z_ => match z_ with | (x10, o4_0) => [(4, .cp 2 0), (9, .ar .u16 768 (with_mul_m f g)), (10, vi ((x10 : Nat) : Int))]) (fun z_ => match z_ with | (x10, o4_0) => [(2, .ob 60 (chain [.ar .u16 256 o4_0]))]) (fun z_ => match z_ with | (x10, o4_0) => (x10 ≤ 3) ∧ (o4_0 = dot_l1 f g x10) ∧ True) 3 (0, fun _ => 0) [(2, 2)] ⟨omm, rfl, trivial⟩ ?_)
 rintro ⟨x10, o4_0⟩ ac gs ws ⟨hx10, hq1, _⟩ hS
 refine s0 [4, 9, 10, 11] [2] 3 hS fun hS => ?_
 refine wp_seq ?_
 refine if_d ((x10 : Int) < 3) hS (fun h1 => ?_) (fun h1 => ?_)
 ·refine wp_skip (then_n (wp_seq (wp_block (sA [] trivial (fun _ => [(0 : Int) ≤ (x10 : Int) ∧ ((x10 : Int) : Int) < 3]) [4, 6, 9, 10] [2, 3] 4 ⟨by omega, trivial⟩ hS fun hS => ?_))))
  refine rA [(0, .ov (.ar .u16 256 o4_0)), (1, .ov (.ar .u16 256 (fun j => (with_mul_m f g) (x10 * 256 + j)))), (2, .call ⟨42, (c_add o4_0 (fun j => (with_mul_m f g) (x10 * 256 + j))), [], []⟩)] ⟨add_ok _ _, trivial⟩ (fun _ => [(.ar .u16 256 o4_0 : D) = (.ar .u16 256 o4_0), (.ar .u16 256 (fun j => (with_mul_m f g) (x10 * 256 + j)) : D) = (.ar .u16 256 (fun j => (with_mul_m f g) (x10 * 256 + j))), nd [.ar .u16 256 o4_0, .ar .u16 256 (fun j => (with_mul_m f g) (x10 * 256 + j))] []]) [4, 9, 10] [2] 4 ⟨rfl, rfl, rfl, trivial⟩ hS fun hS => ?_
  refine block_n (then_n (rA [(0, .oi ((x10 + 1 : Nat) : Int))] trivial (fun _ => [iadd .i64 (x10 : Int) 1 = ((x10 + 1 : Nat) : Int)]) [4, 9, 10] [2] 4 ⟨by rw [iadd64 omm omm]; omega, trivial⟩ hS fun hS => ?_))
  refine then_n ?_
  exact next_y hg0 hS (s := (x10, o4_0)) (x10 + 1, add_m o4_0 (fun j => (with_mul_m f g) (x10 * 256 + j))) [(2, 2)] (show 3 - (x10 + 1) < 3 - x10 from by omega) ⟨omm, (it_next (F := dot_l1 f g) (st := dot_l1_s f g) (fun _ => rfl) hq1 rfl), trivial⟩
 ·have hScur := hS
  obtain rfl : 3 = x10 := by omega
  obtain rfl : dot_l1 f g 3 = o4_0 := Eq.symm (congrArg (fun z => z) hq1)
  have hS := hScur
  clear hScur
  refine wp_exit (then_exit (then_exit (block_exit (then_n (s0 [4] [2] 3 hS fun hS => ?_)))))
  refine wp_ret ?_
  have hM : dot_m f g = dot_l1 f g 3 := dot_e f g
  exact fin_y rfl (.inr rfl) hS [.ar .u16 256 (dot_l1 f g 3)] [] (by show weak _ (.ar .u16 256 (dot_m f g)) = (.ar .u16 256 (dot_m f g)); rw [hM]; first | (simp only []; rfl) | (simp only []; done) | rfl) trivial

def rbytes_l1_s (f : Nat → Int) (x8 : Nat) : (List Int) → (List Int) := fun x2 => x2 ++ (encode12_m (fun j => f (x8 * 256 + j)))
def rbytes_l1 (f : Nat → Int) : Nat → (List Int)
 | 0 => []
 | x8 + 1 => rbytes_l1_s f x8 (rbytes_l1 f x8)
def rbytes_v (f : Nat → Int) : (List Int) := rbytes_l1 f 3
def rbytes_m (f : Nat → Int) : (List Int) := shut (rbytes_v f)
theorem rbytes_e (f : Nat → Int) : rbytes_m f = rbytes_v f := shut_eq _
def c_rbytes (f : Nat → Int) : Con := ⟨[.ar .u16 768 f], [], lb (rbytes_m f), []⟩
theorem rbytes_ok (f : Nat → Int) : ConOk Try.prog 46 (c_rbytes f) := by
 refine conOk_of rfl (nb := 0) Try.func46 rfl rfl Try.ntmps46 rfl rfl rfl fun g0 w0 ac gs ws hg0 hS => ?_
 have hS := hS.sp
 refine s0 [1, 2] [0] 1 hS fun hS => ?_
 refine wp_seq (s0 [2, 7, 8] [] 1 hS fun hS => ?_)
 refine wp_block ?_
 obtain ⟨gs, hS⟩ := hS.nilk 2 5 [.int .u8]
 refine loop_y (ι := Nat × (List Int)) hg0 hS (fun z_ => match z_ with | (x8, x2) => 3 - x8) (fun z_ => match z_ with | (x8, x2) => [(2, .sk 1), (7, .ar .u16 768 f), (8, vi ((x8 : Nat) : Int))]) (fun z_ => match z_ with | (x8, x2) => [(1, .sl 5 [.int .u8] x2)]) (fun z_ => match z_ with | (x8, x2) => (x8 ≤ 3) ∧ (x2 = rbytes_l1 f x8) ∧ (x2.length = 384 * x8) ∧ True) 2 (0, []) [(1, 1)] ⟨omm, rfl, rfl, trivial⟩ ?_
 rintro ⟨x8, x2⟩ ac gs ws ⟨hx8, hq1, p1, _⟩ hS
 refine s0 [2, 7, 8, 9] [1] 2 hS fun hS => ?_
 refine wp_seq ?_
 refine if_d ((x8 : Int) < 3) hS (fun h1 => ?_) (fun h1 => ?_)
 ·refine wp_skip (then_n (wp_seq (wp_block (sA [] trivial (fun _ => [(0 : Int) ≤ (x8 : Int) ∧ ((x8 : Int) : Int) < 3]) [2, 4, 7, 8] [1, 2] 3 ⟨by omega, trivial⟩ hS fun hS => ?_))))
  refine wp_seq (rA [(0, .ov (.ar .u16 256 (fun j => f (x8 * 256 + j)))), (1, .call ⟨76, (c_encode12 (fun j => f (x8 * 256 + j))), [], [(0, 3)]⟩)] ⟨encode12_ok _, trivial⟩ (fun _ => [(.ar .u16 256 (fun j => f (x8 * 256 + j)) : D) = (.ar .u16 256 (fun j => f (x8 * 256 + j))), nd [.ar .u16 256 (fun j => f (x8 * 256 + j)), vi 12] []]) [2, 5, 7, 8] [1, 3] 4 ⟨rfl, rfl, trivial⟩ hS fun hS => ?_)
  have hl := encode12_len (fun j => f (x8 * 256 + j))
  refine then_n (rA [] trivial (fun _ => [x2.length + (encode12_m (fun j => f (x8 * 256 + j))).length ≤ 9223372036854775807, (x2.length + (encode12_m (fun j => f (x8 * 256 + j))).length) * 1 ≤ 140737488355328]) [2, 7, 8] [4] 5 ⟨by omega, by omega, trivial⟩ hS fun hS => ?_)
  refine block_n (then_n (rA [(0, .oi ((x8 + 1 : Nat) : Int))] trivial (fun _ => [iadd .i64 (x8 : Int) 1 = ((x8 + 1 : Nat) : Int)]) [2, 7, 8] [4] 5 ⟨by rw [iadd64 omm omm]; omega, trivial⟩ hS fun hS => ?_))
  refine then_n ?_
  exact next_y hg0 hS (s := (x8, x2)) (x8 + 1, x2 ++ (encode12_m (fun j => f (x8 * 256 + j)))) [(1, 4)] (show 3 - (x8 + 1) < 3 - x8 from by omega) ⟨omm, (it_next (F := rbytes_l1 f) (st := rbytes_l1_s f) (fun _ => rfl) hq1 rfl), (by rw [List.length_append, encode12_len, p1]; omega), trivial⟩
 ·have hScur := hS
  obtain rfl : 3 = x8 := by omega
  obtain rfl : rbytes_l1 f 3 = x2 := Eq.symm (congrArg (fun z => z) hq1)
  have hS := hScur
  clear hScur
  refine wp_exit (then_exit (then_exit (block_exit (then_n (s0 [2] [1] 2 hS fun hS => ?_)))))
  refine wp_ret ?_
  have hM : rbytes_m f = rbytes_l1 f 3 := rbytes_e f
  obtain ⟨gs, hS⟩ := hS.fz 1
  exact fin_y rfl (.inr rfl) hS [lb (rbytes_l1 f 3)] [] (by show weak _ (lb (rbytes_m f)) = (lb (rbytes_m f)); rw [hM]; first | (simp only []; rfl) | (simp only []; done) | rfl) trivial

def rowof_l1_s (xs : List Int) (x4 : Nat) : (Nat → Int) → (Nat → Int) := fun o2_0 => updW o2_0 (x4 * 256) 256 (unpack12_m (xs.drop (384 * x4)))
def rowof_l1 (xs : List Int) : Nat → (Nat → Int)
 | 0 => fun _ => 0
 | x4 + 1 => rowof_l1_s xs x4 (rowof_l1 xs x4)
def rowof_v (xs : List Int) : (Nat → Int) := rowof_l1 xs 3
def rowof_m (xs : List Int) : (Nat → Int) := shut (rowof_v xs)
theorem rowof_e (xs : List Int) : rowof_m xs = rowof_v xs := shut_eq _
def c_rowof (xs : List Int) : Con := ⟨[lb xs], [], .ar .u16 768 (rowof_m xs), []⟩
theorem rowof_ok (xs : List Int) (h : 1152 ≤ xs.length) : ConOk Try.prog 33 (c_rowof xs) := by
 refine conOk_of rfl (nb := 0) Try.func33 rfl rfl Try.ntmps33 rfl rfl rfl fun g0 w0 ac gs ws hg0 hS => ?_
 have hlen0 : xs.length ≤ 9223372036854775807 := hS.len 0 rfl
 have hS := hS.sp
 refine s0 [0, 2] [0] 1 hS fun hS => ?_
 refine wp_seq (s0 [0, 2, 4] [0] 1 hS fun hS => ?_)
 refine wp_block (loop_y (ι := Nat × (Nat → Int)) hg0 hS (fun z_ => match z_ with | (x4, o2_0) => 3 - x4) (fun z_ => match z_ with | (x4, o2_0) => [(0, lb xs), (2, .cp 0 0), (4, vi ((x4 : Nat) : Int))]) (fun z_ => match z_ with | (x4, o2_0) => [(0, .ob 62 (chain [.ar .u16 768 o2_0]))]) (fun z_ => match z_ with | (x4, o2_0) => (x4 ≤ 3) ∧ (o2_0 = rowof_l1 xs x4) ∧ True) 1 (0, fun _ => 0) [(0, 0)] ⟨omm, rfl, trivial⟩ ?_)
 rintro ⟨x4, o2_0⟩ ac gs ws ⟨hx4, hq1, _⟩ hS
 refine s0 [0, 2, 4, 5] [0] 1 hS fun hS => ?_
 refine wp_seq ?_
 refine if_d ((x4 : Int) < 3) hS (fun h1 => ?_) (fun h1 => ?_)
 ·refine wp_skip (then_n (wp_seq (wp_block (s0 [0, 2, 3, 4] [0] 1 hS fun hS => ?_))))
  refine rA [(3, .oi ((384 * x4 : Nat) : Int)), (5, .call ⟨64, (c_unpack12 (xs.drop (384 * x4))), [], []⟩)] ⟨unpack12_ok _ (by first | omega | (simp only [List.length_append, List.length_drop, List.length_take, List.length_cons, List.length_nil]; omega)), trivial⟩ (fun C => [imul .i64 384 (x4 : Int) = ((384 * x4 : Nat) : Int), bndP (some ((384 * x4 : Nat) : Int)) none none xs.length xs.length, ndC C 5, (0 : Int) ≤ (x4 : Int) ∧ ((x4 : Int) : Int) < 3]) [0, 2, 4] [0] 1 ⟨by rw [imul64 omm omm]; omega, ⟨by simp only [nnI] <;> omega, by simp only [nnI] <;> omega, by simp only [nnI] <;> omega, by simp, by simp only [bl] <;> omega, by simp only [bl] <;> omega, by simp only [bl] <;> omega⟩, rfl, by omega, trivial⟩ hS fun hS => ?_
  refine block_n (then_n (rA [(0, .oi ((x4 + 1 : Nat) : Int))] trivial (fun _ => [iadd .i64 (x4 : Int) 1 = ((x4 + 1 : Nat) : Int)]) [0, 2, 4] [0] 1 ⟨by rw [iadd64 omm omm]; omega, trivial⟩ hS fun hS => ?_))
  refine then_n ?_
  exact next_y hg0 hS (s := (x4, o2_0)) (x4 + 1, updW o2_0 (x4 * 256) 256 (unpack12_m (xs.drop (384 * x4)))) [(0, 0)] (show 3 - (x4 + 1) < 3 - x4 from by omega) ⟨omm, (it_next (F := rowof_l1 xs) (st := rowof_l1_s xs) (fun _ => rfl) hq1 rfl), trivial⟩
 ·have hScur := hS
  obtain rfl : 3 = x4 := by omega
  obtain rfl : rowof_l1 xs 3 = o2_0 := Eq.symm (congrArg (fun z => z) hq1)
  have hS := hScur
  clear hScur
  refine wp_exit (then_exit (then_exit (block_exit (then_n (s0 [2] [0] 1 hS fun hS => ?_)))))
  refine wp_ret ?_
  have hM : rowof_m xs = rowof_l1 xs 3 := rowof_e xs
  exact fin_y rfl (.inr rfl) hS [.ar .u16 768 (rowof_l1 xs 3)] [] (by show weak _ (.ar .u16 768 (rowof_m xs)) = (.ar .u16 768 (rowof_m xs)); rw [hM]; first | (simp only []; rfl) | (simp only []; done) | rfl) trivial

def knoise_l1_s (sd : List Int) (n x6 : Nat) : (Nat → Int) → (Nat → Int) := fun o4_0 => updW o4_0 (x6 * 256) 256 (noise_m sd (IntKind.wrap .u8 ((n + x6 : Nat) : Int)))
def knoise_l1 (sd : List Int) (n : Nat) : Nat → (Nat → Int)
 | 0 => fun _ => 0
 | x6 + 1 => knoise_l1_s sd n x6 (knoise_l1 sd n x6)
def knoise_v (sd : List Int) (n : Nat) : (Nat → Int) := knoise_l1 sd n 3
def knoise_m (sd : List Int) (n : Nat) : (Nat → Int) := shut (knoise_v sd n)
theorem knoise_e (sd : List Int) (n : Nat) : knoise_m sd n = knoise_v sd n := shut_eq _
def c_knoise (sd : List Int) (n : Nat) : Con := ⟨[lb sd, vi (n : Int)], [], .ar .u16 768 (knoise_m sd n), []⟩
theorem knoise_ok (sd : List Int) (n : Nat) (h : sd.length ≤ 100000000000000) (hn : n ≤ 100) : ConOk Try.prog 39 (c_knoise sd n) := by
 refine conOk_of rfl (nb := 0) Try.func39 rfl rfl Try.ntmps39 rfl rfl rfl fun g0 w0 ac gs ws hg0 hS => ?_
 have hlen0 : sd.length ≤ 9223372036854775807 := hS.len 0 rfl
 have hS := hS.sp
 refine s0 [0, 1, 4] [0] 1 hS fun hS => ?_
 refine wp_seq (s0 [0, 1, 4, 6] [0] 1 hS fun hS => ?_)
 refine wp_block (loop_y (ι := Nat × (Nat → Int)) hg0 hS (fun z_ => match z_ with | (x6, o4_0) => 3 - x6) (fun z_ => match z_ with | (x6, o4_0) => [(0, lb sd), (1, vi (n : Int)), (4, .cp 0 0), (6, vi ((x6 : Nat) : Int))]) (fun z_ => match z_ with | (x6, o4_0) => [(0, .ob 62 (chain [.ar .u16 768 o4_0]))]) (fun z_ => match z_ with | (x6, o4_0) => (x6 ≤ 3) ∧ (o4_0 = knoise_l1 sd n x6) ∧ True) 1 (0, fun _ => 0) [(0, 0)] ⟨omm, rfl, trivial⟩ ?_)
 rintro ⟨x6, o4_0⟩ ac gs ws ⟨hx6, hq1, _⟩ hS
 refine s0 [0, 1, 4, 6, 7] [0] 1 hS fun hS => ?_
 refine wp_seq ?_
 refine if_d ((x6 : Int) < 3) hS (fun h1 => ?_) (fun h1 => ?_)
 ·refine wp_skip (then_n (wp_seq (wp_block (s0 [0, 1, 4, 5, 6] [0] 1 hS fun hS => ?_))))
  refine rA [(4, .oi ((n + x6 : Nat) : Int)), (6, .call ⟨69, (c_noise sd (IntKind.wrap .u8 ((n + x6 : Nat) : Int))), [], []⟩)] ⟨noise_ok _ _ lnn, trivial⟩ (fun C => [iadd .i64 (n : Int) (x6 : Int) = ((n + x6 : Nat) : Int), ndC C 6, (0 : Int) ≤ (x6 : Int) ∧ ((x6 : Int) : Int) < 3]) [0, 1, 4, 6] [0] 1 ⟨by rw [iadd64 omm omm]; omega, rfl, by omega, trivial⟩ hS fun hS => ?_
  refine block_n (then_n (rA [(0, .oi ((x6 + 1 : Nat) : Int))] trivial (fun _ => [iadd .i64 (x6 : Int) 1 = ((x6 + 1 : Nat) : Int)]) [0, 1, 4, 6] [0] 1 ⟨by rw [iadd64 omm omm]; omega, trivial⟩ hS fun hS => ?_))
  refine then_n ?_
  exact next_y hg0 hS (s := (x6, o4_0)) (x6 + 1, updW o4_0 (x6 * 256) 256 (noise_m sd (IntKind.wrap .u8 ((n + x6 : Nat) : Int)))) [(0, 0)] (show 3 - (x6 + 1) < 3 - x6 from by omega) ⟨omm, (it_next (F := knoise_l1 sd n) (st := knoise_l1_s sd n) (fun _ => rfl) hq1 rfl), trivial⟩
 ·have hScur := hS
  obtain rfl : 3 = x6 := by omega
  obtain rfl : knoise_l1 sd n 3 = o4_0 := Eq.symm (congrArg (fun z => z) hq1)
  have hS := hScur
  clear hScur
  refine wp_exit (then_exit (then_exit (block_exit (then_n (s0 [4] [0] 1 hS fun hS => ?_)))))
  refine wp_ret ?_
  have hM : knoise_m sd n = knoise_l1 sd n 3 := knoise_e sd n
  exact fin_y rfl (.inr rfl) hS [.ar .u16 768 (knoise_l1 sd n 3)] [] (by show weak _ (.ar .u16 768 (knoise_m sd n)) = (.ar .u16 768 (knoise_m sd n)); rw [hM]; first | (simp only []; rfl) | (simp only []; done) | rfl) trivial

def matrix_true_l1_s (sd : List Int) (i x10 : Nat) : (Nat → Int) → (Nat → Int) := fun o6_0 => updW o6_0 (x10 * 256) 256 (uniform [sd, [(IntKind.wrap .u8 (i : Int)), (IntKind.wrap .u8 (x10 : Int))]])
def matrix_true_l1 (sd : List Int) (i : Nat) : Nat → (Nat → Int)
 | 0 => fun _ => 0
 | x10 + 1 => matrix_true_l1_s sd i x10 (matrix_true_l1 sd i x10)
def matrix_true_v (sd : List Int) (i : Nat) : (Nat → Int) := matrix_true_l1 sd i 3
def matrix_true_m (sd : List Int) (i : Nat) : (Nat → Int) := shut (matrix_true_v sd i)
theorem matrix_true_e (sd : List Int) (i : Nat) : matrix_true_m sd i = matrix_true_v sd i := shut_eq _
def c_matrix_true (sd : List Int) (i : Nat) : Con := ⟨[lb sd, vi (i : Int), .v (.bool true)], [], .ar .u16 768 (matrix_true_m sd i), []⟩
theorem matrix_true_ok (sd : List Int) (i : Nat) (h : sd.length = 32) (hi : i ≤ 100) : ConOk Try.prog 43 (c_matrix_true sd i) := by
 refine conOk_of rfl (nb := 0) Try.func43 rfl rfl Try.ntmps43 rfl rfl rfl fun g0 w0 ac gs ws hg0 hS => ?_
 have hlen0 : sd.length ≤ 9223372036854775807 := hS.len 0 rfl
 have hS := hS.sp
 refine s0 [0, 1, 2, 6] [0] 1 hS fun hS => ?_
 refine wp_seq (s0 [0, 1, 2, 6, 10] [0] 1 hS fun hS => ?_)
 refine wp_block (loop_y (ι := Nat × (Nat → Int)) hg0 hS (fun z_ => match z_ with | (x10, o6_0) => 3 - x10) (fun z_ => match z_ with | (x10, o6_0) => [(0, lb sd), (1, vi (i : Int)), (2, .v (.bool true)), (6, .cp 0 0), (10, vi ((x10 : Nat) : Int))]) (fun z_ => match z_ with | (x10, o6_0) => [(0, .ob 62 (chain [.ar .u16 768 o6_0]))]) (fun z_ => match z_ with | (x10, o6_0) => (x10 ≤ 3) ∧ (o6_0 = matrix_true_l1 sd i x10) ∧ True) 1 (0, fun _ => 0) [(0, 0)] ⟨omm, rfl, trivial⟩ ?_)
 rintro ⟨x10, o6_0⟩ ac gs ws ⟨hx10, hq1, _⟩ hS
 refine s0 [0, 1, 2, 6, 10, 11] [0] 1 hS fun hS => ?_
 refine wp_seq ?_
 refine if_d ((x10 : Int) < 3) hS (fun h1 => ?_) (fun h1 => ?_)
 ·refine wp_skip (then_n (wp_seq (wp_block (s0 [0, 1, 2, 6, 7, 10] [0] 1 hS fun hS => ?_))))
  refine s0 [0, 1, 2, 6, 7, 8, 9, 10] [0] 1 hS fun hS => ?_
  refine wp_seq (s0 [0, 1, 2, 6, 7, 8, 9, 10, 17] [0] 1 hS fun hS => ?_)
  refine cond_t hS ?_
  refine r0 [0, 1, 2, 6, 7, 8, 9, 10] [0] 1 hS fun hS => ?_
  refine then_n (rA [(4, .call ⟨72, (c_uniform sd (IntKind.wrap .u8 (i : Int)) (IntKind.wrap .u8 (x10 : Int))), [], []⟩)] ⟨uniform_ok _ _ _ (by first | omega | assumption), trivial⟩ (fun C => [ndC C 4, (0 : Int) ≤ (x10 : Int) ∧ ((x10 : Int) : Int) < 3]) [0, 1, 2, 6, 10] [0] 1 ⟨rfl, by omega, trivial⟩ hS fun hS => ?_)
  refine block_n (then_n (rA [(0, .oi ((x10 + 1 : Nat) : Int))] trivial (fun _ => [iadd .i64 (x10 : Int) 1 = ((x10 + 1 : Nat) : Int)]) [0, 1, 2, 6, 10] [0] 1 ⟨by rw [iadd64 omm omm]; omega, trivial⟩ hS fun hS => ?_))
  refine then_n ?_
  exact next_y hg0 hS (s := (x10, o6_0)) (x10 + 1, updW o6_0 (x10 * 256) 256 (uniform [sd, [(IntKind.wrap .u8 (i : Int)), (IntKind.wrap .u8 (x10 : Int))]])) [(0, 0)] (show 3 - (x10 + 1) < 3 - x10 from by omega) ⟨omm, (it_next (F := matrix_true_l1 sd i) (st := matrix_true_l1_s sd i) (fun _ => rfl) hq1 rfl), trivial⟩
 ·have hScur := hS
  obtain rfl : 3 = x10 := by omega
  obtain rfl : matrix_true_l1 sd i 3 = o6_0 := Eq.symm (congrArg (fun z => z) hq1)
  have hS := hScur
  clear hScur
  refine wp_exit (then_exit (then_exit (block_exit (then_n (s0 [6] [0] 1 hS fun hS => ?_)))))
  refine wp_ret ?_
  have hM : matrix_true_m sd i = matrix_true_l1 sd i 3 := matrix_true_e sd i
  exact fin_y rfl (.inr rfl) hS [.ar .u16 768 (matrix_true_l1 sd i 3)] [] (by show weak _ (.ar .u16 768 (matrix_true_m sd i)) = (.ar .u16 768 (matrix_true_m sd i)); rw [hM]; first | (simp only []; rfl) | (simp only []; done) | rfl) trivial

def matrix_false_l1_s (sd : List Int) (i x10 : Nat) : (Nat → Int) → (Nat → Int) := fun o6_0 => updW o6_0 (x10 * 256) 256 (uniform [sd, [(IntKind.wrap .u8 (x10 : Int)), (IntKind.wrap .u8 (i : Int))]])
def matrix_false_l1 (sd : List Int) (i : Nat) : Nat → (Nat → Int)
 | 0 => fun _ => 0
 | x10 + 1 => matrix_false_l1_s sd i x10 (matrix_false_l1 sd i x10)
def matrix_false_v (sd : List Int) (i : Nat) : (Nat → Int) := matrix_false_l1 sd i 3
def matrix_false_m (sd : List Int) (i : Nat) : (Nat → Int) := shut (matrix_false_v sd i)
theorem matrix_false_e (sd : List Int) (i : Nat) : matrix_false_m sd i = matrix_false_v sd i := shut_eq _
def c_matrix_false (sd : List Int) (i : Nat) : Con := ⟨[lb sd, vi (i : Int), .v (.bool false)], [], .ar .u16 768 (matrix_false_m sd i), []⟩
theorem matrix_false_ok (sd : List Int) (i : Nat) (h : sd.length = 32) (hi : i ≤ 100) : ConOk Try.prog 43 (c_matrix_false sd i) := by
 refine conOk_of rfl (nb := 0) Try.func43 rfl rfl Try.ntmps43 rfl rfl rfl fun g0 w0 ac gs ws hg0 hS => ?_
 have hlen0 : sd.length ≤ 9223372036854775807 := hS.len 0 rfl
 have hS := hS.sp
 refine s0 [0, 1, 2, 6] [0] 1 hS fun hS => ?_
 refine wp_seq (s0 [0, 1, 2, 6, 10] [0] 1 hS fun hS => ?_)
 refine wp_block (loop_y (ι := Nat × (Nat → Int)) hg0 hS (fun z_ => match z_ with | (x10, o6_0) => 3 - x10) (fun z_ => match z_ with | (x10, o6_0) => [(0, lb sd), (1, vi (i : Int)), (2, .v (.bool false)), (6, .cp 0 0), (10, vi ((x10 : Nat) : Int))]) (fun z_ => match z_ with | (x10, o6_0) => [(0, .ob 62 (chain [.ar .u16 768 o6_0]))]) (fun z_ => match z_ with | (x10, o6_0) => (x10 ≤ 3) ∧ (o6_0 = matrix_false_l1 sd i x10) ∧ True) 1 (0, fun _ => 0) [(0, 0)] ⟨omm, rfl, trivial⟩ ?_)
 rintro ⟨x10, o6_0⟩ ac gs ws ⟨hx10, hq1, _⟩ hS
 refine s0 [0, 1, 2, 6, 10, 11] [0] 1 hS fun hS => ?_
 refine wp_seq ?_
 refine if_d ((x10 : Int) < 3) hS (fun h1 => ?_) (fun h1 => ?_)
 ·refine wp_skip (then_n (wp_seq (wp_block (s0 [0, 1, 2, 6, 7, 10] [0] 1 hS fun hS => ?_))))
  refine s0 [0, 1, 2, 6, 7, 8, 9, 10] [0] 1 hS fun hS => ?_
  refine wp_seq (s0 [0, 1, 2, 6, 7, 8, 9, 10, 17] [0] 1 hS fun hS => ?_)
  refine cond_f hS ?_
  refine wp_skip (then_n (rA [(4, .call ⟨72, (c_uniform sd (IntKind.wrap .u8 (x10 : Int)) (IntKind.wrap .u8 (i : Int))), [], []⟩)] ⟨uniform_ok _ _ _ (by first | omega | assumption), trivial⟩ (fun C => [ndC C 4, (0 : Int) ≤ (x10 : Int) ∧ ((x10 : Int) : Int) < 3]) [0, 1, 2, 6, 10] [0] 1 ⟨rfl, by omega, trivial⟩ hS fun hS => ?_))
  refine block_n (then_n (rA [(0, .oi ((x10 + 1 : Nat) : Int))] trivial (fun _ => [iadd .i64 (x10 : Int) 1 = ((x10 + 1 : Nat) : Int)]) [0, 1, 2, 6, 10] [0] 1 ⟨by rw [iadd64 omm omm]; omega, trivial⟩ hS fun hS => ?_))
  refine then_n ?_
  exact next_y hg0 hS (s := (x10, o6_0)) (x10 + 1, updW o6_0 (x10 * 256) 256 (uniform [sd, [(IntKind.wrap .u8 (x10 : Int)), (IntKind.wrap .u8 (i : Int))]])) [(0, 0)] (show 3 - (x10 + 1) < 3 - x10 from by omega) ⟨omm, (it_next (F := matrix_false_l1 sd i) (st := matrix_false_l1_s sd i) (fun _ => rfl) hq1 rfl), trivial⟩
 ·have hScur := hS
  obtain rfl : 3 = x10 := by omega
  obtain rfl : matrix_false_l1 sd i 3 = o6_0 := Eq.symm (congrArg (fun z => z) hq1)
  have hS := hScur
  clear hScur
  refine wp_exit (then_exit (then_exit (block_exit (then_n (s0 [6] [0] 1 hS fun hS => ?_)))))
  refine wp_ret ?_
  have hM : matrix_false_m sd i = matrix_false_l1 sd i 3 := matrix_false_e sd i
  exact fin_y rfl (.inr rfl) hS [.ar .u16 768 (matrix_false_l1 sd i 3)] [] (by show weak _ (.ar .u16 768 (matrix_false_m sd i)) = (.ar .u16 768 (matrix_false_m sd i)); rw [hM]; first | (simp only []; rfl) | (simp only []; done) | rfl) trivial

end
end Go.Sx.Try
namespace Go.Sx.Try
open Go.Mi Go.RowKit Go.Sx Go.Proofs
noncomputable section
theorem eq_no1 {xs ys : List Int} (h : ¬ ((xs.length : Nat) : Int) = ((ys.length : Nat) : Int)) : decide (xs = ys) = false := decide_eq_false fun e => h (by rw [e])
theorem eq_no2 {xs ys : List Int} {i : Nat} (h : ¬ xs.getD i 0 = ys.getD i 0) : decide (xs = ys) = false := decide_eq_false fun e => h (by rw [e])
theorem eq_yes {xs ys : List Int} (hl : ((xs.length : Nat) : Int) = ((ys.length : Nat) : Int)) (h : ∀ j, j < xs.length → xs.getD j 0 = ys.getD j 0) : decide (xs = ys) = true := decide_eq_true (by
 refine List.ext_getElem omm fun i h1 h2 => ?_
 have := h i h1
 rwa [List.getD_eq_getElem?_getD, List.getD_eq_getElem?_getD, List.getElem?_eq_getElem h1, List.getElem?_eq_getElem h2] at this)
def rmay (xs : List Int) : Bool := (List.range 3).all fun i => mayB fun j => rowof_m xs (i * 256 + j)
theorem rmay_no {xs : List Int} {i : Nat} (hi : i < 3) (h : mayB (fun j => rowof_m xs (i * 256 + j)) = false) : rmay xs = false := by
 cases hb : rmay xs with
 | false => rfl
 | true =>
  have := List.all_eq_true.1 hb i (List.mem_range.2 hi)
  rw [h] at this; cases this
theorem rmay_yes {xs : List Int} (h : ∀ i, i < 3 → mayB (fun j => rowof_m xs (i * 256 + j)) = true) : rmay xs = true := by
 unfold rmay
 rw [List.all_eq_true]
 exact fun i hi => h i (List.mem_range.1 hi)
def chk (xs : List Int) : Nat := if xs.length = 1184 then (if rmay xs = true then 0 else 2) else 1
theorem chk_1 {xs : List Int} (h : ¬ ((xs.length : Nat) : Int) = 1184) : chk xs = 1 := by unfold chk; rw [if_neg omm]
theorem chk_2 {xs : List Int} (h : ((xs.length : Nat) : Int) = 1184) (h2 : rmay xs = false) : chk xs = 2 := by unfold chk; rw [if_pos omm, if_neg (by rw [h2]; decide)]
theorem chk_0 {xs : List Int} (h : ((xs.length : Nat) : Int) = 1184) (h2 : rmay xs = true) : chk xs = 0 := by unfold chk; rw [if_pos omm, if_pos h2]
def chkdk (xs : List Int) : Nat := if xs.length = 2400 then (if rmay xs = true then (if chk ((xs.take 2336).drop 1152) = 0 then (if sum256_m [(xs.take 2336).drop 1152] = (xs.take 2368).drop 2336 then 0 else 2) else 2) else 2) else 1
def c_sequal (xs ys : List Int) : Con := ⟨[lb xs, lb ys], [], .v (.bool (decide (xs = ys))), []⟩
theorem sequal_ok (xs ys : List Int) : ConOk Try.prog 66 (c_sequal xs ys) := by
 refine conOk_of rfl (nb := 0) Try.func66 rfl rfl Try.ntmps66 rfl rfl rfl fun g0 w0 ac gs ws hg0 hS => ?_
 have hlen0 : xs.length ≤ 9223372036854775807 := hS.len 0 rfl
 have hlen1 : ys.length ≤ 9223372036854775807 := hS.len 1 rfl
 have hS := hS.sp
 refine s0 [0, 1, 4] [] 0 hS fun hS => ?_
 refine wp_seq (s0 [0, 1, 4, 10] [] 0 hS fun hS => ?_)
 refine if_n (((xs.length : Nat) : Int) = ((ys.length : Nat) : Int)) hS (fun h1 => ?_) (fun h1 => ?_)
 ·refine s0 [0, 1, 4] [] 0 hS fun hS => ?_
  refine wp_ret (then_ret ?_)
  exact fin_y rfl (.inr rfl) hS [.v (.bool false)] [] (by show weak _ (.v (.bool (decide (xs = ys)))) = .v (.bool (decide (xs = ys))); rw [eq_no1 h1]; rfl) trivial
 ·refine wp_skip (then_n (wp_seq (s0 [0, 1, 4, 12, 13] [] 0 hS fun hS => ?_)))
  refine wp_block (loop_y (ι := Nat) hg0 hS (fun i => xs.length - i) (fun i => [(0, lb xs), (1, lb ys), (12, vi ((xs.length : Nat) : Int)), (13, vi ((i : Nat) : Int))]) (fun i => []) (fun i => (i ≤ xs.length) ∧ (∀ j, j < i → xs.getD j 0 = ys.getD j 0) ∧ True) 0 0 [] ⟨omm, (fun j h => absurd h (Nat.not_lt_zero j)), trivial⟩ ?_)
  rintro i ac gs ws ⟨hi, pm, _⟩ hS
  refine s0 [0, 1, 12, 13, 14] [] 0 hS fun hS => ?_
  refine wp_seq ?_
  refine if_d ((i : Int) < ((xs.length : Nat) : Int)) hS (fun h2 => ?_) (fun h2 => ?_)
  ·refine wp_skip (then_n (wp_seq (wp_block (s0 [0, 1, 5, 12, 13] [] 0 hS fun hS => ?_))))
   refine sA [] trivial (fun _ => [(0 : Int) ≤ (i : Int) ∧ (i : Int) < ((xs.length : Nat) : Int), (0 : Int) ≤ (i : Int) ∧ (i : Int) < ((ys.length : Nat) : Int)]) [0, 1, 12, 13, 24] [] 0 ⟨by omega, by omega, trivial⟩ hS fun hS => ?_
   refine if_n ((xs.getD i 0) = (ys.getD i 0)) hS (fun h3 => ?_) (fun h3 => ?_)
   ·refine s0 [0, 1, 4, 12, 13] [] 0 hS fun hS => ?_
    refine wp_ret (block_ret (then_ret (then_ret (block_ret (then_ret ?_)))))
    exact fin_y rfl (.inr rfl) hS [.v (.bool false)] [] (by show weak _ (.v (.bool (decide (xs = ys)))) = .v (.bool (decide (xs = ys))); rw [eq_no2 h3]; rfl) trivial
   ·refine wp_skip (block_n (then_n (rA [(0, .oi ((i + 1 : Nat) : Int))] trivial (fun _ => [iadd .i64 (i : Int) 1 = ((i + 1 : Nat) : Int)]) [0, 1, 12, 13] [] 0 ⟨by rw [iadd64 omm omm]; omega, trivial⟩ hS fun hS => ?_)))
    refine then_n ?_
    exact next_y hg0 hS (s := (i)) (i + 1) [] (show xs.length - (i + 1) < xs.length - i from by omega) ⟨omm, (lst_next pm asm), trivial⟩
  ·have hScur := hS
   obtain rfl : xs.length = i := by omega
   have hS := hScur
   clear hScur
   refine wp_exit (then_exit (then_exit (block_exit (then_n (s0 [4] [] 0 hS fun hS => ?_)))))
   refine wp_ret ?_
   exact fin_y rfl (.inr rfl) hS [.v (.bool true)] [] (by show weak _ (.v (.bool (decide (xs = ys)))) = .v (.bool (decide (xs = ys))); rw [eq_yes h1 pm]; rfl) trivial

def c_equal (xs ys : List Int) : Con := ⟨[lb xs, lb ys], [], .v (.bool (decide (xs = ys))), []⟩
theorem equal_ok (xs ys : List Int) : ConOk Try.prog 36 (c_equal xs ys) := by
 refine conOk_of rfl (nb := 0) Try.func36 rfl rfl Try.ntmps36 rfl rfl rfl fun g0 w0 ac gs ws hg0 hS => ?_
 have hlen0 : xs.length ≤ 9223372036854775807 := hS.len 0 rfl
 have hlen1 : ys.length ≤ 9223372036854775807 := hS.len 1 rfl
 have hS := hS.sp
 refine s0 [0, 1, 4] [] 0 hS fun hS => ?_
 refine sA [(2, .call ⟨66, (c_sequal xs ys), [], []⟩)] ⟨sequal_ok _ _, trivial⟩ (fun C => [ndC C 2]) [4] [] 0 ⟨rfl, trivial⟩ hS fun hS => ?_
 refine wp_ret ?_
 exact fin_y rfl (.inr rfl) hS [.v (.bool (decide (xs = ys)))] [] rfl trivial

theorem bne_f {b : Bool} (h : (!b) = true) : b = false := by cases b <;> simp_all
theorem bne_g {b : Bool} (h : (!b) = false) : b = true := by cases b <;> simp_all
def c_check (ek : List Int) : Con := ⟨[lb ek], [], vi ((chk ek : Nat) : Int), []⟩
theorem check_ok (ek : List Int) : ConOk Try.prog 10 (c_check ek) := by
 refine conOk_of rfl (nb := 0) Try.func10 rfl rfl Try.ntmps10 rfl rfl rfl fun g0 w0 ac gs ws hg0 hS => ?_
 have hlen0 : ek.length ≤ 9223372036854775807 := hS.len 0 rfl
 have hS := hS.sp
 refine s0 [0, 2] [] 0 hS fun hS => ?_
 refine wp_seq (s0 [0, 2, 7] [] 0 hS fun hS => ?_)
 refine if_n (((ek.length : Nat) : Int) = 1184) hS (fun h1 => ?_) (fun h1 => ?_)
 ·refine s0 [0, 2] [] 0 hS fun hS => ?_
  refine wp_ret (then_ret ?_)
  exact fin_y rfl (.inr rfl) hS [vi 1] [] (by show weak _ (vi ((chk ek : Nat) : Int)) = vi ((chk ek : Nat) : Int); rw [chk_1 h1]; rfl) trivial
 ·refine wp_skip (then_n (wp_seq (sA [(1, .call ⟨33, (c_rowof ek), [], []⟩)] ⟨rowof_ok _ lnn, trivial⟩ (fun C => [ndC C 1]) [2, 9, 10] [] 0 ⟨rfl, trivial⟩ hS fun hS => ?_)))
  refine wp_block (loop_y (ι := Nat) hg0 hS (fun i => 3 - i) (fun i => [(9, .ar .u16 768 (rowof_m ek)), (10, vi ((i : Nat) : Int))]) (fun i => []) (fun i => (i ≤ 3) ∧ (∀ j, j < i → mayB (fun t => rowof_m ek (j * 256 + t)) = true) ∧ True) 0 0 [] ⟨omm, (fun j h => absurd h (Nat.not_lt_zero j)), trivial⟩ ?_)
  rintro i ac gs ws ⟨hi, pm, _⟩ hS
  refine s0 [9, 10, 11] [] 0 hS fun hS => ?_
  refine wp_seq ?_
  refine if_d ((i : Int) < 3) hS (fun h2 => ?_) (fun h2 => ?_)
  ·refine wp_skip (then_n (wp_seq (wp_block (sA [] trivial (fun _ => [(0 : Int) ≤ (i : Int) ∧ ((i : Int) : Int) < 3]) [4, 9, 10] [0] 1 ⟨by omega, trivial⟩ hS fun hS => ?_))))
   refine sA [(0, .ov (.ar .u16 256 (fun j => (rowof_m ek) (i * 256 + j)))), (1, .call ⟨34, (c_may (fun j => (rowof_m ek) (i * 256 + j))), [], []⟩)] ⟨may_ok _, trivial⟩ (fun C => [(.ar .u16 256 (fun j => (rowof_m ek) (i * 256 + j)) : D) = (.ar .u16 256 (fun j => (rowof_m ek) (i * 256 + j))), ndC C 1]) [9, 10, 15] [] 1 ⟨rfl, rfl, trivial⟩ hS fun hS => ?_
   refine if_y (!(mayB (fun j => (rowof_m ek) (i * 256 + j)))) hS (fun h3 => ?_) (fun h3 => ?_)
   ·refine s0 [2, 9, 10] [] 1 hS fun hS => ?_
    refine wp_ret (block_ret (then_ret (then_ret (block_ret (then_ret ?_)))))
    exact fin_y rfl (.inr rfl) hS [vi 2] [] (by show weak _ (vi ((chk ek : Nat) : Int)) = vi ((chk ek : Nat) : Int); rw [chk_2 h1 (rmay_no omm (bne_f h3))]; rfl) trivial
   ·refine wp_skip (block_n (then_n (rA [(0, .oi ((i + 1 : Nat) : Int))] trivial (fun _ => [iadd .i64 (i : Int) 1 = ((i + 1 : Nat) : Int)]) [9, 10] [] 1 ⟨by rw [iadd64 omm omm]; omega, trivial⟩ hS fun hS => ?_)))
    refine then_n ?_
    exact next_y hg0 hS (s := (i)) (i + 1) [] (show 3 - (i + 1) < 3 - i from by omega) ⟨omm, (lst_next pm (bne_g asm)), trivial⟩
  ·have hScur := hS
   obtain rfl : 3 = i := by omega
   have hS := hScur
   clear hScur
   refine wp_exit (then_exit (then_exit (block_exit (then_n (s0 [2] [] 0 hS fun hS => ?_)))))
   refine wp_ret ?_
   exact fin_y rfl (.inr rfl) hS [vi 0] [] (by show weak _ (vi ((chk ek : Nat) : Int)) = vi ((chk ek : Nat) : Int); rw [chk_0 h1 (rmay_yes pm)]; rfl) trivial

def c_checkdk (dk : List Int) : Con := ⟨[lb dk], [], vi ((chkdk dk : Nat) : Int), []⟩
theorem checkdk_ok (dk : List Int) : ConOk Try.prog 12 (c_checkdk dk) := by
 refine conOk_of rfl (nb := 0) Try.func12 rfl rfl Try.ntmps12 rfl rfl rfl fun g0 w0 ac gs ws hg0 hS => ?_
 have hlen0 : dk.length ≤ 9223372036854775807 := hS.len 0 rfl
 have hS := hS.sp
 refine s0 [0, 2] [] 0 hS fun hS => ?_
 refine wp_seq (s0 [0, 2, 7] [] 0 hS fun hS => ?_)
 refine if_n (((dk.length : Nat) : Int) = 2400) hS (fun h1 => ?_) (fun h1 => ?_)
 ·refine s0 [0, 2] [] 0 hS fun hS => ?_
  refine wp_ret (then_ret ?_)
  exact fin_y rfl (.inr rfl) hS [vi 1] [] (by show weak _ (vi ((chkdk dk : Nat) : Int)) = vi ((chkdk dk : Nat) : Int); unfold chkdk; rw [if_neg omm]; rfl) trivial
 ·refine wp_skip (then_n (wp_seq (sA [(1, .call ⟨33, (c_rowof dk), [], []⟩)] ⟨rowof_ok _ lnn, trivial⟩ (fun C => [ndC C 1]) [0, 2, 9, 10] [] 0 ⟨rfl, trivial⟩ hS fun hS => ?_)))
  refine wp_block (loop_y (ι := Nat) hg0 hS (fun i => 3 - i) (fun i => [(0, lb dk), (9, .ar .u16 768 (rowof_m dk)), (10, vi ((i : Nat) : Int))]) (fun i => []) (fun i => (i ≤ 3) ∧ (∀ j, j < i → mayB (fun t => rowof_m dk (j * 256 + t)) = true) ∧ True) 0 0 [] ⟨omm, (fun j h => absurd h (Nat.not_lt_zero j)), trivial⟩ ?_)
  rintro i ac gs ws ⟨hi, pm, _⟩ hS
  refine s0 [0, 9, 10, 11] [] 0 hS fun hS => ?_
  refine wp_seq ?_
  refine if_d ((i : Int) < 3) hS (fun h2 => ?_) (fun h2 => ?_)
  ·refine wp_skip (then_n (wp_seq (wp_block (sA [] trivial (fun _ => [(0 : Int) ≤ (i : Int) ∧ ((i : Int) : Int) < 3]) [0, 4, 9, 10] [0] 1 ⟨by omega, trivial⟩ hS fun hS => ?_))))
   refine sA [(0, .ov (.ar .u16 256 (fun j => (rowof_m dk) (i * 256 + j)))), (1, .call ⟨34, (c_may (fun j => (rowof_m dk) (i * 256 + j))), [], []⟩)] ⟨may_ok _, trivial⟩ (fun C => [(.ar .u16 256 (fun j => (rowof_m dk) (i * 256 + j)) : D) = (.ar .u16 256 (fun j => (rowof_m dk) (i * 256 + j))), ndC C 1]) [0, 9, 10, 15] [] 1 ⟨rfl, rfl, trivial⟩ hS fun hS => ?_
   refine if_y (!(mayB (fun j => (rowof_m dk) (i * 256 + j)))) hS (fun h3 => ?_) (fun h3 => ?_)
   ·refine s0 [0, 2, 9, 10] [] 1 hS fun hS => ?_
    refine wp_ret (block_ret (then_ret (then_ret (block_ret (then_ret ?_)))))
    exact fin_y rfl (.inr rfl) hS [vi 2] [] (by show weak _ (vi ((chkdk dk : Nat) : Int)) = vi ((chkdk dk : Nat) : Int); unfold chkdk; rw [if_pos omm, if_neg (by rw [rmay_no omm (bne_f h3)]; decide)]; rfl) trivial
   ·refine wp_skip (block_n (then_n (rA [(0, .oi ((i + 1 : Nat) : Int))] trivial (fun _ => [iadd .i64 (i : Int) 1 = ((i + 1 : Nat) : Int)]) [0, 9, 10] [] 1 ⟨by rw [iadd64 omm omm]; omega, trivial⟩ hS fun hS => ?_)))
    refine then_n ?_
    exact next_y hg0 hS (s := (i)) (i + 1) [] (show 3 - (i + 1) < 3 - i from by omega) ⟨omm, (lst_next pm (bne_g asm)), trivial⟩
  ·have hScur := hS
   obtain rfl : 3 = i := by omega
   have hS := hScur
   clear hScur
   refine wp_exit (then_exit (then_exit (block_exit (then_n (wp_seq (wp_seq ?_))))))
   by_cases h4 : ((chk ((dk.take 2336).drop 1152) : Nat) : Int) = 0
   ·refine rA [(2, .call ⟨10, (c_check ((dk.take 2336).drop 1152)), [], []⟩), (3, .ob false), (8, .call ⟨37, (c_sum256 [(dk.take 2336).drop 1152]), [], []⟩), (11, .call ⟨36, (c_equal (sum256_m [(dk.take 2336).drop 1152]) ((dk.take 2368).drop 2336)), [], []⟩)] ⟨check_ok _, sum256_ok _ (by first | omega | (simp only [List.flatten_cons, List.flatten_nil, List.length_append, List.length_cons, List.length_nil, List.length_take, List.length_drop, List.length_replicate] <;> omega) | (simp <;> omega)), equal_ok _ _, trivial⟩ (fun C => [bndP (some 1152) (some 2336) none dk.length dk.length, ndC C 2, (!decide (((chk ((dk.take 2336).drop 1152) : Nat) : Int) = 0)) = false, bndP (some 1152) (some 2336) none dk.length dk.length, ndC C 8, bndP (some 2336) (some 2368) none dk.length dk.length, ndC C 11]) [30] [] 0 ⟨⟨by simp only [nnI] <;> omega, by simp only [nnI] <;> omega, by simp only [nnI] <;> omega, by simp, by simp only [bl] <;> omega, by simp only [bl] <;> omega, by simp only [bl] <;> omega⟩, rfl, by rw [decide_eq_true h4]; rfl, ⟨by simp only [nnI] <;> omega, by simp only [nnI] <;> omega, by simp only [nnI] <;> omega, by simp, by simp only [bl] <;> omega, by simp only [bl] <;> omega, by simp only [bl] <;> omega⟩, rfl, ⟨by simp only [nnI] <;> omega, by simp only [nnI] <;> omega, by simp only [nnI] <;> omega, by simp, by simp only [bl] <;> omega, by simp only [bl] <;> omega, by simp only [bl] <;> omega⟩, rfl, trivial⟩ hS fun hS => ?_
    refine then_n ?_
    refine if_n ((sum256_m [(dk.take 2336).drop 1152]) = ((dk.take 2368).drop 2336)) hS (fun h5 => ?_) (fun h5 => ?_)
    ·refine s0 [2] [] 0 hS fun hS => ?_
     refine wp_ret (then_ret ?_)
     exact fin_y rfl (.inr rfl) hS [vi 2] [] (by show weak _ (vi ((chkdk dk : Nat) : Int)) = vi ((chkdk dk : Nat) : Int); unfold chkdk; rw [if_pos omm, if_pos (rmay_yes pm), if_pos omm, if_neg h5]; rfl) trivial
    ·refine wp_skip (then_n (s0 [2] [] 0 hS fun hS => ?_))
     refine wp_ret ?_
     exact fin_y rfl (.inr rfl) hS [vi 0] [] (by show weak _ (vi ((chkdk dk : Nat) : Int)) = vi ((chkdk dk : Nat) : Int); unfold chkdk; rw [if_pos omm, if_pos (rmay_yes pm), if_pos omm, if_pos h5]; rfl) trivial
   ·refine rA [(2, .call ⟨10, (c_check ((dk.take 2336).drop 1152)), [], []⟩), (3, .ob true)] ⟨check_ok _, trivial⟩ (fun C => [bndP (some 1152) (some 2336) none dk.length dk.length, ndC C 2, (!decide (((chk ((dk.take 2336).drop 1152) : Nat) : Int) = 0)) = true]) [30] [] 0 ⟨⟨by simp only [nnI] <;> omega, by simp only [nnI] <;> omega, by simp only [nnI] <;> omega, by simp, by simp only [bl] <;> omega, by simp only [bl] <;> omega, by simp only [bl] <;> omega⟩, rfl, by rw [decide_eq_false h4]; rfl, trivial⟩ hS fun hS => ?_
    refine then_n (cond_t hS ?_)
    refine s0 [2] [] 0 hS fun hS => ?_
    refine wp_ret (then_ret ?_)
    exact fin_y rfl (.inr rfl) hS [vi 2] [] (by show weak _ (vi ((chkdk dk : Nat) : Int)) = vi ((chkdk dk : Nat) : Int); unfold chkdk; rw [if_pos omm, if_pos (rmay_yes pm), if_neg omm]; rfl) trivial

end
end Go.Sx.Try
namespace Go.Sx.Try
open Go.Mi Go.RowKit Go.Sx Go.Proofs
noncomputable section
@[simp] theorem rbytes_len (f : Nat → Int) : (rbytes_m f).length = 1152 := by
 have key : ∀ i, (rbytes_l1 f i).length = 384 * i := by
  intro i
  induction i with
  | zero => rfl
  | succ i ih =>
   show (rbytes_l1_s f i (rbytes_l1 f i)).length = _
   unfold rbytes_l1_s
   rw [List.length_append, encode12_len, ih]; omega
 rw [rbytes_e]
 exact key 3
theorem chk_len {xs : List Int} (h : chk xs = 0) : xs.length = 1184 := by
 by_cases e : xs.length = 1184
 ·exact e
 ·unfold chk at h; rw [if_neg e] at h; exact absurd h (by decide)
theorem chkdk_len {xs : List Int} (h : chkdk xs = 0) : xs.length = 2400 := by
 by_cases e : xs.length = 2400
 ·exact e
 ·unfold chkdk at h; rw [if_neg e] at h; exact absurd h (by decide)
def keys_l1_s (d z : List Int) (x35 : Nat) : (Nat → Int) → (Nat → Int) := fun o11_0 => updW o11_0 (x35 * 256) 256 (add_m (fun j => o11_0 (x35 * 256 + j)) (dot_m (matrix_false_m ((sum512_m [d, [3]]).take 32) x35) (each_ntt_m (knoise_m ((sum512_m [d, [3]]).drop 32) 0))))
def keys_l1 (d z : List Int) : Nat → (Nat → Int)
 | 0 => each_ntt_m (knoise_m ((sum512_m [d, [3]]).drop 32) 3)
 | x35 + 1 => keys_l1_s d z x35 (keys_l1 d z x35)
def keys_v (d z : List Int) : (List Int) × (List Int) := ([rbytes_m (keys_l1 d z 3), (sum512_m [d, [3]]).take 32].flatten, [rbytes_m (each_ntt_m (knoise_m ((sum512_m [d, [3]]).drop 32) 0)), [rbytes_m (keys_l1 d z 3), (sum512_m [d, [3]]).take 32].flatten, sum256_m [[rbytes_m (keys_l1 d z 3), (sum512_m [d, [3]]).take 32].flatten], z].flatten)
def keys_m (d z : List Int) : (List Int) × (List Int) := shut (keys_v d z)
theorem keys_e (d z : List Int) : keys_m d z = keys_v d z := shut_eq _
theorem keys_len (d z : List Int) (hz : z.length = 32) : (keys_m d z).1.length = 1184 ∧ (keys_m d z).2.length = 2400 := by
 have h1 := sum512_len [d, [3]]
 rw [keys_e]
 unfold keys_v
 simp only [List.flatten_cons, List.flatten_nil, List.length_append, List.length_nil, rbytes_len, sum256_len, List.length_take, h1, hz]
 exact ⟨by omega, by omega⟩
def c_keys (d z : List Int) : Con := ⟨[lb d, lb z], [], .tu (chain [lb ((keys_m d z).1), .sk 0, vi 0]), [(0, .sl 5 [.int .u8] ((keys_m d z).2))]⟩
theorem keys_ok (d z : List Int) (hd : d.length = 32) (hz : z.length = 32) : ConOk Try.prog 14 (c_keys d z) := by
 refine conOk_of rfl (nb := 0) Try.func14 rfl rfl Try.ntmps14 rfl rfl rfl fun g0 w0 ac gs ws hg0 hS => ?_
 have hlen0 : d.length ≤ 9223372036854775807 := hS.len 0 rfl
 have hlen1 : z.length ≤ 9223372036854775807 := hS.len 1 rfl
 have hS := hS.sp
 have hd1 : ((d.length : Nat) : Int) = 32 := omm
 have hz1 : ((z.length : Nat) : Int) = 32 := omm
 refine s0 [0, 1, 4, 5, 6] [] 0 hS fun hS => ?_
 refine wp_seq (sA [(2, .ob false), (6, .ob false)] trivial (fun _ => [(!decide (((d.length : Nat) : Int) = 32)) = false, (!decide (((z.length : Nat) : Int) = 32)) = false]) [0, 1, 4, 5, 6, 20] [] 0 ⟨by rw [decide_eq_true hd1]; rfl, by rw [decide_eq_true hz1]; rfl, trivial⟩ hS fun hS => ?_)
 refine cond_f hS ?_
 refine wp_skip (then_n (sA [(3, .call ⟨38, (c_sum512 [d, [3]]), [], []⟩)] ⟨sum512_ok _ (by first | omega | (simp only [List.flatten_cons, List.flatten_nil, List.length_append, List.length_cons, List.length_nil, List.length_take, List.length_drop, List.length_replicate] <;> omega) | (simp <;> omega)), trivial⟩ (fun C => [ndC C 3]) [1, 4, 5, 6, 7] [] 0 ⟨rfl, trivial⟩ hS fun hS => ?_))
 refine wp_seq ?_
 have hl := sum512_len [d, [3]]
 refine rA [] trivial (fun _ => [bndP none (some 32) none (sum512_m [d, [3]]).length (sum512_m [d, [3]]).length, bndP (some 32) none none (sum512_m [d, [3]]).length (sum512_m [d, [3]]).length]) [1, 4, 5, 6, 8, 9] [] 0 ⟨⟨by simp only [nnI] <;> omega, by simp only [nnI] <;> omega, by simp only [nnI] <;> omega, by simp, by simp only [bl] <;> omega, by simp only [bl] <;> omega, by simp only [bl] <;> omega⟩, ⟨by simp only [nnI] <;> omega, by simp only [nnI] <;> omega, by simp only [nnI] <;> omega, by simp, by simp only [bl] <;> omega, by simp only [bl] <;> omega, by simp only [bl] <;> omega⟩, trivial⟩ hS fun hS => ?_
 refine then_n (sA [(1, .call ⟨39, (c_knoise ((sum512_m [d, [3]]).drop 32) 0), [], []⟩), (2, .call ⟨40, (c_each_ntt (knoise_m ((sum512_m [d, [3]]).drop 32) 0)), [], []⟩)] ⟨knoise_ok _ _ lnn omm, each_ntt_ok _, trivial⟩ (fun C => [ndC C 1, nd [.ar .u16 768 (knoise_m ((sum512_m [d, [3]]).drop 32) 0), .v (.func (.func 41) #[] #[])] []]) [1, 4, 5, 6, 8, 9, 10] [0] 1 ⟨rfl, rfl, trivial⟩ hS fun hS => ?_)
 refine sA [(1, .call ⟨39, (c_knoise ((sum512_m [d, [3]]).drop 32) 3), [], []⟩), (2, .call ⟨40, (c_each_ntt (knoise_m ((sum512_m [d, [3]]).drop 32) 3)), [], []⟩)] ⟨knoise_ok _ _ lnn omm, each_ntt_ok _, trivial⟩ (fun C => [ndC C 1, nd [.ar .u16 768 (knoise_m ((sum512_m [d, [3]]).drop 32) 3), .v (.func (.func 41) #[] #[])] []]) [1, 4, 5, 6, 8, 10, 11] [0, 1] 2 ⟨rfl, rfl, trivial⟩ hS fun hS => ?_
 refine wp_seq (s0 [1, 4, 5, 6, 8, 10, 11, 35] [0, 1] 2 hS fun hS => ?_)
 refine wp_block (loop_y (ι := Nat × (Nat → Int)) hg0 hS (fun z_ => match z_ with | (x35, o11_0) => 3 - x35) (fun z_ => match z_ with | (x35, o11_0) => [(1, lb z), (4, .v (.slice none 0 0)), (5, .v (.slice none 0 0)), (6, vi 0), (8, lb ((sum512_m [d, [3]]).take 32)), (10, .cp 0 0), (11, .cp 1 0), (35, vi ((x35 : Nat) : Int))]) (fun z_ => match z_ with | (x35, o11_0) => [(0, .ob 62 (chain [.ar .u16 768 (each_ntt_m (knoise_m ((sum512_m [d, [3]]).drop 32) 0))])), (1, .ob 62 (chain [.ar .u16 768 o11_0]))]) (fun z_ => match z_ with | (x35, o11_0) => (x35 ≤ 3) ∧ (o11_0 = keys_l1 d z x35) ∧ True) 2 (0, each_ntt_m (knoise_m ((sum512_m [d, [3]]).drop 32) 3)) [(0, 0), (1, 1)] ⟨omm, rfl, trivial⟩ ?_)
 rintro ⟨x35, o11_0⟩ ac gs ws ⟨hx35, hq1, _⟩ hS
 refine s0 [1, 4, 5, 6, 8, 10, 11, 35, 36] [0, 1] 2 hS fun hS => ?_
 refine wp_seq ?_
 refine if_d ((x35 : Int) < 3) hS (fun h1 => ?_) (fun h1 => ?_)
 ·refine wp_skip (then_n (wp_seq (wp_block (s0 [1, 4, 5, 6, 8, 10, 11, 12, 35] [0, 1] 2 hS fun hS => ?_))))
  refine rA [(3, .ov (.ar .u16 256 (fun j => o11_0 (x35 * 256 + j)))), (6, .call ⟨43, (c_matrix_false ((sum512_m [d, [3]]).take 32) x35), [], []⟩), (7, .ov (.ar .u16 768 (each_ntt_m (knoise_m ((sum512_m [d, [3]]).drop 32) 0)))), (8, .call ⟨44, (c_dot (matrix_false_m ((sum512_m [d, [3]]).take 32) x35) (each_ntt_m (knoise_m ((sum512_m [d, [3]]).drop 32) 0))), [], []⟩), (9, .call ⟨42, (c_add (fun j => o11_0 (x35 * 256 + j)) (dot_m (matrix_false_m ((sum512_m [d, [3]]).take 32) x35) (each_ntt_m (knoise_m ((sum512_m [d, [3]]).drop 32) 0)))), [], []⟩)] ⟨matrix_false_ok _ _ lnn omm, dot_ok _ _, add_ok _ _, trivial⟩ (fun C => [(0 : Int) ≤ (x35 : Int) ∧ ((x35 : Int) : Int) < 3, (.ar .u16 256 (fun j => o11_0 (x35 * 256 + j)) : D) = (.ar .u16 256 (fun j => o11_0 (x35 * 256 + j))), ndC C 6, (.ar .u16 768 (each_ntt_m (knoise_m ((sum512_m [d, [3]]).drop 32) 0)) : D) = (.ar .u16 768 (each_ntt_m (knoise_m ((sum512_m [d, [3]]).drop 32) 0))), nd [.ar .u16 768 (matrix_false_m ((sum512_m [d, [3]]).take 32) x35), .ar .u16 768 (each_ntt_m (knoise_m ((sum512_m [d, [3]]).drop 32) 0))] [], nd [.ar .u16 256 (fun j => o11_0 (x35 * 256 + j)), .ar .u16 256 (dot_m (matrix_false_m ((sum512_m [d, [3]]).take 32) x35) (each_ntt_m (knoise_m ((sum512_m [d, [3]]).drop 32) 0)))] [], (0 : Int) ≤ (x35 : Int) ∧ ((x35 : Int) : Int) < 3]) [1, 4, 5, 6, 8, 10, 11, 35] [0, 1] 2 ⟨by omega, rfl, rfl, rfl, rfl, rfl, by omega, trivial⟩ hS fun hS => ?_
  refine block_n (then_n (rA [(0, .oi ((x35 + 1 : Nat) : Int))] trivial (fun _ => [iadd .i64 (x35 : Int) 1 = ((x35 + 1 : Nat) : Int)]) [1, 4, 5, 6, 8, 10, 11, 35] [0, 1] 2 ⟨by rw [iadd64 omm omm]; omega, trivial⟩ hS fun hS => ?_))
  refine then_n ?_
  exact next_y hg0 hS (s := (x35, o11_0)) (x35 + 1, updW o11_0 (x35 * 256) 256 (add_m (fun j => o11_0 (x35 * 256 + j)) (dot_m (matrix_false_m ((sum512_m [d, [3]]).take 32) x35) (each_ntt_m (knoise_m ((sum512_m [d, [3]]).drop 32) 0))))) [(0, 0), (1, 1)] (show 3 - (x35 + 1) < 3 - x35 from by omega) ⟨omm, (it_next (F := keys_l1 d z) (st := keys_l1_s d z) (fun _ => rfl) hq1 rfl), trivial⟩
 ·have hScur := hS
  obtain rfl : 3 = x35 := by omega
  obtain rfl : keys_l1 d z 3 = o11_0 := Eq.symm (congrArg (fun z => z) hq1)
  have hS := hScur
  clear hScur
  refine wp_exit (then_exit (then_exit (block_exit (then_n (wp_seq ?_)))))
  have hb := rbytes_len (keys_l1 d z 3)
  refine rA [(0, .ov (.ar .u16 768 (keys_l1 d z 3))), (1, .call ⟨46, (c_rbytes (keys_l1 d z 3)), [], []⟩), (4, .call ⟨45, (c_cat [rbytes_m (keys_l1 d z 3), (sum512_m [d, [3]]).take 32]), [], [(0, 2)]⟩)] ⟨rbytes_ok _, cat_ok _ (by first | omega | (simp only [List.flatten_cons, List.flatten_nil, List.length_append, List.length_cons, List.length_nil, List.length_take, List.length_drop, List.length_replicate] <;> omega) | (simp <;> omega)), trivial⟩ (fun C => [(.ar .u16 768 (keys_l1 d z 3) : D) = (.ar .u16 768 (keys_l1 d z 3)), ndC C 1, ndC C 4]) [1, 4, 5, 6, 10] [0, 2] 3 ⟨rfl, rfl, rfl, trivial⟩ hS fun hS => ?_
  refine then_n (wp_seq ?_)
  have hb2 := rbytes_len (each_ntt_m (knoise_m ((sum512_m [d, [3]]).drop 32) 0))
  obtain ⟨gs, hS⟩ := hS.fz 2
  refine rA [(1, .ov (.ar .u16 768 (each_ntt_m (knoise_m ((sum512_m [d, [3]]).drop 32) 0)))), (2, .call ⟨46, (c_rbytes (each_ntt_m (knoise_m ((sum512_m [d, [3]]).drop 32) 0))), [], []⟩), (6, .call ⟨37, (c_sum256 [[rbytes_m (keys_l1 d z 3), (sum512_m [d, [3]]).take 32].flatten]), [], []⟩), (9, .call ⟨45, (c_cat [rbytes_m (each_ntt_m (knoise_m ((sum512_m [d, [3]]).drop 32) 0)), [rbytes_m (keys_l1 d z 3), (sum512_m [d, [3]]).take 32].flatten, sum256_m [[rbytes_m (keys_l1 d z 3), (sum512_m [d, [3]]).take 32].flatten], z]), [], [(0, 3)]⟩)] ⟨rbytes_ok _, sum256_ok _ (by first | omega | (simp only [List.flatten_cons, List.flatten_nil, List.length_append, List.length_cons, List.length_nil, List.length_take, List.length_drop, List.length_replicate] <;> omega) | (simp <;> omega)), cat_ok _ (by first | omega | (simp only [List.flatten_cons, List.flatten_nil, List.length_append, List.length_cons, List.length_nil, List.length_take, List.length_drop, List.length_replicate] <;> omega) | (simp <;> omega)), trivial⟩ (fun C => [(.ar .u16 768 (each_ntt_m (knoise_m ((sum512_m [d, [3]]).drop 32) 0)) : D) = (.ar .u16 768 (each_ntt_m (knoise_m ((sum512_m [d, [3]]).drop 32) 0))), ndC C 2, ndC C 6, ndC C 9]) [4, 5, 6] [3] 4 ⟨rfl, rfl, rfl, rfl, trivial⟩ hS fun hS => ?_
  refine then_n (wp_ret ?_)
  have hM : keys_m d z = ([rbytes_m (keys_l1 d z 3), (sum512_m [d, [3]]).take 32].flatten, [rbytes_m (each_ntt_m (knoise_m ((sum512_m [d, [3]]).drop 32) 0)), [rbytes_m (keys_l1 d z 3), (sum512_m [d, [3]]).take 32].flatten, sum256_m [[rbytes_m (keys_l1 d z 3), (sum512_m [d, [3]]).take 32].flatten], z].flatten) := keys_e d z
  obtain ⟨gs, hS⟩ := hS.rn [(0, 3)] [(4, lb ([rbytes_m (keys_l1 d z 3), (sum512_m [d, [3]]).take 32].flatten)), (5, .sk 0), (6, vi 0)] [(0, .sl 5 [.int .u8] ([rbytes_m (each_ntt_m (knoise_m ((sum512_m [d, [3]]).drop 32) 0)), [rbytes_m (keys_l1 d z 3), (sum512_m [d, [3]]).take 32].flatten, sum256_m [[rbytes_m (keys_l1 d z 3), (sum512_m [d, [3]]).take 32].flatten], z].flatten))] 1 hg0
  exact fin_y rfl (.inr rfl) hS [lb ([rbytes_m (keys_l1 d z 3), (sum512_m [d, [3]]).take 32].flatten), .sk 0, vi 0] [(0, some (.sl 5 [.int .u8] ([rbytes_m (each_ntt_m (knoise_m ((sum512_m [d, [3]]).drop 32) 0)), [rbytes_m (keys_l1 d z 3), (sum512_m [d, [3]]).take 32].flatten, sum256_m [[rbytes_m (keys_l1 d z 3), (sum512_m [d, [3]]).take 32].flatten], z].flatten)))] (by show weak _ (.tu (chain [lb ((keys_m d z).1), .sk 0, vi 0])) = (.tu (chain [lb ((keys_m d z).1), .sk 0, vi 0])); rw [hM]; first | (simp only []; rfl) | (simp only []; done) | rfl) (by show H1Ok _ [(0, .sl 5 [.int .u8] ((keys_m d z).2))] true; rw [hM]; first | (simp only []; exact ⟨rfl, trivial⟩) | exact ⟨rfl, trivial⟩)

def encrypt_l1_s (ek m r : List Int) (x31 : Nat) : (List Int) → (List Int) := fun x6 => x6 ++ (encode10_m (compress10_m (add_m (fun j => (knoise_m r 3) (x31 * 256 + j)) (inverse_m (dot_m (matrix_true_m (ek.drop 1152) x31) (each_ntt_m (knoise_m r 0)))))))
def encrypt_l1 (ek m r : List Int) : Nat → (List Int)
 | 0 => []
 | x31 + 1 => encrypt_l1_s ek m r x31 (encrypt_l1 ek m r x31)
def encrypt_v (ek m r : List Int) : (List Int) := (encrypt_l1 ek m r 3) ++ (encode4_m (compress4_m (add_m (add_m (inverse_m (dot_m (rowof_m ek) (each_ntt_m (knoise_m r 0)))) (noise_m r 6)) (expand1_m (unpack1_m m)))))
def encrypt_m (ek m r : List Int) : (List Int) := shut (encrypt_v ek m r)
theorem encrypt_e (ek m r : List Int) : encrypt_m ek m r = encrypt_v ek m r := shut_eq _
@[simp] theorem encrypt_len (ek m r : List Int) : (encrypt_m ek m r).length = 1088 := by
 have key : ∀ i, (encrypt_l1 ek m r i).length = 320 * i := by
  intro i
  induction i with
  | zero => rfl
  | succ i ih =>
   show (encrypt_l1_s ek m r i (encrypt_l1 ek m r i)).length = _
   unfold encrypt_l1_s
   rw [List.length_append, encode10_len, ih]; omega
 rw [encrypt_e]
 unfold encrypt_v
 rw [List.length_append, encode4_len, key]
def c_encrypt (ek m r : List Int) : Con := ⟨[lb ek, lb m, lb r], [], .sk 0, [(0, .sl 5 [.int .u8] (encrypt_m ek m r))]⟩
theorem encrypt_ok (ek m r : List Int) (he : ek.length = 1184) (hm : m.length = 32) (hr : r.length = 32) : ConOk Try.prog 47 (c_encrypt ek m r) := by
 refine conOk_of rfl (nb := 0) Try.func47 rfl rfl Try.ntmps47 rfl rfl rfl fun g0 w0 ac gs ws hg0 hS => ?_
 have hlen0 : ek.length ≤ 9223372036854775807 := hS.len 0 rfl
 have hlen1 : m.length ≤ 9223372036854775807 := hS.len 1 rfl
 have hlen2 : r.length ≤ 9223372036854775807 := hS.len 2 rfl
 have hS := hS.sp
 refine s0 [0, 1, 2, 6] [] 0 hS fun hS => ?_
 refine sA [(1, .call ⟨33, (c_rowof ek), [], []⟩)] ⟨rowof_ok _ lnn, trivial⟩ (fun C => [ndC C 1, bndP (some 1152) none none ek.length ek.length]) [1, 2, 6, 7, 8] [0] 1 ⟨rfl, ⟨by simp only [nnI] <;> omega, by simp only [nnI] <;> omega, by simp only [nnI] <;> omega, by simp, by simp only [bl] <;> omega, by simp only [bl] <;> omega, by simp only [bl] <;> omega⟩, trivial⟩ hS fun hS => ?_
 refine sA [(1, .call ⟨39, (c_knoise r 0), [], []⟩), (2, .call ⟨40, (c_each_ntt (knoise_m r 0)), [], []⟩)] ⟨knoise_ok _ _ lnn omm, each_ntt_ok _, trivial⟩ (fun C => [ndC C 1, nd [.ar .u16 768 (knoise_m r 0), .v (.func (.func 41) #[] #[])] []]) [1, 2, 6, 7, 8, 9] [0, 1] 2 ⟨rfl, rfl, trivial⟩ hS fun hS => ?_
 refine sA [(1, .call ⟨39, (c_knoise r 3), [], []⟩)] ⟨knoise_ok _ _ lnn omm, trivial⟩ (fun C => [ndC C 1]) [1, 2, 6, 7, 8, 9, 10] [0, 1, 2] 3 ⟨rfl, trivial⟩ hS fun hS => ?_
 refine wp_seq (s0 [1, 2, 6, 7, 8, 9, 30, 31] [0, 1] 3 hS fun hS => ?_)
 refine wp_block ?_
 obtain ⟨gs, hS⟩ := hS.nilk 6 5 [.int .u8]
 refine loop_y (ι := Nat × (List Int)) hg0 hS (fun z_ => match z_ with | (x31, x6) => 3 - x31) (fun z_ => match z_ with | (x31, x6) => [(1, lb m), (2, lb r), (6, .sk 3), (7, .cp 0 0), (8, lb (ek.drop 1152)), (9, .cp 1 0), (30, .ar .u16 768 (knoise_m r 3)), (31, vi ((x31 : Nat) : Int))]) (fun z_ => match z_ with | (x31, x6) => [(0, .ob 62 (chain [.ar .u16 768 (rowof_m ek)])), (1, .ob 62 (chain [.ar .u16 768 (each_ntt_m (knoise_m r 0))])), (3, .sl 5 [.int .u8] x6)]) (fun z_ => match z_ with | (x31, x6) => (x31 ≤ 3) ∧ (x6 = encrypt_l1 ek m r x31) ∧ (x6.length = 320 * x31) ∧ True) 4 (0, []) [(0, 0), (1, 1), (3, 3)] ⟨omm, rfl, rfl, trivial⟩ ?_
 rintro ⟨x31, x6⟩ ac gs ws ⟨hx31, hq1, p1, _⟩ hS
 refine s0 [1, 2, 6, 7, 8, 9, 30, 31, 32] [0, 1, 3] 4 hS fun hS => ?_
 refine wp_seq ?_
 refine if_d ((x31 : Int) < 3) hS (fun h1 => ?_) (fun h1 => ?_)
 ·refine wp_skip (then_n (wp_seq (wp_block (sA [] trivial (fun _ => [(0 : Int) ≤ (x31 : Int) ∧ ((x31 : Int) : Int) < 3]) [1, 2, 6, 7, 8, 9, 11, 12, 30, 31] [0, 1, 3, 4] 5 ⟨by omega, trivial⟩ hS fun hS => ?_))))
  refine sA [(0, .ov (.ar .u16 256 (fun j => (knoise_m r 3) (x31 * 256 + j)))), (3, .call ⟨43, (c_matrix_true (ek.drop 1152) x31), [], []⟩), (4, .ov (.ar .u16 768 (each_ntt_m (knoise_m r 0)))), (5, .call ⟨44, (c_dot (matrix_true_m (ek.drop 1152) x31) (each_ntt_m (knoise_m r 0))), [], []⟩), (6, .call ⟨77, (c_inverse (dot_m (matrix_true_m (ek.drop 1152) x31) (each_ntt_m (knoise_m r 0)))), [], []⟩), (7, .call ⟨42, (c_add (fun j => (knoise_m r 3) (x31 * 256 + j)) (inverse_m (dot_m (matrix_true_m (ek.drop 1152) x31) (each_ntt_m (knoise_m r 0))))), [], []⟩)] ⟨matrix_true_ok _ _ lnn omm, dot_ok _ _, inverse_ok _, add_ok _ _, trivial⟩ (fun C => [(.ar .u16 256 (fun j => (knoise_m r 3) (x31 * 256 + j)) : D) = (.ar .u16 256 (fun j => (knoise_m r 3) (x31 * 256 + j))), ndC C 3, (.ar .u16 768 (each_ntt_m (knoise_m r 0)) : D) = (.ar .u16 768 (each_ntt_m (knoise_m r 0))), nd [.ar .u16 768 (matrix_true_m (ek.drop 1152) x31), .ar .u16 768 (each_ntt_m (knoise_m r 0))] [], ndC C 6, nd [.ar .u16 256 (fun j => (knoise_m r 3) (x31 * 256 + j)), .ar .u16 256 (inverse_m (dot_m (matrix_true_m (ek.drop 1152) x31) (each_ntt_m (knoise_m r 0))))] []]) [1, 2, 6, 7, 8, 9, 12, 30, 31] [0, 1, 3, 4] 5 ⟨rfl, rfl, rfl, rfl, rfl, rfl, trivial⟩ hS fun hS => ?_
  refine sA [(0, .ov (.ar .u16 256 (add_m (fun j => (knoise_m r 3) (x31 * 256 + j)) (inverse_m (dot_m (matrix_true_m (ek.drop 1152) x31) (each_ntt_m (knoise_m r 0))))))), (1, .call ⟨78, (c_compress10 (add_m (fun j => (knoise_m r 3) (x31 * 256 + j)) (inverse_m (dot_m (matrix_true_m (ek.drop 1152) x31) (each_ntt_m (knoise_m r 0)))))), [], []⟩)] ⟨compress10_ok _, trivial⟩ (fun _ => [(.ar .u16 256 (add_m (fun j => (knoise_m r 3) (x31 * 256 + j)) (inverse_m (dot_m (matrix_true_m (ek.drop 1152) x31) (each_ntt_m (knoise_m r 0))))) : D) = (.ar .u16 256 (add_m (fun j => (knoise_m r 3) (x31 * 256 + j)) (inverse_m (dot_m (matrix_true_m (ek.drop 1152) x31) (each_ntt_m (knoise_m r 0)))))), nd [.ar .u16 256 (add_m (fun j => (knoise_m r 3) (x31 * 256 + j)) (inverse_m (dot_m (matrix_true_m (ek.drop 1152) x31) (each_ntt_m (knoise_m r 0))))), vi 10] []]) [1, 2, 6, 7, 8, 9, 12, 30, 31] [0, 1, 3, 4] 5 ⟨rfl, rfl, trivial⟩ hS fun hS => ?_
  refine sA [(0, .ov (.ar .u16 256 (compress10_m (add_m (fun j => (knoise_m r 3) (x31 * 256 + j)) (inverse_m (dot_m (matrix_true_m (ek.drop 1152) x31) (each_ntt_m (knoise_m r 0)))))))), (1, .call ⟨76, (c_encode10 (compress10_m (add_m (fun j => (knoise_m r 3) (x31 * 256 + j)) (inverse_m (dot_m (matrix_true_m (ek.drop 1152) x31) (each_ntt_m (knoise_m r 0))))))), [], [(0, 5)]⟩)] ⟨encode10_ok _, trivial⟩ (fun _ => [(.ar .u16 256 (compress10_m (add_m (fun j => (knoise_m r 3) (x31 * 256 + j)) (inverse_m (dot_m (matrix_true_m (ek.drop 1152) x31) (each_ntt_m (knoise_m r 0)))))) : D) = (.ar .u16 256 (compress10_m (add_m (fun j => (knoise_m r 3) (x31 * 256 + j)) (inverse_m (dot_m (matrix_true_m (ek.drop 1152) x31) (each_ntt_m (knoise_m r 0))))))), nd [.ar .u16 256 (compress10_m (add_m (fun j => (knoise_m r 3) (x31 * 256 + j)) (inverse_m (dot_m (matrix_true_m (ek.drop 1152) x31) (each_ntt_m (knoise_m r 0)))))), vi 10] []]) [1, 2, 6, 7, 8, 9, 13, 30, 31] [0, 1, 3, 5] 6 ⟨rfl, rfl, trivial⟩ hS fun hS => ?_
  have hl := encode10_len (compress10_m (add_m (fun j => (knoise_m r 3) (x31 * 256 + j)) (inverse_m (dot_m (matrix_true_m (ek.drop 1152) x31) (each_ntt_m (knoise_m r 0))))))
  refine rA [] trivial (fun _ => [x6.length + (encode10_m (compress10_m (add_m (fun j => (knoise_m r 3) (x31 * 256 + j)) (inverse_m (dot_m (matrix_true_m (ek.drop 1152) x31) (each_ntt_m (knoise_m r 0))))))).length ≤ 9223372036854775807, (x6.length + (encode10_m (compress10_m (add_m (fun j => (knoise_m r 3) (x31 * 256 + j)) (inverse_m (dot_m (matrix_true_m (ek.drop 1152) x31) (each_ntt_m (knoise_m r 0))))))).length) * 1 ≤ 140737488355328]) [1, 2, 6, 7, 8, 9, 30, 31] [0, 1, 6] 7 ⟨by omega, by omega, trivial⟩ hS fun hS => ?_
  refine block_n (then_n (rA [(0, .oi ((x31 + 1 : Nat) : Int))] trivial (fun _ => [iadd .i64 (x31 : Int) 1 = ((x31 + 1 : Nat) : Int)]) [1, 2, 6, 7, 8, 9, 30, 31] [0, 1, 6] 7 ⟨by rw [iadd64 omm omm]; omega, trivial⟩ hS fun hS => ?_))
  refine then_n ?_
  exact next_y hg0 hS (s := (x31, x6)) (x31 + 1, x6 ++ (encode10_m (compress10_m (add_m (fun j => (knoise_m r 3) (x31 * 256 + j)) (inverse_m (dot_m (matrix_true_m (ek.drop 1152) x31) (each_ntt_m (knoise_m r 0)))))))) [(0, 0), (1, 1), (3, 6)] (show 3 - (x31 + 1) < 3 - x31 from by omega) ⟨omm, (it_next (F := encrypt_l1 ek m r) (st := encrypt_l1_s ek m r) (fun _ => rfl) hq1 rfl), (by rw [List.length_append, hl]; omega), trivial⟩
 ·have hScur := hS
  obtain rfl : 3 = x31 := by omega
  obtain rfl : encrypt_l1 ek m r 3 = x6 := Eq.symm (congrArg (fun z => z) hq1)
  have hS := hScur
  clear hScur
  refine wp_exit (then_exit (then_exit (block_exit (then_n (sA [(1, .call ⟨64, (c_unpack1 m), [], []⟩), (2, .call ⟨79, (c_expand1 (unpack1_m m)), [], []⟩)] ⟨unpack1_ok _ (by first | omega | (simp only [List.length_append, List.length_drop, List.length_take, List.length_cons, List.length_nil]; omega)), expand1_ok _, trivial⟩ (fun C => [ndC C 1, nd [.ar .u16 256 (unpack1_m m), vi 1] []]) [2, 6, 7, 9, 15] [0, 1, 3, 4] 5 ⟨rfl, rfl, trivial⟩ hS fun hS => ?_)))))
  refine sA [(0, .ov (.ar .u16 768 (rowof_m ek))), (1, .ov (.ar .u16 768 (each_ntt_m (knoise_m r 0)))), (2, .call ⟨44, (c_dot (rowof_m ek) (each_ntt_m (knoise_m r 0))), [], []⟩), (3, .call ⟨77, (c_inverse (dot_m (rowof_m ek) (each_ntt_m (knoise_m r 0)))), [], []⟩), (5, .call ⟨69, (c_noise r 6), [], []⟩), (6, .call ⟨42, (c_add (inverse_m (dot_m (rowof_m ek) (each_ntt_m (knoise_m r 0)))) (noise_m r 6)), [], []⟩), (7, .ov (.ar .u16 256 (expand1_m (unpack1_m m)))), (8, .call ⟨42, (c_add (add_m (inverse_m (dot_m (rowof_m ek) (each_ntt_m (knoise_m r 0)))) (noise_m r 6)) (expand1_m (unpack1_m m))), [], []⟩), (9, .call ⟨78, (c_compress4 (add_m (add_m (inverse_m (dot_m (rowof_m ek) (each_ntt_m (knoise_m r 0)))) (noise_m r 6)) (expand1_m (unpack1_m m)))), [], []⟩)] ⟨dot_ok _ _, inverse_ok _, noise_ok _ _ lnn, add_ok _ _, add_ok _ _, compress4_ok _, trivial⟩ (fun C => [(.ar .u16 768 (rowof_m ek) : D) = (.ar .u16 768 (rowof_m ek)), (.ar .u16 768 (each_ntt_m (knoise_m r 0)) : D) = (.ar .u16 768 (each_ntt_m (knoise_m r 0))), nd [.ar .u16 768 (rowof_m ek), .ar .u16 768 (each_ntt_m (knoise_m r 0))] [], ndC C 3, ndC C 5, nd [.ar .u16 256 (inverse_m (dot_m (rowof_m ek) (each_ntt_m (knoise_m r 0)))), .ar .u16 256 (noise_m r 6)] [], (.ar .u16 256 (expand1_m (unpack1_m m)) : D) = (.ar .u16 256 (expand1_m (unpack1_m m))), nd [.ar .u16 256 (add_m (inverse_m (dot_m (rowof_m ek) (each_ntt_m (knoise_m r 0)))) (noise_m r 6)), .ar .u16 256 (expand1_m (unpack1_m m))] [], nd [.ar .u16 256 (add_m (add_m (inverse_m (dot_m (rowof_m ek) (each_ntt_m (knoise_m r 0)))) (noise_m r 6)) (expand1_m (unpack1_m m))), vi 4] []]) [6, 17] [3, 5] 6 ⟨rfl, rfl, rfl, rfl, rfl, rfl, rfl, rfl, rfl, trivial⟩ hS fun hS => ?_
  refine sA [(0, .ov (.ar .u16 256 (compress4_m (add_m (add_m (inverse_m (dot_m (rowof_m ek) (each_ntt_m (knoise_m r 0)))) (noise_m r 6)) (expand1_m (unpack1_m m)))))), (1, .call ⟨76, (c_encode4 (compress4_m (add_m (add_m (inverse_m (dot_m (rowof_m ek) (each_ntt_m (knoise_m r 0)))) (noise_m r 6)) (expand1_m (unpack1_m m))))), [], [(0, 6)]⟩)] ⟨encode4_ok _, trivial⟩ (fun _ => [(.ar .u16 256 (compress4_m (add_m (add_m (inverse_m (dot_m (rowof_m ek) (each_ntt_m (knoise_m r 0)))) (noise_m r 6)) (expand1_m (unpack1_m m)))) : D) = (.ar .u16 256 (compress4_m (add_m (add_m (inverse_m (dot_m (rowof_m ek) (each_ntt_m (knoise_m r 0)))) (noise_m r 6)) (expand1_m (unpack1_m m))))), nd [.ar .u16 256 (compress4_m (add_m (add_m (inverse_m (dot_m (rowof_m ek) (each_ntt_m (knoise_m r 0)))) (noise_m r 6)) (expand1_m (unpack1_m m)))), vi 4] []]) [6, 19] [3, 6] 7 ⟨rfl, rfl, trivial⟩ hS fun hS => ?_
  refine wp_seq ?_
  have hl4 := encode4_len (compress4_m (add_m (add_m (inverse_m (dot_m (rowof_m ek) (each_ntt_m (knoise_m r 0)))) (noise_m r 6)) (expand1_m (unpack1_m m))))
  refine rA [] trivial (fun _ => [(encrypt_l1 ek m r 3).length + (encode4_m (compress4_m (add_m (add_m (inverse_m (dot_m (rowof_m ek) (each_ntt_m (knoise_m r 0)))) (noise_m r 6)) (expand1_m (unpack1_m m))))).length ≤ 9223372036854775807, ((encrypt_l1 ek m r 3).length + (encode4_m (compress4_m (add_m (add_m (inverse_m (dot_m (rowof_m ek) (each_ntt_m (knoise_m r 0)))) (noise_m r 6)) (expand1_m (unpack1_m m))))).length) * 1 ≤ 140737488355328]) [6] [7] 8 ⟨by omega, by omega, trivial⟩ hS fun hS => ?_
  refine then_n (wp_ret ?_)
  have hM : encrypt_m ek m r = (encrypt_l1 ek m r 3) ++ (encode4_m (compress4_m (add_m (add_m (inverse_m (dot_m (rowof_m ek) (each_ntt_m (knoise_m r 0)))) (noise_m r 6)) (expand1_m (unpack1_m m))))) := encrypt_e ek m r
  obtain ⟨gs, hS⟩ := hS.rn [(0, 7)] [(6, .sk 0)] [(0, .sl 5 [.int .u8] ((encrypt_l1 ek m r 3) ++ (encode4_m (compress4_m (add_m (add_m (inverse_m (dot_m (rowof_m ek) (each_ntt_m (knoise_m r 0)))) (noise_m r 6)) (expand1_m (unpack1_m m)))))))] 1 hg0
  exact fin_y rfl (.inr rfl) hS [.sk 0] [(0, some (.sl 5 [.int .u8] ((encrypt_l1 ek m r 3) ++ (encode4_m (compress4_m (add_m (add_m (inverse_m (dot_m (rowof_m ek) (each_ntt_m (knoise_m r 0)))) (noise_m r 6)) (expand1_m (unpack1_m m))))))))] rfl (by show H1Ok _ [(0, .sl 5 [.int .u8] (encrypt_m ek m r))] true; rw [hM]; first | (simp only []; exact ⟨rfl, trivial⟩) | exact ⟨rfl, trivial⟩)

def encaps_v (ek m : List Int) : (List Int) × (List Int) × Nat := if ((chk ek : Nat) : Int) = 0 then (if ((m.length : Nat) : Int) = 32 then ((sum512_m [m, sum256_m [ek]]).take 32, encrypt_m ek m ((sum512_m [m, sum256_m [ek]]).drop 32), 0) else ([], [], 1)) else ([], [], (chk ek))
def encaps_m (ek m : List Int) : (List Int) × (List Int) × Nat := shut (encaps_v ek m)
theorem encaps_e (ek m : List Int) : encaps_m ek m = encaps_v ek m := shut_eq _
def c_encaps (ek m : List Int) : Con := ⟨[lb ek, lb m], [], .tu (chain [lb ((encaps_m ek m).1), .sk 0, vi (((encaps_m ek m).2.2 : Nat) : Int)]), [(0, .sl 5 [.int .u8] ((encaps_m ek m).2.1))]⟩
theorem encaps_ok (ek m : List Int) : ConOk Try.prog 15 (c_encaps ek m) := by
 refine conOk_of rfl (nb := 0) Try.func15 rfl rfl Try.ntmps15 rfl rfl rfl fun g0 w0 ac gs ws hg0 hS => ?_
 have hlen0 : ek.length ≤ 9223372036854775807 := hS.len 0 rfl
 have hlen1 : m.length ≤ 9223372036854775807 := hS.len 1 rfl
 have hS := hS.sp
 refine s0 [0, 1, 4, 5, 6] [] 0 hS fun hS => ?_
 refine wp_seq (sA [(1, .call ⟨10, (c_check ek), [], []⟩)] ⟨check_ok _, trivial⟩ (fun C => [ndC C 1]) [0, 1, 4, 5, 6, 7] [] 0 ⟨rfl, trivial⟩ hS fun hS => ?_)
 refine s0 [0, 1, 4, 5, 6, 7, 12] [] 0 hS fun hS => ?_
 refine if_n (((chk ek : Nat) : Int) = 0) hS (fun h1 => ?_) (fun h1 => ?_)
 ·refine s0 [0, 1, 4, 5, 6] [] 0 hS fun hS => ?_
  refine wp_ret (then_ret ?_)
  have hM : encaps_m ek m = ([], [], (chk ek)) := (encaps_e ek m).trans (if_neg h1)
  obtain ⟨gs, hS⟩ := hS.nilk 5 5 [.int .u8]
  have hS := hS.wk 4 (lb [])
  exact fin_y rfl (.inr rfl) hS [lb [], .sk 0, vi ((chk ek : Nat) : Int)] [(0, some (.sl 5 [.int .u8] []))] (by show weak _ (.tu (chain [lb ((encaps_m ek m).1), .sk 0, vi (((encaps_m ek m).2.2 : Nat) : Int)])) = (.tu (chain [lb ((encaps_m ek m).1), .sk 0, vi (((encaps_m ek m).2.2 : Nat) : Int)])); rw [hM]; first | (simp only []; rfl) | (simp only []; done) | rfl) (by show H1Ok _ [(0, .sl 5 [.int .u8] ((encaps_m ek m).2.1))] true; rw [hM]; first | (simp only []; exact ⟨rfl, trivial⟩) | exact ⟨rfl, trivial⟩)
 ·refine wp_skip (then_n (wp_seq (s0 [0, 1, 4, 5, 6, 16] [] 0 hS fun hS => ?_)))
  refine if_n (((m.length : Nat) : Int) = 32) hS (fun h2 => ?_) (fun h2 => ?_)
  ·refine s0 [0, 1, 4, 5, 6] [] 0 hS fun hS => ?_
   refine wp_ret (then_ret ?_)
   have hM : encaps_m ek m = ([], [], 1) := (encaps_e ek m).trans ((if_pos h1).trans (if_neg h2))
   obtain ⟨gs, hS⟩ := hS.nilk 5 5 [.int .u8]
   have hS := hS.wk 4 (lb [])
   exact fin_y rfl (.inr rfl) hS [lb [], .sk 0, vi 1] [(0, some (.sl 5 [.int .u8] []))] (by show weak _ (.tu (chain [lb ((encaps_m ek m).1), .sk 0, vi (((encaps_m ek m).2.2 : Nat) : Int)])) = (.tu (chain [lb ((encaps_m ek m).1), .sk 0, vi (((encaps_m ek m).2.2 : Nat) : Int)])); rw [hM]; first | (simp only []; rfl) | (simp only []; done) | rfl) (by show H1Ok _ [(0, .sl 5 [.int .u8] ((encaps_m ek m).2.1))] true; rw [hM]; first | (simp only []; exact ⟨rfl, trivial⟩) | exact ⟨rfl, trivial⟩)
  ·refine wp_skip (then_n (wp_seq ?_))
   have hc := chk_len (xs := ek) omm
   have hs := sum256_len [ek]
   refine rA [(3, .call ⟨37, (c_sum256 [ek]), [], []⟩), (5, .call ⟨38, (c_sum512 [m, sum256_m [ek]]), [], []⟩)] ⟨sum256_ok _ (by first | omega | (simp only [List.flatten_cons, List.flatten_nil, List.length_append, List.length_cons, List.length_nil, List.length_take, List.length_drop, List.length_replicate] <;> omega) | (simp <;> omega)), sum512_ok _ (by first | omega | (simp only [List.flatten_cons, List.flatten_nil, List.length_append, List.length_cons, List.length_nil, List.length_take, List.length_drop, List.length_replicate] <;> omega) | (simp <;> omega)), trivial⟩ (fun C => [ndC C 3, ndC C 5]) [0, 1, 4, 5, 6, 8] [] 0 ⟨rfl, rfl, trivial⟩ hS fun hS => ?_
   refine then_n (wp_seq ?_)
   have hl := sum512_len [m, sum256_m [ek]]
   refine rA [(6, .call ⟨47, (c_encrypt ek m ((sum512_m [m, sum256_m [ek]]).drop 32)), [], [(0, 0)]⟩)] ⟨encrypt_ok _ _ _ lnn lnn lnn, trivial⟩ (fun C => [bndP none (some 32) (some 32) (sum512_m [m, sum256_m [ek]]).length (sum512_m [m, sum256_m [ek]]).length, bndP (some 32) none none (sum512_m [m, sum256_m [ek]]).length (sum512_m [m, sum256_m [ek]]).length, ndC C 6]) [4, 5, 6] [0] 1 ⟨⟨by simp only [nnI] <;> omega, by simp only [nnI] <;> omega, by simp only [nnI] <;> omega, by simp, by simp only [bl] <;> omega, by simp only [bl] <;> omega, by simp only [bl] <;> omega⟩, ⟨by simp only [nnI] <;> omega, by simp only [nnI] <;> omega, by simp only [nnI] <;> omega, by simp, by simp only [bl] <;> omega, by simp only [bl] <;> omega, by simp only [bl] <;> omega⟩, rfl, trivial⟩ hS fun hS => ?_
   refine then_n (wp_ret ?_)
   have hM : encaps_m ek m = ((sum512_m [m, sum256_m [ek]]).take 32, encrypt_m ek m ((sum512_m [m, sum256_m [ek]]).drop 32), 0) := (encaps_e ek m).trans ((if_pos h1).trans (if_pos h2))
   exact fin_y rfl (.inr rfl) hS [lb ((sum512_m [m, sum256_m [ek]]).take 32), .sk 0, vi 0] [(0, some (.sl 5 [.int .u8] (encrypt_m ek m ((sum512_m [m, sum256_m [ek]]).drop 32))))] (by show weak _ (.tu (chain [lb ((encaps_m ek m).1), .sk 0, vi (((encaps_m ek m).2.2 : Nat) : Int)])) = (.tu (chain [lb ((encaps_m ek m).1), .sk 0, vi (((encaps_m ek m).2.2 : Nat) : Int)])); rw [hM]; first | (simp only []; rfl) | (simp only []; done) | rfl) (by show H1Ok _ [(0, .sl 5 [.int .u8] ((encaps_m ek m).2.1))] true; rw [hM]; first | (simp only []; exact ⟨rfl, trivial⟩) | exact ⟨rfl, trivial⟩)

def encapsy_v (ek m : List Int) : (List Int) × (List Int) := ((sum512_m [m, sum256_m [ek]]).take 32, encrypt_m ek m ((sum512_m [m, sum256_m [ek]]).drop 32))
def encapsy_m (ek m : List Int) : (List Int) × (List Int) := shut (encapsy_v ek m)
theorem encapsy_e (ek m : List Int) : encapsy_m ek m = encapsy_v ek m := shut_eq _
def c_encapsy (ek m : List Int) : Con := ⟨[lb ek, lb m], [], .tu (chain [lb ((encapsy_m ek m).1), .sk 0, vi 0]), [(0, .sl 5 [.int .u8] ((encapsy_m ek m).2))]⟩
theorem encapsy_ok (ek m : List Int) (hk : chk ek = 0) (hm : m.length = 32) : ConOk Try.prog 15 (c_encapsy ek m) := by
 refine conOk_of rfl (nb := 0) Try.func15 rfl rfl Try.ntmps15 rfl rfl rfl fun g0 w0 ac gs ws hg0 hS => ?_
 have hlen0 : ek.length ≤ 9223372036854775807 := hS.len 0 rfl
 have hlen1 : m.length ≤ 9223372036854775807 := hS.len 1 rfl
 have hS := hS.sp
 have hk1 : ((chk ek : Nat) : Int) = 0 := omm
 have hm1 : ((m.length : Nat) : Int) = 32 := omm
 refine s0 [0, 1, 4, 5, 6] [] 0 hS fun hS => ?_
 refine wp_seq (sA [(1, .call ⟨10, (c_check ek), [], []⟩)] ⟨check_ok _, trivial⟩ (fun C => [ndC C 1]) [0, 1, 4, 5, 6, 7] [] 0 ⟨rfl, trivial⟩ hS fun hS => ?_)
 refine sA [(1, .ob false)] trivial (fun _ => [(!decide (((chk ek : Nat) : Int) = 0)) = false]) [0, 1, 4, 5, 6, 7, 12] [] 0 ⟨by rw [decide_eq_true hk1]; rfl, trivial⟩ hS fun hS => ?_
 refine cond_f hS ?_
 refine wp_skip (then_n (wp_seq (sA [(2, .ob false)] trivial (fun _ => [(!decide (((m.length : Nat) : Int) = 32)) = false]) [0, 1, 4, 5, 6, 16] [] 0 ⟨by rw [decide_eq_true hm1]; rfl, trivial⟩ hS fun hS => ?_)))
 refine cond_f hS ?_
 refine wp_skip (then_n (wp_seq ?_))
 have hc := chk_len (xs := ek) omm
 have hs := sum256_len [ek]
 refine rA [(3, .call ⟨37, (c_sum256 [ek]), [], []⟩), (5, .call ⟨38, (c_sum512 [m, sum256_m [ek]]), [], []⟩)] ⟨sum256_ok _ (by first | omega | (simp only [List.flatten_cons, List.flatten_nil, List.length_append, List.length_cons, List.length_nil, List.length_take, List.length_drop, List.length_replicate] <;> omega) | (simp <;> omega)), sum512_ok _ (by first | omega | (simp only [List.flatten_cons, List.flatten_nil, List.length_append, List.length_cons, List.length_nil, List.length_take, List.length_drop, List.length_replicate] <;> omega) | (simp <;> omega)), trivial⟩ (fun C => [ndC C 3, ndC C 5]) [0, 1, 4, 5, 6, 8] [] 0 ⟨rfl, rfl, trivial⟩ hS fun hS => ?_
 refine then_n (wp_seq ?_)
 have hl := sum512_len [m, sum256_m [ek]]
 refine rA [(6, .call ⟨47, (c_encrypt ek m ((sum512_m [m, sum256_m [ek]]).drop 32)), [], [(0, 0)]⟩)] ⟨encrypt_ok _ _ _ lnn lnn lnn, trivial⟩ (fun C => [bndP none (some 32) (some 32) (sum512_m [m, sum256_m [ek]]).length (sum512_m [m, sum256_m [ek]]).length, bndP (some 32) none none (sum512_m [m, sum256_m [ek]]).length (sum512_m [m, sum256_m [ek]]).length, ndC C 6]) [4, 5, 6] [0] 1 ⟨⟨by simp only [nnI] <;> omega, by simp only [nnI] <;> omega, by simp only [nnI] <;> omega, by simp, by simp only [bl] <;> omega, by simp only [bl] <;> omega, by simp only [bl] <;> omega⟩, ⟨by simp only [nnI] <;> omega, by simp only [nnI] <;> omega, by simp only [nnI] <;> omega, by simp, by simp only [bl] <;> omega, by simp only [bl] <;> omega, by simp only [bl] <;> omega⟩, rfl, trivial⟩ hS fun hS => ?_
 refine then_n (wp_ret ?_)
 have hM : encapsy_m ek m = ((sum512_m [m, sum256_m [ek]]).take 32, encrypt_m ek m ((sum512_m [m, sum256_m [ek]]).drop 32)) := encapsy_e ek m
 exact fin_y rfl (.inr rfl) hS [lb ((sum512_m [m, sum256_m [ek]]).take 32), .sk 0, vi 0] [(0, some (.sl 5 [.int .u8] (encrypt_m ek m ((sum512_m [m, sum256_m [ek]]).drop 32))))] (by show weak _ (.tu (chain [lb ((encapsy_m ek m).1), .sk 0, vi 0])) = (.tu (chain [lb ((encapsy_m ek m).1), .sk 0, vi 0])); rw [hM]; first | (simp only []; rfl) | (simp only []; done) | rfl) (by show H1Ok _ [(0, .sl 5 [.int .u8] ((encapsy_m ek m).2))] true; rw [hM]; first | (simp only []; exact ⟨rfl, trivial⟩) | exact ⟨rfl, trivial⟩)

end
end Go.Sx.Try
