/- Walks. -/
import Derived.Test.YtmkplecnmklbfaaJ6
set_option linter.unusedSimpArgs false
set_option linter.unusedVariables false
set_option linter.unnecessarySimpa false
namespace Go.Sx.Try
open Go.Mi Go.RowKit Go.Sx Go.Proofs
def PQ (h : Nat) : Prop := h = 2 ∨ h = 4 ∨ h = 8 ∨ h = 16 ∨ h = 32 ∨ h = 64 ∨ h = 128 ∨ h = 256
set_option maxRecDepth 10000 in
theorem inv_a {h k : Nat} (h2 : h ≤ 128) (hh : PQ h) (hk : (k + 1) * h = 256) : (k + 1) * (2 * h) + 0 = 512 ∧ PQ (h * 2) ∧ 1 ≤ h := by
  unfold PQ at hh ⊢
  rcases hh with rfl | rfl | rfl | rfl | rfl | rfl | rfl | rfl <;> omega
set_option maxRecDepth 10000 in
theorem inv_b {h k f : Nat} (h2 : h ≤ 128) (hh : PQ h) (hk : (k + 1) * (2 * h) + f = 512) (hf : f < 256) : f + 2 * h ≤ 256 ∧ k < 128 ∧ 1 ≤ k ∧ (k - 1 + 1) * (2 * h) + (f + 2 * h) = 512 ∧ 2 ≤ h := by
  unfold PQ at hh
  rcases hh with rfl | rfl | rfl | rfl | rfl | rfl | rfl | rfl <;> omega
set_option maxRecDepth 10000 in
theorem inv_c {h k f : Nat} (h2 : h ≤ 128) (hh : PQ h) (hk : (k + 1) * (2 * h) + f = 512) (hf : f = 256) : (k + 1) * (h * 2) = 256 := by
  unfold PQ at hh
  rcases hh with rfl | rfl | rfl | rfl | rfl | rfl | rfl | rfl <;> omega
noncomputable def inverse_l3_s (f : Nat → Int) (k1 : Nat) (x4 : Nat) (x5 : Nat) (o1_0 : Nat → Int) (k2 : Nat) (x4_2 : Nat) (x6 : Nat) (o1_0_2 : Nat → Int) (k3 : Nat) : (Nat × (Nat → Int)) → (Nat × (Nat → Int)) := fun z_ => match z_ with | (x7, o1_0_3) => (x7 + 1, upd (upd o1_0_3 x7 (mod_m (iadd .u32 (IntKind.wrap .u32 (o1_0_3 x7)) (IntKind.wrap .u32 (o1_0_3 (x7 + x5)))))) (x7 + x5) (mod_m (imul .u32 (zetas_m x4_2) (isub .u32 (iadd .u32 (IntKind.wrap .u32 ((upd o1_0_3 x7 (mod_m (iadd .u32 (IntKind.wrap .u32 (o1_0_3 x7)) (IntKind.wrap .u32 (o1_0_3 (x7 + x5)))))) (x7 + x5))) 3329) (IntKind.wrap .u32 (o1_0_3 x7))))))
noncomputable def inverse_l3 (f : Nat → Int) (k1 : Nat) (x4 : Nat) (x5 : Nat) (o1_0 : Nat → Int) (k2 : Nat) (x4_2 : Nat) (x6 : Nat) (o1_0_2 : Nat → Int) : Nat → Nat × (Nat → Int)
  | 0 => (x6, o1_0_2)
  | k3 + 1 => inverse_l3_s f k1 x4 x5 o1_0 k2 x4_2 x6 o1_0_2 k3 (inverse_l3 f k1 x4 x5 o1_0 k2 x4_2 x6 o1_0_2 k3)
def inverse_l3_c (f : Nat → Int) (k1 : Nat) (x4 : Nat) (x5 : Nat) (o1_0 : Nat → Int) (k2 : Nat) (x4_2 : Nat) (x6 : Nat) (o1_0_2 : Nat → Int) : (Nat × (Nat → Int)) → Prop := fun z_ => match z_ with | (x7, o1_0_3) => ((x7 : Nat) : Int) < ((x6 + x5 : Nat) : Int)
noncomputable def inverse_l2_s (f : Nat → Int) (k1 : Nat) (x4 : Nat) (x5 : Nat) (o1_0 : Nat → Int) (k2 : Nat) : (Nat × Nat × (Nat → Int)) → (Nat × Nat × (Nat → Int)) := fun z_ => match z_ with | (x4_2, x6, o1_0_2) => (x4_2 - 1, x6 + (2 * x5), (inverse_l3 f k1 x4 x5 o1_0 k2 x4_2 x6 o1_0_2 (lst fun j => inverse_l3_c f k1 x4 x5 o1_0 k2 x4_2 x6 o1_0_2 (inverse_l3 f k1 x4 x5 o1_0 k2 x4_2 x6 o1_0_2 j))).2)
noncomputable def inverse_l2 (f : Nat → Int) (k1 : Nat) (x4 : Nat) (x5 : Nat) (o1_0 : Nat → Int) : Nat → Nat × Nat × (Nat → Int)
  | 0 => (x4, 0, o1_0)
  | k2 + 1 => inverse_l2_s f k1 x4 x5 o1_0 k2 (inverse_l2 f k1 x4 x5 o1_0 k2)
def inverse_l2_c (f : Nat → Int) (k1 : Nat) (x4 : Nat) (x5 : Nat) (o1_0 : Nat → Int) : (Nat × Nat × (Nat → Int)) → Prop := fun z_ => match z_ with | (x4_2, x6, o1_0_2) => ((x6 : Nat) : Int) < 256
noncomputable def inverse_l1_s (f : Nat → Int) (k1 : Nat) : (Nat × Nat × (Nat → Int)) → (Nat × Nat × (Nat → Int)) := fun z_ => match z_ with | (x4, x5, o1_0) => ((inverse_l2 f k1 x4 x5 o1_0 (lst fun j => inverse_l2_c f k1 x4 x5 o1_0 (inverse_l2 f k1 x4 x5 o1_0 j))).1, x5 * 2, (inverse_l2 f k1 x4 x5 o1_0 (lst fun j => inverse_l2_c f k1 x4 x5 o1_0 (inverse_l2 f k1 x4 x5 o1_0 j))).2.2)
noncomputable def inverse_l1 (f : Nat → Int) : Nat → Nat × Nat × (Nat → Int)
  | 0 => (127, 2, add_m f (fun _ => 0))
  | k1 + 1 => inverse_l1_s f k1 (inverse_l1 f k1)
def inverse_l1_c (f : Nat → Int) : (Nat × Nat × (Nat → Int)) → Prop := fun z_ => match z_ with | (x4, x5, o1_0) => ((x5 : Nat) : Int) ≤ 128
noncomputable def inverse_l4_s (f : Nat → Int) (x67 : Nat) : (Nat → Int) → (Nat → Int) := fun o1_0 => upd o1_0 x67 (mod_m (imul .u32 (IntKind.wrap .u32 (o1_0 x67)) 3303))
noncomputable def inverse_l4 (f : Nat → Int) : Nat → (Nat → Int)
  | 0 => (inverse_l1 f (lst fun j => inverse_l1_c f (inverse_l1 f j))).2.2
  | x67 + 1 => inverse_l4_s f x67 (inverse_l4 f x67)
noncomputable def inverse_v (f : Nat → Int) : (Nat → Int) := inverse_l4 f 256
noncomputable def inverse_m (f : Nat → Int) : (Nat → Int) := shut (inverse_v f)
theorem inverse_e (f : Nat → Int) : inverse_m f = inverse_v f := shut_eq _
noncomputable def c_inverse (f : Nat → Int) : Con := ⟨[.ar .u16 256 f], [], .ar .u16 256 (inverse_m f), []⟩
set_option maxRecDepth 100000 in
set_option maxHeartbeats 4000000 in
theorem inverse_ok (f : Nat → Int) : ConOk Try.prog 77 (c_inverse f) := by
  refine conOk_of (nb := 0) Try.func77 rfl rfl Try.ntmps77 rfl rfl rfl fun g0 w0 ac gs ws hg0 hS => ?_
  refine wp_seq ?_
  refine region_a (E := E0) mo hZ [] trivial (fun _ => []) [1, 2] [0, 1] [(1, .cp 0 0), (2, .cp 1 0)] [(0, some (.ob 60 (chain [.ar .u16 256 f]))), (1, some (.ob 60 (chain [.ar .u16 256 (fun _ => 0)])))] 2 (by kernel_rfl) trivial rfl hS fun ac gs ws hS => ?_
  refine then_n ?_
  refine wp_seq ?_
  refine region_a (E := E0) mo hZ [(0, .ov (.ar .u16 256 f)), (2, .call ⟨42, (c_add f (fun _ => 0)), [], []⟩)] ⟨add_ok f (fun _ => 0), trivial⟩ (fun _ => [(.ar .u16 256 f : D) = (.ar .u16 256 f), nd [.ar .u16 256 f, .ar .u16 256 (fun _ => 0)] []]) [1, 2] [0, 1] [(1, .cp 0 0), (2, .cp 1 0)] [(0, some (.ob 60 (chain [.ar .u16 256 (add_m f (fun _ => 0))]))), (1, some (.ob 60 (chain [.ar .u16 256 (fun _ => 0)])))] 2 (by kernel_rfl) ⟨rfl, rfl, trivial⟩ rfl hS fun ac gs ws hS => ?_
  refine then_n ?_
  refine wp_seq ?_
  refine region_a (E := E0) mo hZ [(0, .call ⟨70, (c_zetas), [], []⟩)] ⟨zetas_ok, trivial⟩ (fun C => [ndC C 0]) [1, 2, 3, 4] [0, 1, 2] [(1, .cp 0 0), (2, .cp 1 0), (3, .cp 2 0), (4, .v (.int .i64 127))] [(0, some (.ob 60 (chain [.ar .u16 256 (add_m f (fun _ => 0))]))), (1, some (.ob 60 (chain [.ar .u16 256 (fun _ => 0)]))), (2, some (.ob 106 (chain [.ar .u32 128 zetas_m])))] 3 (by kernel_rfl) ⟨rfl, trivial⟩ rfl hS fun ac gs ws hS => ?_
  refine then_n ?_
  refine wp_seq ?_
  refine wp_seq ?_
  refine region_a (E := E0) mo hZ [] trivial (fun _ => []) [1, 2, 3, 4, 5] [0, 1, 2] [(1, .cp 0 0), (2, .cp 1 0), (3, .cp 2 0), (4, .v (.int .i64 127)), (5, .v (.int .i64 2))] [(0, some (.ob 60 (chain [.ar .u16 256 (add_m f (fun _ => 0))]))), (1, some (.ob 60 (chain [.ar .u16 256 (fun _ => 0)]))), (2, some (.ob 106 (chain [.ar .u32 128 zetas_m])))] 3 (by kernel_rfl) trivial rfl hS fun ac gs ws hS => ?_
  refine then_n ?_
  refine wp_block ?_
  refine loop_r (σ := Nat × Nat × Nat × (Nat → Int)) hg0 hS (fun z_ => match z_ with | (k1, x4, x5, o1_0) => 256 - x5) (fun z_ => match z_ with | (k1, x4, x5, o1_0) => [(1, .cp 0 0), (2, .cp 1 0), (3, .cp 2 0), (4, .v (.int .i64 ((x4 : Nat) : Int))), (5, .v (.int .i64 ((x5 : Nat) : Int)))]) (fun z_ => match z_ with | (k1, x4, x5, o1_0) => [(0, .ob 60 (chain [.ar .u16 256 o1_0])), (1, .ob 60 (chain [.ar .u16 256 (fun _ => 0)])), (2, .ob 106 (chain [.ar .u32 128 zetas_m]))]) (fun z_ => match z_ with | (k1, x4, x5, o1_0) => ((x4, x5, o1_0) = inverse_l1 f k1) ∧ (∀ j, j < k1 → inverse_l1_c f (inverse_l1 f j)) ∧ (PQ x5) ∧ ((x4 + 1) * x5 = 256) ∧ True) 3 (0, 127, 2, add_m f (fun _ => 0)) [(0, 0), (1, 1), (2, 2)] (by kernel_rfl) (by kernel_rfl) ⟨rfl, rfl, rfl, trivial⟩ ⟨rfl, (fun j h => absurd h (Nat.not_lt_zero j)), (by unfold PQ; omega), rfl, trivial⟩ ?_
  rintro ⟨k1, x4, x5, o1_0⟩ ac gs ws ⟨hq1, hj1, pw, pk, _⟩ hS
  refine wp_seq ?_
  refine wp_seq ?_
  refine region_a (E := E0) mo hZ [] trivial (fun _ => []) [1, 2, 3, 4, 5, 15] [0, 1, 2] [(1, .cp 0 0), (2, .cp 1 0), (3, .cp 2 0), (4, .v (.int .i64 ((x4 : Nat) : Int))), (5, .v (.int .i64 ((x5 : Nat) : Int))), (15, .v (.bool (decide (((x5 : Nat) : Int) ≤ 128))))] [(0, some (.ob 60 (chain [.ar .u16 256 o1_0]))), (1, some (.ob 60 (chain [.ar .u16 256 (fun _ => 0)]))), (2, some (.ob 106 (chain [.ar .u32 128 zetas_m])))] 3 (by kernel_rfl) trivial rfl hS fun ac gs ws hS => ?_
  refine then_n ?_
  refine if_x hS rfl (fun h => ?_) (fun h => ?_)
  · skip
    have h1 := of_decide_eq_true h
    clear h
    refine wp_skip ?_
    refine then_n ?_
    refine wp_seq ?_
    refine wp_block ?_
    refine wp_seq ?_
    have pa := inv_a (by omega) pw pk
    refine region_a (E := E0) mo hZ [] trivial (fun _ => []) [1, 2, 3, 4, 5, 6] [0, 1, 2] [(1, .cp 0 0), (2, .cp 1 0), (3, .cp 2 0), (4, .v (.int .i64 ((x4 : Nat) : Int))), (5, .v (.int .i64 ((x5 : Nat) : Int))), (6, .v (.int .i64 0))] [(0, some (.ob 60 (chain [.ar .u16 256 o1_0]))), (1, some (.ob 60 (chain [.ar .u16 256 (fun _ => 0)]))), (2, some (.ob 106 (chain [.ar .u32 128 zetas_m])))] 3 (by kernel_rfl) trivial rfl hS fun ac gs ws hS => ?_
    refine then_n ?_
    refine wp_block ?_
    refine loop_r (σ := Nat × Nat × Nat × (Nat → Int)) hg0 hS (fun z_ => match z_ with | (k2, x4_2, x6, o1_0_2) => 256 - x6) (fun z_ => match z_ with | (k2, x4_2, x6, o1_0_2) => [(1, .cp 0 0), (2, .cp 1 0), (3, .cp 2 0), (4, .v (.int .i64 ((x4_2 : Nat) : Int))), (5, .v (.int .i64 ((x5 : Nat) : Int))), (6, .v (.int .i64 ((x6 : Nat) : Int)))]) (fun z_ => match z_ with | (k2, x4_2, x6, o1_0_2) => [(0, .ob 60 (chain [.ar .u16 256 o1_0_2])), (1, .ob 60 (chain [.ar .u16 256 (fun _ => 0)])), (2, .ob 106 (chain [.ar .u32 128 zetas_m]))]) (fun z_ => match z_ with | (k2, x4_2, x6, o1_0_2) => ((x4_2, x6, o1_0_2) = inverse_l2 f k1 x4 x5 o1_0 k2) ∧ (∀ j, j < k2 → inverse_l2_c f k1 x4 x5 o1_0 (inverse_l2 f k1 x4 x5 o1_0 j)) ∧ ((x4_2 + 1) * (2 * x5) + x6 = 512) ∧ (x6 ≤ 256) ∧ True) 3 (0, x4, 0, o1_0) [(0, 0), (1, 1), (2, 2)] (by kernel_rfl) (by kernel_rfl) ⟨rfl, rfl, rfl, trivial⟩ ⟨rfl, (fun j h => absurd h (Nat.not_lt_zero j)), pa.1, (by omega), trivial⟩ ?_
    rintro ⟨k2, x4_2, x6, o1_0_2⟩ ac gs ws ⟨hq2, hj2, p2, p3, _⟩ hS
    refine wp_seq ?_
    refine wp_seq ?_
    refine region_a (E := E0) mo hZ [] trivial (fun _ => []) [1, 2, 3, 4, 5, 6, 19] [0, 1, 2] [(1, .cp 0 0), (2, .cp 1 0), (3, .cp 2 0), (4, .v (.int .i64 ((x4_2 : Nat) : Int))), (5, .v (.int .i64 ((x5 : Nat) : Int))), (6, .v (.int .i64 ((x6 : Nat) : Int))), (19, .v (.bool (decide (((x6 : Nat) : Int) < 256))))] [(0, some (.ob 60 (chain [.ar .u16 256 o1_0_2]))), (1, some (.ob 60 (chain [.ar .u16 256 (fun _ => 0)]))), (2, some (.ob 106 (chain [.ar .u32 128 zetas_m])))] 3 (by kernel_rfl) trivial rfl hS fun ac gs ws hS => ?_
    refine then_n ?_
    refine if_x hS rfl (fun h => ?_) (fun h => ?_)
    · skip
      have h2 := of_decide_eq_true h
      clear h
      refine wp_skip ?_
      refine then_n ?_
      refine wp_seq ?_
      refine wp_block ?_
      refine wp_seq ?_
      refine wp_seq ?_
      have pb := inv_b (by omega) pw p2 (by omega)
      refine region_a (E := E0) mo hZ [] trivial (fun _ => []) [1, 2, 3, 4, 5, 6, 7] [0, 1, 2] [(1, .cp 0 0), (2, .cp 1 0), (3, .cp 2 0), (4, .v (.int .i64 ((x4_2 : Nat) : Int))), (5, .v (.int .i64 ((x5 : Nat) : Int))), (6, .v (.int .i64 ((x6 : Nat) : Int))), (7, .v (.int .i64 ((x6 : Nat) : Int)))] [(0, some (.ob 60 (chain [.ar .u16 256 o1_0_2]))), (1, some (.ob 60 (chain [.ar .u16 256 (fun _ => 0)]))), (2, some (.ob 106 (chain [.ar .u32 128 zetas_m])))] 3 (by kernel_rfl) trivial rfl hS fun ac gs ws hS => ?_
      refine then_n ?_
      refine wp_block ?_
      refine loop_r (σ := Nat × Nat × (Nat → Int)) hg0 hS (fun z_ => match z_ with | (k3, x7, o1_0_3) => x6 + x5 - x7) (fun z_ => match z_ with | (k3, x7, o1_0_3) => [(1, .cp 0 0), (2, .cp 1 0), (3, .cp 2 0), (4, .v (.int .i64 ((x4_2 : Nat) : Int))), (5, .v (.int .i64 ((x5 : Nat) : Int))), (6, .v (.int .i64 ((x6 : Nat) : Int))), (7, .v (.int .i64 ((x7 : Nat) : Int)))]) (fun z_ => match z_ with | (k3, x7, o1_0_3) => [(0, .ob 60 (chain [.ar .u16 256 o1_0_3])), (1, .ob 60 (chain [.ar .u16 256 (fun _ => 0)])), (2, .ob 106 (chain [.ar .u32 128 zetas_m]))]) (fun z_ => match z_ with | (k3, x7, o1_0_3) => ((x7, o1_0_3) = inverse_l3 f k1 x4 x5 o1_0 k2 x4_2 x6 o1_0_2 k3) ∧ (∀ j, j < k3 → inverse_l3_c f k1 x4 x5 o1_0 k2 x4_2 x6 o1_0_2 (inverse_l3 f k1 x4 x5 o1_0 k2 x4_2 x6 o1_0_2 j)) ∧ (x6 ≤ x7) ∧ (x7 ≤ x6 + x5) ∧ True) 3 (0, x6, o1_0_2) [(0, 0), (1, 1), (2, 2)] (by kernel_rfl) (by kernel_rfl) ⟨rfl, rfl, rfl, trivial⟩ ⟨rfl, (fun j h => absurd h (Nat.not_lt_zero j)), (by omega), (by omega), trivial⟩ ?_
      rintro ⟨k3, x7, o1_0_3⟩ ac gs ws ⟨hq3, hj3, p4, p5, _⟩ hS
      refine wp_seq ?_
      refine wp_seq ?_
      refine region_a (E := E0) mo hZ [(3, .oi ((x6 + x5 : Nat) : Int))] trivial (fun _ => [iadd .i64 ((x6 : Nat) : Int) ((x5 : Nat) : Int) = ((x6 + x5 : Nat) : Int)]) [1, 2, 3, 4, 5, 6, 7, 29] [0, 1, 2] [(1, .cp 0 0), (2, .cp 1 0), (3, .cp 2 0), (4, .v (.int .i64 ((x4_2 : Nat) : Int))), (5, .v (.int .i64 ((x5 : Nat) : Int))), (6, .v (.int .i64 ((x6 : Nat) : Int))), (7, .v (.int .i64 ((x7 : Nat) : Int))), (29, .v (.bool (decide (((x7 : Nat) : Int) < ((x6 + x5 : Nat) : Int)))))] [(0, some (.ob 60 (chain [.ar .u16 256 o1_0_3]))), (1, some (.ob 60 (chain [.ar .u16 256 (fun _ => 0)]))), (2, some (.ob 106 (chain [.ar .u32 128 zetas_m])))] 3 (by kernel_rfl) ⟨by rw [iadd64 (by omega) (by omega)]; omega, trivial⟩ rfl hS fun ac gs ws hS => ?_
      refine then_n ?_
      refine if_x hS rfl (fun h => ?_) (fun h => ?_)
      · skip
        have h3 := of_decide_eq_true h
        clear h
        refine wp_skip ?_
        refine then_n ?_
        refine wp_seq ?_
        refine wp_block ?_
        refine wp_seq ?_
        refine region_a (E := E0) mo hZ [] trivial (fun _ => [(0 : Int) ≤ ((x7 : Nat) : Int) ∧ (((x7 : Nat) : Int) : Int) < 256]) [1, 2, 3, 4, 5, 6, 7, 8] [0, 1, 2] [(1, .cp 0 0), (2, .cp 1 0), (3, .cp 2 0), (4, .v (.int .i64 ((x4_2 : Nat) : Int))), (5, .v (.int .i64 ((x5 : Nat) : Int))), (6, .v (.int .i64 ((x6 : Nat) : Int))), (7, .v (.int .i64 ((x7 : Nat) : Int))), (8, .v (.int .u32 (IntKind.wrap .u32 (o1_0_3 x7))))] [(0, some (.ob 60 (chain [.ar .u16 256 o1_0_3]))), (1, some (.ob 60 (chain [.ar .u16 256 (fun _ => 0)]))), (2, some (.ob 106 (chain [.ar .u32 128 zetas_m])))] 3 (by kernel_rfl) ⟨by omega, trivial⟩ rfl hS fun ac gs ws hS => ?_
        refine then_n ?_
        refine wp_seq ?_
        refine region_a (E := E0) mo hZ [(4, .oi ((x7 + x5 : Nat) : Int)), (9, .call ⟨71, (c_mod (iadd .u32 (IntKind.wrap .u32 (o1_0_3 x7)) (IntKind.wrap .u32 (o1_0_3 (x7 + x5))))), [], []⟩)] ⟨mod_ok (iadd .u32 (IntKind.wrap .u32 (o1_0_3 x7)) (IntKind.wrap .u32 (o1_0_3 (x7 + x5)))), trivial⟩ (fun C => [iadd .i64 ((x7 : Nat) : Int) ((x5 : Nat) : Int) = ((x7 + x5 : Nat) : Int), (0 : Int) ≤ ((x7 + x5 : Nat) : Int) ∧ (((x7 + x5 : Nat) : Int) : Int) < 256, ndC C 9, (0 : Int) ≤ ((x7 : Nat) : Int) ∧ (((x7 : Nat) : Int) : Int) < 256]) [1, 2, 3, 4, 5, 6, 7, 8] [0, 1, 2] [(1, .cp 0 0), (2, .cp 1 0), (3, .cp 2 0), (4, .v (.int .i64 ((x4_2 : Nat) : Int))), (5, .v (.int .i64 ((x5 : Nat) : Int))), (6, .v (.int .i64 ((x6 : Nat) : Int))), (7, .v (.int .i64 ((x7 : Nat) : Int))), (8, .v (.int .u32 (IntKind.wrap .u32 (o1_0_3 x7))))] [(0, some (.ob 60 (chain [.ar .u16 256 (upd o1_0_3 x7 (mod_m (iadd .u32 (IntKind.wrap .u32 (o1_0_3 x7)) (IntKind.wrap .u32 (o1_0_3 (x7 + x5))))))]))), (1, some (.ob 60 (chain [.ar .u16 256 (fun _ => 0)]))), (2, some (.ob 106 (chain [.ar .u32 128 zetas_m])))] 3 (by kernel_rfl) ⟨by rw [iadd64 (by omega) (by omega)]; omega, by omega, rfl, by omega, trivial⟩ rfl hS fun ac gs ws hS => ?_
        refine then_n ?_
        refine region_a (E := E0) mo hZ [(2, .oi ((x7 + x5 : Nat) : Int)), (8, .oi ((x7 + x5 : Nat) : Int)), (16, .call ⟨71, (c_mod (imul .u32 (zetas_m x4_2) (isub .u32 (iadd .u32 (IntKind.wrap .u32 ((upd o1_0_3 x7 (mod_m (iadd .u32 (IntKind.wrap .u32 (o1_0_3 x7)) (IntKind.wrap .u32 (o1_0_3 (x7 + x5)))))) (x7 + x5))) 3329) (IntKind.wrap .u32 (o1_0_3 x7))))), [], []⟩)] ⟨mod_ok (imul .u32 (zetas_m x4_2) (isub .u32 (iadd .u32 (IntKind.wrap .u32 ((upd o1_0_3 x7 (mod_m (iadd .u32 (IntKind.wrap .u32 (o1_0_3 x7)) (IntKind.wrap .u32 (o1_0_3 (x7 + x5)))))) (x7 + x5))) 3329) (IntKind.wrap .u32 (o1_0_3 x7)))), trivial⟩ (fun C => [iadd .i64 ((x7 : Nat) : Int) ((x5 : Nat) : Int) = ((x7 + x5 : Nat) : Int), (0 : Int) ≤ ((x4_2 : Nat) : Int) ∧ (((x4_2 : Nat) : Int) : Int) < 128, iadd .i64 ((x7 : Nat) : Int) ((x5 : Nat) : Int) = ((x7 + x5 : Nat) : Int), (0 : Int) ≤ ((x7 + x5 : Nat) : Int) ∧ (((x7 + x5 : Nat) : Int) : Int) < 256, ndC C 16, (0 : Int) ≤ ((x7 + x5 : Nat) : Int) ∧ (((x7 + x5 : Nat) : Int) : Int) < 256]) [1, 2, 3, 4, 5, 6, 7] [0, 1, 2] [(1, .cp 0 0), (2, .cp 1 0), (3, .cp 2 0), (4, .v (.int .i64 ((x4_2 : Nat) : Int))), (5, .v (.int .i64 ((x5 : Nat) : Int))), (6, .v (.int .i64 ((x6 : Nat) : Int))), (7, .v (.int .i64 ((x7 : Nat) : Int)))] [(0, some (.ob 60 (chain [.ar .u16 256 (upd (upd o1_0_3 x7 (mod_m (iadd .u32 (IntKind.wrap .u32 (o1_0_3 x7)) (IntKind.wrap .u32 (o1_0_3 (x7 + x5)))))) (x7 + x5) (mod_m (imul .u32 (zetas_m x4_2) (isub .u32 (iadd .u32 (IntKind.wrap .u32 ((upd o1_0_3 x7 (mod_m (iadd .u32 (IntKind.wrap .u32 (o1_0_3 x7)) (IntKind.wrap .u32 (o1_0_3 (x7 + x5)))))) (x7 + x5))) 3329) (IntKind.wrap .u32 (o1_0_3 x7))))))]))), (1, some (.ob 60 (chain [.ar .u16 256 (fun _ => 0)]))), (2, some (.ob 106 (chain [.ar .u32 128 zetas_m])))] 3 (by kernel_rfl) ⟨by rw [iadd64 (by omega) (by omega)]; omega, by omega, by rw [iadd64 (by omega) (by omega)]; omega, by omega, rfl, by omega, trivial⟩ rfl hS fun ac gs ws hS => ?_
        refine block_n ?_
        refine then_n ?_
        refine region_a (E := E0) mo hZ [(1, .oi ((x7 + 1 : Nat) : Int))] trivial (fun _ => [iadd .i64 ((x7 : Nat) : Int) 1 = ((x7 + 1 : Nat) : Int)]) [1, 2, 3, 4, 5, 6, 7] [0, 1, 2] [(1, .cp 0 0), (2, .cp 1 0), (3, .cp 2 0), (4, .v (.int .i64 ((x4_2 : Nat) : Int))), (5, .v (.int .i64 ((x5 : Nat) : Int))), (6, .v (.int .i64 ((x6 : Nat) : Int))), (7, .v (.int .i64 ((x7 + 1 : Nat) : Int)))] [(0, some (.ob 60 (chain [.ar .u16 256 (upd (upd o1_0_3 x7 (mod_m (iadd .u32 (IntKind.wrap .u32 (o1_0_3 x7)) (IntKind.wrap .u32 (o1_0_3 (x7 + x5)))))) (x7 + x5) (mod_m (imul .u32 (zetas_m x4_2) (isub .u32 (iadd .u32 (IntKind.wrap .u32 ((upd o1_0_3 x7 (mod_m (iadd .u32 (IntKind.wrap .u32 (o1_0_3 x7)) (IntKind.wrap .u32 (o1_0_3 (x7 + x5)))))) (x7 + x5))) 3329) (IntKind.wrap .u32 (o1_0_3 x7))))))]))), (1, some (.ob 60 (chain [.ar .u16 256 (fun _ => 0)]))), (2, some (.ob 106 (chain [.ar .u32 128 zetas_m])))] 3 (by kernel_rfl) ⟨by rw [iadd64 (by omega) (by omega)]; omega, trivial⟩ rfl hS fun ac gs ws hS => ?_
        refine then_n ?_
        exact next_r hg0 hS (s := (k3, x7, o1_0_3)) (k3 + 1, x7 + 1, upd (upd o1_0_3 x7 (mod_m (iadd .u32 (IntKind.wrap .u32 (o1_0_3 x7)) (IntKind.wrap .u32 (o1_0_3 (x7 + x5)))))) (x7 + x5) (mod_m (imul .u32 (zetas_m x4_2) (isub .u32 (iadd .u32 (IntKind.wrap .u32 ((upd o1_0_3 x7 (mod_m (iadd .u32 (IntKind.wrap .u32 (o1_0_3 x7)) (IntKind.wrap .u32 (o1_0_3 (x7 + x5)))))) (x7 + x5))) 3329) (IntKind.wrap .u32 (o1_0_3 x7)))))) [(0, 0), (1, 1), (2, 2)] (by kernel_rfl) (by kernel_rfl) ⟨rfl, rfl, rfl, trivial⟩ (show x6 + x5 - (x7 + 1) < x6 + x5 - x7 from by omega) ⟨(it_next (F := inverse_l3 f k1 x4 x5 o1_0 k2 x4_2 x6 o1_0_2) (st := inverse_l3_s f k1 x4 x5 o1_0 k2 x4_2 x6 o1_0_2) (fun _ => rfl) hq3 rfl), (lst_next hj3 (by rw [← hq3]; exact h3)), (by omega), (by omega), trivial⟩
      · skip
        have h3 := of_decide_eq_false h
        clear h
        have hScur := hS
        obtain rfl := lst_eq (P := fun j => inverse_l3_c f k1 x4 x5 o1_0 k2 x4_2 x6 o1_0_2 (inverse_l3 f k1 x4 x5 o1_0 k2 x4_2 x6 o1_0_2 j)) (by rw [← hq3]; exact h3) hj3
        obtain rfl : (inverse_l3 f k1 x4 x5 o1_0 k2 x4_2 x6 o1_0_2 (lst fun j => inverse_l3_c f k1 x4 x5 o1_0 k2 x4_2 x6 o1_0_2 (inverse_l3 f k1 x4 x5 o1_0 k2 x4_2 x6 o1_0_2 j))).1 = x7 := Eq.symm (congrArg (fun z => z.1) hq3)
        obtain rfl : (inverse_l3 f k1 x4 x5 o1_0 k2 x4_2 x6 o1_0_2 (lst fun j => inverse_l3_c f k1 x4 x5 o1_0 k2 x4_2 x6 o1_0_2 (inverse_l3 f k1 x4 x5 o1_0 k2 x4_2 x6 o1_0_2 j))).2 = o1_0_3 := Eq.symm (congrArg (fun z => z.2) hq3)
        have hS := hScur
        clear hScur
        refine wp_exit ?_
        refine then_exit ?_
        refine then_exit ?_
        refine block_exit ?_
        refine then_n ?_
        refine region_a (E := E0) mo hZ [(1, .oi ((x4_2 - 1 : Nat) : Int))] trivial (fun _ => [isub .i64 ((x4_2 : Nat) : Int) 1 = ((x4_2 - 1 : Nat) : Int)]) [1, 2, 3, 4, 5, 6] [0, 1, 2] [(1, .cp 0 0), (2, .cp 1 0), (3, .cp 2 0), (4, .v (.int .i64 ((x4_2 - 1 : Nat) : Int))), (5, .v (.int .i64 ((x5 : Nat) : Int))), (6, .v (.int .i64 ((x6 : Nat) : Int)))] [(0, some (.ob 60 (chain [.ar .u16 256 ((inverse_l3 f k1 x4 x5 o1_0 k2 x4_2 x6 o1_0_2 (lst fun j => inverse_l3_c f k1 x4 x5 o1_0 k2 x4_2 x6 o1_0_2 (inverse_l3 f k1 x4 x5 o1_0 k2 x4_2 x6 o1_0_2 j))).2)]))), (1, some (.ob 60 (chain [.ar .u16 256 (fun _ => 0)]))), (2, some (.ob 106 (chain [.ar .u32 128 zetas_m])))] 3 (by kernel_rfl) ⟨by rw [isub64 (by omega) (by omega)]; omega, trivial⟩ rfl hS fun ac gs ws hS => ?_
        refine block_n ?_
        refine then_n ?_
        refine region_a (E := E0) mo hZ [(2, .oi ((2 * x5 : Nat) : Int)), (3, .oi ((x6 + (2 * x5) : Nat) : Int))] trivial (fun _ => [imul .i64 2 ((x5 : Nat) : Int) = ((2 * x5 : Nat) : Int), iadd .i64 ((x6 : Nat) : Int) ((2 * x5 : Nat) : Int) = ((x6 + (2 * x5) : Nat) : Int)]) [1, 2, 3, 4, 5, 6] [0, 1, 2] [(1, .cp 0 0), (2, .cp 1 0), (3, .cp 2 0), (4, .v (.int .i64 ((x4_2 - 1 : Nat) : Int))), (5, .v (.int .i64 ((x5 : Nat) : Int))), (6, .v (.int .i64 ((x6 + (2 * x5) : Nat) : Int)))] [(0, some (.ob 60 (chain [.ar .u16 256 ((inverse_l3 f k1 x4 x5 o1_0 k2 x4_2 x6 o1_0_2 (lst fun j => inverse_l3_c f k1 x4 x5 o1_0 k2 x4_2 x6 o1_0_2 (inverse_l3 f k1 x4 x5 o1_0 k2 x4_2 x6 o1_0_2 j))).2)]))), (1, some (.ob 60 (chain [.ar .u16 256 (fun _ => 0)]))), (2, some (.ob 106 (chain [.ar .u32 128 zetas_m])))] 3 (by kernel_rfl) ⟨by rw [imul64 (by omega) (by omega)]; omega, by rw [iadd64 (by omega) (by omega)]; omega, trivial⟩ rfl hS fun ac gs ws hS => ?_
        refine then_n ?_
        exact next_r hg0 hS (s := (k2, x4_2, x6, o1_0_2)) (k2 + 1, x4_2 - 1, x6 + (2 * x5), (inverse_l3 f k1 x4 x5 o1_0 k2 x4_2 x6 o1_0_2 (lst fun j => inverse_l3_c f k1 x4 x5 o1_0 k2 x4_2 x6 o1_0_2 (inverse_l3 f k1 x4 x5 o1_0 k2 x4_2 x6 o1_0_2 j))).2) [(0, 0), (1, 1), (2, 2)] (by kernel_rfl) (by kernel_rfl) ⟨rfl, rfl, rfl, trivial⟩ (show 256 - (x6 + (2 * x5)) < 256 - x6 from by omega) ⟨(it_next (F := inverse_l2 f k1 x4 x5 o1_0) (st := inverse_l2_s f k1 x4 x5 o1_0) (fun _ => rfl) hq2 rfl), (lst_next hj2 (by rw [← hq2]; exact h2)), pb.2.2.2.1, pb.1, trivial⟩
    · skip
      have h2 := of_decide_eq_false h
      clear h
      have hScur := hS
      have pe := inv_c (by omega) pw p2 (by omega)
      have pn := pa.2.1
      have pz := pa.2.2
      obtain rfl := lst_eq (P := fun j => inverse_l2_c f k1 x4 x5 o1_0 (inverse_l2 f k1 x4 x5 o1_0 j)) (by rw [← hq2]; exact h2) hj2
      obtain rfl : (inverse_l2 f k1 x4 x5 o1_0 (lst fun j => inverse_l2_c f k1 x4 x5 o1_0 (inverse_l2 f k1 x4 x5 o1_0 j))).1 = x4_2 := Eq.symm (congrArg (fun z => z.1) hq2)
      obtain rfl : (inverse_l2 f k1 x4 x5 o1_0 (lst fun j => inverse_l2_c f k1 x4 x5 o1_0 (inverse_l2 f k1 x4 x5 o1_0 j))).2.1 = x6 := Eq.symm (congrArg (fun z => z.2.1) hq2)
      obtain rfl : (inverse_l2 f k1 x4 x5 o1_0 (lst fun j => inverse_l2_c f k1 x4 x5 o1_0 (inverse_l2 f k1 x4 x5 o1_0 j))).2.2 = o1_0_2 := Eq.symm (congrArg (fun z => z.2.2) hq2)
      have hS := hScur
      clear hScur
      refine wp_exit ?_
      refine then_exit ?_
      refine then_exit ?_
      refine block_exit ?_
      refine block_n ?_
      refine then_n ?_
      refine region_a (E := E0) mo hZ [(1, .oi ((x5 * 2 : Nat) : Int))] trivial (fun _ => [imul .i64 ((x5 : Nat) : Int) 2 = ((x5 * 2 : Nat) : Int)]) [1, 2, 3, 4, 5] [0, 1, 2] [(1, .cp 0 0), (2, .cp 1 0), (3, .cp 2 0), (4, .v (.int .i64 (((inverse_l2 f k1 x4 x5 o1_0 (lst fun j => inverse_l2_c f k1 x4 x5 o1_0 (inverse_l2 f k1 x4 x5 o1_0 j))).1 : Nat) : Int))), (5, .v (.int .i64 ((x5 * 2 : Nat) : Int)))] [(0, some (.ob 60 (chain [.ar .u16 256 ((inverse_l2 f k1 x4 x5 o1_0 (lst fun j => inverse_l2_c f k1 x4 x5 o1_0 (inverse_l2 f k1 x4 x5 o1_0 j))).2.2)]))), (1, some (.ob 60 (chain [.ar .u16 256 (fun _ => 0)]))), (2, some (.ob 106 (chain [.ar .u32 128 zetas_m])))] 3 (by kernel_rfl) ⟨by rw [imul64 (by omega) (by omega)]; omega, trivial⟩ rfl hS fun ac gs ws hS => ?_
      refine then_n ?_
      exact next_r hg0 hS (s := (k1, x4, x5, o1_0)) (k1 + 1, (inverse_l2 f k1 x4 x5 o1_0 (lst fun j => inverse_l2_c f k1 x4 x5 o1_0 (inverse_l2 f k1 x4 x5 o1_0 j))).1, x5 * 2, (inverse_l2 f k1 x4 x5 o1_0 (lst fun j => inverse_l2_c f k1 x4 x5 o1_0 (inverse_l2 f k1 x4 x5 o1_0 j))).2.2) [(0, 0), (1, 1), (2, 2)] (by kernel_rfl) (by kernel_rfl) ⟨rfl, rfl, rfl, trivial⟩ (show 256 - (x5 * 2) < 256 - x5 from by omega) ⟨(it_next (F := inverse_l1 f) (st := inverse_l1_s f) (fun _ => rfl) hq1 rfl), (lst_next hj1 (by rw [← hq1]; exact h1)), pn, pe, trivial⟩
  · skip
    have h1 := of_decide_eq_false h
    clear h
    have hScur := hS
    obtain rfl := lst_eq (P := fun j => inverse_l1_c f (inverse_l1 f j)) (by rw [← hq1]; exact h1) hj1
    obtain rfl : (inverse_l1 f (lst fun j => inverse_l1_c f (inverse_l1 f j))).1 = x4 := Eq.symm (congrArg (fun z => z.1) hq1)
    obtain rfl : (inverse_l1 f (lst fun j => inverse_l1_c f (inverse_l1 f j))).2.1 = x5 := Eq.symm (congrArg (fun z => z.2.1) hq1)
    obtain rfl : (inverse_l1 f (lst fun j => inverse_l1_c f (inverse_l1 f j))).2.2 = o1_0 := Eq.symm (congrArg (fun z => z.2.2) hq1)
    have hS := hScur
    clear hScur
    refine wp_exit ?_
    refine then_exit ?_
    refine then_exit ?_
    refine block_exit ?_
    refine then_n ?_
    refine wp_seq ?_
    refine wp_seq ?_
    refine region_a (E := E0) mo hZ [] trivial (fun _ => []) [1, 2, 67] [0, 1] [(1, .cp 0 0), (2, .cp 1 0), (67, .v (.int .i64 0))] [(0, some (.ob 60 (chain [.ar .u16 256 ((inverse_l1 f (lst fun j => inverse_l1_c f (inverse_l1 f j))).2.2)]))), (1, some (.ob 60 (chain [.ar .u16 256 (fun _ => 0)])))] 3 (by kernel_rfl) trivial rfl hS fun ac gs ws hS => ?_
    refine then_n ?_
    refine wp_block ?_
    refine loop_r (σ := Nat × (Nat → Int)) hg0 hS (fun z_ => match z_ with | (x67, o1_0) => 256 - x67) (fun z_ => match z_ with | (x67, o1_0) => [(1, .cp 0 0), (2, .cp 1 0), (67, .v (.int .i64 ((x67 : Nat) : Int)))]) (fun z_ => match z_ with | (x67, o1_0) => [(0, .ob 60 (chain [.ar .u16 256 o1_0])), (1, .ob 60 (chain [.ar .u16 256 (fun _ => 0)]))]) (fun z_ => match z_ with | (x67, o1_0) => (x67 ≤ 256) ∧ (o1_0 = inverse_l4 f x67) ∧ True) 2 (0, (inverse_l1 f (lst fun j => inverse_l1_c f (inverse_l1 f j))).2.2) [(0, 0), (1, 1)] (by kernel_rfl) (by kernel_rfl) ⟨rfl, rfl, trivial⟩ ⟨(by omega), rfl, trivial⟩ ?_
    rintro ⟨x67, o1_0⟩ ac gs ws ⟨hx67, hq4, _⟩ hS
    refine wp_seq ?_
    refine region_a (E := E0) mo hZ [] trivial (fun _ => []) [1, 2, 67, 68] [0, 1] [(1, .cp 0 0), (2, .cp 1 0), (67, .v (.int .i64 ((x67 : Nat) : Int))), (68, .v (.bool (decide (((x67 : Nat) : Int) < 256))))] [(0, some (.ob 60 (chain [.ar .u16 256 o1_0]))), (1, some (.ob 60 (chain [.ar .u16 256 (fun _ => 0)])))] 2 (by kernel_rfl) trivial rfl hS fun ac gs ws hS => ?_
    refine then_n ?_
    refine wp_seq ?_
    refine if_x hS rfl (fun h => ?_) (fun h => ?_)
    · skip
      have h4 := of_decide_eq_true h
      clear h
      refine wp_skip ?_
      refine then_n ?_
      refine wp_seq ?_
      refine wp_block ?_
      refine wp_seq ?_
      refine region_a (E := E0) mo hZ [] trivial (fun _ => []) [1, 2, 9, 67] [0, 1] [(1, .cp 0 0), (2, .cp 1 0), (9, .v (.int .i64 ((x67 : Nat) : Int))), (67, .v (.int .i64 ((x67 : Nat) : Int)))] [(0, some (.ob 60 (chain [.ar .u16 256 o1_0]))), (1, some (.ob 60 (chain [.ar .u16 256 (fun _ => 0)])))] 2 (by kernel_rfl) trivial rfl hS fun ac gs ws hS => ?_
      refine then_n ?_
      refine region_a (E := E0) mo hZ [(6, .call ⟨71, (c_mod (imul .u32 (IntKind.wrap .u32 (o1_0 x67)) 3303)), [], []⟩)] ⟨mod_ok (imul .u32 (IntKind.wrap .u32 (o1_0 x67)) 3303), trivial⟩ (fun C => [(0 : Int) ≤ ((x67 : Nat) : Int) ∧ (((x67 : Nat) : Int) : Int) < 256, ndC C 6, (0 : Int) ≤ ((x67 : Nat) : Int) ∧ (((x67 : Nat) : Int) : Int) < 256]) [1, 2, 67] [0, 1] [(1, .cp 0 0), (2, .cp 1 0), (67, .v (.int .i64 ((x67 : Nat) : Int)))] [(0, some (.ob 60 (chain [.ar .u16 256 (upd o1_0 x67 (mod_m (imul .u32 (IntKind.wrap .u32 (o1_0 x67)) 3303)))]))), (1, some (.ob 60 (chain [.ar .u16 256 (fun _ => 0)])))] 2 (by kernel_rfl) ⟨by omega, rfl, by omega, trivial⟩ rfl hS fun ac gs ws hS => ?_
      refine block_n ?_
      refine then_n ?_
      refine region_a (E := E0) mo hZ [(0, .oi ((x67 + 1 : Nat) : Int))] trivial (fun _ => [iadd .i64 ((x67 : Nat) : Int) 1 = ((x67 + 1 : Nat) : Int)]) [1, 2, 67] [0, 1] [(1, .cp 0 0), (2, .cp 1 0), (67, .v (.int .i64 ((x67 + 1 : Nat) : Int)))] [(0, some (.ob 60 (chain [.ar .u16 256 (upd o1_0 x67 (mod_m (imul .u32 (IntKind.wrap .u32 (o1_0 x67)) 3303)))]))), (1, some (.ob 60 (chain [.ar .u16 256 (fun _ => 0)])))] 2 (by kernel_rfl) ⟨by rw [iadd64 (by omega) (by omega)]; omega, trivial⟩ rfl hS fun ac gs ws hS => ?_
      refine then_n ?_
      exact next_r hg0 hS (s := (x67, o1_0)) (x67 + 1, upd o1_0 x67 (mod_m (imul .u32 (IntKind.wrap .u32 (o1_0 x67)) 3303))) [(0, 0), (1, 1)] (by kernel_rfl) (by kernel_rfl) ⟨rfl, rfl, trivial⟩ (show 256 - (x67 + 1) < 256 - x67 from by omega) ⟨(by omega), (it_next (F := inverse_l4 f) (st := inverse_l4_s f) (fun _ => rfl) hq4 rfl), trivial⟩
    · skip
      have h4 := of_decide_eq_false h
      clear h
      have hScur := hS
      obtain rfl : 256 = x67 := by omega
      obtain rfl : inverse_l4 f 256 = o1_0 := Eq.symm (congrArg (fun z => z) hq4)
      have hS := hScur
      clear hScur
      refine wp_exit ?_
      refine then_exit ?_
      refine then_exit ?_
      refine block_exit ?_
      refine then_n ?_
      refine wp_seq ?_
      refine region_a (E := E0) mo hZ [] trivial (fun _ => []) [2] [1] [(2, .cp 1 0)] [(1, some (.ob 60 (chain [.ar .u16 256 (inverse_l4 f 256)])))] 2 (by kernel_rfl) trivial rfl hS fun ac gs ws hS => ?_
      refine then_n ?_
      refine wp_ret ?_
      have hM : inverse_m f = inverse_l4 f 256 := inverse_e f
      exact fin_x (.inr rfl) hS (ds := [.ar .u16 256 (inverse_l4 f 256)]) (by kernel_rfl) (by show weak _ (.ar .u16 256 (inverse_m f)) = (.ar .u16 256 (inverse_m f)); rw [hM]; first | (simp only []; rfl) | (simp only []; done) | rfl) trivial

noncomputable def mul_l1_s (f : Nat → Int) (g : Nat → Int) (k1 : Nat) : (Nat × (Nat → Int)) → (Nat × (Nat → Int)) := fun z_ => match z_ with | (x6, o2_0) => (x6 + 2, upd (upd o2_0 x6 (mod_m (iadd .u32 (imul .u32 (IntKind.wrap .u32 (o2_0 x6)) (IntKind.wrap .u32 ((add_m g (fun _ => 0)) x6))) (imul .u32 (irem (imul .u32 (IntKind.wrap .u32 (o2_0 (x6 + 1))) (IntKind.wrap .u32 ((add_m g (fun _ => 0)) (x6 + 1)))) 3329) (irem (imul .u32 (irem (imul .u32 (zetas_m (x6 / 2)) (zetas_m (x6 / 2))) 3329) 17) 3329))))) (x6 + 1) (mod_m (iadd .u32 (imul .u32 (IntKind.wrap .u32 (o2_0 x6)) (IntKind.wrap .u32 ((add_m g (fun _ => 0)) (x6 + 1)))) (imul .u32 (IntKind.wrap .u32 (o2_0 (x6 + 1))) (IntKind.wrap .u32 ((add_m g (fun _ => 0)) x6))))))
noncomputable def mul_l1 (f : Nat → Int) (g : Nat → Int) : Nat → Nat × (Nat → Int)
  | 0 => (0, add_m f (fun _ => 0))
  | k1 + 1 => mul_l1_s f g k1 (mul_l1 f g k1)
def mul_l1_c (f : Nat → Int) (g : Nat → Int) : (Nat × (Nat → Int)) → Prop := fun z_ => match z_ with | (x6, o2_0) => ((x6 : Nat) : Int) < 256
noncomputable def mul_v (f : Nat → Int) (g : Nat → Int) : (Nat → Int) := (mul_l1 f g (lst fun j => mul_l1_c f g (mul_l1 f g j))).2
noncomputable def mul_m (f : Nat → Int) (g : Nat → Int) : (Nat → Int) := shut (mul_v f g)
theorem mul_e (f : Nat → Int) (g : Nat → Int) : mul_m f g = mul_v f g := shut_eq _
noncomputable def c_mul (f : Nat → Int) (g : Nat → Int) : Con := ⟨[.ar .u16 256 f, .ar .u16 256 g], [], .ar .u16 256 (mul_m f g), []⟩
set_option maxRecDepth 100000 in
set_option maxHeartbeats 4000000 in
theorem mul_ok (f : Nat → Int) (g : Nat → Int) : ConOk Try.prog 74 (c_mul f g) := by
  refine conOk_of (nb := 0) Try.func74 rfl rfl Try.ntmps74 rfl rfl rfl fun g0 w0 ac gs ws hg0 hS => ?_
  refine wp_seq ?_
  refine region_a (E := E0) mo hZ [] trivial (fun _ => []) [2, 3, 4] [0, 1, 2] [(2, .cp 0 0), (3, .cp 1 0), (4, .cp 2 0)] [(0, some (.ob 60 (chain [.ar .u16 256 f]))), (1, some (.ob 60 (chain [.ar .u16 256 g]))), (2, some (.ob 60 (chain [.ar .u16 256 (fun _ => 0)])))] 3 (by kernel_rfl) trivial rfl hS fun ac gs ws hS => ?_
  refine then_n ?_
  refine wp_seq ?_
  refine region_a (E := E0) mo hZ [(0, .ov (.ar .u16 256 f)), (2, .call ⟨42, (c_add f (fun _ => 0)), [], []⟩), (3, .ov (.ar .u16 256 g)), (5, .call ⟨42, (c_add g (fun _ => 0)), [], []⟩)] ⟨add_ok f (fun _ => 0), add_ok g (fun _ => 0), trivial⟩ (fun _ => [(.ar .u16 256 f : D) = (.ar .u16 256 f), nd [.ar .u16 256 f, .ar .u16 256 (fun _ => 0)] [], (.ar .u16 256 g : D) = (.ar .u16 256 g), nd [.ar .u16 256 g, .ar .u16 256 (fun _ => 0)] []]) [2, 3, 4] [0, 1, 2] [(2, .cp 0 0), (3, .cp 1 0), (4, .cp 2 0)] [(0, some (.ob 60 (chain [.ar .u16 256 (add_m f (fun _ => 0))]))), (1, some (.ob 60 (chain [.ar .u16 256 (add_m g (fun _ => 0))]))), (2, some (.ob 60 (chain [.ar .u16 256 (fun _ => 0)])))] 3 (by kernel_rfl) ⟨rfl, rfl, rfl, rfl, trivial⟩ rfl hS fun ac gs ws hS => ?_
  refine then_n ?_
  refine wp_seq ?_
  refine region_a (E := E0) mo hZ [(0, .call ⟨70, (c_zetas), [], []⟩)] ⟨zetas_ok, trivial⟩ (fun C => [ndC C 0]) [2, 3, 4, 5] [0, 1, 2, 3] [(2, .cp 0 0), (3, .cp 1 0), (4, .cp 2 0), (5, .cp 3 0)] [(0, some (.ob 60 (chain [.ar .u16 256 (add_m f (fun _ => 0))]))), (1, some (.ob 60 (chain [.ar .u16 256 (add_m g (fun _ => 0))]))), (2, some (.ob 60 (chain [.ar .u16 256 (fun _ => 0)]))), (3, some (.ob 106 (chain [.ar .u32 128 zetas_m])))] 4 (by kernel_rfl) ⟨rfl, trivial⟩ rfl hS fun ac gs ws hS => ?_
  refine then_n ?_
  refine wp_seq ?_
  refine wp_seq ?_
  refine region_a (E := E0) mo hZ [] trivial (fun _ => []) [2, 3, 4, 5, 6] [0, 1, 2, 3] [(2, .cp 0 0), (3, .cp 1 0), (4, .cp 2 0), (5, .cp 3 0), (6, .v (.int .i64 0))] [(0, some (.ob 60 (chain [.ar .u16 256 (add_m f (fun _ => 0))]))), (1, some (.ob 60 (chain [.ar .u16 256 (add_m g (fun _ => 0))]))), (2, some (.ob 60 (chain [.ar .u16 256 (fun _ => 0)]))), (3, some (.ob 106 (chain [.ar .u32 128 zetas_m])))] 4 (by kernel_rfl) trivial rfl hS fun ac gs ws hS => ?_
  refine then_n ?_
  refine wp_block ?_
  refine loop_r (σ := Nat × Nat × (Nat → Int)) hg0 hS (fun z_ => match z_ with | (k1, x6, o2_0) => 256 - x6) (fun z_ => match z_ with | (k1, x6, o2_0) => [(2, .cp 0 0), (3, .cp 1 0), (4, .cp 2 0), (5, .cp 3 0), (6, .v (.int .i64 ((x6 : Nat) : Int)))]) (fun z_ => match z_ with | (k1, x6, o2_0) => [(0, .ob 60 (chain [.ar .u16 256 o2_0])), (1, .ob 60 (chain [.ar .u16 256 (add_m g (fun _ => 0))])), (2, .ob 60 (chain [.ar .u16 256 (fun _ => 0)])), (3, .ob 106 (chain [.ar .u32 128 zetas_m]))]) (fun z_ => match z_ with | (k1, x6, o2_0) => ((x6, o2_0) = mul_l1 f g k1) ∧ (∀ j, j < k1 → mul_l1_c f g (mul_l1 f g j)) ∧ (x6 ≤ 256) ∧ (x6 % 2 = 0) ∧ True) 4 (0, 0, add_m f (fun _ => 0)) [(0, 0), (1, 1), (2, 2), (3, 3)] (by kernel_rfl) (by kernel_rfl) ⟨rfl, rfl, rfl, rfl, trivial⟩ ⟨rfl, (fun j h => absurd h (Nat.not_lt_zero j)), (by omega), rfl, trivial⟩ ?_
  rintro ⟨k1, x6, o2_0⟩ ac gs ws ⟨hq1, hj1, p1, p2, _⟩ hS
  refine wp_seq ?_
  refine wp_seq ?_
  refine region_a (E := E0) mo hZ [] trivial (fun _ => []) [2, 3, 4, 5, 6, 20] [0, 1, 2, 3] [(2, .cp 0 0), (3, .cp 1 0), (4, .cp 2 0), (5, .cp 3 0), (6, .v (.int .i64 ((x6 : Nat) : Int))), (20, .v (.bool (decide (((x6 : Nat) : Int) < 256))))] [(0, some (.ob 60 (chain [.ar .u16 256 o2_0]))), (1, some (.ob 60 (chain [.ar .u16 256 (add_m g (fun _ => 0))]))), (2, some (.ob 60 (chain [.ar .u16 256 (fun _ => 0)]))), (3, some (.ob 106 (chain [.ar .u32 128 zetas_m])))] 4 (by kernel_rfl) trivial rfl hS fun ac gs ws hS => ?_
  refine then_n ?_
  refine if_x hS rfl (fun h => ?_) (fun h => ?_)
  · skip
    have h1 := of_decide_eq_true h
    clear h
    refine wp_skip ?_
    refine then_n ?_
    refine wp_seq ?_
    refine wp_block ?_
    refine wp_seq ?_
    refine region_a (E := E0) mo hZ [(1, .oi ((x6 / 2 : Nat) : Int)), (5, .oi ((x6 / 2 : Nat) : Int))] trivial (fun _ => [iquo .i64 ((x6 : Nat) : Int) 2 = ((x6 / 2 : Nat) : Int), (2 : Int) ≠ 0, (0 : Int) ≤ ((x6 / 2 : Nat) : Int) ∧ (((x6 / 2 : Nat) : Int) : Int) < 128, iquo .i64 ((x6 : Nat) : Int) 2 = ((x6 / 2 : Nat) : Int), (2 : Int) ≠ 0, (0 : Int) ≤ ((x6 / 2 : Nat) : Int) ∧ (((x6 / 2 : Nat) : Int) : Int) < 128, (3329 : Int) ≠ 0, (3329 : Int) ≠ 0]) [2, 3, 4, 5, 6, 7] [0, 1, 2, 3] [(2, .cp 0 0), (3, .cp 1 0), (4, .cp 2 0), (5, .cp 3 0), (6, .v (.int .i64 ((x6 : Nat) : Int))), (7, .v (.int .u32 (irem (imul .u32 (irem (imul .u32 (zetas_m (x6 / 2)) (zetas_m (x6 / 2))) 3329) 17) 3329)))] [(0, some (.ob 60 (chain [.ar .u16 256 o2_0]))), (1, some (.ob 60 (chain [.ar .u16 256 (add_m g (fun _ => 0))]))), (2, some (.ob 60 (chain [.ar .u16 256 (fun _ => 0)]))), (3, some (.ob 106 (chain [.ar .u32 128 zetas_m])))] 4 (by kernel_rfl) ⟨by rw [iquo64 (by omega) (by omega) (by omega)]; omega, by omega, by omega, by rw [iquo64 (by omega) (by omega) (by omega)]; omega, by omega, by omega, by omega, by omega, trivial⟩ rfl hS fun ac gs ws hS => ?_
    refine then_n ?_
    refine wp_seq ?_
    refine region_a (E := E0) mo hZ [(5, .oi ((x6 + 1 : Nat) : Int)), (14, .oi ((x6 + 1 : Nat) : Int))] trivial (fun _ => [(0 : Int) ≤ ((x6 : Nat) : Int) ∧ (((x6 : Nat) : Int) : Int) < 256, iadd .i64 ((x6 : Nat) : Int) 1 = ((x6 + 1 : Nat) : Int), (0 : Int) ≤ ((x6 + 1 : Nat) : Int) ∧ (((x6 + 1 : Nat) : Int) : Int) < 256, (0 : Int) ≤ ((x6 : Nat) : Int) ∧ (((x6 : Nat) : Int) : Int) < 256, iadd .i64 ((x6 : Nat) : Int) 1 = ((x6 + 1 : Nat) : Int), (0 : Int) ≤ ((x6 + 1 : Nat) : Int) ∧ (((x6 + 1 : Nat) : Int) : Int) < 256]) [2, 3, 4, 5, 6, 7, 8, 9, 10, 11] [0, 1, 2, 3] [(2, .cp 0 0), (3, .cp 1 0), (4, .cp 2 0), (5, .cp 3 0), (6, .v (.int .i64 ((x6 : Nat) : Int))), (7, .v (.int .u32 (irem (imul .u32 (irem (imul .u32 (zetas_m (x6 / 2)) (zetas_m (x6 / 2))) 3329) 17) 3329))), (8, .v (.int .u32 (IntKind.wrap .u32 (o2_0 x6)))), (9, .v (.int .u32 (IntKind.wrap .u32 (o2_0 (x6 + 1))))), (10, .v (.int .u32 (IntKind.wrap .u32 ((add_m g (fun _ => 0)) x6)))), (11, .v (.int .u32 (IntKind.wrap .u32 ((add_m g (fun _ => 0)) (x6 + 1)))))] [(0, some (.ob 60 (chain [.ar .u16 256 o2_0]))), (1, some (.ob 60 (chain [.ar .u16 256 (add_m g (fun _ => 0))]))), (2, some (.ob 60 (chain [.ar .u16 256 (fun _ => 0)]))), (3, some (.ob 106 (chain [.ar .u32 128 zetas_m])))] 4 (by kernel_rfl) ⟨by omega, by rw [iadd64 (by omega) (by omega)]; omega, by omega, by omega, by rw [iadd64 (by omega) (by omega)]; omega, by omega, trivial⟩ rfl hS fun ac gs ws hS => ?_
    refine then_n ?_
    refine region_a (E := E0) mo hZ [(2, .oi ((x6 + 1 : Nat) : Int)), (13, .call ⟨71, (c_mod (iadd .u32 (imul .u32 (IntKind.wrap .u32 (o2_0 x6)) (IntKind.wrap .u32 ((add_m g (fun _ => 0)) x6))) (imul .u32 (irem (imul .u32 (IntKind.wrap .u32 (o2_0 (x6 + 1))) (IntKind.wrap .u32 ((add_m g (fun _ => 0)) (x6 + 1)))) 3329) (irem (imul .u32 (irem (imul .u32 (zetas_m (x6 / 2)) (zetas_m (x6 / 2))) 3329) 17) 3329)))), [], []⟩), (21, .call ⟨71, (c_mod (iadd .u32 (imul .u32 (IntKind.wrap .u32 (o2_0 x6)) (IntKind.wrap .u32 ((add_m g (fun _ => 0)) (x6 + 1)))) (imul .u32 (IntKind.wrap .u32 (o2_0 (x6 + 1))) (IntKind.wrap .u32 ((add_m g (fun _ => 0)) x6))))), [], []⟩)] ⟨mod_ok (iadd .u32 (imul .u32 (IntKind.wrap .u32 (o2_0 x6)) (IntKind.wrap .u32 ((add_m g (fun _ => 0)) x6))) (imul .u32 (irem (imul .u32 (IntKind.wrap .u32 (o2_0 (x6 + 1))) (IntKind.wrap .u32 ((add_m g (fun _ => 0)) (x6 + 1)))) 3329) (irem (imul .u32 (irem (imul .u32 (zetas_m (x6 / 2)) (zetas_m (x6 / 2))) 3329) 17) 3329))), mod_ok (iadd .u32 (imul .u32 (IntKind.wrap .u32 (o2_0 x6)) (IntKind.wrap .u32 ((add_m g (fun _ => 0)) (x6 + 1)))) (imul .u32 (IntKind.wrap .u32 (o2_0 (x6 + 1))) (IntKind.wrap .u32 ((add_m g (fun _ => 0)) x6)))), trivial⟩ (fun C => [iadd .i64 ((x6 : Nat) : Int) 1 = ((x6 + 1 : Nat) : Int), (3329 : Int) ≠ 0, ndC C 13, ndC C 21, (0 : Int) ≤ ((x6 : Nat) : Int) ∧ (((x6 : Nat) : Int) : Int) < 256, (0 : Int) ≤ ((x6 + 1 : Nat) : Int) ∧ (((x6 + 1 : Nat) : Int) : Int) < 256]) [2, 3, 4, 5, 6] [0, 1, 2, 3] [(2, .cp 0 0), (3, .cp 1 0), (4, .cp 2 0), (5, .cp 3 0), (6, .v (.int .i64 ((x6 : Nat) : Int)))] [(0, some (.ob 60 (chain [.ar .u16 256 (upd (upd o2_0 x6 (mod_m (iadd .u32 (imul .u32 (IntKind.wrap .u32 (o2_0 x6)) (IntKind.wrap .u32 ((add_m g (fun _ => 0)) x6))) (imul .u32 (irem (imul .u32 (IntKind.wrap .u32 (o2_0 (x6 + 1))) (IntKind.wrap .u32 ((add_m g (fun _ => 0)) (x6 + 1)))) 3329) (irem (imul .u32 (irem (imul .u32 (zetas_m (x6 / 2)) (zetas_m (x6 / 2))) 3329) 17) 3329))))) (x6 + 1) (mod_m (iadd .u32 (imul .u32 (IntKind.wrap .u32 (o2_0 x6)) (IntKind.wrap .u32 ((add_m g (fun _ => 0)) (x6 + 1)))) (imul .u32 (IntKind.wrap .u32 (o2_0 (x6 + 1))) (IntKind.wrap .u32 ((add_m g (fun _ => 0)) x6))))))]))), (1, some (.ob 60 (chain [.ar .u16 256 (add_m g (fun _ => 0))]))), (2, some (.ob 60 (chain [.ar .u16 256 (fun _ => 0)]))), (3, some (.ob 106 (chain [.ar .u32 128 zetas_m])))] 4 (by kernel_rfl) ⟨by rw [iadd64 (by omega) (by omega)]; omega, by omega, rfl, rfl, by omega, by omega, trivial⟩ rfl hS fun ac gs ws hS => ?_
    refine block_n ?_
    refine then_n ?_
    refine region_a (E := E0) mo hZ [(1, .oi ((x6 + 2 : Nat) : Int))] trivial (fun _ => [iadd .i64 ((x6 : Nat) : Int) 2 = ((x6 + 2 : Nat) : Int)]) [2, 3, 4, 5, 6] [0, 1, 2, 3] [(2, .cp 0 0), (3, .cp 1 0), (4, .cp 2 0), (5, .cp 3 0), (6, .v (.int .i64 ((x6 + 2 : Nat) : Int)))] [(0, some (.ob 60 (chain [.ar .u16 256 (upd (upd o2_0 x6 (mod_m (iadd .u32 (imul .u32 (IntKind.wrap .u32 (o2_0 x6)) (IntKind.wrap .u32 ((add_m g (fun _ => 0)) x6))) (imul .u32 (irem (imul .u32 (IntKind.wrap .u32 (o2_0 (x6 + 1))) (IntKind.wrap .u32 ((add_m g (fun _ => 0)) (x6 + 1)))) 3329) (irem (imul .u32 (irem (imul .u32 (zetas_m (x6 / 2)) (zetas_m (x6 / 2))) 3329) 17) 3329))))) (x6 + 1) (mod_m (iadd .u32 (imul .u32 (IntKind.wrap .u32 (o2_0 x6)) (IntKind.wrap .u32 ((add_m g (fun _ => 0)) (x6 + 1)))) (imul .u32 (IntKind.wrap .u32 (o2_0 (x6 + 1))) (IntKind.wrap .u32 ((add_m g (fun _ => 0)) x6))))))]))), (1, some (.ob 60 (chain [.ar .u16 256 (add_m g (fun _ => 0))]))), (2, some (.ob 60 (chain [.ar .u16 256 (fun _ => 0)]))), (3, some (.ob 106 (chain [.ar .u32 128 zetas_m])))] 4 (by kernel_rfl) ⟨by rw [iadd64 (by omega) (by omega)]; omega, trivial⟩ rfl hS fun ac gs ws hS => ?_
    refine then_n ?_
    exact next_r hg0 hS (s := (k1, x6, o2_0)) (k1 + 1, x6 + 2, upd (upd o2_0 x6 (mod_m (iadd .u32 (imul .u32 (IntKind.wrap .u32 (o2_0 x6)) (IntKind.wrap .u32 ((add_m g (fun _ => 0)) x6))) (imul .u32 (irem (imul .u32 (IntKind.wrap .u32 (o2_0 (x6 + 1))) (IntKind.wrap .u32 ((add_m g (fun _ => 0)) (x6 + 1)))) 3329) (irem (imul .u32 (irem (imul .u32 (zetas_m (x6 / 2)) (zetas_m (x6 / 2))) 3329) 17) 3329))))) (x6 + 1) (mod_m (iadd .u32 (imul .u32 (IntKind.wrap .u32 (o2_0 x6)) (IntKind.wrap .u32 ((add_m g (fun _ => 0)) (x6 + 1)))) (imul .u32 (IntKind.wrap .u32 (o2_0 (x6 + 1))) (IntKind.wrap .u32 ((add_m g (fun _ => 0)) x6)))))) [(0, 0), (1, 1), (2, 2), (3, 3)] (by kernel_rfl) (by kernel_rfl) ⟨rfl, rfl, rfl, rfl, trivial⟩ (show 256 - (x6 + 2) < 256 - x6 from by omega) ⟨(it_next (F := mul_l1 f g) (st := mul_l1_s f g) (fun _ => rfl) hq1 rfl), (lst_next hj1 (by rw [← hq1]; exact h1)), (by omega), (by omega), trivial⟩
  · skip
    have h1 := of_decide_eq_false h
    clear h
    have hScur := hS
    obtain rfl := lst_eq (P := fun j => mul_l1_c f g (mul_l1 f g j)) (by rw [← hq1]; exact h1) hj1
    obtain rfl : (mul_l1 f g (lst fun j => mul_l1_c f g (mul_l1 f g j))).1 = x6 := Eq.symm (congrArg (fun z => z.1) hq1)
    obtain rfl : (mul_l1 f g (lst fun j => mul_l1_c f g (mul_l1 f g j))).2 = o2_0 := Eq.symm (congrArg (fun z => z.2) hq1)
    have hS := hScur
    clear hScur
    refine wp_exit ?_
    refine then_exit ?_
    refine then_exit ?_
    refine block_exit ?_
    refine then_n ?_
    refine wp_seq ?_
    refine region_a (E := E0) mo hZ [] trivial (fun _ => []) [4] [2] [(4, .cp 2 0)] [(2, some (.ob 60 (chain [.ar .u16 256 ((mul_l1 f g (lst fun j => mul_l1_c f g (mul_l1 f g j))).2)])))] 4 (by kernel_rfl) trivial rfl hS fun ac gs ws hS => ?_
    refine then_n ?_
    refine wp_ret ?_
    have hM : mul_m f g = (mul_l1 f g (lst fun j => mul_l1_c f g (mul_l1 f g j))).2 := mul_e f g
    exact fin_x (.inr rfl) hS (ds := [.ar .u16 256 ((mul_l1 f g (lst fun j => mul_l1_c f g (mul_l1 f g j))).2)]) (by kernel_rfl) (by show weak _ (.ar .u16 256 (mul_m f g)) = (.ar .u16 256 (mul_m f g)); rw [hM]; first | (simp only []; rfl) | (simp only []; done) | rfl) trivial

noncomputable def compress10_l1_s (f : Nat → Int) (x16 : Nat) : (Nat → Int) → (Nat → Int) := fun o2_0 => upd o2_0 x16 (IntKind.wrap .u16 (iand .u32 (iquo .u32 (iadd .u32 (ishl .u32 (IntKind.wrap .u32 (irem (f x16) 3329)) 11) 3329) 6658) 1023))
noncomputable def compress10_l1 (f : Nat → Int) : Nat → (Nat → Int)
  | 0 => f
  | x16 + 1 => compress10_l1_s f x16 (compress10_l1 f x16)
noncomputable def compress10_v (f : Nat → Int) : (Nat → Int) := compress10_l1 f 256
noncomputable def compress10_m (f : Nat → Int) : (Nat → Int) := shut (compress10_v f)
theorem compress10_e (f : Nat → Int) : compress10_m f = compress10_v f := shut_eq _
noncomputable def c_compress10 (f : Nat → Int) : Con := ⟨[.ar .u16 256 f, .v (.int .i64 10)], [], .tu (chain [.ar .u16 256 (compress10_m f), .v (.int .i64 0)]), []⟩
set_option maxRecDepth 100000 in
set_option maxHeartbeats 4000000 in
theorem compress10_ok (f : Nat → Int) : ConOk Try.prog 78 (c_compress10 f) := by
  refine conOk_of (nb := 0) Try.func78 rfl rfl Try.ntmps78 rfl rfl rfl fun g0 w0 ac gs ws hg0 hS => ?_
  refine wp_seq ?_
  refine region_a (E := E0) mo hZ [] trivial (fun _ => []) [1, 2, 4, 5] [0, 1] [(1, .v (.int .i64 10)), (2, .cp 0 0), (4, .cp 1 0), (5, .v (.int .i64 0))] [(0, some (.ob 60 (chain [.ar .u16 256 f]))), (1, some (.ob 60 (chain [.ar .u16 256 (fun _ => 0)])))] 2 (by kernel_rfl) trivial rfl hS fun ac gs ws hS => ?_
  refine then_n ?_
  refine wp_seq ?_
  refine wp_seq ?_
  refine region_a (E := E0) mo hZ [] trivial (fun _ => []) [1, 2, 4, 5, 13] [0, 1] [(1, .v (.int .i64 10)), (2, .cp 0 0), (4, .cp 1 0), (5, .v (.int .i64 0)), (13, .v (.bool false))] [(0, some (.ob 60 (chain [.ar .u16 256 f]))), (1, some (.ob 60 (chain [.ar .u16 256 (fun _ => 0)])))] 2 (by kernel_rfl) trivial rfl hS fun ac gs ws hS => ?_
  refine then_n ?_
  refine wp_cond_false (hS.fx.frm.eval rfl) ?_
  refine wp_skip ?_
  refine then_n ?_
  refine wp_seq ?_
  refine wp_seq ?_
  refine region_a (E := E0) mo hZ [] trivial (fun _ => []) [1, 2, 4, 5, 15, 16] [0, 1] [(1, .v (.int .i64 10)), (2, .cp 0 0), (4, .cp 1 0), (5, .v (.int .i64 0)), (15, .ar .u16 256 f), (16, .v (.int .i64 0))] [(0, some (.ob 60 (chain [.ar .u16 256 f]))), (1, some (.ob 60 (chain [.ar .u16 256 (fun _ => 0)])))] 2 (by kernel_rfl) trivial rfl hS fun ac gs ws hS => ?_
  refine then_n ?_
  refine wp_block ?_
  refine loop_r (σ := Nat × (Nat → Int)) hg0 hS (fun z_ => match z_ with | (x16, o2_0) => 256 - x16) (fun z_ => match z_ with | (x16, o2_0) => [(1, .v (.int .i64 10)), (2, .cp 0 0), (4, .cp 1 0), (5, .v (.int .i64 0)), (15, .ar .u16 256 f), (16, .v (.int .i64 ((x16 : Nat) : Int)))]) (fun z_ => match z_ with | (x16, o2_0) => [(0, .ob 60 (chain [.ar .u16 256 o2_0])), (1, .ob 60 (chain [.ar .u16 256 (fun _ => 0)]))]) (fun z_ => match z_ with | (x16, o2_0) => (x16 ≤ 256) ∧ (o2_0 = compress10_l1 f x16) ∧ True) 2 (0, f) [(0, 0), (1, 1)] (by kernel_rfl) (by kernel_rfl) ⟨rfl, rfl, trivial⟩ ⟨(by omega), rfl, trivial⟩ ?_
  rintro ⟨x16, o2_0⟩ ac gs ws ⟨hx16, hq1, _⟩ hS
  refine wp_seq ?_
  refine region_a (E := E0) mo hZ [] trivial (fun _ => []) [1, 2, 4, 5, 15, 16, 17] [0, 1] [(1, .v (.int .i64 10)), (2, .cp 0 0), (4, .cp 1 0), (5, .v (.int .i64 0)), (15, .ar .u16 256 f), (16, .v (.int .i64 ((x16 : Nat) : Int))), (17, .v (.bool (decide (((x16 : Nat) : Int) < 256))))] [(0, some (.ob 60 (chain [.ar .u16 256 o2_0]))), (1, some (.ob 60 (chain [.ar .u16 256 (fun _ => 0)])))] 2 (by kernel_rfl) trivial rfl hS fun ac gs ws hS => ?_
  refine then_n ?_
  refine wp_seq ?_
  refine if_x hS rfl (fun h => ?_) (fun h => ?_)
  · skip
    have h1 := of_decide_eq_true h
    clear h
    refine wp_skip ?_
    refine then_n ?_
    refine wp_seq ?_
    refine wp_block ?_
    refine wp_seq ?_
    refine region_a (E := E0) mo hZ [] trivial (fun _ => [(0 : Int) ≤ ((x16 : Nat) : Int) ∧ (((x16 : Nat) : Int) : Int) < 256]) [1, 2, 4, 5, 6, 7, 15, 16] [0, 1] [(1, .v (.int .i64 10)), (2, .cp 0 0), (4, .cp 1 0), (5, .v (.int .i64 0)), (6, .v (.int .i64 ((x16 : Nat) : Int))), (7, .v (.int .u16 (f x16))), (15, .ar .u16 256 f), (16, .v (.int .i64 ((x16 : Nat) : Int)))] [(0, some (.ob 60 (chain [.ar .u16 256 o2_0]))), (1, some (.ob 60 (chain [.ar .u16 256 (fun _ => 0)])))] 2 (by kernel_rfl) ⟨by omega, trivial⟩ rfl hS fun ac gs ws hS => ?_
    refine then_n ?_
    refine region_a (E := E0) mo hZ [] trivial (fun _ => [(3329 : Int) ≠ 0, (0 : Int) ≤ 11, (6658 : Int) ≠ 0, (0 : Int) ≤ 10, (0 : Int) ≤ ((x16 : Nat) : Int) ∧ (((x16 : Nat) : Int) : Int) < 256]) [1, 2, 4, 5, 15, 16] [0, 1] [(1, .v (.int .i64 10)), (2, .cp 0 0), (4, .cp 1 0), (5, .v (.int .i64 0)), (15, .ar .u16 256 f), (16, .v (.int .i64 ((x16 : Nat) : Int)))] [(0, some (.ob 60 (chain [.ar .u16 256 (upd o2_0 x16 (IntKind.wrap .u16 (iand .u32 (iquo .u32 (iadd .u32 (ishl .u32 (IntKind.wrap .u32 (irem (f x16) 3329)) 11) 3329) 6658) 1023)))]))), (1, some (.ob 60 (chain [.ar .u16 256 (fun _ => 0)])))] 2 (by kernel_rfl) ⟨by omega, by omega, by omega, by omega, by omega, trivial⟩ rfl hS fun ac gs ws hS => ?_
    refine block_n ?_
    refine then_n ?_
    refine region_a (E := E0) mo hZ [(0, .oi ((x16 + 1 : Nat) : Int))] trivial (fun _ => [iadd .i64 ((x16 : Nat) : Int) 1 = ((x16 + 1 : Nat) : Int)]) [1, 2, 4, 5, 15, 16] [0, 1] [(1, .v (.int .i64 10)), (2, .cp 0 0), (4, .cp 1 0), (5, .v (.int .i64 0)), (15, .ar .u16 256 f), (16, .v (.int .i64 ((x16 + 1 : Nat) : Int)))] [(0, some (.ob 60 (chain [.ar .u16 256 (upd o2_0 x16 (IntKind.wrap .u16 (iand .u32 (iquo .u32 (iadd .u32 (ishl .u32 (IntKind.wrap .u32 (irem (f x16) 3329)) 11) 3329) 6658) 1023)))]))), (1, some (.ob 60 (chain [.ar .u16 256 (fun _ => 0)])))] 2 (by kernel_rfl) ⟨by rw [iadd64 (by omega) (by omega)]; omega, trivial⟩ rfl hS fun ac gs ws hS => ?_
    refine then_n ?_
    exact next_r hg0 hS (s := (x16, o2_0)) (x16 + 1, upd o2_0 x16 (IntKind.wrap .u16 (iand .u32 (iquo .u32 (iadd .u32 (ishl .u32 (IntKind.wrap .u32 (irem (f x16) 3329)) 11) 3329) 6658) 1023))) [(0, 0), (1, 1)] (by kernel_rfl) (by kernel_rfl) ⟨rfl, rfl, trivial⟩ (show 256 - (x16 + 1) < 256 - x16 from by omega) ⟨(by omega), (it_next (F := compress10_l1 f) (st := compress10_l1_s f) (fun _ => rfl) hq1 rfl), trivial⟩
  · skip
    have h1 := of_decide_eq_false h
    clear h
    have hScur := hS
    obtain rfl : 256 = x16 := by omega
    obtain rfl : compress10_l1 f 256 = o2_0 := Eq.symm (congrArg (fun z => z) hq1)
    have hS := hScur
    clear hScur
    refine wp_exit ?_
    refine then_exit ?_
    refine then_exit ?_
    refine block_exit ?_
    refine then_n ?_
    refine wp_seq ?_
    refine region_a (E := E0) mo hZ [] trivial (fun _ => []) [4, 5] [1] [(4, .cp 1 0), (5, .v (.int .i64 0))] [(1, some (.ob 60 (chain [.ar .u16 256 (compress10_l1 f 256)])))] 2 (by kernel_rfl) trivial rfl hS fun ac gs ws hS => ?_
    refine then_n ?_
    refine wp_ret ?_
    have hM : compress10_m f = compress10_l1 f 256 := compress10_e f
    exact fin_x (.inr rfl) hS (ds := [.ar .u16 256 (compress10_l1 f 256), .v (.int .i64 0)]) (by kernel_rfl) (by show weak _ (.tu (chain [.ar .u16 256 (compress10_m f), .v (.int .i64 0)])) = (.tu (chain [.ar .u16 256 (compress10_m f), .v (.int .i64 0)])); rw [hM]; first | (simp only []; rfl) | (simp only []; done) | rfl) trivial

noncomputable def expand10_l1_s (f : Nat → Int) (x16 : Nat) : (Nat → Int) → (Nat → Int) := fun o2_0 => upd o2_0 x16 (IntKind.wrap .u16 (ishr .u32 (iadd .u32 (imul .u32 (iand .u32 (IntKind.wrap .u32 (f x16)) 1023) 3329) 512) 10))
noncomputable def expand10_l1 (f : Nat → Int) : Nat → (Nat → Int)
  | 0 => f
  | x16 + 1 => expand10_l1_s f x16 (expand10_l1 f x16)
noncomputable def expand10_v (f : Nat → Int) : (Nat → Int) := expand10_l1 f 256
noncomputable def expand10_m (f : Nat → Int) : (Nat → Int) := shut (expand10_v f)
theorem expand10_e (f : Nat → Int) : expand10_m f = expand10_v f := shut_eq _
noncomputable def c_expand10 (f : Nat → Int) : Con := ⟨[.ar .u16 256 f, .v (.int .i64 10)], [], .tu (chain [.ar .u16 256 (expand10_m f), .v (.int .i64 0)]), []⟩
set_option maxRecDepth 100000 in
set_option maxHeartbeats 4000000 in
theorem expand10_ok (f : Nat → Int) : ConOk Try.prog 79 (c_expand10 f) := by
  refine conOk_of (nb := 0) Try.func79 rfl rfl Try.ntmps79 rfl rfl rfl fun g0 w0 ac gs ws hg0 hS => ?_
  refine wp_seq ?_
  refine region_a (E := E0) mo hZ [] trivial (fun _ => []) [1, 2, 4, 5] [0, 1] [(1, .v (.int .i64 10)), (2, .cp 0 0), (4, .cp 1 0), (5, .v (.int .i64 0))] [(0, some (.ob 60 (chain [.ar .u16 256 f]))), (1, some (.ob 60 (chain [.ar .u16 256 (fun _ => 0)])))] 2 (by kernel_rfl) trivial rfl hS fun ac gs ws hS => ?_
  refine then_n ?_
  refine wp_seq ?_
  refine wp_seq ?_
  refine region_a (E := E0) mo hZ [] trivial (fun _ => []) [1, 2, 4, 5, 13] [0, 1] [(1, .v (.int .i64 10)), (2, .cp 0 0), (4, .cp 1 0), (5, .v (.int .i64 0)), (13, .v (.bool false))] [(0, some (.ob 60 (chain [.ar .u16 256 f]))), (1, some (.ob 60 (chain [.ar .u16 256 (fun _ => 0)])))] 2 (by kernel_rfl) trivial rfl hS fun ac gs ws hS => ?_
  refine then_n ?_
  refine wp_cond_false (hS.fx.frm.eval rfl) ?_
  refine wp_skip ?_
  refine then_n ?_
  refine wp_seq ?_
  refine wp_seq ?_
  refine region_a (E := E0) mo hZ [] trivial (fun _ => []) [1, 2, 4, 5, 15, 16] [0, 1] [(1, .v (.int .i64 10)), (2, .cp 0 0), (4, .cp 1 0), (5, .v (.int .i64 0)), (15, .ar .u16 256 f), (16, .v (.int .i64 0))] [(0, some (.ob 60 (chain [.ar .u16 256 f]))), (1, some (.ob 60 (chain [.ar .u16 256 (fun _ => 0)])))] 2 (by kernel_rfl) trivial rfl hS fun ac gs ws hS => ?_
  refine then_n ?_
  refine wp_block ?_
  refine loop_r (σ := Nat × (Nat → Int)) hg0 hS (fun z_ => match z_ with | (x16, o2_0) => 256 - x16) (fun z_ => match z_ with | (x16, o2_0) => [(1, .v (.int .i64 10)), (2, .cp 0 0), (4, .cp 1 0), (5, .v (.int .i64 0)), (15, .ar .u16 256 f), (16, .v (.int .i64 ((x16 : Nat) : Int)))]) (fun z_ => match z_ with | (x16, o2_0) => [(0, .ob 60 (chain [.ar .u16 256 o2_0])), (1, .ob 60 (chain [.ar .u16 256 (fun _ => 0)]))]) (fun z_ => match z_ with | (x16, o2_0) => (x16 ≤ 256) ∧ (o2_0 = expand10_l1 f x16) ∧ True) 2 (0, f) [(0, 0), (1, 1)] (by kernel_rfl) (by kernel_rfl) ⟨rfl, rfl, trivial⟩ ⟨(by omega), rfl, trivial⟩ ?_
  rintro ⟨x16, o2_0⟩ ac gs ws ⟨hx16, hq1, _⟩ hS
  refine wp_seq ?_
  refine region_a (E := E0) mo hZ [] trivial (fun _ => []) [1, 2, 4, 5, 15, 16, 17] [0, 1] [(1, .v (.int .i64 10)), (2, .cp 0 0), (4, .cp 1 0), (5, .v (.int .i64 0)), (15, .ar .u16 256 f), (16, .v (.int .i64 ((x16 : Nat) : Int))), (17, .v (.bool (decide (((x16 : Nat) : Int) < 256))))] [(0, some (.ob 60 (chain [.ar .u16 256 o2_0]))), (1, some (.ob 60 (chain [.ar .u16 256 (fun _ => 0)])))] 2 (by kernel_rfl) trivial rfl hS fun ac gs ws hS => ?_
  refine then_n ?_
  refine wp_seq ?_
  refine if_x hS rfl (fun h => ?_) (fun h => ?_)
  · skip
    have h1 := of_decide_eq_true h
    clear h
    refine wp_skip ?_
    refine then_n ?_
    refine wp_seq ?_
    refine wp_block ?_
    refine wp_seq ?_
    refine region_a (E := E0) mo hZ [] trivial (fun _ => [(0 : Int) ≤ ((x16 : Nat) : Int) ∧ (((x16 : Nat) : Int) : Int) < 256]) [1, 2, 4, 5, 6, 7, 15, 16] [0, 1] [(1, .v (.int .i64 10)), (2, .cp 0 0), (4, .cp 1 0), (5, .v (.int .i64 0)), (6, .v (.int .i64 ((x16 : Nat) : Int))), (7, .v (.int .u16 (f x16))), (15, .ar .u16 256 f), (16, .v (.int .i64 ((x16 : Nat) : Int)))] [(0, some (.ob 60 (chain [.ar .u16 256 o2_0]))), (1, some (.ob 60 (chain [.ar .u16 256 (fun _ => 0)])))] 2 (by kernel_rfl) ⟨by omega, trivial⟩ rfl hS fun ac gs ws hS => ?_
    refine then_n ?_
    refine region_a (E := E0) mo hZ [] trivial (fun _ => [(0 : Int) ≤ 10, (0 : Int) ≤ 9, (0 : Int) ≤ 10, (0 : Int) ≤ ((x16 : Nat) : Int) ∧ (((x16 : Nat) : Int) : Int) < 256]) [1, 2, 4, 5, 15, 16] [0, 1] [(1, .v (.int .i64 10)), (2, .cp 0 0), (4, .cp 1 0), (5, .v (.int .i64 0)), (15, .ar .u16 256 f), (16, .v (.int .i64 ((x16 : Nat) : Int)))] [(0, some (.ob 60 (chain [.ar .u16 256 (upd o2_0 x16 (IntKind.wrap .u16 (ishr .u32 (iadd .u32 (imul .u32 (iand .u32 (IntKind.wrap .u32 (f x16)) 1023) 3329) 512) 10)))]))), (1, some (.ob 60 (chain [.ar .u16 256 (fun _ => 0)])))] 2 (by kernel_rfl) ⟨by omega, by omega, by omega, by omega, trivial⟩ rfl hS fun ac gs ws hS => ?_
    refine block_n ?_
    refine then_n ?_
    refine region_a (E := E0) mo hZ [(0, .oi ((x16 + 1 : Nat) : Int))] trivial (fun _ => [iadd .i64 ((x16 : Nat) : Int) 1 = ((x16 + 1 : Nat) : Int)]) [1, 2, 4, 5, 15, 16] [0, 1] [(1, .v (.int .i64 10)), (2, .cp 0 0), (4, .cp 1 0), (5, .v (.int .i64 0)), (15, .ar .u16 256 f), (16, .v (.int .i64 ((x16 + 1 : Nat) : Int)))] [(0, some (.ob 60 (chain [.ar .u16 256 (upd o2_0 x16 (IntKind.wrap .u16 (ishr .u32 (iadd .u32 (imul .u32 (iand .u32 (IntKind.wrap .u32 (f x16)) 1023) 3329) 512) 10)))]))), (1, some (.ob 60 (chain [.ar .u16 256 (fun _ => 0)])))] 2 (by kernel_rfl) ⟨by rw [iadd64 (by omega) (by omega)]; omega, trivial⟩ rfl hS fun ac gs ws hS => ?_
    refine then_n ?_
    exact next_r hg0 hS (s := (x16, o2_0)) (x16 + 1, upd o2_0 x16 (IntKind.wrap .u16 (ishr .u32 (iadd .u32 (imul .u32 (iand .u32 (IntKind.wrap .u32 (f x16)) 1023) 3329) 512) 10))) [(0, 0), (1, 1)] (by kernel_rfl) (by kernel_rfl) ⟨rfl, rfl, trivial⟩ (show 256 - (x16 + 1) < 256 - x16 from by omega) ⟨(by omega), (it_next (F := expand10_l1 f) (st := expand10_l1_s f) (fun _ => rfl) hq1 rfl), trivial⟩
  · skip
    have h1 := of_decide_eq_false h
    clear h
    have hScur := hS
    obtain rfl : 256 = x16 := by omega
    obtain rfl : expand10_l1 f 256 = o2_0 := Eq.symm (congrArg (fun z => z) hq1)
    have hS := hScur
    clear hScur
    refine wp_exit ?_
    refine then_exit ?_
    refine then_exit ?_
    refine block_exit ?_
    refine then_n ?_
    refine wp_seq ?_
    refine region_a (E := E0) mo hZ [] trivial (fun _ => []) [4, 5] [1] [(4, .cp 1 0), (5, .v (.int .i64 0))] [(1, some (.ob 60 (chain [.ar .u16 256 (expand10_l1 f 256)])))] 2 (by kernel_rfl) trivial rfl hS fun ac gs ws hS => ?_
    refine then_n ?_
    refine wp_ret ?_
    have hM : expand10_m f = expand10_l1 f 256 := expand10_e f
    exact fin_x (.inr rfl) hS (ds := [.ar .u16 256 (expand10_l1 f 256), .v (.int .i64 0)]) (by kernel_rfl) (by show weak _ (.tu (chain [.ar .u16 256 (expand10_m f), .v (.int .i64 0)])) = (.tu (chain [.ar .u16 256 (expand10_m f), .v (.int .i64 0)])); rw [hM]; first | (simp only []; rfl) | (simp only []; done) | rfl) trivial

noncomputable def compress4_l1_s (f : Nat → Int) (x16 : Nat) : (Nat → Int) → (Nat → Int) := fun o2_0 => upd o2_0 x16 (IntKind.wrap .u16 (iand .u32 (iquo .u32 (iadd .u32 (ishl .u32 (IntKind.wrap .u32 (irem (f x16) 3329)) 5) 3329) 6658) 15))
noncomputable def compress4_l1 (f : Nat → Int) : Nat → (Nat → Int)
  | 0 => f
  | x16 + 1 => compress4_l1_s f x16 (compress4_l1 f x16)
noncomputable def compress4_v (f : Nat → Int) : (Nat → Int) := compress4_l1 f 256
noncomputable def compress4_m (f : Nat → Int) : (Nat → Int) := shut (compress4_v f)
theorem compress4_e (f : Nat → Int) : compress4_m f = compress4_v f := shut_eq _
noncomputable def c_compress4 (f : Nat → Int) : Con := ⟨[.ar .u16 256 f, .v (.int .i64 4)], [], .tu (chain [.ar .u16 256 (compress4_m f), .v (.int .i64 0)]), []⟩
set_option maxRecDepth 100000 in
set_option maxHeartbeats 4000000 in
theorem compress4_ok (f : Nat → Int) : ConOk Try.prog 78 (c_compress4 f) := by
  refine conOk_of (nb := 0) Try.func78 rfl rfl Try.ntmps78 rfl rfl rfl fun g0 w0 ac gs ws hg0 hS => ?_
  refine wp_seq ?_
  refine region_a (E := E0) mo hZ [] trivial (fun _ => []) [1, 2, 4, 5] [0, 1] [(1, .v (.int .i64 4)), (2, .cp 0 0), (4, .cp 1 0), (5, .v (.int .i64 0))] [(0, some (.ob 60 (chain [.ar .u16 256 f]))), (1, some (.ob 60 (chain [.ar .u16 256 (fun _ => 0)])))] 2 (by kernel_rfl) trivial rfl hS fun ac gs ws hS => ?_
  refine then_n ?_
  refine wp_seq ?_
  refine wp_seq ?_
  refine region_a (E := E0) mo hZ [] trivial (fun _ => []) [1, 2, 4, 5, 13] [0, 1] [(1, .v (.int .i64 4)), (2, .cp 0 0), (4, .cp 1 0), (5, .v (.int .i64 0)), (13, .v (.bool false))] [(0, some (.ob 60 (chain [.ar .u16 256 f]))), (1, some (.ob 60 (chain [.ar .u16 256 (fun _ => 0)])))] 2 (by kernel_rfl) trivial rfl hS fun ac gs ws hS => ?_
  refine then_n ?_
  refine wp_cond_false (hS.fx.frm.eval rfl) ?_
  refine wp_skip ?_
  refine then_n ?_
  refine wp_seq ?_
  refine wp_seq ?_
  refine region_a (E := E0) mo hZ [] trivial (fun _ => []) [1, 2, 4, 5, 15, 16] [0, 1] [(1, .v (.int .i64 4)), (2, .cp 0 0), (4, .cp 1 0), (5, .v (.int .i64 0)), (15, .ar .u16 256 f), (16, .v (.int .i64 0))] [(0, some (.ob 60 (chain [.ar .u16 256 f]))), (1, some (.ob 60 (chain [.ar .u16 256 (fun _ => 0)])))] 2 (by kernel_rfl) trivial rfl hS fun ac gs ws hS => ?_
  refine then_n ?_
  refine wp_block ?_
  refine loop_r (σ := Nat × (Nat → Int)) hg0 hS (fun z_ => match z_ with | (x16, o2_0) => 256 - x16) (fun z_ => match z_ with | (x16, o2_0) => [(1, .v (.int .i64 4)), (2, .cp 0 0), (4, .cp 1 0), (5, .v (.int .i64 0)), (15, .ar .u16 256 f), (16, .v (.int .i64 ((x16 : Nat) : Int)))]) (fun z_ => match z_ with | (x16, o2_0) => [(0, .ob 60 (chain [.ar .u16 256 o2_0])), (1, .ob 60 (chain [.ar .u16 256 (fun _ => 0)]))]) (fun z_ => match z_ with | (x16, o2_0) => (x16 ≤ 256) ∧ (o2_0 = compress4_l1 f x16) ∧ True) 2 (0, f) [(0, 0), (1, 1)] (by kernel_rfl) (by kernel_rfl) ⟨rfl, rfl, trivial⟩ ⟨(by omega), rfl, trivial⟩ ?_
  rintro ⟨x16, o2_0⟩ ac gs ws ⟨hx16, hq1, _⟩ hS
  refine wp_seq ?_
  refine region_a (E := E0) mo hZ [] trivial (fun _ => []) [1, 2, 4, 5, 15, 16, 17] [0, 1] [(1, .v (.int .i64 4)), (2, .cp 0 0), (4, .cp 1 0), (5, .v (.int .i64 0)), (15, .ar .u16 256 f), (16, .v (.int .i64 ((x16 : Nat) : Int))), (17, .v (.bool (decide (((x16 : Nat) : Int) < 256))))] [(0, some (.ob 60 (chain [.ar .u16 256 o2_0]))), (1, some (.ob 60 (chain [.ar .u16 256 (fun _ => 0)])))] 2 (by kernel_rfl) trivial rfl hS fun ac gs ws hS => ?_
  refine then_n ?_
  refine wp_seq ?_
  refine if_x hS rfl (fun h => ?_) (fun h => ?_)
  · skip
    have h1 := of_decide_eq_true h
    clear h
    refine wp_skip ?_
    refine then_n ?_
    refine wp_seq ?_
    refine wp_block ?_
    refine wp_seq ?_
    refine region_a (E := E0) mo hZ [] trivial (fun _ => [(0 : Int) ≤ ((x16 : Nat) : Int) ∧ (((x16 : Nat) : Int) : Int) < 256]) [1, 2, 4, 5, 6, 7, 15, 16] [0, 1] [(1, .v (.int .i64 4)), (2, .cp 0 0), (4, .cp 1 0), (5, .v (.int .i64 0)), (6, .v (.int .i64 ((x16 : Nat) : Int))), (7, .v (.int .u16 (f x16))), (15, .ar .u16 256 f), (16, .v (.int .i64 ((x16 : Nat) : Int)))] [(0, some (.ob 60 (chain [.ar .u16 256 o2_0]))), (1, some (.ob 60 (chain [.ar .u16 256 (fun _ => 0)])))] 2 (by kernel_rfl) ⟨by omega, trivial⟩ rfl hS fun ac gs ws hS => ?_
    refine then_n ?_
    refine region_a (E := E0) mo hZ [] trivial (fun _ => [(3329 : Int) ≠ 0, (0 : Int) ≤ 5, (6658 : Int) ≠ 0, (0 : Int) ≤ 4, (0 : Int) ≤ ((x16 : Nat) : Int) ∧ (((x16 : Nat) : Int) : Int) < 256]) [1, 2, 4, 5, 15, 16] [0, 1] [(1, .v (.int .i64 4)), (2, .cp 0 0), (4, .cp 1 0), (5, .v (.int .i64 0)), (15, .ar .u16 256 f), (16, .v (.int .i64 ((x16 : Nat) : Int)))] [(0, some (.ob 60 (chain [.ar .u16 256 (upd o2_0 x16 (IntKind.wrap .u16 (iand .u32 (iquo .u32 (iadd .u32 (ishl .u32 (IntKind.wrap .u32 (irem (f x16) 3329)) 5) 3329) 6658) 15)))]))), (1, some (.ob 60 (chain [.ar .u16 256 (fun _ => 0)])))] 2 (by kernel_rfl) ⟨by omega, by omega, by omega, by omega, by omega, trivial⟩ rfl hS fun ac gs ws hS => ?_
    refine block_n ?_
    refine then_n ?_
    refine region_a (E := E0) mo hZ [(0, .oi ((x16 + 1 : Nat) : Int))] trivial (fun _ => [iadd .i64 ((x16 : Nat) : Int) 1 = ((x16 + 1 : Nat) : Int)]) [1, 2, 4, 5, 15, 16] [0, 1] [(1, .v (.int .i64 4)), (2, .cp 0 0), (4, .cp 1 0), (5, .v (.int .i64 0)), (15, .ar .u16 256 f), (16, .v (.int .i64 ((x16 + 1 : Nat) : Int)))] [(0, some (.ob 60 (chain [.ar .u16 256 (upd o2_0 x16 (IntKind.wrap .u16 (iand .u32 (iquo .u32 (iadd .u32 (ishl .u32 (IntKind.wrap .u32 (irem (f x16) 3329)) 5) 3329) 6658) 15)))]))), (1, some (.ob 60 (chain [.ar .u16 256 (fun _ => 0)])))] 2 (by kernel_rfl) ⟨by rw [iadd64 (by omega) (by omega)]; omega, trivial⟩ rfl hS fun ac gs ws hS => ?_
    refine then_n ?_
    exact next_r hg0 hS (s := (x16, o2_0)) (x16 + 1, upd o2_0 x16 (IntKind.wrap .u16 (iand .u32 (iquo .u32 (iadd .u32 (ishl .u32 (IntKind.wrap .u32 (irem (f x16) 3329)) 5) 3329) 6658) 15))) [(0, 0), (1, 1)] (by kernel_rfl) (by kernel_rfl) ⟨rfl, rfl, trivial⟩ (show 256 - (x16 + 1) < 256 - x16 from by omega) ⟨(by omega), (it_next (F := compress4_l1 f) (st := compress4_l1_s f) (fun _ => rfl) hq1 rfl), trivial⟩
  · skip
    have h1 := of_decide_eq_false h
    clear h
    have hScur := hS
    obtain rfl : 256 = x16 := by omega
    obtain rfl : compress4_l1 f 256 = o2_0 := Eq.symm (congrArg (fun z => z) hq1)
    have hS := hScur
    clear hScur
    refine wp_exit ?_
    refine then_exit ?_
    refine then_exit ?_
    refine block_exit ?_
    refine then_n ?_
    refine wp_seq ?_
    refine region_a (E := E0) mo hZ [] trivial (fun _ => []) [4, 5] [1] [(4, .cp 1 0), (5, .v (.int .i64 0))] [(1, some (.ob 60 (chain [.ar .u16 256 (compress4_l1 f 256)])))] 2 (by kernel_rfl) trivial rfl hS fun ac gs ws hS => ?_
    refine then_n ?_
    refine wp_ret ?_
    have hM : compress4_m f = compress4_l1 f 256 := compress4_e f
    exact fin_x (.inr rfl) hS (ds := [.ar .u16 256 (compress4_l1 f 256), .v (.int .i64 0)]) (by kernel_rfl) (by show weak _ (.tu (chain [.ar .u16 256 (compress4_m f), .v (.int .i64 0)])) = (.tu (chain [.ar .u16 256 (compress4_m f), .v (.int .i64 0)])); rw [hM]; first | (simp only []; rfl) | (simp only []; done) | rfl) trivial

noncomputable def expand4_l1_s (f : Nat → Int) (x16 : Nat) : (Nat → Int) → (Nat → Int) := fun o2_0 => upd o2_0 x16 (IntKind.wrap .u16 (ishr .u32 (iadd .u32 (imul .u32 (iand .u32 (IntKind.wrap .u32 (f x16)) 15) 3329) 8) 4))
noncomputable def expand4_l1 (f : Nat → Int) : Nat → (Nat → Int)
  | 0 => f
  | x16 + 1 => expand4_l1_s f x16 (expand4_l1 f x16)
noncomputable def expand4_v (f : Nat → Int) : (Nat → Int) := expand4_l1 f 256
noncomputable def expand4_m (f : Nat → Int) : (Nat → Int) := shut (expand4_v f)
theorem expand4_e (f : Nat → Int) : expand4_m f = expand4_v f := shut_eq _
noncomputable def c_expand4 (f : Nat → Int) : Con := ⟨[.ar .u16 256 f, .v (.int .i64 4)], [], .tu (chain [.ar .u16 256 (expand4_m f), .v (.int .i64 0)]), []⟩
set_option maxRecDepth 100000 in
set_option maxHeartbeats 4000000 in
theorem expand4_ok (f : Nat → Int) : ConOk Try.prog 79 (c_expand4 f) := by
  refine conOk_of (nb := 0) Try.func79 rfl rfl Try.ntmps79 rfl rfl rfl fun g0 w0 ac gs ws hg0 hS => ?_
  refine wp_seq ?_
  refine region_a (E := E0) mo hZ [] trivial (fun _ => []) [1, 2, 4, 5] [0, 1] [(1, .v (.int .i64 4)), (2, .cp 0 0), (4, .cp 1 0), (5, .v (.int .i64 0))] [(0, some (.ob 60 (chain [.ar .u16 256 f]))), (1, some (.ob 60 (chain [.ar .u16 256 (fun _ => 0)])))] 2 (by kernel_rfl) trivial rfl hS fun ac gs ws hS => ?_
  refine then_n ?_
  refine wp_seq ?_
  refine wp_seq ?_
  refine region_a (E := E0) mo hZ [] trivial (fun _ => []) [1, 2, 4, 5, 13] [0, 1] [(1, .v (.int .i64 4)), (2, .cp 0 0), (4, .cp 1 0), (5, .v (.int .i64 0)), (13, .v (.bool false))] [(0, some (.ob 60 (chain [.ar .u16 256 f]))), (1, some (.ob 60 (chain [.ar .u16 256 (fun _ => 0)])))] 2 (by kernel_rfl) trivial rfl hS fun ac gs ws hS => ?_
  refine then_n ?_
  refine wp_cond_false (hS.fx.frm.eval rfl) ?_
  refine wp_skip ?_
  refine then_n ?_
  refine wp_seq ?_
  refine wp_seq ?_
  refine region_a (E := E0) mo hZ [] trivial (fun _ => []) [1, 2, 4, 5, 15, 16] [0, 1] [(1, .v (.int .i64 4)), (2, .cp 0 0), (4, .cp 1 0), (5, .v (.int .i64 0)), (15, .ar .u16 256 f), (16, .v (.int .i64 0))] [(0, some (.ob 60 (chain [.ar .u16 256 f]))), (1, some (.ob 60 (chain [.ar .u16 256 (fun _ => 0)])))] 2 (by kernel_rfl) trivial rfl hS fun ac gs ws hS => ?_
  refine then_n ?_
  refine wp_block ?_
  refine loop_r (σ := Nat × (Nat → Int)) hg0 hS (fun z_ => match z_ with | (x16, o2_0) => 256 - x16) (fun z_ => match z_ with | (x16, o2_0) => [(1, .v (.int .i64 4)), (2, .cp 0 0), (4, .cp 1 0), (5, .v (.int .i64 0)), (15, .ar .u16 256 f), (16, .v (.int .i64 ((x16 : Nat) : Int)))]) (fun z_ => match z_ with | (x16, o2_0) => [(0, .ob 60 (chain [.ar .u16 256 o2_0])), (1, .ob 60 (chain [.ar .u16 256 (fun _ => 0)]))]) (fun z_ => match z_ with | (x16, o2_0) => (x16 ≤ 256) ∧ (o2_0 = expand4_l1 f x16) ∧ True) 2 (0, f) [(0, 0), (1, 1)] (by kernel_rfl) (by kernel_rfl) ⟨rfl, rfl, trivial⟩ ⟨(by omega), rfl, trivial⟩ ?_
  rintro ⟨x16, o2_0⟩ ac gs ws ⟨hx16, hq1, _⟩ hS
  refine wp_seq ?_
  refine region_a (E := E0) mo hZ [] trivial (fun _ => []) [1, 2, 4, 5, 15, 16, 17] [0, 1] [(1, .v (.int .i64 4)), (2, .cp 0 0), (4, .cp 1 0), (5, .v (.int .i64 0)), (15, .ar .u16 256 f), (16, .v (.int .i64 ((x16 : Nat) : Int))), (17, .v (.bool (decide (((x16 : Nat) : Int) < 256))))] [(0, some (.ob 60 (chain [.ar .u16 256 o2_0]))), (1, some (.ob 60 (chain [.ar .u16 256 (fun _ => 0)])))] 2 (by kernel_rfl) trivial rfl hS fun ac gs ws hS => ?_
  refine then_n ?_
  refine wp_seq ?_
  refine if_x hS rfl (fun h => ?_) (fun h => ?_)
  · skip
    have h1 := of_decide_eq_true h
    clear h
    refine wp_skip ?_
    refine then_n ?_
    refine wp_seq ?_
    refine wp_block ?_
    refine wp_seq ?_
    refine region_a (E := E0) mo hZ [] trivial (fun _ => [(0 : Int) ≤ ((x16 : Nat) : Int) ∧ (((x16 : Nat) : Int) : Int) < 256]) [1, 2, 4, 5, 6, 7, 15, 16] [0, 1] [(1, .v (.int .i64 4)), (2, .cp 0 0), (4, .cp 1 0), (5, .v (.int .i64 0)), (6, .v (.int .i64 ((x16 : Nat) : Int))), (7, .v (.int .u16 (f x16))), (15, .ar .u16 256 f), (16, .v (.int .i64 ((x16 : Nat) : Int)))] [(0, some (.ob 60 (chain [.ar .u16 256 o2_0]))), (1, some (.ob 60 (chain [.ar .u16 256 (fun _ => 0)])))] 2 (by kernel_rfl) ⟨by omega, trivial⟩ rfl hS fun ac gs ws hS => ?_
    refine then_n ?_
    refine region_a (E := E0) mo hZ [] trivial (fun _ => [(0 : Int) ≤ 4, (0 : Int) ≤ 3, (0 : Int) ≤ 4, (0 : Int) ≤ ((x16 : Nat) : Int) ∧ (((x16 : Nat) : Int) : Int) < 256]) [1, 2, 4, 5, 15, 16] [0, 1] [(1, .v (.int .i64 4)), (2, .cp 0 0), (4, .cp 1 0), (5, .v (.int .i64 0)), (15, .ar .u16 256 f), (16, .v (.int .i64 ((x16 : Nat) : Int)))] [(0, some (.ob 60 (chain [.ar .u16 256 (upd o2_0 x16 (IntKind.wrap .u16 (ishr .u32 (iadd .u32 (imul .u32 (iand .u32 (IntKind.wrap .u32 (f x16)) 15) 3329) 8) 4)))]))), (1, some (.ob 60 (chain [.ar .u16 256 (fun _ => 0)])))] 2 (by kernel_rfl) ⟨by omega, by omega, by omega, by omega, trivial⟩ rfl hS fun ac gs ws hS => ?_
    refine block_n ?_
    refine then_n ?_
    refine region_a (E := E0) mo hZ [(0, .oi ((x16 + 1 : Nat) : Int))] trivial (fun _ => [iadd .i64 ((x16 : Nat) : Int) 1 = ((x16 + 1 : Nat) : Int)]) [1, 2, 4, 5, 15, 16] [0, 1] [(1, .v (.int .i64 4)), (2, .cp 0 0), (4, .cp 1 0), (5, .v (.int .i64 0)), (15, .ar .u16 256 f), (16, .v (.int .i64 ((x16 + 1 : Nat) : Int)))] [(0, some (.ob 60 (chain [.ar .u16 256 (upd o2_0 x16 (IntKind.wrap .u16 (ishr .u32 (iadd .u32 (imul .u32 (iand .u32 (IntKind.wrap .u32 (f x16)) 15) 3329) 8) 4)))]))), (1, some (.ob 60 (chain [.ar .u16 256 (fun _ => 0)])))] 2 (by kernel_rfl) ⟨by rw [iadd64 (by omega) (by omega)]; omega, trivial⟩ rfl hS fun ac gs ws hS => ?_
    refine then_n ?_
    exact next_r hg0 hS (s := (x16, o2_0)) (x16 + 1, upd o2_0 x16 (IntKind.wrap .u16 (ishr .u32 (iadd .u32 (imul .u32 (iand .u32 (IntKind.wrap .u32 (f x16)) 15) 3329) 8) 4))) [(0, 0), (1, 1)] (by kernel_rfl) (by kernel_rfl) ⟨rfl, rfl, trivial⟩ (show 256 - (x16 + 1) < 256 - x16 from by omega) ⟨(by omega), (it_next (F := expand4_l1 f) (st := expand4_l1_s f) (fun _ => rfl) hq1 rfl), trivial⟩
  · skip
    have h1 := of_decide_eq_false h
    clear h
    have hScur := hS
    obtain rfl : 256 = x16 := by omega
    obtain rfl : expand4_l1 f 256 = o2_0 := Eq.symm (congrArg (fun z => z) hq1)
    have hS := hScur
    clear hScur
    refine wp_exit ?_
    refine then_exit ?_
    refine then_exit ?_
    refine block_exit ?_
    refine then_n ?_
    refine wp_seq ?_
    refine region_a (E := E0) mo hZ [] trivial (fun _ => []) [4, 5] [1] [(4, .cp 1 0), (5, .v (.int .i64 0))] [(1, some (.ob 60 (chain [.ar .u16 256 (expand4_l1 f 256)])))] 2 (by kernel_rfl) trivial rfl hS fun ac gs ws hS => ?_
    refine then_n ?_
    refine wp_ret ?_
    have hM : expand4_m f = expand4_l1 f 256 := expand4_e f
    exact fin_x (.inr rfl) hS (ds := [.ar .u16 256 (expand4_l1 f 256), .v (.int .i64 0)]) (by kernel_rfl) (by show weak _ (.tu (chain [.ar .u16 256 (expand4_m f), .v (.int .i64 0)])) = (.tu (chain [.ar .u16 256 (expand4_m f), .v (.int .i64 0)])); rw [hM]; first | (simp only []; rfl) | (simp only []; done) | rfl) trivial

noncomputable def compress1_l1_s (f : Nat → Int) (x16 : Nat) : (Nat → Int) → (Nat → Int) := fun o2_0 => upd o2_0 x16 (IntKind.wrap .u16 (iand .u32 (iquo .u32 (iadd .u32 (ishl .u32 (IntKind.wrap .u32 (irem (f x16) 3329)) 2) 3329) 6658) 1))
noncomputable def compress1_l1 (f : Nat → Int) : Nat → (Nat → Int)
  | 0 => f
  | x16 + 1 => compress1_l1_s f x16 (compress1_l1 f x16)
noncomputable def compress1_v (f : Nat → Int) : (Nat → Int) := compress1_l1 f 256
noncomputable def compress1_m (f : Nat → Int) : (Nat → Int) := shut (compress1_v f)
theorem compress1_e (f : Nat → Int) : compress1_m f = compress1_v f := shut_eq _
noncomputable def c_compress1 (f : Nat → Int) : Con := ⟨[.ar .u16 256 f, .v (.int .i64 1)], [], .tu (chain [.ar .u16 256 (compress1_m f), .v (.int .i64 0)]), []⟩
set_option maxRecDepth 100000 in
set_option maxHeartbeats 4000000 in
theorem compress1_ok (f : Nat → Int) : ConOk Try.prog 78 (c_compress1 f) := by
  refine conOk_of (nb := 0) Try.func78 rfl rfl Try.ntmps78 rfl rfl rfl fun g0 w0 ac gs ws hg0 hS => ?_
  refine wp_seq ?_
  refine region_a (E := E0) mo hZ [] trivial (fun _ => []) [1, 2, 4, 5] [0, 1] [(1, .v (.int .i64 1)), (2, .cp 0 0), (4, .cp 1 0), (5, .v (.int .i64 0))] [(0, some (.ob 60 (chain [.ar .u16 256 f]))), (1, some (.ob 60 (chain [.ar .u16 256 (fun _ => 0)])))] 2 (by kernel_rfl) trivial rfl hS fun ac gs ws hS => ?_
  refine then_n ?_
  refine wp_seq ?_
  refine wp_seq ?_
  refine region_a (E := E0) mo hZ [] trivial (fun _ => []) [1, 2, 4, 5, 13] [0, 1] [(1, .v (.int .i64 1)), (2, .cp 0 0), (4, .cp 1 0), (5, .v (.int .i64 0)), (13, .v (.bool false))] [(0, some (.ob 60 (chain [.ar .u16 256 f]))), (1, some (.ob 60 (chain [.ar .u16 256 (fun _ => 0)])))] 2 (by kernel_rfl) trivial rfl hS fun ac gs ws hS => ?_
  refine then_n ?_
  refine wp_cond_false (hS.fx.frm.eval rfl) ?_
  refine wp_skip ?_
  refine then_n ?_
  refine wp_seq ?_
  refine wp_seq ?_
  refine region_a (E := E0) mo hZ [] trivial (fun _ => []) [1, 2, 4, 5, 15, 16] [0, 1] [(1, .v (.int .i64 1)), (2, .cp 0 0), (4, .cp 1 0), (5, .v (.int .i64 0)), (15, .ar .u16 256 f), (16, .v (.int .i64 0))] [(0, some (.ob 60 (chain [.ar .u16 256 f]))), (1, some (.ob 60 (chain [.ar .u16 256 (fun _ => 0)])))] 2 (by kernel_rfl) trivial rfl hS fun ac gs ws hS => ?_
  refine then_n ?_
  refine wp_block ?_
  refine loop_r (σ := Nat × (Nat → Int)) hg0 hS (fun z_ => match z_ with | (x16, o2_0) => 256 - x16) (fun z_ => match z_ with | (x16, o2_0) => [(1, .v (.int .i64 1)), (2, .cp 0 0), (4, .cp 1 0), (5, .v (.int .i64 0)), (15, .ar .u16 256 f), (16, .v (.int .i64 ((x16 : Nat) : Int)))]) (fun z_ => match z_ with | (x16, o2_0) => [(0, .ob 60 (chain [.ar .u16 256 o2_0])), (1, .ob 60 (chain [.ar .u16 256 (fun _ => 0)]))]) (fun z_ => match z_ with | (x16, o2_0) => (x16 ≤ 256) ∧ (o2_0 = compress1_l1 f x16) ∧ True) 2 (0, f) [(0, 0), (1, 1)] (by kernel_rfl) (by kernel_rfl) ⟨rfl, rfl, trivial⟩ ⟨(by omega), rfl, trivial⟩ ?_
  rintro ⟨x16, o2_0⟩ ac gs ws ⟨hx16, hq1, _⟩ hS
  refine wp_seq ?_
  refine region_a (E := E0) mo hZ [] trivial (fun _ => []) [1, 2, 4, 5, 15, 16, 17] [0, 1] [(1, .v (.int .i64 1)), (2, .cp 0 0), (4, .cp 1 0), (5, .v (.int .i64 0)), (15, .ar .u16 256 f), (16, .v (.int .i64 ((x16 : Nat) : Int))), (17, .v (.bool (decide (((x16 : Nat) : Int) < 256))))] [(0, some (.ob 60 (chain [.ar .u16 256 o2_0]))), (1, some (.ob 60 (chain [.ar .u16 256 (fun _ => 0)])))] 2 (by kernel_rfl) trivial rfl hS fun ac gs ws hS => ?_
  refine then_n ?_
  refine wp_seq ?_
  refine if_x hS rfl (fun h => ?_) (fun h => ?_)
  · skip
    have h1 := of_decide_eq_true h
    clear h
    refine wp_skip ?_
    refine then_n ?_
    refine wp_seq ?_
    refine wp_block ?_
    refine wp_seq ?_
    refine region_a (E := E0) mo hZ [] trivial (fun _ => [(0 : Int) ≤ ((x16 : Nat) : Int) ∧ (((x16 : Nat) : Int) : Int) < 256]) [1, 2, 4, 5, 6, 7, 15, 16] [0, 1] [(1, .v (.int .i64 1)), (2, .cp 0 0), (4, .cp 1 0), (5, .v (.int .i64 0)), (6, .v (.int .i64 ((x16 : Nat) : Int))), (7, .v (.int .u16 (f x16))), (15, .ar .u16 256 f), (16, .v (.int .i64 ((x16 : Nat) : Int)))] [(0, some (.ob 60 (chain [.ar .u16 256 o2_0]))), (1, some (.ob 60 (chain [.ar .u16 256 (fun _ => 0)])))] 2 (by kernel_rfl) ⟨by omega, trivial⟩ rfl hS fun ac gs ws hS => ?_
    refine then_n ?_
    refine region_a (E := E0) mo hZ [] trivial (fun _ => [(3329 : Int) ≠ 0, (0 : Int) ≤ 2, (6658 : Int) ≠ 0, (0 : Int) ≤ 1, (0 : Int) ≤ ((x16 : Nat) : Int) ∧ (((x16 : Nat) : Int) : Int) < 256]) [1, 2, 4, 5, 15, 16] [0, 1] [(1, .v (.int .i64 1)), (2, .cp 0 0), (4, .cp 1 0), (5, .v (.int .i64 0)), (15, .ar .u16 256 f), (16, .v (.int .i64 ((x16 : Nat) : Int)))] [(0, some (.ob 60 (chain [.ar .u16 256 (upd o2_0 x16 (IntKind.wrap .u16 (iand .u32 (iquo .u32 (iadd .u32 (ishl .u32 (IntKind.wrap .u32 (irem (f x16) 3329)) 2) 3329) 6658) 1)))]))), (1, some (.ob 60 (chain [.ar .u16 256 (fun _ => 0)])))] 2 (by kernel_rfl) ⟨by omega, by omega, by omega, by omega, by omega, trivial⟩ rfl hS fun ac gs ws hS => ?_
    refine block_n ?_
    refine then_n ?_
    refine region_a (E := E0) mo hZ [(0, .oi ((x16 + 1 : Nat) : Int))] trivial (fun _ => [iadd .i64 ((x16 : Nat) : Int) 1 = ((x16 + 1 : Nat) : Int)]) [1, 2, 4, 5, 15, 16] [0, 1] [(1, .v (.int .i64 1)), (2, .cp 0 0), (4, .cp 1 0), (5, .v (.int .i64 0)), (15, .ar .u16 256 f), (16, .v (.int .i64 ((x16 + 1 : Nat) : Int)))] [(0, some (.ob 60 (chain [.ar .u16 256 (upd o2_0 x16 (IntKind.wrap .u16 (iand .u32 (iquo .u32 (iadd .u32 (ishl .u32 (IntKind.wrap .u32 (irem (f x16) 3329)) 2) 3329) 6658) 1)))]))), (1, some (.ob 60 (chain [.ar .u16 256 (fun _ => 0)])))] 2 (by kernel_rfl) ⟨by rw [iadd64 (by omega) (by omega)]; omega, trivial⟩ rfl hS fun ac gs ws hS => ?_
    refine then_n ?_
    exact next_r hg0 hS (s := (x16, o2_0)) (x16 + 1, upd o2_0 x16 (IntKind.wrap .u16 (iand .u32 (iquo .u32 (iadd .u32 (ishl .u32 (IntKind.wrap .u32 (irem (f x16) 3329)) 2) 3329) 6658) 1))) [(0, 0), (1, 1)] (by kernel_rfl) (by kernel_rfl) ⟨rfl, rfl, trivial⟩ (show 256 - (x16 + 1) < 256 - x16 from by omega) ⟨(by omega), (it_next (F := compress1_l1 f) (st := compress1_l1_s f) (fun _ => rfl) hq1 rfl), trivial⟩
  · skip
    have h1 := of_decide_eq_false h
    clear h
    have hScur := hS
    obtain rfl : 256 = x16 := by omega
    obtain rfl : compress1_l1 f 256 = o2_0 := Eq.symm (congrArg (fun z => z) hq1)
    have hS := hScur
    clear hScur
    refine wp_exit ?_
    refine then_exit ?_
    refine then_exit ?_
    refine block_exit ?_
    refine then_n ?_
    refine wp_seq ?_
    refine region_a (E := E0) mo hZ [] trivial (fun _ => []) [4, 5] [1] [(4, .cp 1 0), (5, .v (.int .i64 0))] [(1, some (.ob 60 (chain [.ar .u16 256 (compress1_l1 f 256)])))] 2 (by kernel_rfl) trivial rfl hS fun ac gs ws hS => ?_
    refine then_n ?_
    refine wp_ret ?_
    have hM : compress1_m f = compress1_l1 f 256 := compress1_e f
    exact fin_x (.inr rfl) hS (ds := [.ar .u16 256 (compress1_l1 f 256), .v (.int .i64 0)]) (by kernel_rfl) (by show weak _ (.tu (chain [.ar .u16 256 (compress1_m f), .v (.int .i64 0)])) = (.tu (chain [.ar .u16 256 (compress1_m f), .v (.int .i64 0)])); rw [hM]; first | (simp only []; rfl) | (simp only []; done) | rfl) trivial

noncomputable def expand1_l1_s (f : Nat → Int) (x16 : Nat) : (Nat → Int) → (Nat → Int) := fun o2_0 => upd o2_0 x16 (IntKind.wrap .u16 (ishr .u32 (iadd .u32 (imul .u32 (iand .u32 (IntKind.wrap .u32 (f x16)) 1) 3329) 1) 1))
noncomputable def expand1_l1 (f : Nat → Int) : Nat → (Nat → Int)
  | 0 => f
  | x16 + 1 => expand1_l1_s f x16 (expand1_l1 f x16)
noncomputable def expand1_v (f : Nat → Int) : (Nat → Int) := expand1_l1 f 256
noncomputable def expand1_m (f : Nat → Int) : (Nat → Int) := shut (expand1_v f)
theorem expand1_e (f : Nat → Int) : expand1_m f = expand1_v f := shut_eq _
noncomputable def c_expand1 (f : Nat → Int) : Con := ⟨[.ar .u16 256 f, .v (.int .i64 1)], [], .tu (chain [.ar .u16 256 (expand1_m f), .v (.int .i64 0)]), []⟩
set_option maxRecDepth 100000 in
set_option maxHeartbeats 4000000 in
theorem expand1_ok (f : Nat → Int) : ConOk Try.prog 79 (c_expand1 f) := by
  refine conOk_of (nb := 0) Try.func79 rfl rfl Try.ntmps79 rfl rfl rfl fun g0 w0 ac gs ws hg0 hS => ?_
  refine wp_seq ?_
  refine region_a (E := E0) mo hZ [] trivial (fun _ => []) [1, 2, 4, 5] [0, 1] [(1, .v (.int .i64 1)), (2, .cp 0 0), (4, .cp 1 0), (5, .v (.int .i64 0))] [(0, some (.ob 60 (chain [.ar .u16 256 f]))), (1, some (.ob 60 (chain [.ar .u16 256 (fun _ => 0)])))] 2 (by kernel_rfl) trivial rfl hS fun ac gs ws hS => ?_
  refine then_n ?_
  refine wp_seq ?_
  refine wp_seq ?_
  refine region_a (E := E0) mo hZ [] trivial (fun _ => []) [1, 2, 4, 5, 13] [0, 1] [(1, .v (.int .i64 1)), (2, .cp 0 0), (4, .cp 1 0), (5, .v (.int .i64 0)), (13, .v (.bool false))] [(0, some (.ob 60 (chain [.ar .u16 256 f]))), (1, some (.ob 60 (chain [.ar .u16 256 (fun _ => 0)])))] 2 (by kernel_rfl) trivial rfl hS fun ac gs ws hS => ?_
  refine then_n ?_
  refine wp_cond_false (hS.fx.frm.eval rfl) ?_
  refine wp_skip ?_
  refine then_n ?_
  refine wp_seq ?_
  refine wp_seq ?_
  refine region_a (E := E0) mo hZ [] trivial (fun _ => []) [1, 2, 4, 5, 15, 16] [0, 1] [(1, .v (.int .i64 1)), (2, .cp 0 0), (4, .cp 1 0), (5, .v (.int .i64 0)), (15, .ar .u16 256 f), (16, .v (.int .i64 0))] [(0, some (.ob 60 (chain [.ar .u16 256 f]))), (1, some (.ob 60 (chain [.ar .u16 256 (fun _ => 0)])))] 2 (by kernel_rfl) trivial rfl hS fun ac gs ws hS => ?_
  refine then_n ?_
  refine wp_block ?_
  refine loop_r (σ := Nat × (Nat → Int)) hg0 hS (fun z_ => match z_ with | (x16, o2_0) => 256 - x16) (fun z_ => match z_ with | (x16, o2_0) => [(1, .v (.int .i64 1)), (2, .cp 0 0), (4, .cp 1 0), (5, .v (.int .i64 0)), (15, .ar .u16 256 f), (16, .v (.int .i64 ((x16 : Nat) : Int)))]) (fun z_ => match z_ with | (x16, o2_0) => [(0, .ob 60 (chain [.ar .u16 256 o2_0])), (1, .ob 60 (chain [.ar .u16 256 (fun _ => 0)]))]) (fun z_ => match z_ with | (x16, o2_0) => (x16 ≤ 256) ∧ (o2_0 = expand1_l1 f x16) ∧ True) 2 (0, f) [(0, 0), (1, 1)] (by kernel_rfl) (by kernel_rfl) ⟨rfl, rfl, trivial⟩ ⟨(by omega), rfl, trivial⟩ ?_
  rintro ⟨x16, o2_0⟩ ac gs ws ⟨hx16, hq1, _⟩ hS
  refine wp_seq ?_
  refine region_a (E := E0) mo hZ [] trivial (fun _ => []) [1, 2, 4, 5, 15, 16, 17] [0, 1] [(1, .v (.int .i64 1)), (2, .cp 0 0), (4, .cp 1 0), (5, .v (.int .i64 0)), (15, .ar .u16 256 f), (16, .v (.int .i64 ((x16 : Nat) : Int))), (17, .v (.bool (decide (((x16 : Nat) : Int) < 256))))] [(0, some (.ob 60 (chain [.ar .u16 256 o2_0]))), (1, some (.ob 60 (chain [.ar .u16 256 (fun _ => 0)])))] 2 (by kernel_rfl) trivial rfl hS fun ac gs ws hS => ?_
  refine then_n ?_
  refine wp_seq ?_
  refine if_x hS rfl (fun h => ?_) (fun h => ?_)
  · skip
    have h1 := of_decide_eq_true h
    clear h
    refine wp_skip ?_
    refine then_n ?_
    refine wp_seq ?_
    refine wp_block ?_
    refine wp_seq ?_
    refine region_a (E := E0) mo hZ [] trivial (fun _ => [(0 : Int) ≤ ((x16 : Nat) : Int) ∧ (((x16 : Nat) : Int) : Int) < 256]) [1, 2, 4, 5, 6, 7, 15, 16] [0, 1] [(1, .v (.int .i64 1)), (2, .cp 0 0), (4, .cp 1 0), (5, .v (.int .i64 0)), (6, .v (.int .i64 ((x16 : Nat) : Int))), (7, .v (.int .u16 (f x16))), (15, .ar .u16 256 f), (16, .v (.int .i64 ((x16 : Nat) : Int)))] [(0, some (.ob 60 (chain [.ar .u16 256 o2_0]))), (1, some (.ob 60 (chain [.ar .u16 256 (fun _ => 0)])))] 2 (by kernel_rfl) ⟨by omega, trivial⟩ rfl hS fun ac gs ws hS => ?_
    refine then_n ?_
    refine region_a (E := E0) mo hZ [] trivial (fun _ => [(0 : Int) ≤ 1, (0 : Int) ≤ 0, (0 : Int) ≤ 1, (0 : Int) ≤ ((x16 : Nat) : Int) ∧ (((x16 : Nat) : Int) : Int) < 256]) [1, 2, 4, 5, 15, 16] [0, 1] [(1, .v (.int .i64 1)), (2, .cp 0 0), (4, .cp 1 0), (5, .v (.int .i64 0)), (15, .ar .u16 256 f), (16, .v (.int .i64 ((x16 : Nat) : Int)))] [(0, some (.ob 60 (chain [.ar .u16 256 (upd o2_0 x16 (IntKind.wrap .u16 (ishr .u32 (iadd .u32 (imul .u32 (iand .u32 (IntKind.wrap .u32 (f x16)) 1) 3329) 1) 1)))]))), (1, some (.ob 60 (chain [.ar .u16 256 (fun _ => 0)])))] 2 (by kernel_rfl) ⟨by omega, by omega, by omega, by omega, trivial⟩ rfl hS fun ac gs ws hS => ?_
    refine block_n ?_
    refine then_n ?_
    refine region_a (E := E0) mo hZ [(0, .oi ((x16 + 1 : Nat) : Int))] trivial (fun _ => [iadd .i64 ((x16 : Nat) : Int) 1 = ((x16 + 1 : Nat) : Int)]) [1, 2, 4, 5, 15, 16] [0, 1] [(1, .v (.int .i64 1)), (2, .cp 0 0), (4, .cp 1 0), (5, .v (.int .i64 0)), (15, .ar .u16 256 f), (16, .v (.int .i64 ((x16 + 1 : Nat) : Int)))] [(0, some (.ob 60 (chain [.ar .u16 256 (upd o2_0 x16 (IntKind.wrap .u16 (ishr .u32 (iadd .u32 (imul .u32 (iand .u32 (IntKind.wrap .u32 (f x16)) 1) 3329) 1) 1)))]))), (1, some (.ob 60 (chain [.ar .u16 256 (fun _ => 0)])))] 2 (by kernel_rfl) ⟨by rw [iadd64 (by omega) (by omega)]; omega, trivial⟩ rfl hS fun ac gs ws hS => ?_
    refine then_n ?_
    exact next_r hg0 hS (s := (x16, o2_0)) (x16 + 1, upd o2_0 x16 (IntKind.wrap .u16 (ishr .u32 (iadd .u32 (imul .u32 (iand .u32 (IntKind.wrap .u32 (f x16)) 1) 3329) 1) 1))) [(0, 0), (1, 1)] (by kernel_rfl) (by kernel_rfl) ⟨rfl, rfl, trivial⟩ (show 256 - (x16 + 1) < 256 - x16 from by omega) ⟨(by omega), (it_next (F := expand1_l1 f) (st := expand1_l1_s f) (fun _ => rfl) hq1 rfl), trivial⟩
  · skip
    have h1 := of_decide_eq_false h
    clear h
    have hScur := hS
    obtain rfl : 256 = x16 := by omega
    obtain rfl : expand1_l1 f 256 = o2_0 := Eq.symm (congrArg (fun z => z) hq1)
    have hS := hScur
    clear hScur
    refine wp_exit ?_
    refine then_exit ?_
    refine then_exit ?_
    refine block_exit ?_
    refine then_n ?_
    refine wp_seq ?_
    refine region_a (E := E0) mo hZ [] trivial (fun _ => []) [4, 5] [1] [(4, .cp 1 0), (5, .v (.int .i64 0))] [(1, some (.ob 60 (chain [.ar .u16 256 (expand1_l1 f 256)])))] 2 (by kernel_rfl) trivial rfl hS fun ac gs ws hS => ?_
    refine then_n ?_
    refine wp_ret ?_
    have hM : expand1_m f = expand1_l1 f 256 := expand1_e f
    exact fin_x (.inr rfl) hS (ds := [.ar .u16 256 (expand1_l1 f 256), .v (.int .i64 0)]) (by kernel_rfl) (by show weak _ (.tu (chain [.ar .u16 256 (expand1_m f), .v (.int .i64 0)])) = (.tu (chain [.ar .u16 256 (expand1_m f), .v (.int .i64 0)])); rw [hM]; first | (simp only []; rfl) | (simp only []; done) | rfl) trivial

noncomputable def encode12_l2_s (f : Nat → Int) (x21 : Nat) (x6 : List Int) (x30 : Nat) : (List Int) → (List Int) := fun x6_2 => x6_2.set (((x21 * 12) + x30) / 8) (ior .u8 (x6_2.getD (((x21 * 12) + x30) / 8) 0) (ishl .u8 (IntKind.wrap .u8 (iand .u16 (ishr .u16 (irem (f x21) 3329) ((x30 : Nat) : Int)) 1)) ((((x21 * 12) + x30) % 8 : Nat) : Int)))
noncomputable def encode12_l2 (f : Nat → Int) (x21 : Nat) (x6 : List Int) : Nat → (List Int)
  | 0 => x6
  | x30 + 1 => encode12_l2_s f x21 x6 x30 (encode12_l2 f x21 x6 x30)
noncomputable def encode12_l1_s (f : Nat → Int) (x21 : Nat) : (List Int) → (List Int) := fun x6 => encode12_l2 f x21 x6 12
noncomputable def encode12_l1 (f : Nat → Int) : Nat → (List Int)
  | 0 => List.replicate 384 (0 : Int)
  | x21 + 1 => encode12_l1_s f x21 (encode12_l1 f x21)
noncomputable def encode12_v (f : Nat → Int) : (List Int) := encode12_l1 f 256
noncomputable def encode12_m (f : Nat → Int) : (List Int) := shut (encode12_v f)
theorem encode12_e (f : Nat → Int) : encode12_m f = encode12_v f := shut_eq _
noncomputable def c_encode12 (f : Nat → Int) : Con := ⟨[.ar .u16 256 f, .v (.int .i64 12)], [], .tu (chain [.sk 0, .v (.int .i64 0)]), [(0, .sl 5 [.int .u8] (encode12_m f))]⟩
set_option maxRecDepth 100000 in
set_option maxHeartbeats 4000000 in
theorem encode12_ok (f : Nat → Int) : ConOk Try.prog 76 (c_encode12 f) := by
  refine conOk_of (nb := 0) Try.func76 rfl rfl Try.ntmps76 rfl rfl rfl fun g0 w0 ac gs ws hg0 hS => ?_
  refine wp_seq ?_
  refine region_a (E := E0) mo hZ [] trivial (fun _ => []) [1, 2, 4, 5] [0] [(1, .v (.int .i64 12)), (2, .cp 0 0), (4, .v (.slice none 0 0)), (5, .v (.int .i64 0))] [(0, some (.ob 60 (chain [.ar .u16 256 f])))] 1 (by kernel_rfl) trivial rfl hS fun ac gs ws hS => ?_
  refine then_n ?_
  refine wp_seq ?_
  refine wp_seq ?_
  refine region_a (E := E0) mo hZ [] trivial (fun _ => []) [1, 2, 4, 5, 16] [0] [(1, .v (.int .i64 12)), (2, .cp 0 0), (4, .v (.slice none 0 0)), (5, .v (.int .i64 0)), (16, .v (.bool false))] [(0, some (.ob 60 (chain [.ar .u16 256 f])))] 1 (by kernel_rfl) trivial rfl hS fun ac gs ws hS => ?_
  refine then_n ?_
  refine wp_cond_false (hS.fx.frm.eval rfl) ?_
  refine wp_skip ?_
  refine then_n ?_
  refine wp_seq ?_
  refine region_a (E := E0) mo hZ [] trivial (fun _ => [(384 : Int) = 384, (0 : Int) ≤ 384, 1 * 384 ≤ 281474976710656, (384 : Int) ≤ 9223372036854775807]) [1, 2, 4, 5, 6] [0, 1] [(1, .v (.int .i64 12)), (2, .cp 0 0), (4, .v (.slice none 0 0)), (5, .v (.int .i64 0)), (6, .sk 1)] [(0, some (.ob 60 (chain [.ar .u16 256 f]))), (1, some (.sl 5 [.int .u8] (List.replicate 384 (0 : Int))))] 2 (by kernel_rfl) ⟨rfl, by omega, by omega, by omega, trivial⟩ rfl hS fun ac gs ws hS => ?_
  refine then_n ?_
  refine wp_seq ?_
  refine wp_seq ?_
  refine region_a (E := E0) mo hZ [] trivial (fun _ => []) [1, 4, 5, 6, 20, 21] [1] [(1, .v (.int .i64 12)), (4, .v (.slice none 0 0)), (5, .v (.int .i64 0)), (6, .sk 1), (20, .ar .u16 256 f), (21, .v (.int .i64 0))] [(1, some (.sl 5 [.int .u8] (List.replicate 384 (0 : Int))))] 2 (by kernel_rfl) trivial rfl hS fun ac gs ws hS => ?_
  refine then_n ?_
  refine wp_block ?_
  refine loop_r (σ := Nat × (List Int)) hg0 hS (fun z_ => match z_ with | (x21, x6) => 256 - x21) (fun z_ => match z_ with | (x21, x6) => [(1, .v (.int .i64 12)), (4, .v (.slice none 0 0)), (5, .v (.int .i64 0)), (6, .sk 1), (20, .ar .u16 256 f), (21, .v (.int .i64 ((x21 : Nat) : Int)))]) (fun z_ => match z_ with | (x21, x6) => [(1, .sl 5 [.int .u8] x6)]) (fun z_ => match z_ with | (x21, x6) => (x21 ≤ 256) ∧ (x6 = encode12_l1 f x21) ∧ (x6.length = 384) ∧ True) 2 (0, List.replicate 384 (0 : Int)) [(1, 1)] (by kernel_rfl) (by kernel_rfl) ⟨rfl, trivial⟩ ⟨(by omega), rfl, (by simp), trivial⟩ ?_
  rintro ⟨x21, x6⟩ ac gs ws ⟨hx21, hq1, p1, _⟩ hS
  refine wp_seq ?_
  refine region_a (E := E0) mo hZ [] trivial (fun _ => []) [1, 4, 5, 6, 20, 21, 22] [1] [(1, .v (.int .i64 12)), (4, .v (.slice none 0 0)), (5, .v (.int .i64 0)), (6, .sk 1), (20, .ar .u16 256 f), (21, .v (.int .i64 ((x21 : Nat) : Int))), (22, .v (.bool (decide (((x21 : Nat) : Int) < 256))))] [(1, some (.sl 5 [.int .u8] x6))] 2 (by kernel_rfl) trivial rfl hS fun ac gs ws hS => ?_
  refine then_n ?_
  refine wp_seq ?_
  refine if_x hS rfl (fun h => ?_) (fun h => ?_)
  · skip
    have h1 := of_decide_eq_true h
    clear h
    refine wp_skip ?_
    refine then_n ?_
    refine wp_seq ?_
    refine wp_block ?_
    refine wp_seq ?_
    refine region_a (E := E0) mo hZ [] trivial (fun _ => [(0 : Int) ≤ ((x21 : Nat) : Int) ∧ (((x21 : Nat) : Int) : Int) < 256]) [1, 4, 5, 6, 7, 8, 20, 21] [1] [(1, .v (.int .i64 12)), (4, .v (.slice none 0 0)), (5, .v (.int .i64 0)), (6, .sk 1), (7, .v (.int .i64 ((x21 : Nat) : Int))), (8, .v (.int .u16 (f x21))), (20, .ar .u16 256 f), (21, .v (.int .i64 ((x21 : Nat) : Int)))] [(1, some (.sl 5 [.int .u8] x6))] 2 (by kernel_rfl) ⟨by omega, trivial⟩ rfl hS fun ac gs ws hS => ?_
    refine then_n ?_
    refine wp_seq ?_
    refine wp_seq ?_
    refine region_a (E := E0) mo hZ [] trivial (fun _ => []) [1, 4, 5, 6, 7, 8, 20, 21, 26] [1] [(1, .v (.int .i64 12)), (4, .v (.slice none 0 0)), (5, .v (.int .i64 0)), (6, .sk 1), (7, .v (.int .i64 ((x21 : Nat) : Int))), (8, .v (.int .u16 (f x21))), (20, .ar .u16 256 f), (21, .v (.int .i64 ((x21 : Nat) : Int))), (26, .v (.bool true))] [(1, some (.sl 5 [.int .u8] x6))] 2 (by kernel_rfl) trivial rfl hS fun ac gs ws hS => ?_
    refine then_n ?_
    refine wp_cond_true (hS.fx.frm.eval rfl) ?_
    refine region_a (E := E0) mo hZ [] trivial (fun _ => [(3329 : Int) ≠ 0]) [1, 4, 5, 6, 7, 8, 20, 21] [1] [(1, .v (.int .i64 12)), (4, .v (.slice none 0 0)), (5, .v (.int .i64 0)), (6, .sk 1), (7, .v (.int .i64 ((x21 : Nat) : Int))), (8, .v (.int .u16 (irem (f x21) 3329))), (20, .ar .u16 256 f), (21, .v (.int .i64 ((x21 : Nat) : Int)))] [(1, some (.sl 5 [.int .u8] x6))] 2 (by kernel_rfl) ⟨by omega, trivial⟩ rfl hS fun ac gs ws hS => ?_
    refine then_n ?_
    refine wp_seq ?_
    refine region_a (E := E0) mo hZ [] trivial (fun _ => []) [1, 4, 5, 6, 7, 8, 20, 21, 29, 30] [1] [(1, .v (.int .i64 12)), (4, .v (.slice none 0 0)), (5, .v (.int .i64 0)), (6, .sk 1), (7, .v (.int .i64 ((x21 : Nat) : Int))), (8, .v (.int .u16 (irem (f x21) 3329))), (20, .ar .u16 256 f), (21, .v (.int .i64 ((x21 : Nat) : Int))), (29, .v (.int .i64 12)), (30, .v (.int .i64 0))] [(1, some (.sl 5 [.int .u8] x6))] 2 (by kernel_rfl) trivial rfl hS fun ac gs ws hS => ?_
    refine then_n ?_
    refine wp_block ?_
    refine loop_r (σ := Nat × (List Int)) hg0 hS (fun z_ => match z_ with | (x30, x6_2) => 12 - x30) (fun z_ => match z_ with | (x30, x6_2) => [(1, .v (.int .i64 12)), (4, .v (.slice none 0 0)), (5, .v (.int .i64 0)), (6, .sk 1), (7, .v (.int .i64 ((x21 : Nat) : Int))), (8, .v (.int .u16 (irem (f x21) 3329))), (20, .ar .u16 256 f), (21, .v (.int .i64 ((x21 : Nat) : Int))), (29, .v (.int .i64 12)), (30, .v (.int .i64 ((x30 : Nat) : Int)))]) (fun z_ => match z_ with | (x30, x6_2) => [(1, .sl 5 [.int .u8] x6_2)]) (fun z_ => match z_ with | (x30, x6_2) => (x30 ≤ 12) ∧ (x6_2 = encode12_l2 f x21 x6 x30) ∧ (x6_2.length = 384) ∧ True) 2 (0, x6) [(1, 1)] (by kernel_rfl) (by kernel_rfl) ⟨rfl, trivial⟩ ⟨(by omega), rfl, p1, trivial⟩ ?_
    rintro ⟨x30, x6_2⟩ ac gs ws ⟨hx30, hq2, p2, _⟩ hS
    refine wp_seq ?_
    refine region_a (E := E0) mo hZ [] trivial (fun _ => []) [1, 4, 5, 6, 7, 8, 20, 21, 29, 30, 31] [1] [(1, .v (.int .i64 12)), (4, .v (.slice none 0 0)), (5, .v (.int .i64 0)), (6, .sk 1), (7, .v (.int .i64 ((x21 : Nat) : Int))), (8, .v (.int .u16 (irem (f x21) 3329))), (20, .ar .u16 256 f), (21, .v (.int .i64 ((x21 : Nat) : Int))), (29, .v (.int .i64 12)), (30, .v (.int .i64 ((x30 : Nat) : Int))), (31, .v (.bool (decide (((x30 : Nat) : Int) < 12))))] [(1, some (.sl 5 [.int .u8] x6_2))] 2 (by kernel_rfl) trivial rfl hS fun ac gs ws hS => ?_
    refine then_n ?_
    refine wp_seq ?_
    refine if_x hS rfl (fun h => ?_) (fun h => ?_)
    · skip
      have h2 := of_decide_eq_true h
      clear h
      refine wp_skip ?_
      refine then_n ?_
      refine wp_seq ?_
      refine wp_block ?_
      refine wp_seq ?_
      refine region_a (E := E0) mo hZ [] trivial (fun _ => []) [1, 4, 5, 6, 7, 8, 9, 20, 21, 29, 30] [1] [(1, .v (.int .i64 12)), (4, .v (.slice none 0 0)), (5, .v (.int .i64 0)), (6, .sk 1), (7, .v (.int .i64 ((x21 : Nat) : Int))), (8, .v (.int .u16 (irem (f x21) 3329))), (9, .v (.int .i64 ((x30 : Nat) : Int))), (20, .ar .u16 256 f), (21, .v (.int .i64 ((x21 : Nat) : Int))), (29, .v (.int .i64 12)), (30, .v (.int .i64 ((x30 : Nat) : Int)))] [(1, some (.sl 5 [.int .u8] x6_2))] 2 (by kernel_rfl) trivial rfl hS fun ac gs ws hS => ?_
      refine then_n ?_
      refine wp_seq ?_
      refine region_a (E := E0) mo hZ [(2, .oi ((x21 * 12 : Nat) : Int)), (4, .oi (((x21 * 12) + x30 : Nat) : Int))] trivial (fun _ => [imul .i64 ((x21 : Nat) : Int) 12 = ((x21 * 12 : Nat) : Int), iadd .i64 ((x21 * 12 : Nat) : Int) ((x30 : Nat) : Int) = (((x21 * 12) + x30 : Nat) : Int)]) [1, 4, 5, 6, 7, 8, 9, 10, 20, 21, 29, 30] [1] [(1, .v (.int .i64 12)), (4, .v (.slice none 0 0)), (5, .v (.int .i64 0)), (6, .sk 1), (7, .v (.int .i64 ((x21 : Nat) : Int))), (8, .v (.int .u16 (irem (f x21) 3329))), (9, .v (.int .i64 ((x30 : Nat) : Int))), (10, .v (.int .i64 (((x21 * 12) + x30 : Nat) : Int))), (20, .ar .u16 256 f), (21, .v (.int .i64 ((x21 : Nat) : Int))), (29, .v (.int .i64 12)), (30, .v (.int .i64 ((x30 : Nat) : Int)))] [(1, some (.sl 5 [.int .u8] x6_2))] 2 (by kernel_rfl) ⟨by rw [imul64 (by omega) (by omega)]; omega, by rw [iadd64 (by omega) (by omega)]; omega, trivial⟩ rfl hS fun ac gs ws hS => ?_
      refine then_n ?_
      refine region_a (E := E0) mo hZ [(2, .oi ((((x21 * 12) + x30) / 8 : Nat) : Int)), (11, .oi ((((x21 * 12) + x30) % 8 : Nat) : Int))] trivial (fun _ => [iquo .i64 (((x21 * 12) + x30 : Nat) : Int) 8 = ((((x21 * 12) + x30) / 8 : Nat) : Int), (8 : Int) ≠ 0, (0 : Int) ≤ ((((x21 * 12) + x30) / 8 : Nat) : Int) ∧ ((((x21 * 12) + x30) / 8 : Nat) : Int) < ((x6_2.length : Nat) : Int), (0 : Int) ≤ ((x30 : Nat) : Int), irem (((x21 * 12) + x30 : Nat) : Int) 8 = ((((x21 * 12) + x30) % 8 : Nat) : Int), (8 : Int) ≠ 0, (0 : Int) ≤ ((((x21 * 12) + x30) % 8 : Nat) : Int), (0 : Int) ≤ ((((x21 * 12) + x30) / 8 : Nat) : Int) ∧ ((((x21 * 12) + x30) / 8 : Nat) : Int) < ((x6_2.length : Nat) : Int)]) [1, 4, 5, 6, 7, 8, 20, 21, 29, 30] [1] [(1, .v (.int .i64 12)), (4, .v (.slice none 0 0)), (5, .v (.int .i64 0)), (6, .sk 1), (7, .v (.int .i64 ((x21 : Nat) : Int))), (8, .v (.int .u16 (irem (f x21) 3329))), (20, .ar .u16 256 f), (21, .v (.int .i64 ((x21 : Nat) : Int))), (29, .v (.int .i64 12)), (30, .v (.int .i64 ((x30 : Nat) : Int)))] [(1, some (.sl 5 [.int .u8] (x6_2.set (((x21 * 12) + x30) / 8) (ior .u8 (x6_2.getD (((x21 * 12) + x30) / 8) 0) (ishl .u8 (IntKind.wrap .u8 (iand .u16 (ishr .u16 (irem (f x21) 3329) ((x30 : Nat) : Int)) 1)) ((((x21 * 12) + x30) % 8 : Nat) : Int))))))] 2 (by kernel_rfl) ⟨by rw [iquo64 (by omega) (by omega) (by omega)]; omega, by omega, by omega, by omega, by rw [irem64 (by omega)]; omega, by omega, by omega, by omega, trivial⟩ rfl hS fun ac gs ws hS => ?_
      refine block_n ?_
      refine then_n ?_
      refine region_a (E := E0) mo hZ [(0, .oi ((x30 + 1 : Nat) : Int))] trivial (fun _ => [iadd .i64 ((x30 : Nat) : Int) 1 = ((x30 + 1 : Nat) : Int)]) [1, 4, 5, 6, 7, 8, 20, 21, 29, 30] [1] [(1, .v (.int .i64 12)), (4, .v (.slice none 0 0)), (5, .v (.int .i64 0)), (6, .sk 1), (7, .v (.int .i64 ((x21 : Nat) : Int))), (8, .v (.int .u16 (irem (f x21) 3329))), (20, .ar .u16 256 f), (21, .v (.int .i64 ((x21 : Nat) : Int))), (29, .v (.int .i64 12)), (30, .v (.int .i64 ((x30 + 1 : Nat) : Int)))] [(1, some (.sl 5 [.int .u8] (x6_2.set (((x21 * 12) + x30) / 8) (ior .u8 (x6_2.getD (((x21 * 12) + x30) / 8) 0) (ishl .u8 (IntKind.wrap .u8 (iand .u16 (ishr .u16 (irem (f x21) 3329) ((x30 : Nat) : Int)) 1)) ((((x21 * 12) + x30) % 8 : Nat) : Int))))))] 2 (by kernel_rfl) ⟨by rw [iadd64 (by omega) (by omega)]; omega, trivial⟩ rfl hS fun ac gs ws hS => ?_
      refine then_n ?_
      exact next_r hg0 hS (s := (x30, x6_2)) (x30 + 1, x6_2.set (((x21 * 12) + x30) / 8) (ior .u8 (x6_2.getD (((x21 * 12) + x30) / 8) 0) (ishl .u8 (IntKind.wrap .u8 (iand .u16 (ishr .u16 (irem (f x21) 3329) ((x30 : Nat) : Int)) 1)) ((((x21 * 12) + x30) % 8 : Nat) : Int)))) [(1, 1)] (by kernel_rfl) (by kernel_rfl) ⟨rfl, trivial⟩ (show 12 - (x30 + 1) < 12 - x30 from by omega) ⟨(by omega), (it_next (F := encode12_l2 f x21 x6) (st := encode12_l2_s f x21 x6) (fun _ => rfl) hq2 rfl), (by simpa using p2), trivial⟩
    · skip
      have h2 := of_decide_eq_false h
      clear h
      have hScur := hS
      obtain rfl : 12 = x30 := by omega
      obtain rfl : encode12_l2 f x21 x6 12 = x6_2 := Eq.symm (congrArg (fun z => z) hq2)
      have hS := hScur
      clear hScur
      refine wp_exit ?_
      refine then_exit ?_
      refine then_exit ?_
      refine block_exit ?_
      refine block_n ?_
      refine then_n ?_
      refine region_a (E := E0) mo hZ [(0, .oi ((x21 + 1 : Nat) : Int))] trivial (fun _ => [iadd .i64 ((x21 : Nat) : Int) 1 = ((x21 + 1 : Nat) : Int)]) [1, 4, 5, 6, 20, 21] [1] [(1, .v (.int .i64 12)), (4, .v (.slice none 0 0)), (5, .v (.int .i64 0)), (6, .sk 1), (20, .ar .u16 256 f), (21, .v (.int .i64 ((x21 + 1 : Nat) : Int)))] [(1, some (.sl 5 [.int .u8] (encode12_l2 f x21 x6 12)))] 2 (by kernel_rfl) ⟨by rw [iadd64 (by omega) (by omega)]; omega, trivial⟩ rfl hS fun ac gs ws hS => ?_
      refine then_n ?_
      exact next_r hg0 hS (s := (x21, x6)) (x21 + 1, encode12_l2 f x21 x6 12) [(1, 1)] (by kernel_rfl) (by kernel_rfl) ⟨rfl, trivial⟩ (show 256 - (x21 + 1) < 256 - x21 from by omega) ⟨(by omega), (it_next (F := encode12_l1 f) (st := encode12_l1_s f) (fun _ => rfl) hq1 rfl), p2, trivial⟩
  · skip
    have h1 := of_decide_eq_false h
    clear h
    have hScur := hS
    obtain rfl : 256 = x21 := by omega
    obtain rfl : encode12_l1 f 256 = x6 := Eq.symm (congrArg (fun z => z) hq1)
    have hS := hScur
    clear hScur
    refine wp_exit ?_
    refine then_exit ?_
    refine then_exit ?_
    refine block_exit ?_
    refine then_n ?_
    refine wp_seq ?_
    refine region_a (E := E0) mo hZ [] trivial (fun _ => []) [4, 5] [1] [(4, .sk 1), (5, .v (.int .i64 0))] [(1, some (.sl 5 [.int .u8] (encode12_l1 f 256)))] 2 (by kernel_rfl) trivial rfl hS fun ac gs ws hS => ?_
    refine then_n ?_
    refine wp_ret ?_
    have hM : encode12_m f = encode12_l1 f 256 := encode12_e f
    obtain ⟨gs, hS⟩ := St.ren hg0 hS [(0, 1)] [(4, .sk 0), (5, .v (.int .i64 0))] [(0, .sl 5 [.int .u8] (encode12_l1 f 256))] 1 (by kernel_rfl) (by kernel_rfl) ⟨rfl, trivial⟩
    exact fin_x (.inr rfl) hS (ds := [.sk 0, .v (.int .i64 0)]) (by kernel_rfl) rfl (by show H1Ok _ [(0, .sl 5 [.int .u8] (encode12_m f))] true; rw [hM]; first | (simp only []; exact ⟨rfl, trivial⟩) | exact ⟨rfl, trivial⟩)

noncomputable def unpack12_l2_s (xs : List Int) (x8 : Nat) (o4_0 : Nat → Int) (x12 : Nat) : (Nat → Int) → (Nat → Int) := fun o4_0_2 => upd o4_0_2 x8 (ior .u16 (o4_0_2 x8) (ishl .u16 (IntKind.wrap .u16 (iand .u8 (ishr .u8 (xs.getD (((x8 * 12) + x12) / 8) 0) ((((x8 * 12) + x12) % 8 : Nat) : Int)) 1)) ((x12 : Nat) : Int)))
noncomputable def unpack12_l2 (xs : List Int) (x8 : Nat) (o4_0 : Nat → Int) : Nat → (Nat → Int)
  | 0 => o4_0
  | x12 + 1 => unpack12_l2_s xs x8 o4_0 x12 (unpack12_l2 xs x8 o4_0 x12)
noncomputable def unpack12_l1_s (xs : List Int) (x8 : Nat) : (Nat → Int) → (Nat → Int) := fun o4_0 => unpack12_l2 xs x8 o4_0 12
noncomputable def unpack12_l1 (xs : List Int) : Nat → (Nat → Int)
  | 0 => fun _ => 0
  | x8 + 1 => unpack12_l1_s xs x8 (unpack12_l1 xs x8)
noncomputable def unpack12_v (xs : List Int) : (Nat → Int) := unpack12_l1 xs 256
noncomputable def unpack12_m (xs : List Int) : (Nat → Int) := shut (unpack12_v xs)
theorem unpack12_e (xs : List Int) : unpack12_m xs = unpack12_v xs := shut_eq _
noncomputable def c_unpack12 (xs : List Int) : Con := ⟨[.v (.int .i64 12), .ls false [.int .u8] xs], [], .ar .u16 256 (unpack12_m xs), []⟩
set_option maxRecDepth 100000 in
set_option maxHeartbeats 4000000 in
theorem unpack12_ok (xs : List Int) (h : 384 ≤ xs.length) : ConOk Try.prog 64 (c_unpack12 xs) := by
  refine conOk_of (nb := 0) Try.func64 rfl rfl Try.ntmps64 rfl rfl rfl fun g0 w0 ac gs ws hg0 hS => ?_
  have hlen1 : xs.length ≤ 9223372036854775807 := hS.len 1 rfl
  refine wp_seq ?_
  refine region_a (E := E0) mo hZ [] trivial (fun _ => []) [0, 1, 4] [0] [(0, .v (.int .i64 12)), (1, .ls false [.int .u8] xs), (4, .cp 0 0)] [(0, some (.ob 60 (chain [.ar .u16 256 (fun _ => 0)])))] 1 (by kernel_rfl) trivial rfl hS fun ac gs ws hS => ?_
  refine then_n ?_
  refine wp_seq ?_
  refine wp_seq ?_
  refine region_a (E := E0) mo hZ [] trivial (fun _ => []) [0, 1, 4, 8] [0] [(0, .v (.int .i64 12)), (1, .ls false [.int .u8] xs), (4, .cp 0 0), (8, .v (.int .i64 0))] [(0, some (.ob 60 (chain [.ar .u16 256 (fun _ => 0)])))] 1 (by kernel_rfl) trivial rfl hS fun ac gs ws hS => ?_
  refine then_n ?_
  refine wp_block ?_
  refine loop_r (σ := Nat × (Nat → Int)) hg0 hS (fun z_ => match z_ with | (x8, o4_0) => 256 - x8) (fun z_ => match z_ with | (x8, o4_0) => [(0, .v (.int .i64 12)), (1, .ls false [.int .u8] xs), (4, .cp 0 0), (8, .v (.int .i64 ((x8 : Nat) : Int)))]) (fun z_ => match z_ with | (x8, o4_0) => [(0, .ob 60 (chain [.ar .u16 256 o4_0]))]) (fun z_ => match z_ with | (x8, o4_0) => (x8 ≤ 256) ∧ (o4_0 = unpack12_l1 xs x8) ∧ True) 1 (0, fun _ => 0) [(0, 0)] (by kernel_rfl) (by kernel_rfl) ⟨rfl, trivial⟩ ⟨(by omega), rfl, trivial⟩ ?_
  rintro ⟨x8, o4_0⟩ ac gs ws ⟨hx8, hq1, _⟩ hS
  refine wp_seq ?_
  refine region_a (E := E0) mo hZ [] trivial (fun _ => []) [0, 1, 4, 8, 9] [0] [(0, .v (.int .i64 12)), (1, .ls false [.int .u8] xs), (4, .cp 0 0), (8, .v (.int .i64 ((x8 : Nat) : Int))), (9, .v (.bool (decide (((x8 : Nat) : Int) < 256))))] [(0, some (.ob 60 (chain [.ar .u16 256 o4_0])))] 1 (by kernel_rfl) trivial rfl hS fun ac gs ws hS => ?_
  refine then_n ?_
  refine wp_seq ?_
  refine if_x hS rfl (fun h => ?_) (fun h => ?_)
  · skip
    have h1 := of_decide_eq_true h
    clear h
    refine wp_skip ?_
    refine then_n ?_
    refine wp_seq ?_
    refine wp_block ?_
    refine wp_seq ?_
    refine region_a (E := E0) mo hZ [] trivial (fun _ => []) [0, 1, 4, 5, 8] [0] [(0, .v (.int .i64 12)), (1, .ls false [.int .u8] xs), (4, .cp 0 0), (5, .v (.int .i64 ((x8 : Nat) : Int))), (8, .v (.int .i64 ((x8 : Nat) : Int)))] [(0, some (.ob 60 (chain [.ar .u16 256 o4_0])))] 1 (by kernel_rfl) trivial rfl hS fun ac gs ws hS => ?_
    refine then_n ?_
    refine wp_seq ?_
    refine region_a (E := E0) mo hZ [] trivial (fun _ => []) [0, 1, 4, 5, 8, 11, 12] [0] [(0, .v (.int .i64 12)), (1, .ls false [.int .u8] xs), (4, .cp 0 0), (5, .v (.int .i64 ((x8 : Nat) : Int))), (8, .v (.int .i64 ((x8 : Nat) : Int))), (11, .v (.int .i64 12)), (12, .v (.int .i64 0))] [(0, some (.ob 60 (chain [.ar .u16 256 o4_0])))] 1 (by kernel_rfl) trivial rfl hS fun ac gs ws hS => ?_
    refine then_n ?_
    refine wp_block ?_
    refine loop_r (σ := Nat × (Nat → Int)) hg0 hS (fun z_ => match z_ with | (x12, o4_0_2) => 12 - x12) (fun z_ => match z_ with | (x12, o4_0_2) => [(0, .v (.int .i64 12)), (1, .ls false [.int .u8] xs), (4, .cp 0 0), (5, .v (.int .i64 ((x8 : Nat) : Int))), (8, .v (.int .i64 ((x8 : Nat) : Int))), (11, .v (.int .i64 12)), (12, .v (.int .i64 ((x12 : Nat) : Int)))]) (fun z_ => match z_ with | (x12, o4_0_2) => [(0, .ob 60 (chain [.ar .u16 256 o4_0_2]))]) (fun z_ => match z_ with | (x12, o4_0_2) => (x12 ≤ 12) ∧ (o4_0_2 = unpack12_l2 xs x8 o4_0 x12) ∧ True) 1 (0, o4_0) [(0, 0)] (by kernel_rfl) (by kernel_rfl) ⟨rfl, trivial⟩ ⟨(by omega), rfl, trivial⟩ ?_
    rintro ⟨x12, o4_0_2⟩ ac gs ws ⟨hx12, hq2, _⟩ hS
    refine wp_seq ?_
    refine region_a (E := E0) mo hZ [] trivial (fun _ => []) [0, 1, 4, 5, 8, 11, 12, 13] [0] [(0, .v (.int .i64 12)), (1, .ls false [.int .u8] xs), (4, .cp 0 0), (5, .v (.int .i64 ((x8 : Nat) : Int))), (8, .v (.int .i64 ((x8 : Nat) : Int))), (11, .v (.int .i64 12)), (12, .v (.int .i64 ((x12 : Nat) : Int))), (13, .v (.bool (decide (((x12 : Nat) : Int) < 12))))] [(0, some (.ob 60 (chain [.ar .u16 256 o4_0_2])))] 1 (by kernel_rfl) trivial rfl hS fun ac gs ws hS => ?_
    refine then_n ?_
    refine wp_seq ?_
    refine if_x hS rfl (fun h => ?_) (fun h => ?_)
    · skip
      have h2 := of_decide_eq_true h
      clear h
      refine wp_skip ?_
      refine then_n ?_
      refine wp_seq ?_
      refine wp_block ?_
      refine wp_seq ?_
      refine region_a (E := E0) mo hZ [] trivial (fun _ => []) [0, 1, 4, 5, 6, 8, 11, 12] [0] [(0, .v (.int .i64 12)), (1, .ls false [.int .u8] xs), (4, .cp 0 0), (5, .v (.int .i64 ((x8 : Nat) : Int))), (6, .v (.int .i64 ((x12 : Nat) : Int))), (8, .v (.int .i64 ((x8 : Nat) : Int))), (11, .v (.int .i64 12)), (12, .v (.int .i64 ((x12 : Nat) : Int)))] [(0, some (.ob 60 (chain [.ar .u16 256 o4_0_2])))] 1 (by kernel_rfl) trivial rfl hS fun ac gs ws hS => ?_
      refine then_n ?_
      refine wp_seq ?_
      refine region_a (E := E0) mo hZ [(2, .oi ((x8 * 12 : Nat) : Int)), (4, .oi (((x8 * 12) + x12 : Nat) : Int))] trivial (fun _ => [imul .i64 ((x8 : Nat) : Int) 12 = ((x8 * 12 : Nat) : Int), iadd .i64 ((x8 * 12 : Nat) : Int) ((x12 : Nat) : Int) = (((x8 * 12) + x12 : Nat) : Int)]) [0, 1, 4, 5, 6, 7, 8, 11, 12] [0] [(0, .v (.int .i64 12)), (1, .ls false [.int .u8] xs), (4, .cp 0 0), (5, .v (.int .i64 ((x8 : Nat) : Int))), (6, .v (.int .i64 ((x12 : Nat) : Int))), (7, .v (.int .i64 (((x8 * 12) + x12 : Nat) : Int))), (8, .v (.int .i64 ((x8 : Nat) : Int))), (11, .v (.int .i64 12)), (12, .v (.int .i64 ((x12 : Nat) : Int)))] [(0, some (.ob 60 (chain [.ar .u16 256 o4_0_2])))] 1 (by kernel_rfl) ⟨by rw [imul64 (by omega) (by omega)]; omega, by rw [iadd64 (by omega) (by omega)]; omega, trivial⟩ rfl hS fun ac gs ws hS => ?_
      refine then_n ?_
      refine region_a (E := E0) mo hZ [(5, .oi ((((x8 * 12) + x12) / 8 : Nat) : Int)), (9, .oi ((((x8 * 12) + x12) % 8 : Nat) : Int))] trivial (fun _ => [(0 : Int) ≤ ((x8 : Nat) : Int) ∧ (((x8 : Nat) : Int) : Int) < 256, iquo .i64 (((x8 * 12) + x12 : Nat) : Int) 8 = ((((x8 * 12) + x12) / 8 : Nat) : Int), (8 : Int) ≠ 0, (0 : Int) ≤ ((((x8 * 12) + x12) / 8 : Nat) : Int) ∧ ((((x8 * 12) + x12) / 8 : Nat) : Int) < ((xs.length : Nat) : Int), irem (((x8 * 12) + x12 : Nat) : Int) 8 = ((((x8 * 12) + x12) % 8 : Nat) : Int), (8 : Int) ≠ 0, (0 : Int) ≤ ((((x8 * 12) + x12) % 8 : Nat) : Int), (0 : Int) ≤ ((x12 : Nat) : Int), (0 : Int) ≤ ((x8 : Nat) : Int) ∧ (((x8 : Nat) : Int) : Int) < 256]) [0, 1, 4, 5, 8, 11, 12] [0] [(0, .v (.int .i64 12)), (1, .ls false [.int .u8] xs), (4, .cp 0 0), (5, .v (.int .i64 ((x8 : Nat) : Int))), (8, .v (.int .i64 ((x8 : Nat) : Int))), (11, .v (.int .i64 12)), (12, .v (.int .i64 ((x12 : Nat) : Int)))] [(0, some (.ob 60 (chain [.ar .u16 256 (upd o4_0_2 x8 (ior .u16 (o4_0_2 x8) (ishl .u16 (IntKind.wrap .u16 (iand .u8 (ishr .u8 (xs.getD (((x8 * 12) + x12) / 8) 0) ((((x8 * 12) + x12) % 8 : Nat) : Int)) 1)) ((x12 : Nat) : Int))))])))] 1 (by kernel_rfl) ⟨by omega, by rw [iquo64 (by omega) (by omega) (by omega)]; omega, by omega, by omega, by rw [irem64 (by omega)]; omega, by omega, by omega, by omega, by omega, trivial⟩ rfl hS fun ac gs ws hS => ?_
      refine block_n ?_
      refine then_n ?_
      refine region_a (E := E0) mo hZ [(0, .oi ((x12 + 1 : Nat) : Int))] trivial (fun _ => [iadd .i64 ((x12 : Nat) : Int) 1 = ((x12 + 1 : Nat) : Int)]) [0, 1, 4, 5, 8, 11, 12] [0] [(0, .v (.int .i64 12)), (1, .ls false [.int .u8] xs), (4, .cp 0 0), (5, .v (.int .i64 ((x8 : Nat) : Int))), (8, .v (.int .i64 ((x8 : Nat) : Int))), (11, .v (.int .i64 12)), (12, .v (.int .i64 ((x12 + 1 : Nat) : Int)))] [(0, some (.ob 60 (chain [.ar .u16 256 (upd o4_0_2 x8 (ior .u16 (o4_0_2 x8) (ishl .u16 (IntKind.wrap .u16 (iand .u8 (ishr .u8 (xs.getD (((x8 * 12) + x12) / 8) 0) ((((x8 * 12) + x12) % 8 : Nat) : Int)) 1)) ((x12 : Nat) : Int))))])))] 1 (by kernel_rfl) ⟨by rw [iadd64 (by omega) (by omega)]; omega, trivial⟩ rfl hS fun ac gs ws hS => ?_
      refine then_n ?_
      exact next_r hg0 hS (s := (x12, o4_0_2)) (x12 + 1, upd o4_0_2 x8 (ior .u16 (o4_0_2 x8) (ishl .u16 (IntKind.wrap .u16 (iand .u8 (ishr .u8 (xs.getD (((x8 * 12) + x12) / 8) 0) ((((x8 * 12) + x12) % 8 : Nat) : Int)) 1)) ((x12 : Nat) : Int)))) [(0, 0)] (by kernel_rfl) (by kernel_rfl) ⟨rfl, trivial⟩ (show 12 - (x12 + 1) < 12 - x12 from by omega) ⟨(by omega), (it_next (F := unpack12_l2 xs x8 o4_0) (st := unpack12_l2_s xs x8 o4_0) (fun _ => rfl) hq2 rfl), trivial⟩
    · skip
      have h2 := of_decide_eq_false h
      clear h
      have hScur := hS
      obtain rfl : 12 = x12 := by omega
      obtain rfl : unpack12_l2 xs x8 o4_0 12 = o4_0_2 := Eq.symm (congrArg (fun z => z) hq2)
      have hS := hScur
      clear hScur
      refine wp_exit ?_
      refine then_exit ?_
      refine then_exit ?_
      refine block_exit ?_
      refine block_n ?_
      refine then_n ?_
      refine region_a (E := E0) mo hZ [(0, .oi ((x8 + 1 : Nat) : Int))] trivial (fun _ => [iadd .i64 ((x8 : Nat) : Int) 1 = ((x8 + 1 : Nat) : Int)]) [0, 1, 4, 8] [0] [(0, .v (.int .i64 12)), (1, .ls false [.int .u8] xs), (4, .cp 0 0), (8, .v (.int .i64 ((x8 + 1 : Nat) : Int)))] [(0, some (.ob 60 (chain [.ar .u16 256 (unpack12_l2 xs x8 o4_0 12)])))] 1 (by kernel_rfl) ⟨by rw [iadd64 (by omega) (by omega)]; omega, trivial⟩ rfl hS fun ac gs ws hS => ?_
      refine then_n ?_
      exact next_r hg0 hS (s := (x8, o4_0)) (x8 + 1, unpack12_l2 xs x8 o4_0 12) [(0, 0)] (by kernel_rfl) (by kernel_rfl) ⟨rfl, trivial⟩ (show 256 - (x8 + 1) < 256 - x8 from by omega) ⟨(by omega), (it_next (F := unpack12_l1 xs) (st := unpack12_l1_s xs) (fun _ => rfl) hq1 rfl), trivial⟩
  · skip
    have h1 := of_decide_eq_false h
    clear h
    have hScur := hS
    obtain rfl : 256 = x8 := by omega
    obtain rfl : unpack12_l1 xs 256 = o4_0 := Eq.symm (congrArg (fun z => z) hq1)
    have hS := hScur
    clear hScur
    refine wp_exit ?_
    refine then_exit ?_
    refine then_exit ?_
    refine block_exit ?_
    refine then_n ?_
    refine wp_seq ?_
    refine region_a (E := E0) mo hZ [] trivial (fun _ => []) [4] [0] [(4, .cp 0 0)] [(0, some (.ob 60 (chain [.ar .u16 256 (unpack12_l1 xs 256)])))] 1 (by kernel_rfl) trivial rfl hS fun ac gs ws hS => ?_
    refine then_n ?_
    refine wp_ret ?_
    have hM : unpack12_m xs = unpack12_l1 xs 256 := unpack12_e xs
    exact fin_x (.inr rfl) hS (ds := [.ar .u16 256 (unpack12_l1 xs 256)]) (by kernel_rfl) (by show weak _ (.ar .u16 256 (unpack12_m xs)) = (.ar .u16 256 (unpack12_m xs)); rw [hM]; first | (simp only []; rfl) | (simp only []; done) | rfl) trivial

noncomputable def encode10_l2_s (f : Nat → Int) (x21 : Nat) (x6 : List Int) (x30 : Nat) : (List Int) → (List Int) := fun x6_2 => x6_2.set (((x21 * 10) + x30) / 8) (ior .u8 (x6_2.getD (((x21 * 10) + x30) / 8) 0) (ishl .u8 (IntKind.wrap .u8 (iand .u16 (ishr .u16 (f x21) ((x30 : Nat) : Int)) 1)) ((((x21 * 10) + x30) % 8 : Nat) : Int)))
noncomputable def encode10_l2 (f : Nat → Int) (x21 : Nat) (x6 : List Int) : Nat → (List Int)
  | 0 => x6
  | x30 + 1 => encode10_l2_s f x21 x6 x30 (encode10_l2 f x21 x6 x30)
noncomputable def encode10_l1_s (f : Nat → Int) (x21 : Nat) : (List Int) → (List Int) := fun x6 => encode10_l2 f x21 x6 10
noncomputable def encode10_l1 (f : Nat → Int) : Nat → (List Int)
  | 0 => List.replicate 320 (0 : Int)
  | x21 + 1 => encode10_l1_s f x21 (encode10_l1 f x21)
noncomputable def encode10_v (f : Nat → Int) : (List Int) := encode10_l1 f 256
noncomputable def encode10_m (f : Nat → Int) : (List Int) := shut (encode10_v f)
theorem encode10_e (f : Nat → Int) : encode10_m f = encode10_v f := shut_eq _
noncomputable def c_encode10 (f : Nat → Int) : Con := ⟨[.ar .u16 256 f, .v (.int .i64 10)], [], .tu (chain [.sk 0, .v (.int .i64 0)]), [(0, .sl 5 [.int .u8] (encode10_m f))]⟩
set_option maxRecDepth 100000 in
set_option maxHeartbeats 4000000 in
theorem encode10_ok (f : Nat → Int) : ConOk Try.prog 76 (c_encode10 f) := by
  refine conOk_of (nb := 0) Try.func76 rfl rfl Try.ntmps76 rfl rfl rfl fun g0 w0 ac gs ws hg0 hS => ?_
  refine wp_seq ?_
  refine region_a (E := E0) mo hZ [] trivial (fun _ => []) [1, 2, 4, 5] [0] [(1, .v (.int .i64 10)), (2, .cp 0 0), (4, .v (.slice none 0 0)), (5, .v (.int .i64 0))] [(0, some (.ob 60 (chain [.ar .u16 256 f])))] 1 (by kernel_rfl) trivial rfl hS fun ac gs ws hS => ?_
  refine then_n ?_
  refine wp_seq ?_
  refine wp_seq ?_
  refine region_a (E := E0) mo hZ [] trivial (fun _ => []) [1, 2, 4, 5, 16] [0] [(1, .v (.int .i64 10)), (2, .cp 0 0), (4, .v (.slice none 0 0)), (5, .v (.int .i64 0)), (16, .v (.bool false))] [(0, some (.ob 60 (chain [.ar .u16 256 f])))] 1 (by kernel_rfl) trivial rfl hS fun ac gs ws hS => ?_
  refine then_n ?_
  refine wp_cond_false (hS.fx.frm.eval rfl) ?_
  refine wp_skip ?_
  refine then_n ?_
  refine wp_seq ?_
  refine region_a (E := E0) mo hZ [] trivial (fun _ => [(320 : Int) = 320, (0 : Int) ≤ 320, 1 * 320 ≤ 281474976710656, (320 : Int) ≤ 9223372036854775807]) [1, 2, 4, 5, 6] [0, 1] [(1, .v (.int .i64 10)), (2, .cp 0 0), (4, .v (.slice none 0 0)), (5, .v (.int .i64 0)), (6, .sk 1)] [(0, some (.ob 60 (chain [.ar .u16 256 f]))), (1, some (.sl 5 [.int .u8] (List.replicate 320 (0 : Int))))] 2 (by kernel_rfl) ⟨rfl, by omega, by omega, by omega, trivial⟩ rfl hS fun ac gs ws hS => ?_
  refine then_n ?_
  refine wp_seq ?_
  refine wp_seq ?_
  refine region_a (E := E0) mo hZ [] trivial (fun _ => []) [1, 4, 5, 6, 20, 21] [1] [(1, .v (.int .i64 10)), (4, .v (.slice none 0 0)), (5, .v (.int .i64 0)), (6, .sk 1), (20, .ar .u16 256 f), (21, .v (.int .i64 0))] [(1, some (.sl 5 [.int .u8] (List.replicate 320 (0 : Int))))] 2 (by kernel_rfl) trivial rfl hS fun ac gs ws hS => ?_
  refine then_n ?_
  refine wp_block ?_
  refine loop_r (σ := Nat × (List Int)) hg0 hS (fun z_ => match z_ with | (x21, x6) => 256 - x21) (fun z_ => match z_ with | (x21, x6) => [(1, .v (.int .i64 10)), (4, .v (.slice none 0 0)), (5, .v (.int .i64 0)), (6, .sk 1), (20, .ar .u16 256 f), (21, .v (.int .i64 ((x21 : Nat) : Int)))]) (fun z_ => match z_ with | (x21, x6) => [(1, .sl 5 [.int .u8] x6)]) (fun z_ => match z_ with | (x21, x6) => (x21 ≤ 256) ∧ (x6 = encode10_l1 f x21) ∧ (x6.length = 320) ∧ True) 2 (0, List.replicate 320 (0 : Int)) [(1, 1)] (by kernel_rfl) (by kernel_rfl) ⟨rfl, trivial⟩ ⟨(by omega), rfl, (by simp), trivial⟩ ?_
  rintro ⟨x21, x6⟩ ac gs ws ⟨hx21, hq1, p1, _⟩ hS
  refine wp_seq ?_
  refine region_a (E := E0) mo hZ [] trivial (fun _ => []) [1, 4, 5, 6, 20, 21, 22] [1] [(1, .v (.int .i64 10)), (4, .v (.slice none 0 0)), (5, .v (.int .i64 0)), (6, .sk 1), (20, .ar .u16 256 f), (21, .v (.int .i64 ((x21 : Nat) : Int))), (22, .v (.bool (decide (((x21 : Nat) : Int) < 256))))] [(1, some (.sl 5 [.int .u8] x6))] 2 (by kernel_rfl) trivial rfl hS fun ac gs ws hS => ?_
  refine then_n ?_
  refine wp_seq ?_
  refine if_x hS rfl (fun h => ?_) (fun h => ?_)
  · skip
    have h1 := of_decide_eq_true h
    clear h
    refine wp_skip ?_
    refine then_n ?_
    refine wp_seq ?_
    refine wp_block ?_
    refine wp_seq ?_
    refine region_a (E := E0) mo hZ [] trivial (fun _ => [(0 : Int) ≤ ((x21 : Nat) : Int) ∧ (((x21 : Nat) : Int) : Int) < 256]) [1, 4, 5, 6, 7, 8, 20, 21] [1] [(1, .v (.int .i64 10)), (4, .v (.slice none 0 0)), (5, .v (.int .i64 0)), (6, .sk 1), (7, .v (.int .i64 ((x21 : Nat) : Int))), (8, .v (.int .u16 (f x21))), (20, .ar .u16 256 f), (21, .v (.int .i64 ((x21 : Nat) : Int)))] [(1, some (.sl 5 [.int .u8] x6))] 2 (by kernel_rfl) ⟨by omega, trivial⟩ rfl hS fun ac gs ws hS => ?_
    refine then_n ?_
    refine wp_seq ?_
    refine wp_seq ?_
    refine region_a (E := E0) mo hZ [] trivial (fun _ => []) [1, 4, 5, 6, 7, 8, 20, 21, 26] [1] [(1, .v (.int .i64 10)), (4, .v (.slice none 0 0)), (5, .v (.int .i64 0)), (6, .sk 1), (7, .v (.int .i64 ((x21 : Nat) : Int))), (8, .v (.int .u16 (f x21))), (20, .ar .u16 256 f), (21, .v (.int .i64 ((x21 : Nat) : Int))), (26, .v (.bool false))] [(1, some (.sl 5 [.int .u8] x6))] 2 (by kernel_rfl) trivial rfl hS fun ac gs ws hS => ?_
    refine then_n ?_
    refine wp_cond_false (hS.fx.frm.eval rfl) ?_
    refine wp_skip ?_
    refine then_n ?_
    refine wp_seq ?_
    refine region_a (E := E0) mo hZ [] trivial (fun _ => []) [1, 4, 5, 6, 7, 8, 20, 21, 29, 30] [1] [(1, .v (.int .i64 10)), (4, .v (.slice none 0 0)), (5, .v (.int .i64 0)), (6, .sk 1), (7, .v (.int .i64 ((x21 : Nat) : Int))), (8, .v (.int .u16 (f x21))), (20, .ar .u16 256 f), (21, .v (.int .i64 ((x21 : Nat) : Int))), (29, .v (.int .i64 10)), (30, .v (.int .i64 0))] [(1, some (.sl 5 [.int .u8] x6))] 2 (by kernel_rfl) trivial rfl hS fun ac gs ws hS => ?_
    refine then_n ?_
    refine wp_block ?_
    refine loop_r (σ := Nat × (List Int)) hg0 hS (fun z_ => match z_ with | (x30, x6_2) => 10 - x30) (fun z_ => match z_ with | (x30, x6_2) => [(1, .v (.int .i64 10)), (4, .v (.slice none 0 0)), (5, .v (.int .i64 0)), (6, .sk 1), (7, .v (.int .i64 ((x21 : Nat) : Int))), (8, .v (.int .u16 (f x21))), (20, .ar .u16 256 f), (21, .v (.int .i64 ((x21 : Nat) : Int))), (29, .v (.int .i64 10)), (30, .v (.int .i64 ((x30 : Nat) : Int)))]) (fun z_ => match z_ with | (x30, x6_2) => [(1, .sl 5 [.int .u8] x6_2)]) (fun z_ => match z_ with | (x30, x6_2) => (x30 ≤ 10) ∧ (x6_2 = encode10_l2 f x21 x6 x30) ∧ (x6_2.length = 320) ∧ True) 2 (0, x6) [(1, 1)] (by kernel_rfl) (by kernel_rfl) ⟨rfl, trivial⟩ ⟨(by omega), rfl, p1, trivial⟩ ?_
    rintro ⟨x30, x6_2⟩ ac gs ws ⟨hx30, hq2, p2, _⟩ hS
    refine wp_seq ?_
    refine region_a (E := E0) mo hZ [] trivial (fun _ => []) [1, 4, 5, 6, 7, 8, 20, 21, 29, 30, 31] [1] [(1, .v (.int .i64 10)), (4, .v (.slice none 0 0)), (5, .v (.int .i64 0)), (6, .sk 1), (7, .v (.int .i64 ((x21 : Nat) : Int))), (8, .v (.int .u16 (f x21))), (20, .ar .u16 256 f), (21, .v (.int .i64 ((x21 : Nat) : Int))), (29, .v (.int .i64 10)), (30, .v (.int .i64 ((x30 : Nat) : Int))), (31, .v (.bool (decide (((x30 : Nat) : Int) < 10))))] [(1, some (.sl 5 [.int .u8] x6_2))] 2 (by kernel_rfl) trivial rfl hS fun ac gs ws hS => ?_
    refine then_n ?_
    refine wp_seq ?_
    refine if_x hS rfl (fun h => ?_) (fun h => ?_)
    · skip
      have h2 := of_decide_eq_true h
      clear h
      refine wp_skip ?_
      refine then_n ?_
      refine wp_seq ?_
      refine wp_block ?_
      refine wp_seq ?_
      refine region_a (E := E0) mo hZ [] trivial (fun _ => []) [1, 4, 5, 6, 7, 8, 9, 20, 21, 29, 30] [1] [(1, .v (.int .i64 10)), (4, .v (.slice none 0 0)), (5, .v (.int .i64 0)), (6, .sk 1), (7, .v (.int .i64 ((x21 : Nat) : Int))), (8, .v (.int .u16 (f x21))), (9, .v (.int .i64 ((x30 : Nat) : Int))), (20, .ar .u16 256 f), (21, .v (.int .i64 ((x21 : Nat) : Int))), (29, .v (.int .i64 10)), (30, .v (.int .i64 ((x30 : Nat) : Int)))] [(1, some (.sl 5 [.int .u8] x6_2))] 2 (by kernel_rfl) trivial rfl hS fun ac gs ws hS => ?_
      refine then_n ?_
      refine wp_seq ?_
      refine region_a (E := E0) mo hZ [(2, .oi ((x21 * 10 : Nat) : Int)), (4, .oi (((x21 * 10) + x30 : Nat) : Int))] trivial (fun _ => [imul .i64 ((x21 : Nat) : Int) 10 = ((x21 * 10 : Nat) : Int), iadd .i64 ((x21 * 10 : Nat) : Int) ((x30 : Nat) : Int) = (((x21 * 10) + x30 : Nat) : Int)]) [1, 4, 5, 6, 7, 8, 9, 10, 20, 21, 29, 30] [1] [(1, .v (.int .i64 10)), (4, .v (.slice none 0 0)), (5, .v (.int .i64 0)), (6, .sk 1), (7, .v (.int .i64 ((x21 : Nat) : Int))), (8, .v (.int .u16 (f x21))), (9, .v (.int .i64 ((x30 : Nat) : Int))), (10, .v (.int .i64 (((x21 * 10) + x30 : Nat) : Int))), (20, .ar .u16 256 f), (21, .v (.int .i64 ((x21 : Nat) : Int))), (29, .v (.int .i64 10)), (30, .v (.int .i64 ((x30 : Nat) : Int)))] [(1, some (.sl 5 [.int .u8] x6_2))] 2 (by kernel_rfl) ⟨by rw [imul64 (by omega) (by omega)]; omega, by rw [iadd64 (by omega) (by omega)]; omega, trivial⟩ rfl hS fun ac gs ws hS => ?_
      refine then_n ?_
      refine region_a (E := E0) mo hZ [(2, .oi ((((x21 * 10) + x30) / 8 : Nat) : Int)), (11, .oi ((((x21 * 10) + x30) % 8 : Nat) : Int))] trivial (fun _ => [iquo .i64 (((x21 * 10) + x30 : Nat) : Int) 8 = ((((x21 * 10) + x30) / 8 : Nat) : Int), (8 : Int) ≠ 0, (0 : Int) ≤ ((((x21 * 10) + x30) / 8 : Nat) : Int) ∧ ((((x21 * 10) + x30) / 8 : Nat) : Int) < ((x6_2.length : Nat) : Int), (0 : Int) ≤ ((x30 : Nat) : Int), irem (((x21 * 10) + x30 : Nat) : Int) 8 = ((((x21 * 10) + x30) % 8 : Nat) : Int), (8 : Int) ≠ 0, (0 : Int) ≤ ((((x21 * 10) + x30) % 8 : Nat) : Int), (0 : Int) ≤ ((((x21 * 10) + x30) / 8 : Nat) : Int) ∧ ((((x21 * 10) + x30) / 8 : Nat) : Int) < ((x6_2.length : Nat) : Int)]) [1, 4, 5, 6, 7, 8, 20, 21, 29, 30] [1] [(1, .v (.int .i64 10)), (4, .v (.slice none 0 0)), (5, .v (.int .i64 0)), (6, .sk 1), (7, .v (.int .i64 ((x21 : Nat) : Int))), (8, .v (.int .u16 (f x21))), (20, .ar .u16 256 f), (21, .v (.int .i64 ((x21 : Nat) : Int))), (29, .v (.int .i64 10)), (30, .v (.int .i64 ((x30 : Nat) : Int)))] [(1, some (.sl 5 [.int .u8] (x6_2.set (((x21 * 10) + x30) / 8) (ior .u8 (x6_2.getD (((x21 * 10) + x30) / 8) 0) (ishl .u8 (IntKind.wrap .u8 (iand .u16 (ishr .u16 (f x21) ((x30 : Nat) : Int)) 1)) ((((x21 * 10) + x30) % 8 : Nat) : Int))))))] 2 (by kernel_rfl) ⟨by rw [iquo64 (by omega) (by omega) (by omega)]; omega, by omega, by omega, by omega, by rw [irem64 (by omega)]; omega, by omega, by omega, by omega, trivial⟩ rfl hS fun ac gs ws hS => ?_
      refine block_n ?_
      refine then_n ?_
      refine region_a (E := E0) mo hZ [(0, .oi ((x30 + 1 : Nat) : Int))] trivial (fun _ => [iadd .i64 ((x30 : Nat) : Int) 1 = ((x30 + 1 : Nat) : Int)]) [1, 4, 5, 6, 7, 8, 20, 21, 29, 30] [1] [(1, .v (.int .i64 10)), (4, .v (.slice none 0 0)), (5, .v (.int .i64 0)), (6, .sk 1), (7, .v (.int .i64 ((x21 : Nat) : Int))), (8, .v (.int .u16 (f x21))), (20, .ar .u16 256 f), (21, .v (.int .i64 ((x21 : Nat) : Int))), (29, .v (.int .i64 10)), (30, .v (.int .i64 ((x30 + 1 : Nat) : Int)))] [(1, some (.sl 5 [.int .u8] (x6_2.set (((x21 * 10) + x30) / 8) (ior .u8 (x6_2.getD (((x21 * 10) + x30) / 8) 0) (ishl .u8 (IntKind.wrap .u8 (iand .u16 (ishr .u16 (f x21) ((x30 : Nat) : Int)) 1)) ((((x21 * 10) + x30) % 8 : Nat) : Int))))))] 2 (by kernel_rfl) ⟨by rw [iadd64 (by omega) (by omega)]; omega, trivial⟩ rfl hS fun ac gs ws hS => ?_
      refine then_n ?_
      exact next_r hg0 hS (s := (x30, x6_2)) (x30 + 1, x6_2.set (((x21 * 10) + x30) / 8) (ior .u8 (x6_2.getD (((x21 * 10) + x30) / 8) 0) (ishl .u8 (IntKind.wrap .u8 (iand .u16 (ishr .u16 (f x21) ((x30 : Nat) : Int)) 1)) ((((x21 * 10) + x30) % 8 : Nat) : Int)))) [(1, 1)] (by kernel_rfl) (by kernel_rfl) ⟨rfl, trivial⟩ (show 10 - (x30 + 1) < 10 - x30 from by omega) ⟨(by omega), (it_next (F := encode10_l2 f x21 x6) (st := encode10_l2_s f x21 x6) (fun _ => rfl) hq2 rfl), (by simpa using p2), trivial⟩
    · skip
      have h2 := of_decide_eq_false h
      clear h
      have hScur := hS
      obtain rfl : 10 = x30 := by omega
      obtain rfl : encode10_l2 f x21 x6 10 = x6_2 := Eq.symm (congrArg (fun z => z) hq2)
      have hS := hScur
      clear hScur
      refine wp_exit ?_
      refine then_exit ?_
      refine then_exit ?_
      refine block_exit ?_
      refine block_n ?_
      refine then_n ?_
      refine region_a (E := E0) mo hZ [(0, .oi ((x21 + 1 : Nat) : Int))] trivial (fun _ => [iadd .i64 ((x21 : Nat) : Int) 1 = ((x21 + 1 : Nat) : Int)]) [1, 4, 5, 6, 20, 21] [1] [(1, .v (.int .i64 10)), (4, .v (.slice none 0 0)), (5, .v (.int .i64 0)), (6, .sk 1), (20, .ar .u16 256 f), (21, .v (.int .i64 ((x21 + 1 : Nat) : Int)))] [(1, some (.sl 5 [.int .u8] (encode10_l2 f x21 x6 10)))] 2 (by kernel_rfl) ⟨by rw [iadd64 (by omega) (by omega)]; omega, trivial⟩ rfl hS fun ac gs ws hS => ?_
      refine then_n ?_
      exact next_r hg0 hS (s := (x21, x6)) (x21 + 1, encode10_l2 f x21 x6 10) [(1, 1)] (by kernel_rfl) (by kernel_rfl) ⟨rfl, trivial⟩ (show 256 - (x21 + 1) < 256 - x21 from by omega) ⟨(by omega), (it_next (F := encode10_l1 f) (st := encode10_l1_s f) (fun _ => rfl) hq1 rfl), p2, trivial⟩
  · skip
    have h1 := of_decide_eq_false h
    clear h
    have hScur := hS
    obtain rfl : 256 = x21 := by omega
    obtain rfl : encode10_l1 f 256 = x6 := Eq.symm (congrArg (fun z => z) hq1)
    have hS := hScur
    clear hScur
    refine wp_exit ?_
    refine then_exit ?_
    refine then_exit ?_
    refine block_exit ?_
    refine then_n ?_
    refine wp_seq ?_
    refine region_a (E := E0) mo hZ [] trivial (fun _ => []) [4, 5] [1] [(4, .sk 1), (5, .v (.int .i64 0))] [(1, some (.sl 5 [.int .u8] (encode10_l1 f 256)))] 2 (by kernel_rfl) trivial rfl hS fun ac gs ws hS => ?_
    refine then_n ?_
    refine wp_ret ?_
    have hM : encode10_m f = encode10_l1 f 256 := encode10_e f
    obtain ⟨gs, hS⟩ := St.ren hg0 hS [(0, 1)] [(4, .sk 0), (5, .v (.int .i64 0))] [(0, .sl 5 [.int .u8] (encode10_l1 f 256))] 1 (by kernel_rfl) (by kernel_rfl) ⟨rfl, trivial⟩
    exact fin_x (.inr rfl) hS (ds := [.sk 0, .v (.int .i64 0)]) (by kernel_rfl) rfl (by show H1Ok _ [(0, .sl 5 [.int .u8] (encode10_m f))] true; rw [hM]; first | (simp only []; exact ⟨rfl, trivial⟩) | exact ⟨rfl, trivial⟩)

noncomputable def unpack10_l2_s (xs : List Int) (x8 : Nat) (o4_0 : Nat → Int) (x12 : Nat) : (Nat → Int) → (Nat → Int) := fun o4_0_2 => upd o4_0_2 x8 (ior .u16 (o4_0_2 x8) (ishl .u16 (IntKind.wrap .u16 (iand .u8 (ishr .u8 (xs.getD (((x8 * 10) + x12) / 8) 0) ((((x8 * 10) + x12) % 8 : Nat) : Int)) 1)) ((x12 : Nat) : Int)))
noncomputable def unpack10_l2 (xs : List Int) (x8 : Nat) (o4_0 : Nat → Int) : Nat → (Nat → Int)
  | 0 => o4_0
  | x12 + 1 => unpack10_l2_s xs x8 o4_0 x12 (unpack10_l2 xs x8 o4_0 x12)
noncomputable def unpack10_l1_s (xs : List Int) (x8 : Nat) : (Nat → Int) → (Nat → Int) := fun o4_0 => unpack10_l2 xs x8 o4_0 10
noncomputable def unpack10_l1 (xs : List Int) : Nat → (Nat → Int)
  | 0 => fun _ => 0
  | x8 + 1 => unpack10_l1_s xs x8 (unpack10_l1 xs x8)
noncomputable def unpack10_v (xs : List Int) : (Nat → Int) := unpack10_l1 xs 256
noncomputable def unpack10_m (xs : List Int) : (Nat → Int) := shut (unpack10_v xs)
theorem unpack10_e (xs : List Int) : unpack10_m xs = unpack10_v xs := shut_eq _
noncomputable def c_unpack10 (xs : List Int) : Con := ⟨[.v (.int .i64 10), .ls false [.int .u8] xs], [], .ar .u16 256 (unpack10_m xs), []⟩
set_option maxRecDepth 100000 in
set_option maxHeartbeats 4000000 in
theorem unpack10_ok (xs : List Int) (h : 320 ≤ xs.length) : ConOk Try.prog 64 (c_unpack10 xs) := by
  refine conOk_of (nb := 0) Try.func64 rfl rfl Try.ntmps64 rfl rfl rfl fun g0 w0 ac gs ws hg0 hS => ?_
  have hlen1 : xs.length ≤ 9223372036854775807 := hS.len 1 rfl
  refine wp_seq ?_
  refine region_a (E := E0) mo hZ [] trivial (fun _ => []) [0, 1, 4] [0] [(0, .v (.int .i64 10)), (1, .ls false [.int .u8] xs), (4, .cp 0 0)] [(0, some (.ob 60 (chain [.ar .u16 256 (fun _ => 0)])))] 1 (by kernel_rfl) trivial rfl hS fun ac gs ws hS => ?_
  refine then_n ?_
  refine wp_seq ?_
  refine wp_seq ?_
  refine region_a (E := E0) mo hZ [] trivial (fun _ => []) [0, 1, 4, 8] [0] [(0, .v (.int .i64 10)), (1, .ls false [.int .u8] xs), (4, .cp 0 0), (8, .v (.int .i64 0))] [(0, some (.ob 60 (chain [.ar .u16 256 (fun _ => 0)])))] 1 (by kernel_rfl) trivial rfl hS fun ac gs ws hS => ?_
  refine then_n ?_
  refine wp_block ?_
  refine loop_r (σ := Nat × (Nat → Int)) hg0 hS (fun z_ => match z_ with | (x8, o4_0) => 256 - x8) (fun z_ => match z_ with | (x8, o4_0) => [(0, .v (.int .i64 10)), (1, .ls false [.int .u8] xs), (4, .cp 0 0), (8, .v (.int .i64 ((x8 : Nat) : Int)))]) (fun z_ => match z_ with | (x8, o4_0) => [(0, .ob 60 (chain [.ar .u16 256 o4_0]))]) (fun z_ => match z_ with | (x8, o4_0) => (x8 ≤ 256) ∧ (o4_0 = unpack10_l1 xs x8) ∧ True) 1 (0, fun _ => 0) [(0, 0)] (by kernel_rfl) (by kernel_rfl) ⟨rfl, trivial⟩ ⟨(by omega), rfl, trivial⟩ ?_
  rintro ⟨x8, o4_0⟩ ac gs ws ⟨hx8, hq1, _⟩ hS
  refine wp_seq ?_
  refine region_a (E := E0) mo hZ [] trivial (fun _ => []) [0, 1, 4, 8, 9] [0] [(0, .v (.int .i64 10)), (1, .ls false [.int .u8] xs), (4, .cp 0 0), (8, .v (.int .i64 ((x8 : Nat) : Int))), (9, .v (.bool (decide (((x8 : Nat) : Int) < 256))))] [(0, some (.ob 60 (chain [.ar .u16 256 o4_0])))] 1 (by kernel_rfl) trivial rfl hS fun ac gs ws hS => ?_
  refine then_n ?_
  refine wp_seq ?_
  refine if_x hS rfl (fun h => ?_) (fun h => ?_)
  · skip
    have h1 := of_decide_eq_true h
    clear h
    refine wp_skip ?_
    refine then_n ?_
    refine wp_seq ?_
    refine wp_block ?_
    refine wp_seq ?_
    refine region_a (E := E0) mo hZ [] trivial (fun _ => []) [0, 1, 4, 5, 8] [0] [(0, .v (.int .i64 10)), (1, .ls false [.int .u8] xs), (4, .cp 0 0), (5, .v (.int .i64 ((x8 : Nat) : Int))), (8, .v (.int .i64 ((x8 : Nat) : Int)))] [(0, some (.ob 60 (chain [.ar .u16 256 o4_0])))] 1 (by kernel_rfl) trivial rfl hS fun ac gs ws hS => ?_
    refine then_n ?_
    refine wp_seq ?_
    refine region_a (E := E0) mo hZ [] trivial (fun _ => []) [0, 1, 4, 5, 8, 11, 12] [0] [(0, .v (.int .i64 10)), (1, .ls false [.int .u8] xs), (4, .cp 0 0), (5, .v (.int .i64 ((x8 : Nat) : Int))), (8, .v (.int .i64 ((x8 : Nat) : Int))), (11, .v (.int .i64 10)), (12, .v (.int .i64 0))] [(0, some (.ob 60 (chain [.ar .u16 256 o4_0])))] 1 (by kernel_rfl) trivial rfl hS fun ac gs ws hS => ?_
    refine then_n ?_
    refine wp_block ?_
    refine loop_r (σ := Nat × (Nat → Int)) hg0 hS (fun z_ => match z_ with | (x12, o4_0_2) => 10 - x12) (fun z_ => match z_ with | (x12, o4_0_2) => [(0, .v (.int .i64 10)), (1, .ls false [.int .u8] xs), (4, .cp 0 0), (5, .v (.int .i64 ((x8 : Nat) : Int))), (8, .v (.int .i64 ((x8 : Nat) : Int))), (11, .v (.int .i64 10)), (12, .v (.int .i64 ((x12 : Nat) : Int)))]) (fun z_ => match z_ with | (x12, o4_0_2) => [(0, .ob 60 (chain [.ar .u16 256 o4_0_2]))]) (fun z_ => match z_ with | (x12, o4_0_2) => (x12 ≤ 10) ∧ (o4_0_2 = unpack10_l2 xs x8 o4_0 x12) ∧ True) 1 (0, o4_0) [(0, 0)] (by kernel_rfl) (by kernel_rfl) ⟨rfl, trivial⟩ ⟨(by omega), rfl, trivial⟩ ?_
    rintro ⟨x12, o4_0_2⟩ ac gs ws ⟨hx12, hq2, _⟩ hS
    refine wp_seq ?_
    refine region_a (E := E0) mo hZ [] trivial (fun _ => []) [0, 1, 4, 5, 8, 11, 12, 13] [0] [(0, .v (.int .i64 10)), (1, .ls false [.int .u8] xs), (4, .cp 0 0), (5, .v (.int .i64 ((x8 : Nat) : Int))), (8, .v (.int .i64 ((x8 : Nat) : Int))), (11, .v (.int .i64 10)), (12, .v (.int .i64 ((x12 : Nat) : Int))), (13, .v (.bool (decide (((x12 : Nat) : Int) < 10))))] [(0, some (.ob 60 (chain [.ar .u16 256 o4_0_2])))] 1 (by kernel_rfl) trivial rfl hS fun ac gs ws hS => ?_
    refine then_n ?_
    refine wp_seq ?_
    refine if_x hS rfl (fun h => ?_) (fun h => ?_)
    · skip
      have h2 := of_decide_eq_true h
      clear h
      refine wp_skip ?_
      refine then_n ?_
      refine wp_seq ?_
      refine wp_block ?_
      refine wp_seq ?_
      refine region_a (E := E0) mo hZ [] trivial (fun _ => []) [0, 1, 4, 5, 6, 8, 11, 12] [0] [(0, .v (.int .i64 10)), (1, .ls false [.int .u8] xs), (4, .cp 0 0), (5, .v (.int .i64 ((x8 : Nat) : Int))), (6, .v (.int .i64 ((x12 : Nat) : Int))), (8, .v (.int .i64 ((x8 : Nat) : Int))), (11, .v (.int .i64 10)), (12, .v (.int .i64 ((x12 : Nat) : Int)))] [(0, some (.ob 60 (chain [.ar .u16 256 o4_0_2])))] 1 (by kernel_rfl) trivial rfl hS fun ac gs ws hS => ?_
      refine then_n ?_
      refine wp_seq ?_
      refine region_a (E := E0) mo hZ [(2, .oi ((x8 * 10 : Nat) : Int)), (4, .oi (((x8 * 10) + x12 : Nat) : Int))] trivial (fun _ => [imul .i64 ((x8 : Nat) : Int) 10 = ((x8 * 10 : Nat) : Int), iadd .i64 ((x8 * 10 : Nat) : Int) ((x12 : Nat) : Int) = (((x8 * 10) + x12 : Nat) : Int)]) [0, 1, 4, 5, 6, 7, 8, 11, 12] [0] [(0, .v (.int .i64 10)), (1, .ls false [.int .u8] xs), (4, .cp 0 0), (5, .v (.int .i64 ((x8 : Nat) : Int))), (6, .v (.int .i64 ((x12 : Nat) : Int))), (7, .v (.int .i64 (((x8 * 10) + x12 : Nat) : Int))), (8, .v (.int .i64 ((x8 : Nat) : Int))), (11, .v (.int .i64 10)), (12, .v (.int .i64 ((x12 : Nat) : Int)))] [(0, some (.ob 60 (chain [.ar .u16 256 o4_0_2])))] 1 (by kernel_rfl) ⟨by rw [imul64 (by omega) (by omega)]; omega, by rw [iadd64 (by omega) (by omega)]; omega, trivial⟩ rfl hS fun ac gs ws hS => ?_
      refine then_n ?_
      refine region_a (E := E0) mo hZ [(5, .oi ((((x8 * 10) + x12) / 8 : Nat) : Int)), (9, .oi ((((x8 * 10) + x12) % 8 : Nat) : Int))] trivial (fun _ => [(0 : Int) ≤ ((x8 : Nat) : Int) ∧ (((x8 : Nat) : Int) : Int) < 256, iquo .i64 (((x8 * 10) + x12 : Nat) : Int) 8 = ((((x8 * 10) + x12) / 8 : Nat) : Int), (8 : Int) ≠ 0, (0 : Int) ≤ ((((x8 * 10) + x12) / 8 : Nat) : Int) ∧ ((((x8 * 10) + x12) / 8 : Nat) : Int) < ((xs.length : Nat) : Int), irem (((x8 * 10) + x12 : Nat) : Int) 8 = ((((x8 * 10) + x12) % 8 : Nat) : Int), (8 : Int) ≠ 0, (0 : Int) ≤ ((((x8 * 10) + x12) % 8 : Nat) : Int), (0 : Int) ≤ ((x12 : Nat) : Int), (0 : Int) ≤ ((x8 : Nat) : Int) ∧ (((x8 : Nat) : Int) : Int) < 256]) [0, 1, 4, 5, 8, 11, 12] [0] [(0, .v (.int .i64 10)), (1, .ls false [.int .u8] xs), (4, .cp 0 0), (5, .v (.int .i64 ((x8 : Nat) : Int))), (8, .v (.int .i64 ((x8 : Nat) : Int))), (11, .v (.int .i64 10)), (12, .v (.int .i64 ((x12 : Nat) : Int)))] [(0, some (.ob 60 (chain [.ar .u16 256 (upd o4_0_2 x8 (ior .u16 (o4_0_2 x8) (ishl .u16 (IntKind.wrap .u16 (iand .u8 (ishr .u8 (xs.getD (((x8 * 10) + x12) / 8) 0) ((((x8 * 10) + x12) % 8 : Nat) : Int)) 1)) ((x12 : Nat) : Int))))])))] 1 (by kernel_rfl) ⟨by omega, by rw [iquo64 (by omega) (by omega) (by omega)]; omega, by omega, by omega, by rw [irem64 (by omega)]; omega, by omega, by omega, by omega, by omega, trivial⟩ rfl hS fun ac gs ws hS => ?_
      refine block_n ?_
      refine then_n ?_
      refine region_a (E := E0) mo hZ [(0, .oi ((x12 + 1 : Nat) : Int))] trivial (fun _ => [iadd .i64 ((x12 : Nat) : Int) 1 = ((x12 + 1 : Nat) : Int)]) [0, 1, 4, 5, 8, 11, 12] [0] [(0, .v (.int .i64 10)), (1, .ls false [.int .u8] xs), (4, .cp 0 0), (5, .v (.int .i64 ((x8 : Nat) : Int))), (8, .v (.int .i64 ((x8 : Nat) : Int))), (11, .v (.int .i64 10)), (12, .v (.int .i64 ((x12 + 1 : Nat) : Int)))] [(0, some (.ob 60 (chain [.ar .u16 256 (upd o4_0_2 x8 (ior .u16 (o4_0_2 x8) (ishl .u16 (IntKind.wrap .u16 (iand .u8 (ishr .u8 (xs.getD (((x8 * 10) + x12) / 8) 0) ((((x8 * 10) + x12) % 8 : Nat) : Int)) 1)) ((x12 : Nat) : Int))))])))] 1 (by kernel_rfl) ⟨by rw [iadd64 (by omega) (by omega)]; omega, trivial⟩ rfl hS fun ac gs ws hS => ?_
      refine then_n ?_
      exact next_r hg0 hS (s := (x12, o4_0_2)) (x12 + 1, upd o4_0_2 x8 (ior .u16 (o4_0_2 x8) (ishl .u16 (IntKind.wrap .u16 (iand .u8 (ishr .u8 (xs.getD (((x8 * 10) + x12) / 8) 0) ((((x8 * 10) + x12) % 8 : Nat) : Int)) 1)) ((x12 : Nat) : Int)))) [(0, 0)] (by kernel_rfl) (by kernel_rfl) ⟨rfl, trivial⟩ (show 10 - (x12 + 1) < 10 - x12 from by omega) ⟨(by omega), (it_next (F := unpack10_l2 xs x8 o4_0) (st := unpack10_l2_s xs x8 o4_0) (fun _ => rfl) hq2 rfl), trivial⟩
    · skip
      have h2 := of_decide_eq_false h
      clear h
      have hScur := hS
      obtain rfl : 10 = x12 := by omega
      obtain rfl : unpack10_l2 xs x8 o4_0 10 = o4_0_2 := Eq.symm (congrArg (fun z => z) hq2)
      have hS := hScur
      clear hScur
      refine wp_exit ?_
      refine then_exit ?_
      refine then_exit ?_
      refine block_exit ?_
      refine block_n ?_
      refine then_n ?_
      refine region_a (E := E0) mo hZ [(0, .oi ((x8 + 1 : Nat) : Int))] trivial (fun _ => [iadd .i64 ((x8 : Nat) : Int) 1 = ((x8 + 1 : Nat) : Int)]) [0, 1, 4, 8] [0] [(0, .v (.int .i64 10)), (1, .ls false [.int .u8] xs), (4, .cp 0 0), (8, .v (.int .i64 ((x8 + 1 : Nat) : Int)))] [(0, some (.ob 60 (chain [.ar .u16 256 (unpack10_l2 xs x8 o4_0 10)])))] 1 (by kernel_rfl) ⟨by rw [iadd64 (by omega) (by omega)]; omega, trivial⟩ rfl hS fun ac gs ws hS => ?_
      refine then_n ?_
      exact next_r hg0 hS (s := (x8, o4_0)) (x8 + 1, unpack10_l2 xs x8 o4_0 10) [(0, 0)] (by kernel_rfl) (by kernel_rfl) ⟨rfl, trivial⟩ (show 256 - (x8 + 1) < 256 - x8 from by omega) ⟨(by omega), (it_next (F := unpack10_l1 xs) (st := unpack10_l1_s xs) (fun _ => rfl) hq1 rfl), trivial⟩
  · skip
    have h1 := of_decide_eq_false h
    clear h
    have hScur := hS
    obtain rfl : 256 = x8 := by omega
    obtain rfl : unpack10_l1 xs 256 = o4_0 := Eq.symm (congrArg (fun z => z) hq1)
    have hS := hScur
    clear hScur
    refine wp_exit ?_
    refine then_exit ?_
    refine then_exit ?_
    refine block_exit ?_
    refine then_n ?_
    refine wp_seq ?_
    refine region_a (E := E0) mo hZ [] trivial (fun _ => []) [4] [0] [(4, .cp 0 0)] [(0, some (.ob 60 (chain [.ar .u16 256 (unpack10_l1 xs 256)])))] 1 (by kernel_rfl) trivial rfl hS fun ac gs ws hS => ?_
    refine then_n ?_
    refine wp_ret ?_
    have hM : unpack10_m xs = unpack10_l1 xs 256 := unpack10_e xs
    exact fin_x (.inr rfl) hS (ds := [.ar .u16 256 (unpack10_l1 xs 256)]) (by kernel_rfl) (by show weak _ (.ar .u16 256 (unpack10_m xs)) = (.ar .u16 256 (unpack10_m xs)); rw [hM]; first | (simp only []; rfl) | (simp only []; done) | rfl) trivial

noncomputable def encode4_l2_s (f : Nat → Int) (x21 : Nat) (x6 : List Int) (x30 : Nat) : (List Int) → (List Int) := fun x6_2 => x6_2.set (((x21 * 4) + x30) / 8) (ior .u8 (x6_2.getD (((x21 * 4) + x30) / 8) 0) (ishl .u8 (IntKind.wrap .u8 (iand .u16 (ishr .u16 (f x21) ((x30 : Nat) : Int)) 1)) ((((x21 * 4) + x30) % 8 : Nat) : Int)))
noncomputable def encode4_l2 (f : Nat → Int) (x21 : Nat) (x6 : List Int) : Nat → (List Int)
  | 0 => x6
  | x30 + 1 => encode4_l2_s f x21 x6 x30 (encode4_l2 f x21 x6 x30)
noncomputable def encode4_l1_s (f : Nat → Int) (x21 : Nat) : (List Int) → (List Int) := fun x6 => encode4_l2 f x21 x6 4
noncomputable def encode4_l1 (f : Nat → Int) : Nat → (List Int)
  | 0 => List.replicate 128 (0 : Int)
  | x21 + 1 => encode4_l1_s f x21 (encode4_l1 f x21)
noncomputable def encode4_v (f : Nat → Int) : (List Int) := encode4_l1 f 256
noncomputable def encode4_m (f : Nat → Int) : (List Int) := shut (encode4_v f)
theorem encode4_e (f : Nat → Int) : encode4_m f = encode4_v f := shut_eq _
noncomputable def c_encode4 (f : Nat → Int) : Con := ⟨[.ar .u16 256 f, .v (.int .i64 4)], [], .tu (chain [.sk 0, .v (.int .i64 0)]), [(0, .sl 5 [.int .u8] (encode4_m f))]⟩
set_option maxRecDepth 100000 in
set_option maxHeartbeats 4000000 in
theorem encode4_ok (f : Nat → Int) : ConOk Try.prog 76 (c_encode4 f) := by
  refine conOk_of (nb := 0) Try.func76 rfl rfl Try.ntmps76 rfl rfl rfl fun g0 w0 ac gs ws hg0 hS => ?_
  refine wp_seq ?_
  refine region_a (E := E0) mo hZ [] trivial (fun _ => []) [1, 2, 4, 5] [0] [(1, .v (.int .i64 4)), (2, .cp 0 0), (4, .v (.slice none 0 0)), (5, .v (.int .i64 0))] [(0, some (.ob 60 (chain [.ar .u16 256 f])))] 1 (by kernel_rfl) trivial rfl hS fun ac gs ws hS => ?_
  refine then_n ?_
  refine wp_seq ?_
  refine wp_seq ?_
  refine region_a (E := E0) mo hZ [] trivial (fun _ => []) [1, 2, 4, 5, 16] [0] [(1, .v (.int .i64 4)), (2, .cp 0 0), (4, .v (.slice none 0 0)), (5, .v (.int .i64 0)), (16, .v (.bool false))] [(0, some (.ob 60 (chain [.ar .u16 256 f])))] 1 (by kernel_rfl) trivial rfl hS fun ac gs ws hS => ?_
  refine then_n ?_
  refine wp_cond_false (hS.fx.frm.eval rfl) ?_
  refine wp_skip ?_
  refine then_n ?_
  refine wp_seq ?_
  refine region_a (E := E0) mo hZ [] trivial (fun _ => [(128 : Int) = 128, (0 : Int) ≤ 128, 1 * 128 ≤ 281474976710656, (128 : Int) ≤ 9223372036854775807]) [1, 2, 4, 5, 6] [0, 1] [(1, .v (.int .i64 4)), (2, .cp 0 0), (4, .v (.slice none 0 0)), (5, .v (.int .i64 0)), (6, .sk 1)] [(0, some (.ob 60 (chain [.ar .u16 256 f]))), (1, some (.sl 5 [.int .u8] (List.replicate 128 (0 : Int))))] 2 (by kernel_rfl) ⟨rfl, by omega, by omega, by omega, trivial⟩ rfl hS fun ac gs ws hS => ?_
  refine then_n ?_
  refine wp_seq ?_
  refine wp_seq ?_
  refine region_a (E := E0) mo hZ [] trivial (fun _ => []) [1, 4, 5, 6, 20, 21] [1] [(1, .v (.int .i64 4)), (4, .v (.slice none 0 0)), (5, .v (.int .i64 0)), (6, .sk 1), (20, .ar .u16 256 f), (21, .v (.int .i64 0))] [(1, some (.sl 5 [.int .u8] (List.replicate 128 (0 : Int))))] 2 (by kernel_rfl) trivial rfl hS fun ac gs ws hS => ?_
  refine then_n ?_
  refine wp_block ?_
  refine loop_r (σ := Nat × (List Int)) hg0 hS (fun z_ => match z_ with | (x21, x6) => 256 - x21) (fun z_ => match z_ with | (x21, x6) => [(1, .v (.int .i64 4)), (4, .v (.slice none 0 0)), (5, .v (.int .i64 0)), (6, .sk 1), (20, .ar .u16 256 f), (21, .v (.int .i64 ((x21 : Nat) : Int)))]) (fun z_ => match z_ with | (x21, x6) => [(1, .sl 5 [.int .u8] x6)]) (fun z_ => match z_ with | (x21, x6) => (x21 ≤ 256) ∧ (x6 = encode4_l1 f x21) ∧ (x6.length = 128) ∧ True) 2 (0, List.replicate 128 (0 : Int)) [(1, 1)] (by kernel_rfl) (by kernel_rfl) ⟨rfl, trivial⟩ ⟨(by omega), rfl, (by simp), trivial⟩ ?_
  rintro ⟨x21, x6⟩ ac gs ws ⟨hx21, hq1, p1, _⟩ hS
  refine wp_seq ?_
  refine region_a (E := E0) mo hZ [] trivial (fun _ => []) [1, 4, 5, 6, 20, 21, 22] [1] [(1, .v (.int .i64 4)), (4, .v (.slice none 0 0)), (5, .v (.int .i64 0)), (6, .sk 1), (20, .ar .u16 256 f), (21, .v (.int .i64 ((x21 : Nat) : Int))), (22, .v (.bool (decide (((x21 : Nat) : Int) < 256))))] [(1, some (.sl 5 [.int .u8] x6))] 2 (by kernel_rfl) trivial rfl hS fun ac gs ws hS => ?_
  refine then_n ?_
  refine wp_seq ?_
  refine if_x hS rfl (fun h => ?_) (fun h => ?_)
  · skip
    have h1 := of_decide_eq_true h
    clear h
    refine wp_skip ?_
    refine then_n ?_
    refine wp_seq ?_
    refine wp_block ?_
    refine wp_seq ?_
    refine region_a (E := E0) mo hZ [] trivial (fun _ => [(0 : Int) ≤ ((x21 : Nat) : Int) ∧ (((x21 : Nat) : Int) : Int) < 256]) [1, 4, 5, 6, 7, 8, 20, 21] [1] [(1, .v (.int .i64 4)), (4, .v (.slice none 0 0)), (5, .v (.int .i64 0)), (6, .sk 1), (7, .v (.int .i64 ((x21 : Nat) : Int))), (8, .v (.int .u16 (f x21))), (20, .ar .u16 256 f), (21, .v (.int .i64 ((x21 : Nat) : Int)))] [(1, some (.sl 5 [.int .u8] x6))] 2 (by kernel_rfl) ⟨by omega, trivial⟩ rfl hS fun ac gs ws hS => ?_
    refine then_n ?_
    refine wp_seq ?_
    refine wp_seq ?_
    refine region_a (E := E0) mo hZ [] trivial (fun _ => []) [1, 4, 5, 6, 7, 8, 20, 21, 26] [1] [(1, .v (.int .i64 4)), (4, .v (.slice none 0 0)), (5, .v (.int .i64 0)), (6, .sk 1), (7, .v (.int .i64 ((x21 : Nat) : Int))), (8, .v (.int .u16 (f x21))), (20, .ar .u16 256 f), (21, .v (.int .i64 ((x21 : Nat) : Int))), (26, .v (.bool false))] [(1, some (.sl 5 [.int .u8] x6))] 2 (by kernel_rfl) trivial rfl hS fun ac gs ws hS => ?_
    refine then_n ?_
    refine wp_cond_false (hS.fx.frm.eval rfl) ?_
    refine wp_skip ?_
    refine then_n ?_
    refine wp_seq ?_
    refine region_a (E := E0) mo hZ [] trivial (fun _ => []) [1, 4, 5, 6, 7, 8, 20, 21, 29, 30] [1] [(1, .v (.int .i64 4)), (4, .v (.slice none 0 0)), (5, .v (.int .i64 0)), (6, .sk 1), (7, .v (.int .i64 ((x21 : Nat) : Int))), (8, .v (.int .u16 (f x21))), (20, .ar .u16 256 f), (21, .v (.int .i64 ((x21 : Nat) : Int))), (29, .v (.int .i64 4)), (30, .v (.int .i64 0))] [(1, some (.sl 5 [.int .u8] x6))] 2 (by kernel_rfl) trivial rfl hS fun ac gs ws hS => ?_
    refine then_n ?_
    refine wp_block ?_
    refine loop_r (σ := Nat × (List Int)) hg0 hS (fun z_ => match z_ with | (x30, x6_2) => 4 - x30) (fun z_ => match z_ with | (x30, x6_2) => [(1, .v (.int .i64 4)), (4, .v (.slice none 0 0)), (5, .v (.int .i64 0)), (6, .sk 1), (7, .v (.int .i64 ((x21 : Nat) : Int))), (8, .v (.int .u16 (f x21))), (20, .ar .u16 256 f), (21, .v (.int .i64 ((x21 : Nat) : Int))), (29, .v (.int .i64 4)), (30, .v (.int .i64 ((x30 : Nat) : Int)))]) (fun z_ => match z_ with | (x30, x6_2) => [(1, .sl 5 [.int .u8] x6_2)]) (fun z_ => match z_ with | (x30, x6_2) => (x30 ≤ 4) ∧ (x6_2 = encode4_l2 f x21 x6 x30) ∧ (x6_2.length = 128) ∧ True) 2 (0, x6) [(1, 1)] (by kernel_rfl) (by kernel_rfl) ⟨rfl, trivial⟩ ⟨(by omega), rfl, p1, trivial⟩ ?_
    rintro ⟨x30, x6_2⟩ ac gs ws ⟨hx30, hq2, p2, _⟩ hS
    refine wp_seq ?_
    refine region_a (E := E0) mo hZ [] trivial (fun _ => []) [1, 4, 5, 6, 7, 8, 20, 21, 29, 30, 31] [1] [(1, .v (.int .i64 4)), (4, .v (.slice none 0 0)), (5, .v (.int .i64 0)), (6, .sk 1), (7, .v (.int .i64 ((x21 : Nat) : Int))), (8, .v (.int .u16 (f x21))), (20, .ar .u16 256 f), (21, .v (.int .i64 ((x21 : Nat) : Int))), (29, .v (.int .i64 4)), (30, .v (.int .i64 ((x30 : Nat) : Int))), (31, .v (.bool (decide (((x30 : Nat) : Int) < 4))))] [(1, some (.sl 5 [.int .u8] x6_2))] 2 (by kernel_rfl) trivial rfl hS fun ac gs ws hS => ?_
    refine then_n ?_
    refine wp_seq ?_
    refine if_x hS rfl (fun h => ?_) (fun h => ?_)
    · skip
      have h2 := of_decide_eq_true h
      clear h
      refine wp_skip ?_
      refine then_n ?_
      refine wp_seq ?_
      refine wp_block ?_
      refine wp_seq ?_
      refine region_a (E := E0) mo hZ [] trivial (fun _ => []) [1, 4, 5, 6, 7, 8, 9, 20, 21, 29, 30] [1] [(1, .v (.int .i64 4)), (4, .v (.slice none 0 0)), (5, .v (.int .i64 0)), (6, .sk 1), (7, .v (.int .i64 ((x21 : Nat) : Int))), (8, .v (.int .u16 (f x21))), (9, .v (.int .i64 ((x30 : Nat) : Int))), (20, .ar .u16 256 f), (21, .v (.int .i64 ((x21 : Nat) : Int))), (29, .v (.int .i64 4)), (30, .v (.int .i64 ((x30 : Nat) : Int)))] [(1, some (.sl 5 [.int .u8] x6_2))] 2 (by kernel_rfl) trivial rfl hS fun ac gs ws hS => ?_
      refine then_n ?_
      refine wp_seq ?_
      refine region_a (E := E0) mo hZ [(2, .oi ((x21 * 4 : Nat) : Int)), (4, .oi (((x21 * 4) + x30 : Nat) : Int))] trivial (fun _ => [imul .i64 ((x21 : Nat) : Int) 4 = ((x21 * 4 : Nat) : Int), iadd .i64 ((x21 * 4 : Nat) : Int) ((x30 : Nat) : Int) = (((x21 * 4) + x30 : Nat) : Int)]) [1, 4, 5, 6, 7, 8, 9, 10, 20, 21, 29, 30] [1] [(1, .v (.int .i64 4)), (4, .v (.slice none 0 0)), (5, .v (.int .i64 0)), (6, .sk 1), (7, .v (.int .i64 ((x21 : Nat) : Int))), (8, .v (.int .u16 (f x21))), (9, .v (.int .i64 ((x30 : Nat) : Int))), (10, .v (.int .i64 (((x21 * 4) + x30 : Nat) : Int))), (20, .ar .u16 256 f), (21, .v (.int .i64 ((x21 : Nat) : Int))), (29, .v (.int .i64 4)), (30, .v (.int .i64 ((x30 : Nat) : Int)))] [(1, some (.sl 5 [.int .u8] x6_2))] 2 (by kernel_rfl) ⟨by rw [imul64 (by omega) (by omega)]; omega, by rw [iadd64 (by omega) (by omega)]; omega, trivial⟩ rfl hS fun ac gs ws hS => ?_
      refine then_n ?_
      refine region_a (E := E0) mo hZ [(2, .oi ((((x21 * 4) + x30) / 8 : Nat) : Int)), (11, .oi ((((x21 * 4) + x30) % 8 : Nat) : Int))] trivial (fun _ => [iquo .i64 (((x21 * 4) + x30 : Nat) : Int) 8 = ((((x21 * 4) + x30) / 8 : Nat) : Int), (8 : Int) ≠ 0, (0 : Int) ≤ ((((x21 * 4) + x30) / 8 : Nat) : Int) ∧ ((((x21 * 4) + x30) / 8 : Nat) : Int) < ((x6_2.length : Nat) : Int), (0 : Int) ≤ ((x30 : Nat) : Int), irem (((x21 * 4) + x30 : Nat) : Int) 8 = ((((x21 * 4) + x30) % 8 : Nat) : Int), (8 : Int) ≠ 0, (0 : Int) ≤ ((((x21 * 4) + x30) % 8 : Nat) : Int), (0 : Int) ≤ ((((x21 * 4) + x30) / 8 : Nat) : Int) ∧ ((((x21 * 4) + x30) / 8 : Nat) : Int) < ((x6_2.length : Nat) : Int)]) [1, 4, 5, 6, 7, 8, 20, 21, 29, 30] [1] [(1, .v (.int .i64 4)), (4, .v (.slice none 0 0)), (5, .v (.int .i64 0)), (6, .sk 1), (7, .v (.int .i64 ((x21 : Nat) : Int))), (8, .v (.int .u16 (f x21))), (20, .ar .u16 256 f), (21, .v (.int .i64 ((x21 : Nat) : Int))), (29, .v (.int .i64 4)), (30, .v (.int .i64 ((x30 : Nat) : Int)))] [(1, some (.sl 5 [.int .u8] (x6_2.set (((x21 * 4) + x30) / 8) (ior .u8 (x6_2.getD (((x21 * 4) + x30) / 8) 0) (ishl .u8 (IntKind.wrap .u8 (iand .u16 (ishr .u16 (f x21) ((x30 : Nat) : Int)) 1)) ((((x21 * 4) + x30) % 8 : Nat) : Int))))))] 2 (by kernel_rfl) ⟨by rw [iquo64 (by omega) (by omega) (by omega)]; omega, by omega, by omega, by omega, by rw [irem64 (by omega)]; omega, by omega, by omega, by omega, trivial⟩ rfl hS fun ac gs ws hS => ?_
      refine block_n ?_
      refine then_n ?_
      refine region_a (E := E0) mo hZ [(0, .oi ((x30 + 1 : Nat) : Int))] trivial (fun _ => [iadd .i64 ((x30 : Nat) : Int) 1 = ((x30 + 1 : Nat) : Int)]) [1, 4, 5, 6, 7, 8, 20, 21, 29, 30] [1] [(1, .v (.int .i64 4)), (4, .v (.slice none 0 0)), (5, .v (.int .i64 0)), (6, .sk 1), (7, .v (.int .i64 ((x21 : Nat) : Int))), (8, .v (.int .u16 (f x21))), (20, .ar .u16 256 f), (21, .v (.int .i64 ((x21 : Nat) : Int))), (29, .v (.int .i64 4)), (30, .v (.int .i64 ((x30 + 1 : Nat) : Int)))] [(1, some (.sl 5 [.int .u8] (x6_2.set (((x21 * 4) + x30) / 8) (ior .u8 (x6_2.getD (((x21 * 4) + x30) / 8) 0) (ishl .u8 (IntKind.wrap .u8 (iand .u16 (ishr .u16 (f x21) ((x30 : Nat) : Int)) 1)) ((((x21 * 4) + x30) % 8 : Nat) : Int))))))] 2 (by kernel_rfl) ⟨by rw [iadd64 (by omega) (by omega)]; omega, trivial⟩ rfl hS fun ac gs ws hS => ?_
      refine then_n ?_
      exact next_r hg0 hS (s := (x30, x6_2)) (x30 + 1, x6_2.set (((x21 * 4) + x30) / 8) (ior .u8 (x6_2.getD (((x21 * 4) + x30) / 8) 0) (ishl .u8 (IntKind.wrap .u8 (iand .u16 (ishr .u16 (f x21) ((x30 : Nat) : Int)) 1)) ((((x21 * 4) + x30) % 8 : Nat) : Int)))) [(1, 1)] (by kernel_rfl) (by kernel_rfl) ⟨rfl, trivial⟩ (show 4 - (x30 + 1) < 4 - x30 from by omega) ⟨(by omega), (it_next (F := encode4_l2 f x21 x6) (st := encode4_l2_s f x21 x6) (fun _ => rfl) hq2 rfl), (by simpa using p2), trivial⟩
    · skip
      have h2 := of_decide_eq_false h
      clear h
      have hScur := hS
      obtain rfl : 4 = x30 := by omega
      obtain rfl : encode4_l2 f x21 x6 4 = x6_2 := Eq.symm (congrArg (fun z => z) hq2)
      have hS := hScur
      clear hScur
      refine wp_exit ?_
      refine then_exit ?_
      refine then_exit ?_
      refine block_exit ?_
      refine block_n ?_
      refine then_n ?_
      refine region_a (E := E0) mo hZ [(0, .oi ((x21 + 1 : Nat) : Int))] trivial (fun _ => [iadd .i64 ((x21 : Nat) : Int) 1 = ((x21 + 1 : Nat) : Int)]) [1, 4, 5, 6, 20, 21] [1] [(1, .v (.int .i64 4)), (4, .v (.slice none 0 0)), (5, .v (.int .i64 0)), (6, .sk 1), (20, .ar .u16 256 f), (21, .v (.int .i64 ((x21 + 1 : Nat) : Int)))] [(1, some (.sl 5 [.int .u8] (encode4_l2 f x21 x6 4)))] 2 (by kernel_rfl) ⟨by rw [iadd64 (by omega) (by omega)]; omega, trivial⟩ rfl hS fun ac gs ws hS => ?_
      refine then_n ?_
      exact next_r hg0 hS (s := (x21, x6)) (x21 + 1, encode4_l2 f x21 x6 4) [(1, 1)] (by kernel_rfl) (by kernel_rfl) ⟨rfl, trivial⟩ (show 256 - (x21 + 1) < 256 - x21 from by omega) ⟨(by omega), (it_next (F := encode4_l1 f) (st := encode4_l1_s f) (fun _ => rfl) hq1 rfl), p2, trivial⟩
  · skip
    have h1 := of_decide_eq_false h
    clear h
    have hScur := hS
    obtain rfl : 256 = x21 := by omega
    obtain rfl : encode4_l1 f 256 = x6 := Eq.symm (congrArg (fun z => z) hq1)
    have hS := hScur
    clear hScur
    refine wp_exit ?_
    refine then_exit ?_
    refine then_exit ?_
    refine block_exit ?_
    refine then_n ?_
    refine wp_seq ?_
    refine region_a (E := E0) mo hZ [] trivial (fun _ => []) [4, 5] [1] [(4, .sk 1), (5, .v (.int .i64 0))] [(1, some (.sl 5 [.int .u8] (encode4_l1 f 256)))] 2 (by kernel_rfl) trivial rfl hS fun ac gs ws hS => ?_
    refine then_n ?_
    refine wp_ret ?_
    have hM : encode4_m f = encode4_l1 f 256 := encode4_e f
    obtain ⟨gs, hS⟩ := St.ren hg0 hS [(0, 1)] [(4, .sk 0), (5, .v (.int .i64 0))] [(0, .sl 5 [.int .u8] (encode4_l1 f 256))] 1 (by kernel_rfl) (by kernel_rfl) ⟨rfl, trivial⟩
    exact fin_x (.inr rfl) hS (ds := [.sk 0, .v (.int .i64 0)]) (by kernel_rfl) rfl (by show H1Ok _ [(0, .sl 5 [.int .u8] (encode4_m f))] true; rw [hM]; first | (simp only []; exact ⟨rfl, trivial⟩) | exact ⟨rfl, trivial⟩)

noncomputable def unpack4_l2_s (xs : List Int) (x8 : Nat) (o4_0 : Nat → Int) (x12 : Nat) : (Nat → Int) → (Nat → Int) := fun o4_0_2 => upd o4_0_2 x8 (ior .u16 (o4_0_2 x8) (ishl .u16 (IntKind.wrap .u16 (iand .u8 (ishr .u8 (xs.getD (((x8 * 4) + x12) / 8) 0) ((((x8 * 4) + x12) % 8 : Nat) : Int)) 1)) ((x12 : Nat) : Int)))
noncomputable def unpack4_l2 (xs : List Int) (x8 : Nat) (o4_0 : Nat → Int) : Nat → (Nat → Int)
  | 0 => o4_0
  | x12 + 1 => unpack4_l2_s xs x8 o4_0 x12 (unpack4_l2 xs x8 o4_0 x12)
noncomputable def unpack4_l1_s (xs : List Int) (x8 : Nat) : (Nat → Int) → (Nat → Int) := fun o4_0 => unpack4_l2 xs x8 o4_0 4
noncomputable def unpack4_l1 (xs : List Int) : Nat → (Nat → Int)
  | 0 => fun _ => 0
  | x8 + 1 => unpack4_l1_s xs x8 (unpack4_l1 xs x8)
noncomputable def unpack4_v (xs : List Int) : (Nat → Int) := unpack4_l1 xs 256
noncomputable def unpack4_m (xs : List Int) : (Nat → Int) := shut (unpack4_v xs)
theorem unpack4_e (xs : List Int) : unpack4_m xs = unpack4_v xs := shut_eq _
noncomputable def c_unpack4 (xs : List Int) : Con := ⟨[.v (.int .i64 4), .ls false [.int .u8] xs], [], .ar .u16 256 (unpack4_m xs), []⟩
set_option maxRecDepth 100000 in
set_option maxHeartbeats 4000000 in
theorem unpack4_ok (xs : List Int) (h : 128 ≤ xs.length) : ConOk Try.prog 64 (c_unpack4 xs) := by
  refine conOk_of (nb := 0) Try.func64 rfl rfl Try.ntmps64 rfl rfl rfl fun g0 w0 ac gs ws hg0 hS => ?_
  have hlen1 : xs.length ≤ 9223372036854775807 := hS.len 1 rfl
  refine wp_seq ?_
  refine region_a (E := E0) mo hZ [] trivial (fun _ => []) [0, 1, 4] [0] [(0, .v (.int .i64 4)), (1, .ls false [.int .u8] xs), (4, .cp 0 0)] [(0, some (.ob 60 (chain [.ar .u16 256 (fun _ => 0)])))] 1 (by kernel_rfl) trivial rfl hS fun ac gs ws hS => ?_
  refine then_n ?_
  refine wp_seq ?_
  refine wp_seq ?_
  refine region_a (E := E0) mo hZ [] trivial (fun _ => []) [0, 1, 4, 8] [0] [(0, .v (.int .i64 4)), (1, .ls false [.int .u8] xs), (4, .cp 0 0), (8, .v (.int .i64 0))] [(0, some (.ob 60 (chain [.ar .u16 256 (fun _ => 0)])))] 1 (by kernel_rfl) trivial rfl hS fun ac gs ws hS => ?_
  refine then_n ?_
  refine wp_block ?_
  refine loop_r (σ := Nat × (Nat → Int)) hg0 hS (fun z_ => match z_ with | (x8, o4_0) => 256 - x8) (fun z_ => match z_ with | (x8, o4_0) => [(0, .v (.int .i64 4)), (1, .ls false [.int .u8] xs), (4, .cp 0 0), (8, .v (.int .i64 ((x8 : Nat) : Int)))]) (fun z_ => match z_ with | (x8, o4_0) => [(0, .ob 60 (chain [.ar .u16 256 o4_0]))]) (fun z_ => match z_ with | (x8, o4_0) => (x8 ≤ 256) ∧ (o4_0 = unpack4_l1 xs x8) ∧ True) 1 (0, fun _ => 0) [(0, 0)] (by kernel_rfl) (by kernel_rfl) ⟨rfl, trivial⟩ ⟨(by omega), rfl, trivial⟩ ?_
  rintro ⟨x8, o4_0⟩ ac gs ws ⟨hx8, hq1, _⟩ hS
  refine wp_seq ?_
  refine region_a (E := E0) mo hZ [] trivial (fun _ => []) [0, 1, 4, 8, 9] [0] [(0, .v (.int .i64 4)), (1, .ls false [.int .u8] xs), (4, .cp 0 0), (8, .v (.int .i64 ((x8 : Nat) : Int))), (9, .v (.bool (decide (((x8 : Nat) : Int) < 256))))] [(0, some (.ob 60 (chain [.ar .u16 256 o4_0])))] 1 (by kernel_rfl) trivial rfl hS fun ac gs ws hS => ?_
  refine then_n ?_
  refine wp_seq ?_
  refine if_x hS rfl (fun h => ?_) (fun h => ?_)
  · skip
    have h1 := of_decide_eq_true h
    clear h
    refine wp_skip ?_
    refine then_n ?_
    refine wp_seq ?_
    refine wp_block ?_
    refine wp_seq ?_
    refine region_a (E := E0) mo hZ [] trivial (fun _ => []) [0, 1, 4, 5, 8] [0] [(0, .v (.int .i64 4)), (1, .ls false [.int .u8] xs), (4, .cp 0 0), (5, .v (.int .i64 ((x8 : Nat) : Int))), (8, .v (.int .i64 ((x8 : Nat) : Int)))] [(0, some (.ob 60 (chain [.ar .u16 256 o4_0])))] 1 (by kernel_rfl) trivial rfl hS fun ac gs ws hS => ?_
    refine then_n ?_
    refine wp_seq ?_
    refine region_a (E := E0) mo hZ [] trivial (fun _ => []) [0, 1, 4, 5, 8, 11, 12] [0] [(0, .v (.int .i64 4)), (1, .ls false [.int .u8] xs), (4, .cp 0 0), (5, .v (.int .i64 ((x8 : Nat) : Int))), (8, .v (.int .i64 ((x8 : Nat) : Int))), (11, .v (.int .i64 4)), (12, .v (.int .i64 0))] [(0, some (.ob 60 (chain [.ar .u16 256 o4_0])))] 1 (by kernel_rfl) trivial rfl hS fun ac gs ws hS => ?_
    refine then_n ?_
    refine wp_block ?_
    refine loop_r (σ := Nat × (Nat → Int)) hg0 hS (fun z_ => match z_ with | (x12, o4_0_2) => 4 - x12) (fun z_ => match z_ with | (x12, o4_0_2) => [(0, .v (.int .i64 4)), (1, .ls false [.int .u8] xs), (4, .cp 0 0), (5, .v (.int .i64 ((x8 : Nat) : Int))), (8, .v (.int .i64 ((x8 : Nat) : Int))), (11, .v (.int .i64 4)), (12, .v (.int .i64 ((x12 : Nat) : Int)))]) (fun z_ => match z_ with | (x12, o4_0_2) => [(0, .ob 60 (chain [.ar .u16 256 o4_0_2]))]) (fun z_ => match z_ with | (x12, o4_0_2) => (x12 ≤ 4) ∧ (o4_0_2 = unpack4_l2 xs x8 o4_0 x12) ∧ True) 1 (0, o4_0) [(0, 0)] (by kernel_rfl) (by kernel_rfl) ⟨rfl, trivial⟩ ⟨(by omega), rfl, trivial⟩ ?_
    rintro ⟨x12, o4_0_2⟩ ac gs ws ⟨hx12, hq2, _⟩ hS
    refine wp_seq ?_
    refine region_a (E := E0) mo hZ [] trivial (fun _ => []) [0, 1, 4, 5, 8, 11, 12, 13] [0] [(0, .v (.int .i64 4)), (1, .ls false [.int .u8] xs), (4, .cp 0 0), (5, .v (.int .i64 ((x8 : Nat) : Int))), (8, .v (.int .i64 ((x8 : Nat) : Int))), (11, .v (.int .i64 4)), (12, .v (.int .i64 ((x12 : Nat) : Int))), (13, .v (.bool (decide (((x12 : Nat) : Int) < 4))))] [(0, some (.ob 60 (chain [.ar .u16 256 o4_0_2])))] 1 (by kernel_rfl) trivial rfl hS fun ac gs ws hS => ?_
    refine then_n ?_
    refine wp_seq ?_
    refine if_x hS rfl (fun h => ?_) (fun h => ?_)
    · skip
      have h2 := of_decide_eq_true h
      clear h
      refine wp_skip ?_
      refine then_n ?_
      refine wp_seq ?_
      refine wp_block ?_
      refine wp_seq ?_
      refine region_a (E := E0) mo hZ [] trivial (fun _ => []) [0, 1, 4, 5, 6, 8, 11, 12] [0] [(0, .v (.int .i64 4)), (1, .ls false [.int .u8] xs), (4, .cp 0 0), (5, .v (.int .i64 ((x8 : Nat) : Int))), (6, .v (.int .i64 ((x12 : Nat) : Int))), (8, .v (.int .i64 ((x8 : Nat) : Int))), (11, .v (.int .i64 4)), (12, .v (.int .i64 ((x12 : Nat) : Int)))] [(0, some (.ob 60 (chain [.ar .u16 256 o4_0_2])))] 1 (by kernel_rfl) trivial rfl hS fun ac gs ws hS => ?_
      refine then_n ?_
      refine wp_seq ?_
      refine region_a (E := E0) mo hZ [(2, .oi ((x8 * 4 : Nat) : Int)), (4, .oi (((x8 * 4) + x12 : Nat) : Int))] trivial (fun _ => [imul .i64 ((x8 : Nat) : Int) 4 = ((x8 * 4 : Nat) : Int), iadd .i64 ((x8 * 4 : Nat) : Int) ((x12 : Nat) : Int) = (((x8 * 4) + x12 : Nat) : Int)]) [0, 1, 4, 5, 6, 7, 8, 11, 12] [0] [(0, .v (.int .i64 4)), (1, .ls false [.int .u8] xs), (4, .cp 0 0), (5, .v (.int .i64 ((x8 : Nat) : Int))), (6, .v (.int .i64 ((x12 : Nat) : Int))), (7, .v (.int .i64 (((x8 * 4) + x12 : Nat) : Int))), (8, .v (.int .i64 ((x8 : Nat) : Int))), (11, .v (.int .i64 4)), (12, .v (.int .i64 ((x12 : Nat) : Int)))] [(0, some (.ob 60 (chain [.ar .u16 256 o4_0_2])))] 1 (by kernel_rfl) ⟨by rw [imul64 (by omega) (by omega)]; omega, by rw [iadd64 (by omega) (by omega)]; omega, trivial⟩ rfl hS fun ac gs ws hS => ?_
      refine then_n ?_
      refine region_a (E := E0) mo hZ [(5, .oi ((((x8 * 4) + x12) / 8 : Nat) : Int)), (9, .oi ((((x8 * 4) + x12) % 8 : Nat) : Int))] trivial (fun _ => [(0 : Int) ≤ ((x8 : Nat) : Int) ∧ (((x8 : Nat) : Int) : Int) < 256, iquo .i64 (((x8 * 4) + x12 : Nat) : Int) 8 = ((((x8 * 4) + x12) / 8 : Nat) : Int), (8 : Int) ≠ 0, (0 : Int) ≤ ((((x8 * 4) + x12) / 8 : Nat) : Int) ∧ ((((x8 * 4) + x12) / 8 : Nat) : Int) < ((xs.length : Nat) : Int), irem (((x8 * 4) + x12 : Nat) : Int) 8 = ((((x8 * 4) + x12) % 8 : Nat) : Int), (8 : Int) ≠ 0, (0 : Int) ≤ ((((x8 * 4) + x12) % 8 : Nat) : Int), (0 : Int) ≤ ((x12 : Nat) : Int), (0 : Int) ≤ ((x8 : Nat) : Int) ∧ (((x8 : Nat) : Int) : Int) < 256]) [0, 1, 4, 5, 8, 11, 12] [0] [(0, .v (.int .i64 4)), (1, .ls false [.int .u8] xs), (4, .cp 0 0), (5, .v (.int .i64 ((x8 : Nat) : Int))), (8, .v (.int .i64 ((x8 : Nat) : Int))), (11, .v (.int .i64 4)), (12, .v (.int .i64 ((x12 : Nat) : Int)))] [(0, some (.ob 60 (chain [.ar .u16 256 (upd o4_0_2 x8 (ior .u16 (o4_0_2 x8) (ishl .u16 (IntKind.wrap .u16 (iand .u8 (ishr .u8 (xs.getD (((x8 * 4) + x12) / 8) 0) ((((x8 * 4) + x12) % 8 : Nat) : Int)) 1)) ((x12 : Nat) : Int))))])))] 1 (by kernel_rfl) ⟨by omega, by rw [iquo64 (by omega) (by omega) (by omega)]; omega, by omega, by omega, by rw [irem64 (by omega)]; omega, by omega, by omega, by omega, by omega, trivial⟩ rfl hS fun ac gs ws hS => ?_
      refine block_n ?_
      refine then_n ?_
      refine region_a (E := E0) mo hZ [(0, .oi ((x12 + 1 : Nat) : Int))] trivial (fun _ => [iadd .i64 ((x12 : Nat) : Int) 1 = ((x12 + 1 : Nat) : Int)]) [0, 1, 4, 5, 8, 11, 12] [0] [(0, .v (.int .i64 4)), (1, .ls false [.int .u8] xs), (4, .cp 0 0), (5, .v (.int .i64 ((x8 : Nat) : Int))), (8, .v (.int .i64 ((x8 : Nat) : Int))), (11, .v (.int .i64 4)), (12, .v (.int .i64 ((x12 + 1 : Nat) : Int)))] [(0, some (.ob 60 (chain [.ar .u16 256 (upd o4_0_2 x8 (ior .u16 (o4_0_2 x8) (ishl .u16 (IntKind.wrap .u16 (iand .u8 (ishr .u8 (xs.getD (((x8 * 4) + x12) / 8) 0) ((((x8 * 4) + x12) % 8 : Nat) : Int)) 1)) ((x12 : Nat) : Int))))])))] 1 (by kernel_rfl) ⟨by rw [iadd64 (by omega) (by omega)]; omega, trivial⟩ rfl hS fun ac gs ws hS => ?_
      refine then_n ?_
      exact next_r hg0 hS (s := (x12, o4_0_2)) (x12 + 1, upd o4_0_2 x8 (ior .u16 (o4_0_2 x8) (ishl .u16 (IntKind.wrap .u16 (iand .u8 (ishr .u8 (xs.getD (((x8 * 4) + x12) / 8) 0) ((((x8 * 4) + x12) % 8 : Nat) : Int)) 1)) ((x12 : Nat) : Int)))) [(0, 0)] (by kernel_rfl) (by kernel_rfl) ⟨rfl, trivial⟩ (show 4 - (x12 + 1) < 4 - x12 from by omega) ⟨(by omega), (it_next (F := unpack4_l2 xs x8 o4_0) (st := unpack4_l2_s xs x8 o4_0) (fun _ => rfl) hq2 rfl), trivial⟩
    · skip
      have h2 := of_decide_eq_false h
      clear h
      have hScur := hS
      obtain rfl : 4 = x12 := by omega
      obtain rfl : unpack4_l2 xs x8 o4_0 4 = o4_0_2 := Eq.symm (congrArg (fun z => z) hq2)
      have hS := hScur
      clear hScur
      refine wp_exit ?_
      refine then_exit ?_
      refine then_exit ?_
      refine block_exit ?_
      refine block_n ?_
      refine then_n ?_
      refine region_a (E := E0) mo hZ [(0, .oi ((x8 + 1 : Nat) : Int))] trivial (fun _ => [iadd .i64 ((x8 : Nat) : Int) 1 = ((x8 + 1 : Nat) : Int)]) [0, 1, 4, 8] [0] [(0, .v (.int .i64 4)), (1, .ls false [.int .u8] xs), (4, .cp 0 0), (8, .v (.int .i64 ((x8 + 1 : Nat) : Int)))] [(0, some (.ob 60 (chain [.ar .u16 256 (unpack4_l2 xs x8 o4_0 4)])))] 1 (by kernel_rfl) ⟨by rw [iadd64 (by omega) (by omega)]; omega, trivial⟩ rfl hS fun ac gs ws hS => ?_
      refine then_n ?_
      exact next_r hg0 hS (s := (x8, o4_0)) (x8 + 1, unpack4_l2 xs x8 o4_0 4) [(0, 0)] (by kernel_rfl) (by kernel_rfl) ⟨rfl, trivial⟩ (show 256 - (x8 + 1) < 256 - x8 from by omega) ⟨(by omega), (it_next (F := unpack4_l1 xs) (st := unpack4_l1_s xs) (fun _ => rfl) hq1 rfl), trivial⟩
  · skip
    have h1 := of_decide_eq_false h
    clear h
    have hScur := hS
    obtain rfl : 256 = x8 := by omega
    obtain rfl : unpack4_l1 xs 256 = o4_0 := Eq.symm (congrArg (fun z => z) hq1)
    have hS := hScur
    clear hScur
    refine wp_exit ?_
    refine then_exit ?_
    refine then_exit ?_
    refine block_exit ?_
    refine then_n ?_
    refine wp_seq ?_
    refine region_a (E := E0) mo hZ [] trivial (fun _ => []) [4] [0] [(4, .cp 0 0)] [(0, some (.ob 60 (chain [.ar .u16 256 (unpack4_l1 xs 256)])))] 1 (by kernel_rfl) trivial rfl hS fun ac gs ws hS => ?_
    refine then_n ?_
    refine wp_ret ?_
    have hM : unpack4_m xs = unpack4_l1 xs 256 := unpack4_e xs
    exact fin_x (.inr rfl) hS (ds := [.ar .u16 256 (unpack4_l1 xs 256)]) (by kernel_rfl) (by show weak _ (.ar .u16 256 (unpack4_m xs)) = (.ar .u16 256 (unpack4_m xs)); rw [hM]; first | (simp only []; rfl) | (simp only []; done) | rfl) trivial

noncomputable def encode1_l2_s (f : Nat → Int) (x21 : Nat) (x6 : List Int) (x30 : Nat) : (List Int) → (List Int) := fun x6_2 => x6_2.set ((x21 + x30) / 8) (ior .u8 (x6_2.getD ((x21 + x30) / 8) 0) (ishl .u8 (IntKind.wrap .u8 (iand .u16 (ishr .u16 (f x21) ((x30 : Nat) : Int)) 1)) (((x21 + x30) % 8 : Nat) : Int)))
noncomputable def encode1_l2 (f : Nat → Int) (x21 : Nat) (x6 : List Int) : Nat → (List Int)
  | 0 => x6
  | x30 + 1 => encode1_l2_s f x21 x6 x30 (encode1_l2 f x21 x6 x30)
noncomputable def encode1_l1_s (f : Nat → Int) (x21 : Nat) : (List Int) → (List Int) := fun x6 => encode1_l2 f x21 x6 1
noncomputable def encode1_l1 (f : Nat → Int) : Nat → (List Int)
  | 0 => List.replicate 32 (0 : Int)
  | x21 + 1 => encode1_l1_s f x21 (encode1_l1 f x21)
noncomputable def encode1_v (f : Nat → Int) : (List Int) := encode1_l1 f 256
noncomputable def encode1_m (f : Nat → Int) : (List Int) := shut (encode1_v f)
theorem encode1_e (f : Nat → Int) : encode1_m f = encode1_v f := shut_eq _
noncomputable def c_encode1 (f : Nat → Int) : Con := ⟨[.ar .u16 256 f, .v (.int .i64 1)], [], .tu (chain [.sk 0, .v (.int .i64 0)]), [(0, .sl 5 [.int .u8] (encode1_m f))]⟩
set_option maxRecDepth 100000 in
set_option maxHeartbeats 4000000 in
theorem encode1_ok (f : Nat → Int) : ConOk Try.prog 76 (c_encode1 f) := by
  refine conOk_of (nb := 0) Try.func76 rfl rfl Try.ntmps76 rfl rfl rfl fun g0 w0 ac gs ws hg0 hS => ?_
  refine wp_seq ?_
  refine region_a (E := E0) mo hZ [] trivial (fun _ => []) [1, 2, 4, 5] [0] [(1, .v (.int .i64 1)), (2, .cp 0 0), (4, .v (.slice none 0 0)), (5, .v (.int .i64 0))] [(0, some (.ob 60 (chain [.ar .u16 256 f])))] 1 (by kernel_rfl) trivial rfl hS fun ac gs ws hS => ?_
  refine then_n ?_
  refine wp_seq ?_
  refine wp_seq ?_
  refine region_a (E := E0) mo hZ [] trivial (fun _ => []) [1, 2, 4, 5, 16] [0] [(1, .v (.int .i64 1)), (2, .cp 0 0), (4, .v (.slice none 0 0)), (5, .v (.int .i64 0)), (16, .v (.bool false))] [(0, some (.ob 60 (chain [.ar .u16 256 f])))] 1 (by kernel_rfl) trivial rfl hS fun ac gs ws hS => ?_
  refine then_n ?_
  refine wp_cond_false (hS.fx.frm.eval rfl) ?_
  refine wp_skip ?_
  refine then_n ?_
  refine wp_seq ?_
  refine region_a (E := E0) mo hZ [] trivial (fun _ => [(32 : Int) = 32, (0 : Int) ≤ 32, 1 * 32 ≤ 281474976710656, (32 : Int) ≤ 9223372036854775807]) [1, 2, 4, 5, 6] [0, 1] [(1, .v (.int .i64 1)), (2, .cp 0 0), (4, .v (.slice none 0 0)), (5, .v (.int .i64 0)), (6, .sk 1)] [(0, some (.ob 60 (chain [.ar .u16 256 f]))), (1, some (.sl 5 [.int .u8] (List.replicate 32 (0 : Int))))] 2 (by kernel_rfl) ⟨rfl, by omega, by omega, by omega, trivial⟩ rfl hS fun ac gs ws hS => ?_
  refine then_n ?_
  refine wp_seq ?_
  refine wp_seq ?_
  refine region_a (E := E0) mo hZ [] trivial (fun _ => []) [1, 4, 5, 6, 20, 21] [1] [(1, .v (.int .i64 1)), (4, .v (.slice none 0 0)), (5, .v (.int .i64 0)), (6, .sk 1), (20, .ar .u16 256 f), (21, .v (.int .i64 0))] [(1, some (.sl 5 [.int .u8] (List.replicate 32 (0 : Int))))] 2 (by kernel_rfl) trivial rfl hS fun ac gs ws hS => ?_
  refine then_n ?_
  refine wp_block ?_
  refine loop_r (σ := Nat × (List Int)) hg0 hS (fun z_ => match z_ with | (x21, x6) => 256 - x21) (fun z_ => match z_ with | (x21, x6) => [(1, .v (.int .i64 1)), (4, .v (.slice none 0 0)), (5, .v (.int .i64 0)), (6, .sk 1), (20, .ar .u16 256 f), (21, .v (.int .i64 ((x21 : Nat) : Int)))]) (fun z_ => match z_ with | (x21, x6) => [(1, .sl 5 [.int .u8] x6)]) (fun z_ => match z_ with | (x21, x6) => (x21 ≤ 256) ∧ (x6 = encode1_l1 f x21) ∧ (x6.length = 32) ∧ True) 2 (0, List.replicate 32 (0 : Int)) [(1, 1)] (by kernel_rfl) (by kernel_rfl) ⟨rfl, trivial⟩ ⟨(by omega), rfl, (by simp), trivial⟩ ?_
  rintro ⟨x21, x6⟩ ac gs ws ⟨hx21, hq1, p1, _⟩ hS
  refine wp_seq ?_
  refine region_a (E := E0) mo hZ [] trivial (fun _ => []) [1, 4, 5, 6, 20, 21, 22] [1] [(1, .v (.int .i64 1)), (4, .v (.slice none 0 0)), (5, .v (.int .i64 0)), (6, .sk 1), (20, .ar .u16 256 f), (21, .v (.int .i64 ((x21 : Nat) : Int))), (22, .v (.bool (decide (((x21 : Nat) : Int) < 256))))] [(1, some (.sl 5 [.int .u8] x6))] 2 (by kernel_rfl) trivial rfl hS fun ac gs ws hS => ?_
  refine then_n ?_
  refine wp_seq ?_
  refine if_x hS rfl (fun h => ?_) (fun h => ?_)
  · skip
    have h1 := of_decide_eq_true h
    clear h
    refine wp_skip ?_
    refine then_n ?_
    refine wp_seq ?_
    refine wp_block ?_
    refine wp_seq ?_
    refine region_a (E := E0) mo hZ [] trivial (fun _ => [(0 : Int) ≤ ((x21 : Nat) : Int) ∧ (((x21 : Nat) : Int) : Int) < 256]) [1, 4, 5, 6, 7, 8, 20, 21] [1] [(1, .v (.int .i64 1)), (4, .v (.slice none 0 0)), (5, .v (.int .i64 0)), (6, .sk 1), (7, .v (.int .i64 ((x21 : Nat) : Int))), (8, .v (.int .u16 (f x21))), (20, .ar .u16 256 f), (21, .v (.int .i64 ((x21 : Nat) : Int)))] [(1, some (.sl 5 [.int .u8] x6))] 2 (by kernel_rfl) ⟨by omega, trivial⟩ rfl hS fun ac gs ws hS => ?_
    refine then_n ?_
    refine wp_seq ?_
    refine wp_seq ?_
    refine region_a (E := E0) mo hZ [] trivial (fun _ => []) [1, 4, 5, 6, 7, 8, 20, 21, 26] [1] [(1, .v (.int .i64 1)), (4, .v (.slice none 0 0)), (5, .v (.int .i64 0)), (6, .sk 1), (7, .v (.int .i64 ((x21 : Nat) : Int))), (8, .v (.int .u16 (f x21))), (20, .ar .u16 256 f), (21, .v (.int .i64 ((x21 : Nat) : Int))), (26, .v (.bool false))] [(1, some (.sl 5 [.int .u8] x6))] 2 (by kernel_rfl) trivial rfl hS fun ac gs ws hS => ?_
    refine then_n ?_
    refine wp_cond_false (hS.fx.frm.eval rfl) ?_
    refine wp_skip ?_
    refine then_n ?_
    refine wp_seq ?_
    refine region_a (E := E0) mo hZ [] trivial (fun _ => []) [1, 4, 5, 6, 7, 8, 20, 21, 29, 30] [1] [(1, .v (.int .i64 1)), (4, .v (.slice none 0 0)), (5, .v (.int .i64 0)), (6, .sk 1), (7, .v (.int .i64 ((x21 : Nat) : Int))), (8, .v (.int .u16 (f x21))), (20, .ar .u16 256 f), (21, .v (.int .i64 ((x21 : Nat) : Int))), (29, .v (.int .i64 1)), (30, .v (.int .i64 0))] [(1, some (.sl 5 [.int .u8] x6))] 2 (by kernel_rfl) trivial rfl hS fun ac gs ws hS => ?_
    refine then_n ?_
    refine wp_block ?_
    refine loop_r (σ := Nat × (List Int)) hg0 hS (fun z_ => match z_ with | (x30, x6_2) => 1 - x30) (fun z_ => match z_ with | (x30, x6_2) => [(1, .v (.int .i64 1)), (4, .v (.slice none 0 0)), (5, .v (.int .i64 0)), (6, .sk 1), (7, .v (.int .i64 ((x21 : Nat) : Int))), (8, .v (.int .u16 (f x21))), (20, .ar .u16 256 f), (21, .v (.int .i64 ((x21 : Nat) : Int))), (29, .v (.int .i64 1)), (30, .v (.int .i64 ((x30 : Nat) : Int)))]) (fun z_ => match z_ with | (x30, x6_2) => [(1, .sl 5 [.int .u8] x6_2)]) (fun z_ => match z_ with | (x30, x6_2) => (x30 ≤ 1) ∧ (x6_2 = encode1_l2 f x21 x6 x30) ∧ (x6_2.length = 32) ∧ True) 2 (0, x6) [(1, 1)] (by kernel_rfl) (by kernel_rfl) ⟨rfl, trivial⟩ ⟨(by omega), rfl, p1, trivial⟩ ?_
    rintro ⟨x30, x6_2⟩ ac gs ws ⟨hx30, hq2, p2, _⟩ hS
    refine wp_seq ?_
    refine region_a (E := E0) mo hZ [] trivial (fun _ => []) [1, 4, 5, 6, 7, 8, 20, 21, 29, 30, 31] [1] [(1, .v (.int .i64 1)), (4, .v (.slice none 0 0)), (5, .v (.int .i64 0)), (6, .sk 1), (7, .v (.int .i64 ((x21 : Nat) : Int))), (8, .v (.int .u16 (f x21))), (20, .ar .u16 256 f), (21, .v (.int .i64 ((x21 : Nat) : Int))), (29, .v (.int .i64 1)), (30, .v (.int .i64 ((x30 : Nat) : Int))), (31, .v (.bool (decide (((x30 : Nat) : Int) < 1))))] [(1, some (.sl 5 [.int .u8] x6_2))] 2 (by kernel_rfl) trivial rfl hS fun ac gs ws hS => ?_
    refine then_n ?_
    refine wp_seq ?_
    refine if_x hS rfl (fun h => ?_) (fun h => ?_)
    · skip
      have h2 := of_decide_eq_true h
      clear h
      refine wp_skip ?_
      refine then_n ?_
      refine wp_seq ?_
      refine wp_block ?_
      refine wp_seq ?_
      refine region_a (E := E0) mo hZ [] trivial (fun _ => []) [1, 4, 5, 6, 7, 8, 9, 20, 21, 29, 30] [1] [(1, .v (.int .i64 1)), (4, .v (.slice none 0 0)), (5, .v (.int .i64 0)), (6, .sk 1), (7, .v (.int .i64 ((x21 : Nat) : Int))), (8, .v (.int .u16 (f x21))), (9, .v (.int .i64 ((x30 : Nat) : Int))), (20, .ar .u16 256 f), (21, .v (.int .i64 ((x21 : Nat) : Int))), (29, .v (.int .i64 1)), (30, .v (.int .i64 ((x30 : Nat) : Int)))] [(1, some (.sl 5 [.int .u8] x6_2))] 2 (by kernel_rfl) trivial rfl hS fun ac gs ws hS => ?_
      refine then_n ?_
      refine wp_seq ?_
      refine region_a (E := E0) mo hZ [(2, .oi ((x21 : Nat) : Int)), (4, .oi ((x21 + x30 : Nat) : Int))] trivial (fun _ => [imul .i64 ((x21 : Nat) : Int) 1 = ((x21 : Nat) : Int), iadd .i64 ((x21 : Nat) : Int) ((x30 : Nat) : Int) = ((x21 + x30 : Nat) : Int)]) [1, 4, 5, 6, 7, 8, 9, 10, 20, 21, 29, 30] [1] [(1, .v (.int .i64 1)), (4, .v (.slice none 0 0)), (5, .v (.int .i64 0)), (6, .sk 1), (7, .v (.int .i64 ((x21 : Nat) : Int))), (8, .v (.int .u16 (f x21))), (9, .v (.int .i64 ((x30 : Nat) : Int))), (10, .v (.int .i64 ((x21 + x30 : Nat) : Int))), (20, .ar .u16 256 f), (21, .v (.int .i64 ((x21 : Nat) : Int))), (29, .v (.int .i64 1)), (30, .v (.int .i64 ((x30 : Nat) : Int)))] [(1, some (.sl 5 [.int .u8] x6_2))] 2 (by kernel_rfl) ⟨by rw [imul64 (by omega) (by omega)]; omega, by rw [iadd64 (by omega) (by omega)]; omega, trivial⟩ rfl hS fun ac gs ws hS => ?_
      refine then_n ?_
      refine region_a (E := E0) mo hZ [(2, .oi (((x21 + x30) / 8 : Nat) : Int)), (11, .oi (((x21 + x30) % 8 : Nat) : Int))] trivial (fun _ => [iquo .i64 ((x21 + x30 : Nat) : Int) 8 = (((x21 + x30) / 8 : Nat) : Int), (8 : Int) ≠ 0, (0 : Int) ≤ (((x21 + x30) / 8 : Nat) : Int) ∧ (((x21 + x30) / 8 : Nat) : Int) < ((x6_2.length : Nat) : Int), (0 : Int) ≤ ((x30 : Nat) : Int), irem ((x21 + x30 : Nat) : Int) 8 = (((x21 + x30) % 8 : Nat) : Int), (8 : Int) ≠ 0, (0 : Int) ≤ (((x21 + x30) % 8 : Nat) : Int), (0 : Int) ≤ (((x21 + x30) / 8 : Nat) : Int) ∧ (((x21 + x30) / 8 : Nat) : Int) < ((x6_2.length : Nat) : Int)]) [1, 4, 5, 6, 7, 8, 20, 21, 29, 30] [1] [(1, .v (.int .i64 1)), (4, .v (.slice none 0 0)), (5, .v (.int .i64 0)), (6, .sk 1), (7, .v (.int .i64 ((x21 : Nat) : Int))), (8, .v (.int .u16 (f x21))), (20, .ar .u16 256 f), (21, .v (.int .i64 ((x21 : Nat) : Int))), (29, .v (.int .i64 1)), (30, .v (.int .i64 ((x30 : Nat) : Int)))] [(1, some (.sl 5 [.int .u8] (x6_2.set ((x21 + x30) / 8) (ior .u8 (x6_2.getD ((x21 + x30) / 8) 0) (ishl .u8 (IntKind.wrap .u8 (iand .u16 (ishr .u16 (f x21) ((x30 : Nat) : Int)) 1)) (((x21 + x30) % 8 : Nat) : Int))))))] 2 (by kernel_rfl) ⟨by rw [iquo64 (by omega) (by omega) (by omega)]; omega, by omega, by omega, by omega, by rw [irem64 (by omega)]; omega, by omega, by omega, by omega, trivial⟩ rfl hS fun ac gs ws hS => ?_
      refine block_n ?_
      refine then_n ?_
      refine region_a (E := E0) mo hZ [(0, .oi ((x30 + 1 : Nat) : Int))] trivial (fun _ => [iadd .i64 ((x30 : Nat) : Int) 1 = ((x30 + 1 : Nat) : Int)]) [1, 4, 5, 6, 7, 8, 20, 21, 29, 30] [1] [(1, .v (.int .i64 1)), (4, .v (.slice none 0 0)), (5, .v (.int .i64 0)), (6, .sk 1), (7, .v (.int .i64 ((x21 : Nat) : Int))), (8, .v (.int .u16 (f x21))), (20, .ar .u16 256 f), (21, .v (.int .i64 ((x21 : Nat) : Int))), (29, .v (.int .i64 1)), (30, .v (.int .i64 ((x30 + 1 : Nat) : Int)))] [(1, some (.sl 5 [.int .u8] (x6_2.set ((x21 + x30) / 8) (ior .u8 (x6_2.getD ((x21 + x30) / 8) 0) (ishl .u8 (IntKind.wrap .u8 (iand .u16 (ishr .u16 (f x21) ((x30 : Nat) : Int)) 1)) (((x21 + x30) % 8 : Nat) : Int))))))] 2 (by kernel_rfl) ⟨by rw [iadd64 (by omega) (by omega)]; omega, trivial⟩ rfl hS fun ac gs ws hS => ?_
      refine then_n ?_
      exact next_r hg0 hS (s := (x30, x6_2)) (x30 + 1, x6_2.set ((x21 + x30) / 8) (ior .u8 (x6_2.getD ((x21 + x30) / 8) 0) (ishl .u8 (IntKind.wrap .u8 (iand .u16 (ishr .u16 (f x21) ((x30 : Nat) : Int)) 1)) (((x21 + x30) % 8 : Nat) : Int)))) [(1, 1)] (by kernel_rfl) (by kernel_rfl) ⟨rfl, trivial⟩ (show 1 - (x30 + 1) < 1 - x30 from by omega) ⟨(by omega), (it_next (F := encode1_l2 f x21 x6) (st := encode1_l2_s f x21 x6) (fun _ => rfl) hq2 rfl), (by simpa using p2), trivial⟩
    · skip
      have h2 := of_decide_eq_false h
      clear h
      have hScur := hS
      obtain rfl : 1 = x30 := by omega
      obtain rfl : encode1_l2 f x21 x6 1 = x6_2 := Eq.symm (congrArg (fun z => z) hq2)
      have hS := hScur
      clear hScur
      refine wp_exit ?_
      refine then_exit ?_
      refine then_exit ?_
      refine block_exit ?_
      refine block_n ?_
      refine then_n ?_
      refine region_a (E := E0) mo hZ [(0, .oi ((x21 + 1 : Nat) : Int))] trivial (fun _ => [iadd .i64 ((x21 : Nat) : Int) 1 = ((x21 + 1 : Nat) : Int)]) [1, 4, 5, 6, 20, 21] [1] [(1, .v (.int .i64 1)), (4, .v (.slice none 0 0)), (5, .v (.int .i64 0)), (6, .sk 1), (20, .ar .u16 256 f), (21, .v (.int .i64 ((x21 + 1 : Nat) : Int)))] [(1, some (.sl 5 [.int .u8] (encode1_l2 f x21 x6 1)))] 2 (by kernel_rfl) ⟨by rw [iadd64 (by omega) (by omega)]; omega, trivial⟩ rfl hS fun ac gs ws hS => ?_
      refine then_n ?_
      exact next_r hg0 hS (s := (x21, x6)) (x21 + 1, encode1_l2 f x21 x6 1) [(1, 1)] (by kernel_rfl) (by kernel_rfl) ⟨rfl, trivial⟩ (show 256 - (x21 + 1) < 256 - x21 from by omega) ⟨(by omega), (it_next (F := encode1_l1 f) (st := encode1_l1_s f) (fun _ => rfl) hq1 rfl), p2, trivial⟩
  · skip
    have h1 := of_decide_eq_false h
    clear h
    have hScur := hS
    obtain rfl : 256 = x21 := by omega
    obtain rfl : encode1_l1 f 256 = x6 := Eq.symm (congrArg (fun z => z) hq1)
    have hS := hScur
    clear hScur
    refine wp_exit ?_
    refine then_exit ?_
    refine then_exit ?_
    refine block_exit ?_
    refine then_n ?_
    refine wp_seq ?_
    refine region_a (E := E0) mo hZ [] trivial (fun _ => []) [4, 5] [1] [(4, .sk 1), (5, .v (.int .i64 0))] [(1, some (.sl 5 [.int .u8] (encode1_l1 f 256)))] 2 (by kernel_rfl) trivial rfl hS fun ac gs ws hS => ?_
    refine then_n ?_
    refine wp_ret ?_
    have hM : encode1_m f = encode1_l1 f 256 := encode1_e f
    obtain ⟨gs, hS⟩ := St.ren hg0 hS [(0, 1)] [(4, .sk 0), (5, .v (.int .i64 0))] [(0, .sl 5 [.int .u8] (encode1_l1 f 256))] 1 (by kernel_rfl) (by kernel_rfl) ⟨rfl, trivial⟩
    exact fin_x (.inr rfl) hS (ds := [.sk 0, .v (.int .i64 0)]) (by kernel_rfl) rfl (by show H1Ok _ [(0, .sl 5 [.int .u8] (encode1_m f))] true; rw [hM]; first | (simp only []; exact ⟨rfl, trivial⟩) | exact ⟨rfl, trivial⟩)

noncomputable def unpack1_l2_s (xs : List Int) (x8 : Nat) (o4_0 : Nat → Int) (x12 : Nat) : (Nat → Int) → (Nat → Int) := fun o4_0_2 => upd o4_0_2 x8 (ior .u16 (o4_0_2 x8) (ishl .u16 (IntKind.wrap .u16 (iand .u8 (ishr .u8 (xs.getD ((x8 + x12) / 8) 0) (((x8 + x12) % 8 : Nat) : Int)) 1)) ((x12 : Nat) : Int)))
noncomputable def unpack1_l2 (xs : List Int) (x8 : Nat) (o4_0 : Nat → Int) : Nat → (Nat → Int)
  | 0 => o4_0
  | x12 + 1 => unpack1_l2_s xs x8 o4_0 x12 (unpack1_l2 xs x8 o4_0 x12)
noncomputable def unpack1_l1_s (xs : List Int) (x8 : Nat) : (Nat → Int) → (Nat → Int) := fun o4_0 => unpack1_l2 xs x8 o4_0 1
noncomputable def unpack1_l1 (xs : List Int) : Nat → (Nat → Int)
  | 0 => fun _ => 0
  | x8 + 1 => unpack1_l1_s xs x8 (unpack1_l1 xs x8)
noncomputable def unpack1_v (xs : List Int) : (Nat → Int) := unpack1_l1 xs 256
noncomputable def unpack1_m (xs : List Int) : (Nat → Int) := shut (unpack1_v xs)
theorem unpack1_e (xs : List Int) : unpack1_m xs = unpack1_v xs := shut_eq _
noncomputable def c_unpack1 (xs : List Int) : Con := ⟨[.v (.int .i64 1), .ls false [.int .u8] xs], [], .ar .u16 256 (unpack1_m xs), []⟩
set_option maxRecDepth 100000 in
set_option maxHeartbeats 4000000 in
theorem unpack1_ok (xs : List Int) (h : 32 ≤ xs.length) : ConOk Try.prog 64 (c_unpack1 xs) := by
  refine conOk_of (nb := 0) Try.func64 rfl rfl Try.ntmps64 rfl rfl rfl fun g0 w0 ac gs ws hg0 hS => ?_
  have hlen1 : xs.length ≤ 9223372036854775807 := hS.len 1 rfl
  refine wp_seq ?_
  refine region_a (E := E0) mo hZ [] trivial (fun _ => []) [0, 1, 4] [0] [(0, .v (.int .i64 1)), (1, .ls false [.int .u8] xs), (4, .cp 0 0)] [(0, some (.ob 60 (chain [.ar .u16 256 (fun _ => 0)])))] 1 (by kernel_rfl) trivial rfl hS fun ac gs ws hS => ?_
  refine then_n ?_
  refine wp_seq ?_
  refine wp_seq ?_
  refine region_a (E := E0) mo hZ [] trivial (fun _ => []) [0, 1, 4, 8] [0] [(0, .v (.int .i64 1)), (1, .ls false [.int .u8] xs), (4, .cp 0 0), (8, .v (.int .i64 0))] [(0, some (.ob 60 (chain [.ar .u16 256 (fun _ => 0)])))] 1 (by kernel_rfl) trivial rfl hS fun ac gs ws hS => ?_
  refine then_n ?_
  refine wp_block ?_
  refine loop_r (σ := Nat × (Nat → Int)) hg0 hS (fun z_ => match z_ with | (x8, o4_0) => 256 - x8) (fun z_ => match z_ with | (x8, o4_0) => [(0, .v (.int .i64 1)), (1, .ls false [.int .u8] xs), (4, .cp 0 0), (8, .v (.int .i64 ((x8 : Nat) : Int)))]) (fun z_ => match z_ with | (x8, o4_0) => [(0, .ob 60 (chain [.ar .u16 256 o4_0]))]) (fun z_ => match z_ with | (x8, o4_0) => (x8 ≤ 256) ∧ (o4_0 = unpack1_l1 xs x8) ∧ True) 1 (0, fun _ => 0) [(0, 0)] (by kernel_rfl) (by kernel_rfl) ⟨rfl, trivial⟩ ⟨(by omega), rfl, trivial⟩ ?_
  rintro ⟨x8, o4_0⟩ ac gs ws ⟨hx8, hq1, _⟩ hS
  refine wp_seq ?_
  refine region_a (E := E0) mo hZ [] trivial (fun _ => []) [0, 1, 4, 8, 9] [0] [(0, .v (.int .i64 1)), (1, .ls false [.int .u8] xs), (4, .cp 0 0), (8, .v (.int .i64 ((x8 : Nat) : Int))), (9, .v (.bool (decide (((x8 : Nat) : Int) < 256))))] [(0, some (.ob 60 (chain [.ar .u16 256 o4_0])))] 1 (by kernel_rfl) trivial rfl hS fun ac gs ws hS => ?_
  refine then_n ?_
  refine wp_seq ?_
  refine if_x hS rfl (fun h => ?_) (fun h => ?_)
  · skip
    have h1 := of_decide_eq_true h
    clear h
    refine wp_skip ?_
    refine then_n ?_
    refine wp_seq ?_
    refine wp_block ?_
    refine wp_seq ?_
    refine region_a (E := E0) mo hZ [] trivial (fun _ => []) [0, 1, 4, 5, 8] [0] [(0, .v (.int .i64 1)), (1, .ls false [.int .u8] xs), (4, .cp 0 0), (5, .v (.int .i64 ((x8 : Nat) : Int))), (8, .v (.int .i64 ((x8 : Nat) : Int)))] [(0, some (.ob 60 (chain [.ar .u16 256 o4_0])))] 1 (by kernel_rfl) trivial rfl hS fun ac gs ws hS => ?_
    refine then_n ?_
    refine wp_seq ?_
    refine region_a (E := E0) mo hZ [] trivial (fun _ => []) [0, 1, 4, 5, 8, 11, 12] [0] [(0, .v (.int .i64 1)), (1, .ls false [.int .u8] xs), (4, .cp 0 0), (5, .v (.int .i64 ((x8 : Nat) : Int))), (8, .v (.int .i64 ((x8 : Nat) : Int))), (11, .v (.int .i64 1)), (12, .v (.int .i64 0))] [(0, some (.ob 60 (chain [.ar .u16 256 o4_0])))] 1 (by kernel_rfl) trivial rfl hS fun ac gs ws hS => ?_
    refine then_n ?_
    refine wp_block ?_
    refine loop_r (σ := Nat × (Nat → Int)) hg0 hS (fun z_ => match z_ with | (x12, o4_0_2) => 1 - x12) (fun z_ => match z_ with | (x12, o4_0_2) => [(0, .v (.int .i64 1)), (1, .ls false [.int .u8] xs), (4, .cp 0 0), (5, .v (.int .i64 ((x8 : Nat) : Int))), (8, .v (.int .i64 ((x8 : Nat) : Int))), (11, .v (.int .i64 1)), (12, .v (.int .i64 ((x12 : Nat) : Int)))]) (fun z_ => match z_ with | (x12, o4_0_2) => [(0, .ob 60 (chain [.ar .u16 256 o4_0_2]))]) (fun z_ => match z_ with | (x12, o4_0_2) => (x12 ≤ 1) ∧ (o4_0_2 = unpack1_l2 xs x8 o4_0 x12) ∧ True) 1 (0, o4_0) [(0, 0)] (by kernel_rfl) (by kernel_rfl) ⟨rfl, trivial⟩ ⟨(by omega), rfl, trivial⟩ ?_
    rintro ⟨x12, o4_0_2⟩ ac gs ws ⟨hx12, hq2, _⟩ hS
    refine wp_seq ?_
    refine region_a (E := E0) mo hZ [] trivial (fun _ => []) [0, 1, 4, 5, 8, 11, 12, 13] [0] [(0, .v (.int .i64 1)), (1, .ls false [.int .u8] xs), (4, .cp 0 0), (5, .v (.int .i64 ((x8 : Nat) : Int))), (8, .v (.int .i64 ((x8 : Nat) : Int))), (11, .v (.int .i64 1)), (12, .v (.int .i64 ((x12 : Nat) : Int))), (13, .v (.bool (decide (((x12 : Nat) : Int) < 1))))] [(0, some (.ob 60 (chain [.ar .u16 256 o4_0_2])))] 1 (by kernel_rfl) trivial rfl hS fun ac gs ws hS => ?_
    refine then_n ?_
    refine wp_seq ?_
    refine if_x hS rfl (fun h => ?_) (fun h => ?_)
    · skip
      have h2 := of_decide_eq_true h
      clear h
      refine wp_skip ?_
      refine then_n ?_
      refine wp_seq ?_
      refine wp_block ?_
      refine wp_seq ?_
      refine region_a (E := E0) mo hZ [] trivial (fun _ => []) [0, 1, 4, 5, 6, 8, 11, 12] [0] [(0, .v (.int .i64 1)), (1, .ls false [.int .u8] xs), (4, .cp 0 0), (5, .v (.int .i64 ((x8 : Nat) : Int))), (6, .v (.int .i64 ((x12 : Nat) : Int))), (8, .v (.int .i64 ((x8 : Nat) : Int))), (11, .v (.int .i64 1)), (12, .v (.int .i64 ((x12 : Nat) : Int)))] [(0, some (.ob 60 (chain [.ar .u16 256 o4_0_2])))] 1 (by kernel_rfl) trivial rfl hS fun ac gs ws hS => ?_
      refine then_n ?_
      refine wp_seq ?_
      refine region_a (E := E0) mo hZ [(2, .oi ((x8 : Nat) : Int)), (4, .oi ((x8 + x12 : Nat) : Int))] trivial (fun _ => [imul .i64 ((x8 : Nat) : Int) 1 = ((x8 : Nat) : Int), iadd .i64 ((x8 : Nat) : Int) ((x12 : Nat) : Int) = ((x8 + x12 : Nat) : Int)]) [0, 1, 4, 5, 6, 7, 8, 11, 12] [0] [(0, .v (.int .i64 1)), (1, .ls false [.int .u8] xs), (4, .cp 0 0), (5, .v (.int .i64 ((x8 : Nat) : Int))), (6, .v (.int .i64 ((x12 : Nat) : Int))), (7, .v (.int .i64 ((x8 + x12 : Nat) : Int))), (8, .v (.int .i64 ((x8 : Nat) : Int))), (11, .v (.int .i64 1)), (12, .v (.int .i64 ((x12 : Nat) : Int)))] [(0, some (.ob 60 (chain [.ar .u16 256 o4_0_2])))] 1 (by kernel_rfl) ⟨by rw [imul64 (by omega) (by omega)]; omega, by rw [iadd64 (by omega) (by omega)]; omega, trivial⟩ rfl hS fun ac gs ws hS => ?_
      refine then_n ?_
      refine region_a (E := E0) mo hZ [(5, .oi (((x8 + x12) / 8 : Nat) : Int)), (9, .oi (((x8 + x12) % 8 : Nat) : Int))] trivial (fun _ => [(0 : Int) ≤ ((x8 : Nat) : Int) ∧ (((x8 : Nat) : Int) : Int) < 256, iquo .i64 ((x8 + x12 : Nat) : Int) 8 = (((x8 + x12) / 8 : Nat) : Int), (8 : Int) ≠ 0, (0 : Int) ≤ (((x8 + x12) / 8 : Nat) : Int) ∧ (((x8 + x12) / 8 : Nat) : Int) < ((xs.length : Nat) : Int), irem ((x8 + x12 : Nat) : Int) 8 = (((x8 + x12) % 8 : Nat) : Int), (8 : Int) ≠ 0, (0 : Int) ≤ (((x8 + x12) % 8 : Nat) : Int), (0 : Int) ≤ ((x12 : Nat) : Int), (0 : Int) ≤ ((x8 : Nat) : Int) ∧ (((x8 : Nat) : Int) : Int) < 256]) [0, 1, 4, 5, 8, 11, 12] [0] [(0, .v (.int .i64 1)), (1, .ls false [.int .u8] xs), (4, .cp 0 0), (5, .v (.int .i64 ((x8 : Nat) : Int))), (8, .v (.int .i64 ((x8 : Nat) : Int))), (11, .v (.int .i64 1)), (12, .v (.int .i64 ((x12 : Nat) : Int)))] [(0, some (.ob 60 (chain [.ar .u16 256 (upd o4_0_2 x8 (ior .u16 (o4_0_2 x8) (ishl .u16 (IntKind.wrap .u16 (iand .u8 (ishr .u8 (xs.getD ((x8 + x12) / 8) 0) (((x8 + x12) % 8 : Nat) : Int)) 1)) ((x12 : Nat) : Int))))])))] 1 (by kernel_rfl) ⟨by omega, by rw [iquo64 (by omega) (by omega) (by omega)]; omega, by omega, by omega, by rw [irem64 (by omega)]; omega, by omega, by omega, by omega, by omega, trivial⟩ rfl hS fun ac gs ws hS => ?_
      refine block_n ?_
      refine then_n ?_
      refine region_a (E := E0) mo hZ [(0, .oi ((x12 + 1 : Nat) : Int))] trivial (fun _ => [iadd .i64 ((x12 : Nat) : Int) 1 = ((x12 + 1 : Nat) : Int)]) [0, 1, 4, 5, 8, 11, 12] [0] [(0, .v (.int .i64 1)), (1, .ls false [.int .u8] xs), (4, .cp 0 0), (5, .v (.int .i64 ((x8 : Nat) : Int))), (8, .v (.int .i64 ((x8 : Nat) : Int))), (11, .v (.int .i64 1)), (12, .v (.int .i64 ((x12 + 1 : Nat) : Int)))] [(0, some (.ob 60 (chain [.ar .u16 256 (upd o4_0_2 x8 (ior .u16 (o4_0_2 x8) (ishl .u16 (IntKind.wrap .u16 (iand .u8 (ishr .u8 (xs.getD ((x8 + x12) / 8) 0) (((x8 + x12) % 8 : Nat) : Int)) 1)) ((x12 : Nat) : Int))))])))] 1 (by kernel_rfl) ⟨by rw [iadd64 (by omega) (by omega)]; omega, trivial⟩ rfl hS fun ac gs ws hS => ?_
      refine then_n ?_
      exact next_r hg0 hS (s := (x12, o4_0_2)) (x12 + 1, upd o4_0_2 x8 (ior .u16 (o4_0_2 x8) (ishl .u16 (IntKind.wrap .u16 (iand .u8 (ishr .u8 (xs.getD ((x8 + x12) / 8) 0) (((x8 + x12) % 8 : Nat) : Int)) 1)) ((x12 : Nat) : Int)))) [(0, 0)] (by kernel_rfl) (by kernel_rfl) ⟨rfl, trivial⟩ (show 1 - (x12 + 1) < 1 - x12 from by omega) ⟨(by omega), (it_next (F := unpack1_l2 xs x8 o4_0) (st := unpack1_l2_s xs x8 o4_0) (fun _ => rfl) hq2 rfl), trivial⟩
    · skip
      have h2 := of_decide_eq_false h
      clear h
      have hScur := hS
      obtain rfl : 1 = x12 := by omega
      obtain rfl : unpack1_l2 xs x8 o4_0 1 = o4_0_2 := Eq.symm (congrArg (fun z => z) hq2)
      have hS := hScur
      clear hScur
      refine wp_exit ?_
      refine then_exit ?_
      refine then_exit ?_
      refine block_exit ?_
      refine block_n ?_
      refine then_n ?_
      refine region_a (E := E0) mo hZ [(0, .oi ((x8 + 1 : Nat) : Int))] trivial (fun _ => [iadd .i64 ((x8 : Nat) : Int) 1 = ((x8 + 1 : Nat) : Int)]) [0, 1, 4, 8] [0] [(0, .v (.int .i64 1)), (1, .ls false [.int .u8] xs), (4, .cp 0 0), (8, .v (.int .i64 ((x8 + 1 : Nat) : Int)))] [(0, some (.ob 60 (chain [.ar .u16 256 (unpack1_l2 xs x8 o4_0 1)])))] 1 (by kernel_rfl) ⟨by rw [iadd64 (by omega) (by omega)]; omega, trivial⟩ rfl hS fun ac gs ws hS => ?_
      refine then_n ?_
      exact next_r hg0 hS (s := (x8, o4_0)) (x8 + 1, unpack1_l2 xs x8 o4_0 1) [(0, 0)] (by kernel_rfl) (by kernel_rfl) ⟨rfl, trivial⟩ (show 256 - (x8 + 1) < 256 - x8 from by omega) ⟨(by omega), (it_next (F := unpack1_l1 xs) (st := unpack1_l1_s xs) (fun _ => rfl) hq1 rfl), trivial⟩
  · skip
    have h1 := of_decide_eq_false h
    clear h
    have hScur := hS
    obtain rfl : 256 = x8 := by omega
    obtain rfl : unpack1_l1 xs 256 = o4_0 := Eq.symm (congrArg (fun z => z) hq1)
    have hS := hScur
    clear hScur
    refine wp_exit ?_
    refine then_exit ?_
    refine then_exit ?_
    refine block_exit ?_
    refine then_n ?_
    refine wp_seq ?_
    refine region_a (E := E0) mo hZ [] trivial (fun _ => []) [4] [0] [(4, .cp 0 0)] [(0, some (.ob 60 (chain [.ar .u16 256 (unpack1_l1 xs 256)])))] 1 (by kernel_rfl) trivial rfl hS fun ac gs ws hS => ?_
    refine then_n ?_
    refine wp_ret ?_
    have hM : unpack1_m xs = unpack1_l1 xs 256 := unpack1_e xs
    exact fin_x (.inr rfl) hS (ds := [.ar .u16 256 (unpack1_l1 xs 256)]) (by kernel_rfl) (by show weak _ (.ar .u16 256 (unpack1_m xs)) = (.ar .u16 256 (unpack1_m xs)); rw [hM]; first | (simp only []; rfl) | (simp only []; done) | rfl) trivial

def mayB (f : Nat → Int) : Bool := (List.range 256).all fun i => decide (f i < 3329)
theorem may_no {f : Nat → Int} {i : Nat} (hi : i < 256) (h : (3329 : Int) ≤ f i) : mayB f = false := by
  cases hb : mayB f with
  | false => rfl
  | true =>
    have := List.all_eq_true.1 hb i (List.mem_range.2 hi)
    simp only [decide_eq_true_iff] at this
    omega
theorem may_yes {f : Nat → Int} (h : ∀ i, i < 256 → f i < 3329) : mayB f = true := by
  unfold mayB
  rw [List.all_eq_true]
  intro i hi
  rw [decide_eq_true_iff]
  exact h i (List.mem_range.1 hi)
theorem may_of {f : Nat → Int} (hb : mayB f = true) : ∀ i, i < 256 → f i < 3329 := fun i hi => by
  have := List.all_eq_true.1 hb i (List.mem_range.2 hi)
  simpa only [decide_eq_true_iff] using this
noncomputable def c_may (f : Nat → Int) : Con := ⟨[.ar .u16 256 f], [], .v (.bool (mayB f)), []⟩
set_option maxRecDepth 100000 in
set_option maxHeartbeats 4000000 in
theorem may_ok (f : Nat → Int) : ConOk Try.prog 34 (c_may f) := by
  refine conOk_of (nb := 0) Try.func34 rfl rfl Try.ntmps34 rfl rfl rfl fun g0 w0 ac gs ws hg0 hS => ?_
  refine wp_seq ?_
  refine region_a (E := E0) mo hZ [] trivial (fun _ => []) [1, 2] [0] [(1, .cp 0 0), (2, .v (.bool false))] [(0, some (.ob 60 (chain [.ar .u16 256 f])))] 1 (by kernel_rfl) trivial rfl hS fun ac gs ws hS => ?_
  refine then_n ?_
  refine wp_seq ?_
  refine wp_seq ?_
  refine region_a (E := E0) mo hZ [] trivial (fun _ => []) [2, 5, 6] [] [(2, .v (.bool false)), (5, .ar .u16 256 f), (6, .v (.int .i64 0))] [] 1 (by kernel_rfl) trivial rfl hS fun ac gs ws hS => ?_
  refine then_n ?_
  refine wp_block ?_
  refine loop_r (σ := Nat) hg0 hS (fun i => 256 - i) (fun i => [(5, .ar .u16 256 f), (6, .v (.int .i64 ((i : Nat) : Int)))]) (fun i => []) (fun i => (i ≤ 256) ∧ (∀ j, j < i → f j < 3329) ∧ True) 0 0 [] (by kernel_rfl) (by kernel_rfl) trivial ⟨(by omega), (fun j h => absurd h (Nat.not_lt_zero j)), trivial⟩ ?_
  rintro i ac gs ws ⟨hi, pm, _⟩ hS
  refine wp_seq ?_
  refine region_a (E := E0) mo hZ [] trivial (fun _ => []) [5, 6, 7] [] [(5, .ar .u16 256 f), (6, .v (.int .i64 ((i : Nat) : Int))), (7, .v (.bool (decide (((i : Nat) : Int) < 256))))] [] 0 (by kernel_rfl) trivial rfl hS fun ac gs ws hS => ?_
  refine then_n ?_
  refine wp_seq ?_
  refine if_x hS rfl (fun h => ?_) (fun h => ?_)
  · skip
    have h1 := of_decide_eq_true h
    clear h
    refine wp_skip ?_
    refine then_n ?_
    refine wp_seq ?_
    refine wp_block ?_
    refine wp_seq ?_
    refine region_a (E := E0) mo hZ [] trivial (fun _ => [(0 : Int) ≤ ((i : Nat) : Int) ∧ (((i : Nat) : Int) : Int) < 256]) [4, 5, 6] [] [(4, .v (.int .u16 (f i))), (5, .ar .u16 256 f), (6, .v (.int .i64 ((i : Nat) : Int)))] [] 0 (by kernel_rfl) ⟨by omega, trivial⟩ rfl hS fun ac gs ws hS => ?_
    refine then_n ?_
    refine wp_seq ?_
    refine region_a (E := E0) mo hZ [] trivial (fun _ => []) [5, 6, 10] [] [(5, .ar .u16 256 f), (6, .v (.int .i64 ((i : Nat) : Int))), (10, .v (.bool (decide ((3329 : Int) ≤ (f i)))))] [] 0 (by kernel_rfl) trivial rfl hS fun ac gs ws hS => ?_
    refine then_n ?_
    refine if_x hS rfl (fun h => ?_) (fun h => ?_)
    · skip
      have h2 := of_decide_eq_true h
      clear h
      refine wp_seq ?_
      refine region_a (E := E0) mo hZ [] trivial (fun _ => []) [2, 5, 6] [] [(2, .v (.bool false)), (5, .ar .u16 256 f), (6, .v (.int .i64 ((i : Nat) : Int)))] [] 0 (by kernel_rfl) trivial rfl hS fun ac gs ws hS => ?_
      refine then_n ?_
      refine wp_ret ?_
      refine block_ret ?_
      refine then_ret ?_
      refine then_ret ?_
      refine block_ret ?_
      refine then_ret ?_
      exact fin_x (.inr rfl) hS (ds := [.v (.bool false)]) (by kernel_rfl) (by show weak _ (.v (.bool (mayB f))) = .v (.bool (mayB f)); rw [may_no (by omega) h2]; rfl) trivial
    · skip
      have h2 := of_decide_eq_false h
      clear h
      refine wp_skip ?_
      refine block_n ?_
      refine then_n ?_
      refine region_a (E := E0) mo hZ [(0, .oi ((i + 1 : Nat) : Int))] trivial (fun _ => [iadd .i64 ((i : Nat) : Int) 1 = ((i + 1 : Nat) : Int)]) [5, 6] [] [(5, .ar .u16 256 f), (6, .v (.int .i64 ((i + 1 : Nat) : Int)))] [] 0 (by kernel_rfl) ⟨by rw [iadd64 (by omega) (by omega)]; omega, trivial⟩ rfl hS fun ac gs ws hS => ?_
      refine then_n ?_
      exact next_r hg0 hS (s := (i)) (i + 1) [] (by kernel_rfl) (by kernel_rfl) trivial (show 256 - (i + 1) < 256 - i from by omega) ⟨(by omega), (lst_next pm (by omega)), trivial⟩
  · skip
    have h1 := of_decide_eq_false h
    clear h
    have hScur := hS
    obtain rfl : 256 = i := by omega
    have hS := hScur
    clear hScur
    refine wp_exit ?_
    refine then_exit ?_
    refine then_exit ?_
    refine block_exit ?_
    refine then_n ?_
    refine wp_seq ?_
    refine region_a (E := E0) mo hZ [] trivial (fun _ => []) [2] [] [(2, .v (.bool true))] [] 0 (by kernel_rfl) trivial rfl hS fun ac gs ws hS => ?_
    refine then_n ?_
    refine wp_ret ?_
    exact fin_x (.inr rfl) hS (ds := [.v (.bool true)]) (by kernel_rfl) (by show weak _ (.v (.bool (mayB f))) = .v (.bool (mayB f)); rw [may_yes pm]; rfl) trivial

end Go.Sx.Try
