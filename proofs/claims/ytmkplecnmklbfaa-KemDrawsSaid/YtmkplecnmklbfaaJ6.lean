/- General lemmas, walks. -/
import Derived.Test.YtmkplecnmklbfaaJ4
import Derived.Test.YtmkplecnmklbfaaProg
import Derived.Test.YtmkplecnmklbfaaJ5
set_option linter.unusedSimpArgs false
set_option linter.unusedVariables false
set_option linter.unnecessarySimpa false
namespace Go.Sx.Try
open Go.Mi Go.RowKit Go.Sx Go.Proofs
def Z0 : Zt := [(3, [.v (.int .i64 0)]),
  (5, [.v (.int .u8 0)]),
  (22, [.v (.slice none 0 0)]),
  (27, [.v (.int .i64 0)]),
  (50, [.v (.int .u16 0)]),
  (52, [.ar .u16 256 (fun _ => 0)]),
  (53, [.ar .u16 768 (fun _ => 0)]),
  (60, [.ar .u16 256 (fun _ => 0)]),
  (62, [.ar .u16 768 (fun _ => 0)]),
  (77, [.v (.int .i64 0), .v (.int .i64 0), .v (.int .i64 0), .v (.int .i64 0), .v (.slice none 0 0), .v (.slice none 0 0), .v (.pointer none), .v (.slice none 0 0)]),
  (80, [.v (.slice none 0 0)]),
  (84, [.v (.int .i64 0), .v (.int .i64 0), .v (.int .i64 0), .v (.slice none 0 0)]),
  (106, [.ar .u32 128 (fun _ => 0)]),
  (122, [.v (.slice none 0 0)]),
  (129, [.v (.pointer none)]),
  (135, [.v (.int .i64 0), .v (.int .i64 0), .v (.int .i64 0), .v (.slice none 0 0)]),
  (137, [.ar .u64 25 (fun _ => 0)]),
  (141, [.ar .u64 25 (fun _ => 0), .v (.int .i64 0), .v (.int .i64 0)]),
  (154, [.ar .u64 5 (fun _ => 0)]),
  (155, [.ar .u64 25 (fun _ => 0)]),
  (158, [.v .nilFunc, .v .nilFunc, .v .nilFunc]),
  (159, [.ar .u64 24 (fun _ => 0)]),
  (162, [.v (.pointer none)]),
  (163, [.ar .u64 80 (fun _ => 0)]),
  (165, [.ar .u64 8 (fun _ => 0)]),
  (167, [.ar .u32 8 (fun _ => 0)]),
  (168, [.ar .u32 64 (fun _ => 0)]),
  (171, [.v (.slice none 0 0)])]
def K0 : Kt := [(3, [.int .i64]), (5, [.int .u8]), (22, [.sl (.int .u8)]), (50, [.int .u16]), (84, [.int .i64, .int .i64, .int .i64, .sl (.int .u8)]), (129, [.ref])]
noncomputable def E0 : Env := ⟨Try.prog, Z0, K0⟩
set_option maxRecDepth 100000 in
theorem hZ : ZOk Try.prog Z0 := ⟨⟨by kernel_rfl, by kernel_rfl⟩, ⟨by kernel_rfl, by kernel_rfl⟩, ⟨by kernel_rfl, by kernel_rfl⟩, ⟨by kernel_rfl, by kernel_rfl⟩, ⟨by kernel_rfl, by kernel_rfl⟩, ⟨by kernel_rfl, by kernel_rfl⟩, ⟨by kernel_rfl, by kernel_rfl⟩, ⟨by kernel_rfl, by kernel_rfl⟩, ⟨by kernel_rfl, by kernel_rfl⟩, ⟨by kernel_rfl, by kernel_rfl⟩, ⟨by kernel_rfl, by kernel_rfl⟩, ⟨by kernel_rfl, by kernel_rfl⟩, ⟨by kernel_rfl, by kernel_rfl⟩, ⟨by kernel_rfl, by kernel_rfl⟩, ⟨by kernel_rfl, by kernel_rfl⟩, ⟨by kernel_rfl, by kernel_rfl⟩, ⟨by kernel_rfl, by kernel_rfl⟩, ⟨by kernel_rfl, by kernel_rfl⟩, ⟨by kernel_rfl, by kernel_rfl⟩, ⟨by kernel_rfl, by kernel_rfl⟩, ⟨by kernel_rfl, by kernel_rfl⟩, ⟨by kernel_rfl, by kernel_rfl⟩, ⟨by kernel_rfl, by kernel_rfl⟩, ⟨by kernel_rfl, by kernel_rfl⟩, ⟨by kernel_rfl, by kernel_rfl⟩, ⟨by kernel_rfl, by kernel_rfl⟩, ⟨by kernel_rfl, by kernel_rfl⟩, ⟨by kernel_rfl, by kernel_rfl⟩, trivial⟩
theorem mo : Try.prog.follows .mixedOrders = true := by kernel_rfl
end Go.Sx.Try
namespace Go.Sx.Try
open Go.Mi Go.RowKit Go.Sx Go.Proofs
noncomputable def c_rot64 (x : Int) (k : Int) : Con := ⟨[.v (.int .u64 x), .v (.int .i64 k)], [], .v (.int .u64 (rotl x k)), []⟩
set_option maxRecDepth 100000 in
set_option maxHeartbeats 4000000 in
theorem rot64_ok (x : Int) (k : Int) : ConOk Try.prog 126 (c_rot64 x k) := by
  refine conOk_of (nb := 0) Try.func126 rfl rfl Try.ntmps126 rfl rfl rfl fun g0 w0 ac gs ws hg0 hS => ?_
  refine wp_seq ?_
  refine region_a (E := E0) mo hZ [] trivial (fun _ => []) [0, 1, 4] [] [(0, .v (.int .u64 x)), (1, .v (.int .i64 k)), (4, .v (.int .u64 0))] [] 0 (by kernel_rfl) trivial rfl hS fun ac gs ws hS => ?_
  refine then_n ?_
  refine wp_seq ?_
  refine region_a (E := E0) mo hZ [] trivial (fun _ => []) [0, 4, 5] [] [(0, .v (.int .u64 x)), (4, .v (.int .u64 0)), (5, .v (.int .u64 (iand .u64 (IntKind.wrap .u64 k) 63)))] [] 0 (by kernel_rfl) trivial rfl hS fun ac gs ws hS => ?_
  refine then_n ?_
  refine wp_seq ?_
  refine region_a (E := E0) mo hZ [] trivial (fun _ => [(0 : Int) ≤ (iand .u64 (IntKind.wrap .u64 k) 63), (0 : Int) ≤ (isub .u64 64 (iand .u64 (IntKind.wrap .u64 k) 63))]) [4] [] [(4, .v (.int .u64 (ior .u64 (ishl .u64 x (iand .u64 (IntKind.wrap .u64 k) 63)) (ishr .u64 x (isub .u64 64 (iand .u64 (IntKind.wrap .u64 k) 63))))))] [] 0 (by kernel_rfl) ⟨wrap_nn rfl, wrap_nn rfl, trivial⟩ rfl hS fun ac gs ws hS => ?_
  refine then_n ?_
  refine wp_ret ?_
  exact fin_x (.inr rfl) hS (ds := [.v (.int .u64 (ior .u64 (ishl .u64 x (iand .u64 (IntKind.wrap .u64 k) 63)) (ishr .u64 x (isub .u64 64 (iand .u64 (IntKind.wrap .u64 k) 63)))))]) (by kernel_rfl) rfl trivial

noncomputable def c_theta (a : Nat → Int) : Con := ⟨[.ar .u64 25 a], [], .ar .u64 25 (theta a), []⟩
set_option maxRecDepth 100000 in
set_option maxHeartbeats 4000000 in
theorem theta_ok (a : Nat → Int) : ConOk Try.prog 116 (c_theta a) := by
  refine conOk_of (nb := 0) Try.func116 rfl rfl Try.ntmps116 rfl rfl rfl fun g0 w0 ac gs ws hg0 hS => ?_
  refine wp_seq ?_
  refine region_a (E := E0) mo hZ [] trivial (fun _ => []) [1, 2] [0, 1] [(1, .cp 0 0), (2, .cp 1 0)] [(0, some (.ob 155 (chain [.ar .u64 25 a]))), (1, some (.ob 155 (chain [.ar .u64 25 (fun _ => 0)])))] 2 (by kernel_rfl) trivial rfl hS fun ac gs ws hS => ?_
  refine then_n ?_
  refine wp_seq ?_
  refine region_a (E := E0) mo hZ [] trivial (fun _ => []) [1, 2, 3] [0, 1, 2] [(1, .cp 0 0), (2, .cp 1 0), (3, .cp 2 0)] [(0, some (.ob 155 (chain [.ar .u64 25 a]))), (1, some (.ob 155 (chain [.ar .u64 25 (fun _ => 0)]))), (2, some (.ob 154 (chain [.ar .u64 5 (fun _ => 0)])))] 3 (by kernel_rfl) trivial rfl hS fun ac gs ws hS => ?_
  refine then_n ?_
  refine wp_seq ?_
  refine wp_seq ?_
  refine region_a (E := E0) mo hZ [] trivial (fun _ => []) [1, 2, 3, 8, 9] [0, 1, 2] [(1, .cp 0 0), (2, .cp 1 0), (3, .cp 2 0), (8, .ar .u64 25 a), (9, .v (.int .i64 0))] [(0, some (.ob 155 (chain [.ar .u64 25 a]))), (1, some (.ob 155 (chain [.ar .u64 25 (fun _ => 0)]))), (2, some (.ob 154 (chain [.ar .u64 5 (fun _ => 0)])))] 3 (by kernel_rfl) trivial rfl hS fun ac gs ws hS => ?_
  refine then_n ?_
  refine wp_block ?_
  refine loop_r (σ := Nat) hg0 hS (fun i => 25 - i) (fun i => [(1, .cp 0 0), (2, .cp 1 0), (3, .cp 2 0), (8, .ar .u64 25 a), (9, .v (.int .i64 ((i : Nat) : Int)))]) (fun i => [(0, .ob 155 (chain [.ar .u64 25 a])), (1, .ob 155 (chain [.ar .u64 25 (fun _ => 0)])), (2, .ob 154 (chain [.ar .u64 5 (thC a i)]))]) (fun i => (i ≤ 25) ∧ True) 3 0 [(0, 0), (1, 1), (2, 2)] (by kernel_rfl) (by kernel_rfl) ⟨rfl, rfl, rfl, trivial⟩ ⟨(by omega), trivial⟩ ?_
  rintro i ac gs ws ⟨hi, _⟩ hS
  refine wp_seq ?_
  refine region_a (E := E0) mo hZ [] trivial (fun _ => []) [1, 2, 3, 8, 9, 10] [0, 1, 2] [(1, .cp 0 0), (2, .cp 1 0), (3, .cp 2 0), (8, .ar .u64 25 a), (9, .v (.int .i64 ((i : Nat) : Int))), (10, .v (.bool (decide (((i : Nat) : Int) < 25))))] [(0, some (.ob 155 (chain [.ar .u64 25 a]))), (1, some (.ob 155 (chain [.ar .u64 25 (fun _ => 0)]))), (2, some (.ob 154 (chain [.ar .u64 5 (thC a i)])))] 3 (by kernel_rfl) trivial rfl hS fun ac gs ws hS => ?_
  refine then_n ?_
  refine wp_seq ?_
  refine if_x hS rfl (fun h => ?_) (fun h => ?_)
  · skip
    have h1 := of_decide_eq_true h
    clear h
    refine wp_skip ?_
    refine then_n ?_
    refine wp_seq ?_
    refine wp_block ?_
    refine wp_seq ?_
    refine region_a (E := E0) mo hZ [] trivial (fun _ => [(0 : Int) ≤ ((i : Nat) : Int) ∧ (((i : Nat) : Int) : Int) < 25]) [1, 2, 3, 4, 5, 8, 9] [0, 1, 2] [(1, .cp 0 0), (2, .cp 1 0), (3, .cp 2 0), (4, .v (.int .i64 ((i : Nat) : Int))), (5, .v (.int .u64 (a i))), (8, .ar .u64 25 a), (9, .v (.int .i64 ((i : Nat) : Int)))] [(0, some (.ob 155 (chain [.ar .u64 25 a]))), (1, some (.ob 155 (chain [.ar .u64 25 (fun _ => 0)]))), (2, some (.ob 154 (chain [.ar .u64 5 (thC a i)])))] 3 (by kernel_rfl) ⟨by omega, trivial⟩ rfl hS fun ac gs ws hS => ?_
    refine then_n ?_
    refine region_a (E := E0) mo hZ [(1, .oi ((i % 5 : Nat) : Int))] trivial (fun _ => [irem ((i : Nat) : Int) 5 = ((i % 5 : Nat) : Int), (5 : Int) ≠ 0, (0 : Int) ≤ ((i % 5 : Nat) : Int) ∧ (((i % 5 : Nat) : Int) : Int) < 5, (0 : Int) ≤ ((i % 5 : Nat) : Int) ∧ (((i % 5 : Nat) : Int) : Int) < 5]) [1, 2, 3, 8, 9] [0, 1, 2] [(1, .cp 0 0), (2, .cp 1 0), (3, .cp 2 0), (8, .ar .u64 25 a), (9, .v (.int .i64 ((i : Nat) : Int)))] [(0, some (.ob 155 (chain [.ar .u64 25 a]))), (1, some (.ob 155 (chain [.ar .u64 25 (fun _ => 0)]))), (2, some (.ob 154 (chain [.ar .u64 5 (upd (thC a i) (i % 5) (ixor .u64 ((thC a i) (i % 5)) (a i)))])))] 3 (by kernel_rfl) ⟨by rw [irem64 (by omega)]; omega, by omega, by omega, by omega, trivial⟩ rfl hS fun ac gs ws hS => ?_
    refine block_n ?_
    refine then_n ?_
    refine region_a (E := E0) mo hZ [(0, .oi ((i + 1 : Nat) : Int))] trivial (fun _ => [iadd .i64 ((i : Nat) : Int) 1 = ((i + 1 : Nat) : Int)]) [1, 2, 3, 8, 9] [0, 1, 2] [(1, .cp 0 0), (2, .cp 1 0), (3, .cp 2 0), (8, .ar .u64 25 a), (9, .v (.int .i64 ((i + 1 : Nat) : Int)))] [(0, some (.ob 155 (chain [.ar .u64 25 a]))), (1, some (.ob 155 (chain [.ar .u64 25 (fun _ => 0)]))), (2, some (.ob 154 (chain [.ar .u64 5 (upd (thC a i) (i % 5) (ixor .u64 ((thC a i) (i % 5)) (a i)))])))] 3 (by kernel_rfl) ⟨by rw [iadd64 (by omega) (by omega)]; omega, trivial⟩ rfl hS fun ac gs ws hS => ?_
    refine then_n ?_
    exact next_r hg0 hS (s := (i)) (i + 1) [(0, 0), (1, 1), (2, 2)] (by kernel_rfl) (by kernel_rfl) ⟨rfl, rfl, rfl, trivial⟩ (show 25 - (i + 1) < 25 - i from by omega) ⟨(by omega), trivial⟩
  · skip
    have h1 := of_decide_eq_false h
    clear h
    have hScur := hS
    obtain rfl : 25 = i := by omega
    have hS := hScur
    clear hScur
    refine wp_exit ?_
    refine then_exit ?_
    refine then_exit ?_
    refine block_exit ?_
    refine then_n ?_
    refine wp_seq ?_
    refine wp_seq ?_
    refine region_a (E := E0) mo hZ [] trivial (fun _ => []) [1, 2, 3, 21] [0, 1, 2] [(1, .cp 0 0), (2, .cp 1 0), (3, .cp 2 0), (21, .v (.int .i64 0))] [(0, some (.ob 155 (chain [.ar .u64 25 a]))), (1, some (.ob 155 (chain [.ar .u64 25 (fun _ => 0)]))), (2, some (.ob 154 (chain [.ar .u64 5 (thC a 25)])))] 3 (by kernel_rfl) trivial rfl hS fun ac gs ws hS => ?_
    refine then_n ?_
    refine wp_block ?_
    refine loop_r (σ := Nat) hg0 hS (fun i => 25 - i) (fun i => [(1, .cp 0 0), (2, .cp 1 0), (3, .cp 2 0), (21, .v (.int .i64 ((i : Nat) : Int)))]) (fun i => [(0, .ob 155 (chain [.ar .u64 25 (thA a (thC a 25) i)])), (1, .ob 155 (chain [.ar .u64 25 (fun _ => 0)])), (2, .ob 154 (chain [.ar .u64 5 (thC a 25)]))]) (fun i => (i ≤ 25) ∧ True) 3 0 [(0, 0), (1, 1), (2, 2)] (by kernel_rfl) (by kernel_rfl) ⟨rfl, rfl, rfl, trivial⟩ ⟨(by omega), trivial⟩ ?_
    rintro i ac gs ws ⟨hi, _⟩ hS
    refine wp_seq ?_
    refine region_a (E := E0) mo hZ [] trivial (fun _ => []) [1, 2, 3, 21, 22] [0, 1, 2] [(1, .cp 0 0), (2, .cp 1 0), (3, .cp 2 0), (21, .v (.int .i64 ((i : Nat) : Int))), (22, .v (.bool (decide (((i : Nat) : Int) < 25))))] [(0, some (.ob 155 (chain [.ar .u64 25 (thA a (thC a 25) i)]))), (1, some (.ob 155 (chain [.ar .u64 25 (fun _ => 0)]))), (2, some (.ob 154 (chain [.ar .u64 5 (thC a 25)])))] 3 (by kernel_rfl) trivial rfl hS fun ac gs ws hS => ?_
    refine then_n ?_
    refine wp_seq ?_
    refine if_x hS rfl (fun h => ?_) (fun h => ?_)
    · skip
      have h2 := of_decide_eq_true h
      clear h
      refine wp_skip ?_
      refine then_n ?_
      refine wp_seq ?_
      refine wp_block ?_
      refine wp_seq ?_
      refine region_a (E := E0) mo hZ [] trivial (fun _ => []) [1, 2, 3, 6, 21] [0, 1, 2] [(1, .cp 0 0), (2, .cp 1 0), (3, .cp 2 0), (6, .v (.int .i64 ((i : Nat) : Int))), (21, .v (.int .i64 ((i : Nat) : Int)))] [(0, some (.ob 155 (chain [.ar .u64 25 (thA a (thC a 25) i)]))), (1, some (.ob 155 (chain [.ar .u64 25 (fun _ => 0)]))), (2, some (.ob 154 (chain [.ar .u64 5 (thC a 25)])))] 3 (by kernel_rfl) trivial rfl hS fun ac gs ws hS => ?_
      refine then_n ?_
      refine wp_seq ?_
      refine region_a (E := E0) mo hZ [(1, .oi ((i % 5 : Nat) : Int))] trivial (fun _ => [irem ((i : Nat) : Int) 5 = ((i % 5 : Nat) : Int), (5 : Int) ≠ 0]) [1, 2, 3, 6, 7, 21] [0, 1, 2] [(1, .cp 0 0), (2, .cp 1 0), (3, .cp 2 0), (6, .v (.int .i64 ((i : Nat) : Int))), (7, .v (.int .i64 ((i % 5 : Nat) : Int))), (21, .v (.int .i64 ((i : Nat) : Int)))] [(0, some (.ob 155 (chain [.ar .u64 25 (thA a (thC a 25) i)]))), (1, some (.ob 155 (chain [.ar .u64 25 (fun _ => 0)]))), (2, some (.ob 154 (chain [.ar .u64 5 (thC a 25)])))] 3 (by kernel_rfl) ⟨by rw [irem64 (by omega)]; omega, by omega, trivial⟩ rfl hS fun ac gs ws hS => ?_
      refine then_n ?_
      refine region_a (E := E0) mo hZ [(4, .oi (((i % 5) + 5 : Nat) : Int)), (5, .oi (((i % 5) + 4 : Nat) : Int)), (6, .oi ((((i % 5) + 4) % 5 : Nat) : Int)), (10, .oi (((i % 5) + 1 : Nat) : Int)), (11, .oi ((((i % 5) + 1) % 5 : Nat) : Int)), (14, .call ⟨126, (c_rot64 ((thC a 25) (((i % 5) + 1) % 5)) 1), [], []⟩)] ⟨rot64_ok ((thC a 25) (((i % 5) + 1) % 5)) 1, trivial⟩ (fun C => [(0 : Int) ≤ ((i : Nat) : Int) ∧ (((i : Nat) : Int) : Int) < 25, iadd .i64 ((i % 5 : Nat) : Int) 5 = (((i % 5) + 5 : Nat) : Int), isub .i64 (((i % 5) + 5 : Nat) : Int) 1 = (((i % 5) + 4 : Nat) : Int), irem (((i % 5) + 4 : Nat) : Int) 5 = ((((i % 5) + 4) % 5 : Nat) : Int), (5 : Int) ≠ 0, (0 : Int) ≤ ((((i % 5) + 4) % 5 : Nat) : Int) ∧ (((((i % 5) + 4) % 5 : Nat) : Int) : Int) < 5, iadd .i64 ((i % 5 : Nat) : Int) 1 = (((i % 5) + 1 : Nat) : Int), irem (((i % 5) + 1 : Nat) : Int) 5 = ((((i % 5) + 1) % 5 : Nat) : Int), (5 : Int) ≠ 0, (0 : Int) ≤ ((((i % 5) + 1) % 5 : Nat) : Int) ∧ (((((i % 5) + 1) % 5 : Nat) : Int) : Int) < 5, ndC C 14, (0 : Int) ≤ ((i : Nat) : Int) ∧ (((i : Nat) : Int) : Int) < 25]) [1, 2, 3, 21] [0, 1, 2] [(1, .cp 0 0), (2, .cp 1 0), (3, .cp 2 0), (21, .v (.int .i64 ((i : Nat) : Int)))] [(0, some (.ob 155 (chain [.ar .u64 25 (upd (thA a (thC a 25) i) i (ixor .u64 ((thA a (thC a 25) i) i) (ixor .u64 ((thC a 25) (((i % 5) + 4) % 5)) (rotl ((thC a 25) (((i % 5) + 1) % 5)) 1))))]))), (1, some (.ob 155 (chain [.ar .u64 25 (fun _ => 0)]))), (2, some (.ob 154 (chain [.ar .u64 5 (thC a 25)])))] 3 (by kernel_rfl) ⟨by omega, by rw [iadd64 (by omega) (by omega)]; omega, by rw [isub64 (by omega) (by omega)]; omega, by rw [irem64 (by omega)]; omega, by omega, by omega, by rw [iadd64 (by omega) (by omega)]; omega, by rw [irem64 (by omega)]; omega, by omega, by omega, rfl, by omega, trivial⟩ rfl hS fun ac gs ws hS => ?_
      refine block_n ?_
      refine then_n ?_
      refine region_a (E := E0) mo hZ [(0, .oi ((i + 1 : Nat) : Int))] trivial (fun _ => [iadd .i64 ((i : Nat) : Int) 1 = ((i + 1 : Nat) : Int)]) [1, 2, 3, 21] [0, 1, 2] [(1, .cp 0 0), (2, .cp 1 0), (3, .cp 2 0), (21, .v (.int .i64 ((i + 1 : Nat) : Int)))] [(0, some (.ob 155 (chain [.ar .u64 25 (upd (thA a (thC a 25) i) i (ixor .u64 ((thA a (thC a 25) i) i) (ixor .u64 ((thC a 25) (((i % 5) + 4) % 5)) (rotl ((thC a 25) (((i % 5) + 1) % 5)) 1))))]))), (1, some (.ob 155 (chain [.ar .u64 25 (fun _ => 0)]))), (2, some (.ob 154 (chain [.ar .u64 5 (thC a 25)])))] 3 (by kernel_rfl) ⟨by rw [iadd64 (by omega) (by omega)]; omega, trivial⟩ rfl hS fun ac gs ws hS => ?_
      refine then_n ?_
      exact next_r hg0 hS (s := (i)) (i + 1) [(0, 0), (1, 1), (2, 2)] (by kernel_rfl) (by kernel_rfl) ⟨rfl, rfl, rfl, trivial⟩ (show 25 - (i + 1) < 25 - i from by omega) ⟨(by omega), trivial⟩
    · skip
      have h2 := of_decide_eq_false h
      clear h
      have hScur := hS
      obtain rfl : 25 = i := by omega
      have hS := hScur
      clear hScur
      refine wp_exit ?_
      refine then_exit ?_
      refine then_exit ?_
      refine block_exit ?_
      refine then_n ?_
      refine wp_seq ?_
      refine region_a (E := E0) mo hZ [] trivial (fun _ => []) [2] [1] [(2, .cp 1 0)] [(1, some (.ob 155 (chain [.ar .u64 25 (thA a (thC a 25) 25)])))] 3 (by kernel_rfl) trivial rfl hS fun ac gs ws hS => ?_
      refine then_n ?_
      refine wp_ret ?_
      exact fin_x (.inr rfl) hS (ds := [.ar .u64 25 (thA a (thC a 25) 25)]) (by kernel_rfl) rfl trivial

noncomputable def c_rho (a : Nat → Int) : Con := ⟨[.ar .u64 25 a], [], .ar .u64 25 (rho a), []⟩
set_option maxRecDepth 100000 in
set_option maxHeartbeats 4000000 in
theorem rho_ok (a : Nat → Int) : ConOk Try.prog 117 (c_rho a) := by
  refine conOk_of (nb := 0) Try.func117 rfl rfl Try.ntmps117 rfl rfl rfl fun g0 w0 ac gs ws hg0 hS => ?_
  refine wp_seq ?_
  refine region_a (E := E0) mo hZ [] trivial (fun _ => []) [1, 2] [0, 1] [(1, .cp 0 0), (2, .cp 1 0)] [(0, some (.ob 155 (chain [.ar .u64 25 a]))), (1, some (.ob 155 (chain [.ar .u64 25 (fun _ => 0)])))] 2 (by kernel_rfl) trivial rfl hS fun ac gs ws hS => ?_
  refine then_n ?_
  refine wp_seq ?_
  refine region_a (E := E0) mo hZ [] trivial (fun _ => []) [1, 2, 3] [0, 1, 2] [(1, .cp 0 0), (2, .cp 1 0), (3, .cp 2 0)] [(0, some (.ob 155 (chain [.ar .u64 25 a]))), (1, some (.ob 155 (chain [.ar .u64 25 (fun _ => 0)]))), (2, some (.ob 155 (chain [.ar .u64 25 a])))] 3 (by kernel_rfl) trivial rfl hS fun ac gs ws hS => ?_
  refine then_n ?_
  refine wp_seq ?_
  refine region_a (E := E0) mo hZ [] trivial (fun _ => []) [1, 2, 3, 4, 5] [0, 1, 2] [(1, .cp 0 0), (2, .cp 1 0), (3, .cp 2 0), (4, .v (.int .i64 1)), (5, .v (.int .i64 0))] [(0, some (.ob 155 (chain [.ar .u64 25 a]))), (1, some (.ob 155 (chain [.ar .u64 25 (fun _ => 0)]))), (2, some (.ob 155 (chain [.ar .u64 25 a])))] 3 (by kernel_rfl) trivial rfl hS fun ac gs ws hS => ?_
  refine then_n ?_
  refine wp_seq ?_
  refine wp_seq ?_
  refine region_a (E := E0) mo hZ [] trivial (fun _ => []) [1, 2, 3, 4, 5, 9] [0, 1, 2] [(1, .cp 0 0), (2, .cp 1 0), (3, .cp 2 0), (4, .v (.int .i64 1)), (5, .v (.int .i64 0)), (9, .v (.int .i64 0))] [(0, some (.ob 155 (chain [.ar .u64 25 a]))), (1, some (.ob 155 (chain [.ar .u64 25 (fun _ => 0)]))), (2, some (.ob 155 (chain [.ar .u64 25 a])))] 3 (by kernel_rfl) trivial rfl hS fun ac gs ws hS => ?_
  refine then_n ?_
  refine wp_block ?_
  refine loop_r (σ := Nat × Nat × Nat × (Nat → Int)) hg0 hS (fun z_ => match z_ with | (t, x, y, f) => 24 - t) (fun z_ => match z_ with | (t, x, y, f) => [(1, .cp 0 0), (2, .cp 1 0), (3, .cp 2 0), (4, .v (.int .i64 ((x : Nat) : Int))), (5, .v (.int .i64 ((y : Nat) : Int))), (9, .v (.int .i64 ((t : Nat) : Int)))]) (fun z_ => match z_ with | (t, x, y, f) => [(0, .ob 155 (chain [.ar .u64 25 a])), (1, .ob 155 (chain [.ar .u64 25 (fun _ => 0)])), (2, .ob 155 (chain [.ar .u64 25 f]))]) (fun z_ => match z_ with | (t, x, y, f) => (t ≤ 24) ∧ (x < 5) ∧ (y < 5) ∧ (x = (Ke.px t).1) ∧ (y = (Ke.px t).2) ∧ (f = rhoA a t) ∧ True) 3 (0, 1, 0, a) [(0, 0), (1, 1), (2, 2)] (by kernel_rfl) (by kernel_rfl) ⟨rfl, rfl, rfl, trivial⟩ ⟨(by omega), (by omega), (by omega), rfl, rfl, rfl, trivial⟩ ?_
  rintro ⟨t, x, y, f⟩ ac gs ws ⟨ht, hx5, hy5, hx, hy, hf, _⟩ hS
  refine wp_seq ?_
  refine region_a (E := E0) mo hZ [] trivial (fun _ => []) [1, 2, 3, 4, 5, 9, 10] [0, 1, 2] [(1, .cp 0 0), (2, .cp 1 0), (3, .cp 2 0), (4, .v (.int .i64 ((x : Nat) : Int))), (5, .v (.int .i64 ((y : Nat) : Int))), (9, .v (.int .i64 ((t : Nat) : Int))), (10, .v (.bool (decide (((t : Nat) : Int) < 24))))] [(0, some (.ob 155 (chain [.ar .u64 25 a]))), (1, some (.ob 155 (chain [.ar .u64 25 (fun _ => 0)]))), (2, some (.ob 155 (chain [.ar .u64 25 f])))] 3 (by kernel_rfl) trivial rfl hS fun ac gs ws hS => ?_
  refine then_n ?_
  refine wp_seq ?_
  refine if_x hS rfl (fun h => ?_) (fun h => ?_)
  · skip
    have h1 := of_decide_eq_true h
    clear h
    refine wp_skip ?_
    refine then_n ?_
    refine wp_seq ?_
    refine wp_block ?_
    refine wp_seq ?_
    refine region_a (E := E0) mo hZ [] trivial (fun _ => []) [1, 2, 3, 4, 5, 6, 9] [0, 1, 2] [(1, .cp 0 0), (2, .cp 1 0), (3, .cp 2 0), (4, .v (.int .i64 ((x : Nat) : Int))), (5, .v (.int .i64 ((y : Nat) : Int))), (6, .v (.int .i64 ((t : Nat) : Int))), (9, .v (.int .i64 ((t : Nat) : Int)))] [(0, some (.ob 155 (chain [.ar .u64 25 a]))), (1, some (.ob 155 (chain [.ar .u64 25 (fun _ => 0)]))), (2, some (.ob 155 (chain [.ar .u64 25 f])))] 3 (by kernel_rfl) trivial rfl hS fun ac gs ws hS => ?_
    refine then_n ?_
    refine wp_seq ?_
    refine region_a (E := E0) mo hZ [(2, .oi ((5 * y : Nat) : Int)), (3, .oi ((x + (5 * y) : Nat) : Int)), (7, .oi ((t + 1 : Nat) : Int)), (9, .oi ((t + 2 : Nat) : Int)), (12, .call ⟨126, (c_rot64 (a (x + (5 * y))) (iquo .i64 (imul .i64 ((t + 1 : Nat) : Int) ((t + 2 : Nat) : Int)) 2)), [], []⟩)] ⟨rot64_ok (a (x + (5 * y))) (iquo .i64 (imul .i64 ((t + 1 : Nat) : Int) ((t + 2 : Nat) : Int)) 2), trivial⟩ (fun C => [imul .i64 5 ((y : Nat) : Int) = ((5 * y : Nat) : Int), iadd .i64 ((x : Nat) : Int) ((5 * y : Nat) : Int) = ((x + (5 * y) : Nat) : Int), (0 : Int) ≤ ((x + (5 * y) : Nat) : Int) ∧ (((x + (5 * y) : Nat) : Int) : Int) < 25, iadd .i64 ((t : Nat) : Int) 1 = ((t + 1 : Nat) : Int), iadd .i64 ((t : Nat) : Int) 2 = ((t + 2 : Nat) : Int), (2 : Int) ≠ 0, ndC C 12]) [1, 2, 3, 4, 5, 7, 9] [0, 1, 2] [(1, .cp 0 0), (2, .cp 1 0), (3, .cp 2 0), (4, .v (.int .i64 ((x : Nat) : Int))), (5, .v (.int .i64 ((y : Nat) : Int))), (7, .v (.int .u64 (rotl (a (x + (5 * y))) (iquo .i64 (imul .i64 ((t + 1 : Nat) : Int) ((t + 2 : Nat) : Int)) 2)))), (9, .v (.int .i64 ((t : Nat) : Int)))] [(0, some (.ob 155 (chain [.ar .u64 25 a]))), (1, some (.ob 155 (chain [.ar .u64 25 (fun _ => 0)]))), (2, some (.ob 155 (chain [.ar .u64 25 f])))] 3 (by kernel_rfl) ⟨by rw [imul64 (by omega) (by omega)]; omega, by rw [iadd64 (by omega) (by omega)]; omega, by omega, by rw [iadd64 (by omega) (by omega)]; omega, by rw [iadd64 (by omega) (by omega)]; omega, by omega, rfl, trivial⟩ rfl hS fun ac gs ws hS => ?_
    refine then_n ?_
    refine wp_seq ?_
    refine region_a (E := E0) mo hZ [(2, .oi ((2 * x : Nat) : Int)), (4, .oi ((3 * y : Nat) : Int)), (5, .oi (((2 * x) + (3 * y) : Nat) : Int)), (6, .oi ((((2 * x) + (3 * y)) % 5 : Nat) : Int))] trivial (fun _ => [imul .i64 2 ((x : Nat) : Int) = ((2 * x : Nat) : Int), imul .i64 3 ((y : Nat) : Int) = ((3 * y : Nat) : Int), iadd .i64 ((2 * x : Nat) : Int) ((3 * y : Nat) : Int) = (((2 * x) + (3 * y) : Nat) : Int), irem (((2 * x) + (3 * y) : Nat) : Int) 5 = ((((2 * x) + (3 * y)) % 5 : Nat) : Int), (5 : Int) ≠ 0]) [1, 2, 3, 4, 5, 7, 9] [0, 1, 2] [(1, .cp 0 0), (2, .cp 1 0), (3, .cp 2 0), (4, .v (.int .i64 ((y : Nat) : Int))), (5, .v (.int .i64 ((((2 * x) + (3 * y)) % 5 : Nat) : Int))), (7, .v (.int .u64 (rotl (a (x + (5 * y))) (iquo .i64 (imul .i64 ((t + 1 : Nat) : Int) ((t + 2 : Nat) : Int)) 2)))), (9, .v (.int .i64 ((t : Nat) : Int)))] [(0, some (.ob 155 (chain [.ar .u64 25 a]))), (1, some (.ob 155 (chain [.ar .u64 25 (fun _ => 0)]))), (2, some (.ob 155 (chain [.ar .u64 25 f])))] 3 (by kernel_rfl) ⟨by rw [imul64 (by omega) (by omega)]; omega, by rw [imul64 (by omega) (by omega)]; omega, by rw [iadd64 (by omega) (by omega)]; omega, by rw [irem64 (by omega)]; omega, by omega, trivial⟩ rfl hS fun ac gs ws hS => ?_
    refine then_n ?_
    refine region_a (E := E0) mo hZ [(2, .oi ((5 * (((2 * x) + (3 * y)) % 5) : Nat) : Int)), (3, .oi ((y + (5 * (((2 * x) + (3 * y)) % 5)) : Nat) : Int))] trivial (fun _ => [imul .i64 5 ((((2 * x) + (3 * y)) % 5 : Nat) : Int) = ((5 * (((2 * x) + (3 * y)) % 5) : Nat) : Int), iadd .i64 ((y : Nat) : Int) ((5 * (((2 * x) + (3 * y)) % 5) : Nat) : Int) = ((y + (5 * (((2 * x) + (3 * y)) % 5)) : Nat) : Int), (0 : Int) ≤ ((y + (5 * (((2 * x) + (3 * y)) % 5)) : Nat) : Int) ∧ (((y + (5 * (((2 * x) + (3 * y)) % 5)) : Nat) : Int) : Int) < 25]) [1, 2, 3, 4, 5, 9] [0, 1, 2] [(1, .cp 0 0), (2, .cp 1 0), (3, .cp 2 0), (4, .v (.int .i64 ((y : Nat) : Int))), (5, .v (.int .i64 ((((2 * x) + (3 * y)) % 5 : Nat) : Int))), (9, .v (.int .i64 ((t : Nat) : Int)))] [(0, some (.ob 155 (chain [.ar .u64 25 a]))), (1, some (.ob 155 (chain [.ar .u64 25 (fun _ => 0)]))), (2, some (.ob 155 (chain [.ar .u64 25 (upd f (y + (5 * (((2 * x) + (3 * y)) % 5))) (rotl (a (x + (5 * y))) (iquo .i64 (imul .i64 ((t + 1 : Nat) : Int) ((t + 2 : Nat) : Int)) 2)))])))] 3 (by kernel_rfl) ⟨by rw [imul64 (by omega) (by omega)]; omega, by rw [iadd64 (by omega) (by omega)]; omega, by omega, trivial⟩ rfl hS fun ac gs ws hS => ?_
    refine block_n ?_
    refine then_n ?_
    refine region_a (E := E0) mo hZ [(0, .oi ((t + 1 : Nat) : Int))] trivial (fun _ => [iadd .i64 ((t : Nat) : Int) 1 = ((t + 1 : Nat) : Int)]) [1, 2, 3, 4, 5, 9] [0, 1, 2] [(1, .cp 0 0), (2, .cp 1 0), (3, .cp 2 0), (4, .v (.int .i64 ((y : Nat) : Int))), (5, .v (.int .i64 ((((2 * x) + (3 * y)) % 5 : Nat) : Int))), (9, .v (.int .i64 ((t + 1 : Nat) : Int)))] [(0, some (.ob 155 (chain [.ar .u64 25 a]))), (1, some (.ob 155 (chain [.ar .u64 25 (fun _ => 0)]))), (2, some (.ob 155 (chain [.ar .u64 25 (upd f (y + (5 * (((2 * x) + (3 * y)) % 5))) (rotl (a (x + (5 * y))) (iquo .i64 (imul .i64 ((t + 1 : Nat) : Int) ((t + 2 : Nat) : Int)) 2)))])))] 3 (by kernel_rfl) ⟨by rw [iadd64 (by omega) (by omega)]; omega, trivial⟩ rfl hS fun ac gs ws hS => ?_
    refine then_n ?_
    exact next_r hg0 hS (s := (t, x, y, f)) (t + 1, y, ((2 * x) + (3 * y)) % 5, upd f (y + (5 * (((2 * x) + (3 * y)) % 5))) (rotl (a (x + (5 * y))) (iquo .i64 (imul .i64 ((t + 1 : Nat) : Int) ((t + 2 : Nat) : Int)) 2))) [(0, 0), (1, 1), (2, 2)] (by kernel_rfl) (by kernel_rfl) ⟨rfl, rfl, rfl, trivial⟩ (show 24 - (t + 1) < 24 - t from by omega) ⟨(by omega), (by omega), (by omega), hy, (by rw [hx, hy]; rfl), (by rw [hf, hx, hy]; rfl), trivial⟩
  · skip
    have h1 := of_decide_eq_false h
    clear h
    have hScur := hS
    obtain rfl : 24 = t := by omega
    obtain rfl : rho a = f := Eq.symm hf
    have hS := hScur
    clear hScur
    refine wp_exit ?_
    refine then_exit ?_
    refine then_exit ?_
    refine block_exit ?_
    refine then_n ?_
    refine wp_seq ?_
    refine region_a (E := E0) mo hZ [] trivial (fun _ => []) [2] [1] [(2, .cp 1 0)] [(1, some (.ob 155 (chain [.ar .u64 25 (rho a)])))] 3 (by kernel_rfl) trivial rfl hS fun ac gs ws hS => ?_
    refine then_n ?_
    refine wp_ret ?_
    exact fin_x (.inr rfl) hS (ds := [.ar .u64 25 (rho a)]) (by kernel_rfl) rfl trivial

noncomputable def c_chi (a : Nat → Int) : Con := ⟨[.ar .u64 25 a], [], .ar .u64 25 (chi a), []⟩
set_option maxRecDepth 100000 in
set_option maxHeartbeats 4000000 in
theorem chi_ok (a : Nat → Int) : ConOk Try.prog 118 (c_chi a) := by
  refine conOk_of (nb := 0) Try.func118 rfl rfl Try.ntmps118 rfl rfl rfl fun g0 w0 ac gs ws hg0 hS => ?_
  refine wp_seq ?_
  refine region_a (E := E0) mo hZ [] trivial (fun _ => []) [1, 2] [0, 1] [(1, .cp 0 0), (2, .cp 1 0)] [(0, some (.ob 155 (chain [.ar .u64 25 a]))), (1, some (.ob 155 (chain [.ar .u64 25 (fun _ => 0)])))] 2 (by kernel_rfl) trivial rfl hS fun ac gs ws hS => ?_
  refine then_n ?_
  refine wp_seq ?_
  refine region_a (E := E0) mo hZ [] trivial (fun _ => []) [1, 2, 3] [0, 1, 2] [(1, .cp 0 0), (2, .cp 1 0), (3, .cp 2 0)] [(0, some (.ob 155 (chain [.ar .u64 25 a]))), (1, some (.ob 155 (chain [.ar .u64 25 (fun _ => 0)]))), (2, some (.ob 155 (chain [.ar .u64 25 a])))] 3 (by kernel_rfl) trivial rfl hS fun ac gs ws hS => ?_
  refine then_n ?_
  refine wp_seq ?_
  refine wp_seq ?_
  refine region_a (E := E0) mo hZ [] trivial (fun _ => []) [1, 2, 3, 7] [0, 1, 2] [(1, .cp 0 0), (2, .cp 1 0), (3, .cp 2 0), (7, .v (.int .i64 0))] [(0, some (.ob 155 (chain [.ar .u64 25 a]))), (1, some (.ob 155 (chain [.ar .u64 25 (fun _ => 0)]))), (2, some (.ob 155 (chain [.ar .u64 25 a])))] 3 (by kernel_rfl) trivial rfl hS fun ac gs ws hS => ?_
  refine then_n ?_
  refine wp_block ?_
  refine loop_r (σ := Nat) hg0 hS (fun i => 25 - i) (fun i => [(1, .cp 0 0), (2, .cp 1 0), (3, .cp 2 0), (7, .v (.int .i64 ((i : Nat) : Int)))]) (fun i => [(0, .ob 155 (chain [.ar .u64 25 a])), (1, .ob 155 (chain [.ar .u64 25 (fun _ => 0)])), (2, .ob 155 (chain [.ar .u64 25 (chiA a i)]))]) (fun i => (i ≤ 25) ∧ True) 3 0 [(0, 0), (1, 1), (2, 2)] (by kernel_rfl) (by kernel_rfl) ⟨rfl, rfl, rfl, trivial⟩ ⟨(by omega), trivial⟩ ?_
  rintro i ac gs ws ⟨hi, _⟩ hS
  refine wp_seq ?_
  refine region_a (E := E0) mo hZ [] trivial (fun _ => []) [1, 2, 3, 7, 8] [0, 1, 2] [(1, .cp 0 0), (2, .cp 1 0), (3, .cp 2 0), (7, .v (.int .i64 ((i : Nat) : Int))), (8, .v (.bool (decide (((i : Nat) : Int) < 25))))] [(0, some (.ob 155 (chain [.ar .u64 25 a]))), (1, some (.ob 155 (chain [.ar .u64 25 (fun _ => 0)]))), (2, some (.ob 155 (chain [.ar .u64 25 (chiA a i)])))] 3 (by kernel_rfl) trivial rfl hS fun ac gs ws hS => ?_
  refine then_n ?_
  refine wp_seq ?_
  refine if_x hS rfl (fun h => ?_) (fun h => ?_)
  · skip
    have h1 := of_decide_eq_true h
    clear h
    refine wp_skip ?_
    refine then_n ?_
    refine wp_seq ?_
    refine wp_block ?_
    refine wp_seq ?_
    refine region_a (E := E0) mo hZ [] trivial (fun _ => []) [1, 2, 3, 4, 7] [0, 1, 2] [(1, .cp 0 0), (2, .cp 1 0), (3, .cp 2 0), (4, .v (.int .i64 ((i : Nat) : Int))), (7, .v (.int .i64 ((i : Nat) : Int)))] [(0, some (.ob 155 (chain [.ar .u64 25 a]))), (1, some (.ob 155 (chain [.ar .u64 25 (fun _ => 0)]))), (2, some (.ob 155 (chain [.ar .u64 25 (chiA a i)])))] 3 (by kernel_rfl) trivial rfl hS fun ac gs ws hS => ?_
    refine then_n ?_
    refine wp_seq ?_
    refine region_a (E := E0) mo hZ [(2, .oi ((i % 5 : Nat) : Int)), (3, .oi ((i - (i % 5) : Nat) : Int))] trivial (fun _ => [irem ((i : Nat) : Int) 5 = ((i % 5 : Nat) : Int), (5 : Int) ≠ 0, isub .i64 ((i : Nat) : Int) ((i % 5 : Nat) : Int) = ((i - (i % 5) : Nat) : Int)]) [1, 2, 3, 4, 5, 7] [0, 1, 2] [(1, .cp 0 0), (2, .cp 1 0), (3, .cp 2 0), (4, .v (.int .i64 ((i : Nat) : Int))), (5, .v (.int .i64 ((i - (i % 5) : Nat) : Int))), (7, .v (.int .i64 ((i : Nat) : Int)))] [(0, some (.ob 155 (chain [.ar .u64 25 a]))), (1, some (.ob 155 (chain [.ar .u64 25 (fun _ => 0)]))), (2, some (.ob 155 (chain [.ar .u64 25 (chiA a i)])))] 3 (by kernel_rfl) ⟨by rw [irem64 (by omega)]; omega, by omega, by rw [isub64 (by omega) (by omega)]; omega, trivial⟩ rfl hS fun ac gs ws hS => ?_
    refine then_n ?_
    refine region_a (E := E0) mo hZ [(5, .oi ((i + 1 : Nat) : Int)), (6, .oi (((i + 1) % 5 : Nat) : Int)), (7, .oi (((i - (i % 5)) + ((i + 1) % 5) : Nat) : Int)), (13, .oi ((i + 2 : Nat) : Int)), (14, .oi (((i + 2) % 5 : Nat) : Int)), (15, .oi (((i - (i % 5)) + ((i + 2) % 5) : Nat) : Int))] trivial (fun _ => [(0 : Int) ≤ ((i : Nat) : Int) ∧ (((i : Nat) : Int) : Int) < 25, iadd .i64 ((i : Nat) : Int) 1 = ((i + 1 : Nat) : Int), irem ((i + 1 : Nat) : Int) 5 = (((i + 1) % 5 : Nat) : Int), (5 : Int) ≠ 0, iadd .i64 ((i - (i % 5) : Nat) : Int) (((i + 1) % 5 : Nat) : Int) = (((i - (i % 5)) + ((i + 1) % 5) : Nat) : Int), (0 : Int) ≤ (((i - (i % 5)) + ((i + 1) % 5) : Nat) : Int) ∧ ((((i - (i % 5)) + ((i + 1) % 5) : Nat) : Int) : Int) < 25, iadd .i64 ((i : Nat) : Int) 2 = ((i + 2 : Nat) : Int), irem ((i + 2 : Nat) : Int) 5 = (((i + 2) % 5 : Nat) : Int), (5 : Int) ≠ 0, iadd .i64 ((i - (i % 5) : Nat) : Int) (((i + 2) % 5 : Nat) : Int) = (((i - (i % 5)) + ((i + 2) % 5) : Nat) : Int), (0 : Int) ≤ (((i - (i % 5)) + ((i + 2) % 5) : Nat) : Int) ∧ ((((i - (i % 5)) + ((i + 2) % 5) : Nat) : Int) : Int) < 25, (0 : Int) ≤ ((i : Nat) : Int) ∧ (((i : Nat) : Int) : Int) < 25]) [1, 2, 3, 7] [0, 1, 2] [(1, .cp 0 0), (2, .cp 1 0), (3, .cp 2 0), (7, .v (.int .i64 ((i : Nat) : Int)))] [(0, some (.ob 155 (chain [.ar .u64 25 a]))), (1, some (.ob 155 (chain [.ar .u64 25 (fun _ => 0)]))), (2, some (.ob 155 (chain [.ar .u64 25 (upd (chiA a i) i (ixor .u64 ((chiA a i) i) (iand .u64 (inot .u64 (a ((i - (i % 5)) + ((i + 1) % 5)))) (a ((i - (i % 5)) + ((i + 2) % 5))))))])))] 3 (by kernel_rfl) ⟨by omega, by rw [iadd64 (by omega) (by omega)]; omega, by rw [irem64 (by omega)]; omega, by omega, by rw [iadd64 (by omega) (by omega)]; omega, by omega, by rw [iadd64 (by omega) (by omega)]; omega, by rw [irem64 (by omega)]; omega, by omega, by rw [iadd64 (by omega) (by omega)]; omega, by omega, by omega, trivial⟩ rfl hS fun ac gs ws hS => ?_
    refine block_n ?_
    refine then_n ?_
    refine region_a (E := E0) mo hZ [(0, .oi ((i + 1 : Nat) : Int))] trivial (fun _ => [iadd .i64 ((i : Nat) : Int) 1 = ((i + 1 : Nat) : Int)]) [1, 2, 3, 7] [0, 1, 2] [(1, .cp 0 0), (2, .cp 1 0), (3, .cp 2 0), (7, .v (.int .i64 ((i + 1 : Nat) : Int)))] [(0, some (.ob 155 (chain [.ar .u64 25 a]))), (1, some (.ob 155 (chain [.ar .u64 25 (fun _ => 0)]))), (2, some (.ob 155 (chain [.ar .u64 25 (upd (chiA a i) i (ixor .u64 ((chiA a i) i) (iand .u64 (inot .u64 (a ((i - (i % 5)) + ((i + 1) % 5)))) (a ((i - (i % 5)) + ((i + 2) % 5))))))])))] 3 (by kernel_rfl) ⟨by rw [iadd64 (by omega) (by omega)]; omega, trivial⟩ rfl hS fun ac gs ws hS => ?_
    refine then_n ?_
    exact next_r hg0 hS (s := (i)) (i + 1) [(0, 0), (1, 1), (2, 2)] (by kernel_rfl) (by kernel_rfl) ⟨rfl, rfl, rfl, trivial⟩ (show 25 - (i + 1) < 25 - i from by omega) ⟨(by omega), trivial⟩
  · skip
    have h1 := of_decide_eq_false h
    clear h
    have hScur := hS
    obtain rfl : 25 = i := by omega
    have hS := hScur
    clear hScur
    refine wp_exit ?_
    refine then_exit ?_
    refine then_exit ?_
    refine block_exit ?_
    refine then_n ?_
    refine wp_seq ?_
    refine region_a (E := E0) mo hZ [] trivial (fun _ => []) [2] [1] [(2, .cp 1 0)] [(1, some (.ob 155 (chain [.ar .u64 25 (chiA a 25)])))] 3 (by kernel_rfl) trivial rfl hS fun ac gs ws hS => ?_
    refine then_n ?_
    refine wp_ret ?_
    exact fin_x (.inr rfl) hS (ds := [.ar .u64 25 (chiA a 25)]) (by kernel_rfl) rfl trivial

noncomputable def c_rounds : Con := ⟨[], [], .ar .u64 24 RC, []⟩
set_option maxRecDepth 100000 in
set_option maxHeartbeats 4000000 in
theorem rounds_ok : ConOk Try.prog 119 (c_rounds) := by
  refine conOk_of (nb := 0) Try.func119 rfl rfl Try.ntmps119 rfl rfl rfl fun g0 w0 ac gs ws hg0 hS => ?_
  refine wp_seq ?_
  refine region_a (E := E0) mo hZ [] trivial (fun _ => []) [0] [0] [(0, .cp 0 0)] [(0, some (.ob 159 (chain [.ar .u64 24 (fun _ => 0)])))] 1 (by kernel_rfl) trivial rfl hS fun ac gs ws hS => ?_
  refine then_n ?_
  refine wp_seq ?_
  refine region_a (E := E0) mo hZ [] trivial (fun _ => []) [0] [0] [(0, .cp 0 0)] [(0, some (.ob 159 (chain [.ar .u64 24 (upd (upd (upd (upd (upd (upd (upd (upd (upd (upd (upd (upd (upd (upd (upd (upd (upd (upd (upd (upd (upd (upd (upd (upd (fun _ => 0) 0 1) 1 32898) 2 9223372036854808714) 3 9223372039002292224) 4 32907) 5 2147483649) 6 9223372039002292353) 7 9223372036854808585) 8 138) 9 136) 10 2147516425) 11 2147483658) 12 2147516555) 13 9223372036854775947) 14 9223372036854808713) 15 9223372036854808579) 16 9223372036854808578) 17 9223372036854775936) 18 32778) 19 9223372039002259466) 20 9223372039002292353) 21 9223372036854808704) 22 2147483649) 23 9223372039002292232)])))] 1 (by kernel_rfl) trivial rfl hS fun ac gs ws hS => ?_
  refine then_n ?_
  refine wp_ret ?_
  exact fin_x (.inr rfl) hS (ds := [.ar .u64 24 (upd (upd (upd (upd (upd (upd (upd (upd (upd (upd (upd (upd (upd (upd (upd (upd (upd (upd (upd (upd (upd (upd (upd (upd (fun _ => 0) 0 1) 1 32898) 2 9223372036854808714) 3 9223372039002292224) 4 32907) 5 2147483649) 6 9223372039002292353) 7 9223372036854808585) 8 138) 9 136) 10 2147516425) 11 2147483658) 12 2147516555) 13 9223372036854775947) 14 9223372036854808713) 15 9223372036854808579) 16 9223372036854808578) 17 9223372036854775936) 18 32778) 19 9223372039002259466) 20 9223372039002292353) 21 9223372036854808704) 22 2147483649) 23 9223372039002292232)]) (by kernel_rfl) rfl trivial

noncomputable def c_perm (a : Nat → Int) : Con := ⟨[.ar .u64 25 a], [], .ar .u64 25 (perm a), []⟩
set_option maxRecDepth 100000 in
set_option maxHeartbeats 4000000 in
theorem perm_ok (a : Nat → Int) : ConOk Try.prog 97 (c_perm a) := by
  refine conOk_of (nb := 0) Try.func97 rfl rfl Try.ntmps97 rfl rfl rfl fun g0 w0 ac gs ws hg0 hS => ?_
  refine wp_seq ?_
  refine region_a (E := E0) mo hZ [] trivial (fun _ => []) [1, 2] [0, 1] [(1, .cp 0 0), (2, .cp 1 0)] [(0, some (.ob 137 (chain [.ar .u64 25 a]))), (1, some (.ob 137 (chain [.ar .u64 25 (fun _ => 0)])))] 2 (by kernel_rfl) trivial rfl hS fun ac gs ws hS => ?_
  refine then_n ?_
  refine wp_seq ?_
  refine region_a (E := E0) mo hZ [] trivial (fun _ => []) [2, 3] [1, 2] [(2, .cp 1 0), (3, .cp 2 0)] [(1, some (.ob 137 (chain [.ar .u64 25 (fun _ => 0)]))), (2, some (.ob 155 (chain [.ar .u64 25 a])))] 3 (by kernel_rfl) trivial rfl hS fun ac gs ws hS => ?_
  refine then_n ?_
  refine wp_seq ?_
  refine region_a (E := E0) mo hZ [] trivial (fun _ => []) [2, 3, 4] [1, 2, 3] [(2, .cp 1 0), (3, .cp 2 0), (4, .cp 3 0)] [(1, some (.ob 137 (chain [.ar .u64 25 (fun _ => 0)]))), (2, some (.ob 155 (chain [.ar .u64 25 a]))), (3, some (.ob 158 (chain [.v (.func (.func 116) #[] #[]), .v (.func (.func 117) #[] #[]), .v (.func (.func 118) #[] #[])])))] 4 (by kernel_rfl) trivial rfl hS fun ac gs ws hS => ?_
  refine then_n ?_
  refine wp_seq ?_
  refine wp_seq ?_
  refine region_a (E := E0) mo hZ [(0, .call ⟨119, (c_rounds), [], []⟩)] ⟨rounds_ok, trivial⟩ (fun C => [ndC C 0]) [2, 3, 4, 11, 12] [1, 2, 3] [(2, .cp 1 0), (3, .cp 2 0), (4, .cp 3 0), (11, .ar .u64 24 RC), (12, .v (.int .i64 0))] [(1, some (.ob 137 (chain [.ar .u64 25 (fun _ => 0)]))), (2, some (.ob 155 (chain [.ar .u64 25 a]))), (3, some (.ob 158 (chain [.v (.func (.func 116) #[] #[]), .v (.func (.func 117) #[] #[]), .v (.func (.func 118) #[] #[])])))] 4 (by kernel_rfl) ⟨rfl, trivial⟩ rfl hS fun ac gs ws hS => ?_
  refine then_n ?_
  refine wp_block ?_
  refine loop_r (σ := Nat × (Nat → Int)) hg0 hS (fun z_ => match z_ with | (i, f) => 24 - i) (fun z_ => match z_ with | (i, f) => [(2, .cp 1 0), (3, .cp 2 0), (4, .cp 3 0), (11, .ar .u64 24 RC), (12, .v (.int .i64 ((i : Nat) : Int)))]) (fun z_ => match z_ with | (i, f) => [(1, .ob 137 (chain [.ar .u64 25 (fun _ => 0)])), (2, .ob 155 (chain [.ar .u64 25 f])), (3, .ob 158 (chain [.v (.func (.func 116) #[] #[]), .v (.func (.func 117) #[] #[]), .v (.func (.func 118) #[] #[])]))]) (fun z_ => match z_ with | (i, f) => (i ≤ 24) ∧ (f = perA a i) ∧ True) 4 (0, a) [(1, 1), (2, 2), (3, 3)] (by kernel_rfl) (by kernel_rfl) ⟨rfl, rfl, rfl, trivial⟩ ⟨(by omega), rfl, trivial⟩ ?_
  rintro ⟨i, f⟩ ac gs ws ⟨hi, hf, _⟩ hS
  refine wp_seq ?_
  refine region_a (E := E0) mo hZ [] trivial (fun _ => []) [2, 3, 4, 11, 12, 13] [1, 2, 3] [(2, .cp 1 0), (3, .cp 2 0), (4, .cp 3 0), (11, .ar .u64 24 RC), (12, .v (.int .i64 ((i : Nat) : Int))), (13, .v (.bool (decide (((i : Nat) : Int) < 24))))] [(1, some (.ob 137 (chain [.ar .u64 25 (fun _ => 0)]))), (2, some (.ob 155 (chain [.ar .u64 25 f]))), (3, some (.ob 158 (chain [.v (.func (.func 116) #[] #[]), .v (.func (.func 117) #[] #[]), .v (.func (.func 118) #[] #[])])))] 4 (by kernel_rfl) trivial rfl hS fun ac gs ws hS => ?_
  refine then_n ?_
  refine wp_seq ?_
  refine if_x hS rfl (fun h => ?_) (fun h => ?_)
  · skip
    have h1 := of_decide_eq_true h
    clear h
    refine wp_skip ?_
    refine then_n ?_
    refine wp_seq ?_
    refine wp_block ?_
    refine wp_seq ?_
    refine region_a (E := E0) mo hZ [] trivial (fun _ => [(0 : Int) ≤ ((i : Nat) : Int) ∧ (((i : Nat) : Int) : Int) < 24]) [2, 3, 4, 6, 11, 12] [1, 2, 3] [(2, .cp 1 0), (3, .cp 2 0), (4, .cp 3 0), (6, .v (.int .u64 (RC i))), (11, .ar .u64 24 RC), (12, .v (.int .i64 ((i : Nat) : Int)))] [(1, some (.ob 137 (chain [.ar .u64 25 (fun _ => 0)]))), (2, some (.ob 155 (chain [.ar .u64 25 f]))), (3, some (.ob 158 (chain [.v (.func (.func 116) #[] #[]), .v (.func (.func 117) #[] #[]), .v (.func (.func 118) #[] #[])])))] 4 (by kernel_rfl) ⟨by omega, trivial⟩ rfl hS fun ac gs ws hS => ?_
    refine then_n ?_
    refine wp_seq ?_
    refine wp_seq ?_
    refine region_a (E := E0) mo hZ [] trivial (fun _ => []) [2, 3, 4, 6, 11, 12, 15, 16] [1, 2, 3] [(2, .cp 1 0), (3, .cp 2 0), (4, .cp 3 0), (6, .v (.int .u64 (RC i))), (11, .ar .u64 24 RC), (12, .v (.int .i64 ((i : Nat) : Int))), (15, .ag (chain [.v (.func (.func 116) #[] #[]), .v (.func (.func 117) #[] #[]), .v (.func (.func 118) #[] #[])])), (16, .v (.int .i64 0))] [(1, some (.ob 137 (chain [.ar .u64 25 (fun _ => 0)]))), (2, some (.ob 155 (chain [.ar .u64 25 f]))), (3, some (.ob 158 (chain [.v (.func (.func 116) #[] #[]), .v (.func (.func 117) #[] #[]), .v (.func (.func 118) #[] #[])])))] 4 (by kernel_rfl) trivial rfl hS fun ac gs ws hS => ?_
    refine then_n ?_
    refine wp_block ?_
    refine loop_r (σ := Nat × (Nat → Int)) hg0 hS (fun z_ => match z_ with | (j, g) => 3 - j) (fun z_ => match z_ with | (j, g) => [(2, .cp 1 0), (3, .cp 2 0), (4, .cp 3 0), (6, .v (.int .u64 (RC i))), (11, .ar .u64 24 RC), (12, .v (.int .i64 ((i : Nat) : Int))), (15, .ag (chain [.v (.func (.func 116) #[] #[]), .v (.func (.func 117) #[] #[]), .v (.func (.func 118) #[] #[])])), (16, .v (.int .i64 ((j : Nat) : Int)))]) (fun z_ => match z_ with | (j, g) => [(1, .ob 137 (chain [.ar .u64 25 (fun _ => 0)])), (2, .ob 155 (chain [.ar .u64 25 g])), (3, .ob 158 (chain [.v (.func (.func 116) #[] #[]), .v (.func (.func 117) #[] #[]), .v (.func (.func 118) #[] #[])]))]) (fun z_ => match z_ with | (j, g) => (j ≤ 3) ∧ (g = kst f j) ∧ True) 4 (0, f) [(1, 1), (2, 2), (3, 3)] (by kernel_rfl) (by kernel_rfl) ⟨rfl, rfl, rfl, trivial⟩ ⟨(by omega), rfl, trivial⟩ ?_
    rintro ⟨j, g⟩ ac gs ws ⟨hj, hg, _⟩ hS
    refine wp_seq ?_
    refine region_a (E := E0) mo hZ [] trivial (fun _ => []) [2, 3, 4, 6, 11, 12, 15, 16, 17] [1, 2, 3] [(2, .cp 1 0), (3, .cp 2 0), (4, .cp 3 0), (6, .v (.int .u64 (RC i))), (11, .ar .u64 24 RC), (12, .v (.int .i64 ((i : Nat) : Int))), (15, .ag (chain [.v (.func (.func 116) #[] #[]), .v (.func (.func 117) #[] #[]), .v (.func (.func 118) #[] #[])])), (16, .v (.int .i64 ((j : Nat) : Int))), (17, .v (.bool (decide (((j : Nat) : Int) < 3))))] [(1, some (.ob 137 (chain [.ar .u64 25 (fun _ => 0)]))), (2, some (.ob 155 (chain [.ar .u64 25 g]))), (3, some (.ob 158 (chain [.v (.func (.func 116) #[] #[]), .v (.func (.func 117) #[] #[]), .v (.func (.func 118) #[] #[])])))] 4 (by kernel_rfl) trivial rfl hS fun ac gs ws hS => ?_
    refine then_n ?_
    refine wp_seq ?_
    refine if_x hS rfl (fun h => ?_) (fun h => ?_)
    · skip
      have h2 := of_decide_eq_true h
      clear h
      have hScur := hS
      rcases (by omega : j = 0 ∨ j = 1 ∨ j = 2) with rfl | rfl | rfl
      · have hS := hScur
        clear hScur
        refine wp_skip ?_
        refine then_n ?_
        refine wp_seq ?_
        refine wp_block ?_
        refine wp_seq ?_
        refine region_a (E := E0) mo hZ [] trivial (fun _ => [(0 : Int) ≤ 0 ∧ (0 : Int) < 3]) [2, 3, 4, 6, 8, 11, 12, 15, 16] [1, 2, 3] [(2, .cp 1 0), (3, .cp 2 0), (4, .cp 3 0), (6, .v (.int .u64 (RC i))), (8, .v (.func (.func 116) #[] #[])), (11, .ar .u64 24 RC), (12, .v (.int .i64 ((i : Nat) : Int))), (15, .ag (chain [.v (.func (.func 116) #[] #[]), .v (.func (.func 117) #[] #[]), .v (.func (.func 118) #[] #[])])), (16, .v (.int .i64 0))] [(1, some (.ob 137 (chain [.ar .u64 25 (fun _ => 0)]))), (2, some (.ob 155 (chain [.ar .u64 25 g]))), (3, some (.ob 158 (chain [.v (.func (.func 116) #[] #[]), .v (.func (.func 117) #[] #[]), .v (.func (.func 118) #[] #[])])))] 4 (by kernel_rfl) ⟨by omega, trivial⟩ rfl hS fun ac gs ws hS => ?_
        refine then_n ?_
        refine region_a (E := E0) mo hZ [(2, .call ⟨116, (c_theta g), [], []⟩)] ⟨theta_ok g, trivial⟩ (fun C => [ndC C 2]) [2, 3, 4, 6, 11, 12, 15, 16] [1, 2, 3] [(2, .cp 1 0), (3, .cp 2 0), (4, .cp 3 0), (6, .v (.int .u64 (RC i))), (11, .ar .u64 24 RC), (12, .v (.int .i64 ((i : Nat) : Int))), (15, .ag (chain [.v (.func (.func 116) #[] #[]), .v (.func (.func 117) #[] #[]), .v (.func (.func 118) #[] #[])])), (16, .v (.int .i64 0))] [(1, some (.ob 137 (chain [.ar .u64 25 (fun _ => 0)]))), (2, some (.ob 155 (chain [.ar .u64 25 (theta g)]))), (3, some (.ob 158 (chain [.v (.func (.func 116) #[] #[]), .v (.func (.func 117) #[] #[]), .v (.func (.func 118) #[] #[])])))] 4 (by kernel_rfl) ⟨rfl, trivial⟩ rfl hS fun ac gs ws hS => ?_
        refine block_n ?_
        refine then_n ?_
        refine region_a (E := E0) mo hZ [] trivial (fun _ => []) [2, 3, 4, 6, 11, 12, 15, 16] [1, 2, 3] [(2, .cp 1 0), (3, .cp 2 0), (4, .cp 3 0), (6, .v (.int .u64 (RC i))), (11, .ar .u64 24 RC), (12, .v (.int .i64 ((i : Nat) : Int))), (15, .ag (chain [.v (.func (.func 116) #[] #[]), .v (.func (.func 117) #[] #[]), .v (.func (.func 118) #[] #[])])), (16, .v (.int .i64 1))] [(1, some (.ob 137 (chain [.ar .u64 25 (fun _ => 0)]))), (2, some (.ob 155 (chain [.ar .u64 25 (theta g)]))), (3, some (.ob 158 (chain [.v (.func (.func 116) #[] #[]), .v (.func (.func 117) #[] #[]), .v (.func (.func 118) #[] #[])])))] 4 (by kernel_rfl) trivial rfl hS fun ac gs ws hS => ?_
        refine then_n ?_
        exact next_r hg0 hS (s := (0, g)) (1, theta g) [(1, 1), (2, 2), (3, 3)] (by kernel_rfl) (by kernel_rfl) ⟨rfl, rfl, rfl, trivial⟩ (show 3 - 1 < 3 - 0 from by omega) ⟨(by omega), (kst_s _ _ _ hg), trivial⟩
      · have hS := hScur
        clear hScur
        refine wp_skip ?_
        refine then_n ?_
        refine wp_seq ?_
        refine wp_block ?_
        refine wp_seq ?_
        refine region_a (E := E0) mo hZ [] trivial (fun _ => [(0 : Int) ≤ 1 ∧ (1 : Int) < 3]) [2, 3, 4, 6, 8, 11, 12, 15, 16] [1, 2, 3] [(2, .cp 1 0), (3, .cp 2 0), (4, .cp 3 0), (6, .v (.int .u64 (RC i))), (8, .v (.func (.func 117) #[] #[])), (11, .ar .u64 24 RC), (12, .v (.int .i64 ((i : Nat) : Int))), (15, .ag (chain [.v (.func (.func 116) #[] #[]), .v (.func (.func 117) #[] #[]), .v (.func (.func 118) #[] #[])])), (16, .v (.int .i64 1))] [(1, some (.ob 137 (chain [.ar .u64 25 (fun _ => 0)]))), (2, some (.ob 155 (chain [.ar .u64 25 g]))), (3, some (.ob 158 (chain [.v (.func (.func 116) #[] #[]), .v (.func (.func 117) #[] #[]), .v (.func (.func 118) #[] #[])])))] 4 (by kernel_rfl) ⟨by omega, trivial⟩ rfl hS fun ac gs ws hS => ?_
        refine then_n ?_
        refine region_a (E := E0) mo hZ [(2, .call ⟨117, (c_rho g), [], []⟩)] ⟨rho_ok g, trivial⟩ (fun C => [ndC C 2]) [2, 3, 4, 6, 11, 12, 15, 16] [1, 2, 3] [(2, .cp 1 0), (3, .cp 2 0), (4, .cp 3 0), (6, .v (.int .u64 (RC i))), (11, .ar .u64 24 RC), (12, .v (.int .i64 ((i : Nat) : Int))), (15, .ag (chain [.v (.func (.func 116) #[] #[]), .v (.func (.func 117) #[] #[]), .v (.func (.func 118) #[] #[])])), (16, .v (.int .i64 1))] [(1, some (.ob 137 (chain [.ar .u64 25 (fun _ => 0)]))), (2, some (.ob 155 (chain [.ar .u64 25 (rho g)]))), (3, some (.ob 158 (chain [.v (.func (.func 116) #[] #[]), .v (.func (.func 117) #[] #[]), .v (.func (.func 118) #[] #[])])))] 4 (by kernel_rfl) ⟨rfl, trivial⟩ rfl hS fun ac gs ws hS => ?_
        refine block_n ?_
        refine then_n ?_
        refine region_a (E := E0) mo hZ [] trivial (fun _ => []) [2, 3, 4, 6, 11, 12, 15, 16] [1, 2, 3] [(2, .cp 1 0), (3, .cp 2 0), (4, .cp 3 0), (6, .v (.int .u64 (RC i))), (11, .ar .u64 24 RC), (12, .v (.int .i64 ((i : Nat) : Int))), (15, .ag (chain [.v (.func (.func 116) #[] #[]), .v (.func (.func 117) #[] #[]), .v (.func (.func 118) #[] #[])])), (16, .v (.int .i64 2))] [(1, some (.ob 137 (chain [.ar .u64 25 (fun _ => 0)]))), (2, some (.ob 155 (chain [.ar .u64 25 (rho g)]))), (3, some (.ob 158 (chain [.v (.func (.func 116) #[] #[]), .v (.func (.func 117) #[] #[]), .v (.func (.func 118) #[] #[])])))] 4 (by kernel_rfl) trivial rfl hS fun ac gs ws hS => ?_
        refine then_n ?_
        exact next_r hg0 hS (s := (1, g)) (2, rho g) [(1, 1), (2, 2), (3, 3)] (by kernel_rfl) (by kernel_rfl) ⟨rfl, rfl, rfl, trivial⟩ (show 3 - 2 < 3 - 1 from by omega) ⟨(by omega), (kst_s _ _ _ hg), trivial⟩
      · have hS := hScur
        clear hScur
        refine wp_skip ?_
        refine then_n ?_
        refine wp_seq ?_
        refine wp_block ?_
        refine wp_seq ?_
        refine region_a (E := E0) mo hZ [] trivial (fun _ => [(0 : Int) ≤ 2 ∧ (2 : Int) < 3]) [2, 3, 4, 6, 8, 11, 12, 15, 16] [1, 2, 3] [(2, .cp 1 0), (3, .cp 2 0), (4, .cp 3 0), (6, .v (.int .u64 (RC i))), (8, .v (.func (.func 118) #[] #[])), (11, .ar .u64 24 RC), (12, .v (.int .i64 ((i : Nat) : Int))), (15, .ag (chain [.v (.func (.func 116) #[] #[]), .v (.func (.func 117) #[] #[]), .v (.func (.func 118) #[] #[])])), (16, .v (.int .i64 2))] [(1, some (.ob 137 (chain [.ar .u64 25 (fun _ => 0)]))), (2, some (.ob 155 (chain [.ar .u64 25 g]))), (3, some (.ob 158 (chain [.v (.func (.func 116) #[] #[]), .v (.func (.func 117) #[] #[]), .v (.func (.func 118) #[] #[])])))] 4 (by kernel_rfl) ⟨by omega, trivial⟩ rfl hS fun ac gs ws hS => ?_
        refine then_n ?_
        refine region_a (E := E0) mo hZ [(2, .call ⟨118, (c_chi g), [], []⟩)] ⟨chi_ok g, trivial⟩ (fun C => [ndC C 2]) [2, 3, 4, 6, 11, 12, 15, 16] [1, 2, 3] [(2, .cp 1 0), (3, .cp 2 0), (4, .cp 3 0), (6, .v (.int .u64 (RC i))), (11, .ar .u64 24 RC), (12, .v (.int .i64 ((i : Nat) : Int))), (15, .ag (chain [.v (.func (.func 116) #[] #[]), .v (.func (.func 117) #[] #[]), .v (.func (.func 118) #[] #[])])), (16, .v (.int .i64 2))] [(1, some (.ob 137 (chain [.ar .u64 25 (fun _ => 0)]))), (2, some (.ob 155 (chain [.ar .u64 25 (chi g)]))), (3, some (.ob 158 (chain [.v (.func (.func 116) #[] #[]), .v (.func (.func 117) #[] #[]), .v (.func (.func 118) #[] #[])])))] 4 (by kernel_rfl) ⟨rfl, trivial⟩ rfl hS fun ac gs ws hS => ?_
        refine block_n ?_
        refine then_n ?_
        refine region_a (E := E0) mo hZ [] trivial (fun _ => []) [2, 3, 4, 6, 11, 12, 15, 16] [1, 2, 3] [(2, .cp 1 0), (3, .cp 2 0), (4, .cp 3 0), (6, .v (.int .u64 (RC i))), (11, .ar .u64 24 RC), (12, .v (.int .i64 ((i : Nat) : Int))), (15, .ag (chain [.v (.func (.func 116) #[] #[]), .v (.func (.func 117) #[] #[]), .v (.func (.func 118) #[] #[])])), (16, .v (.int .i64 3))] [(1, some (.ob 137 (chain [.ar .u64 25 (fun _ => 0)]))), (2, some (.ob 155 (chain [.ar .u64 25 (chi g)]))), (3, some (.ob 158 (chain [.v (.func (.func 116) #[] #[]), .v (.func (.func 117) #[] #[]), .v (.func (.func 118) #[] #[])])))] 4 (by kernel_rfl) trivial rfl hS fun ac gs ws hS => ?_
        refine then_n ?_
        exact next_r hg0 hS (s := (2, g)) (3, chi g) [(1, 1), (2, 2), (3, 3)] (by kernel_rfl) (by kernel_rfl) ⟨rfl, rfl, rfl, trivial⟩ (show 3 - 3 < 3 - 2 from by omega) ⟨(by omega), (kst_s _ _ _ hg), trivial⟩
    · skip
      have h2 := of_decide_eq_false h
      clear h
      have hScur := hS
      obtain rfl : 3 = j := by omega
      have hS := hScur
      clear hScur
      refine wp_exit ?_
      refine then_exit ?_
      refine then_exit ?_
      refine block_exit ?_
      refine then_n ?_
      refine region_a (E := E0) mo hZ [] trivial (fun _ => [(0 : Int) ≤ 0 ∧ (0 : Int) < 25, (0 : Int) ≤ 0 ∧ (0 : Int) < 25]) [2, 3, 4, 11, 12] [1, 2, 3] [(2, .cp 1 0), (3, .cp 2 0), (4, .cp 3 0), (11, .ar .u64 24 RC), (12, .v (.int .i64 ((i : Nat) : Int)))] [(1, some (.ob 137 (chain [.ar .u64 25 (fun _ => 0)]))), (2, some (.ob 155 (chain [.ar .u64 25 (upd g 0 (ixor .u64 (g 0) (RC i)))]))), (3, some (.ob 158 (chain [.v (.func (.func 116) #[] #[]), .v (.func (.func 117) #[] #[]), .v (.func (.func 118) #[] #[])])))] 4 (by kernel_rfl) ⟨by omega, by omega, trivial⟩ rfl hS fun ac gs ws hS => ?_
      refine block_n ?_
      refine then_n ?_
      refine region_a (E := E0) mo hZ [(0, .oi ((i + 1 : Nat) : Int))] trivial (fun _ => [iadd .i64 ((i : Nat) : Int) 1 = ((i + 1 : Nat) : Int)]) [2, 3, 4, 11, 12] [1, 2, 3] [(2, .cp 1 0), (3, .cp 2 0), (4, .cp 3 0), (11, .ar .u64 24 RC), (12, .v (.int .i64 ((i + 1 : Nat) : Int)))] [(1, some (.ob 137 (chain [.ar .u64 25 (fun _ => 0)]))), (2, some (.ob 155 (chain [.ar .u64 25 (upd g 0 (ixor .u64 (g 0) (RC i)))]))), (3, some (.ob 158 (chain [.v (.func (.func 116) #[] #[]), .v (.func (.func 117) #[] #[]), .v (.func (.func 118) #[] #[])])))] 4 (by kernel_rfl) ⟨by rw [iadd64 (by omega) (by omega)]; omega, trivial⟩ rfl hS fun ac gs ws hS => ?_
      refine then_n ?_
      exact next_r hg0 hS (s := (i, f)) (i + 1, upd g 0 (ixor .u64 (g 0) (RC i))) [(1, 1), (2, 2), (3, 3)] (by kernel_rfl) (by kernel_rfl) ⟨rfl, rfl, rfl, trivial⟩ (show 24 - (i + 1) < 24 - i from by omega) ⟨(by omega), (per_s a _ _ i hf hg), trivial⟩
  · skip
    have h1 := of_decide_eq_false h
    clear h
    have hScur := hS
    obtain rfl : 24 = i := by omega
    obtain rfl : perm a = f := Eq.symm hf
    have hS := hScur
    clear hScur
    refine wp_exit ?_
    refine then_exit ?_
    refine then_exit ?_
    refine block_exit ?_
    refine then_n ?_
    refine wp_seq ?_
    refine region_a (E := E0) mo hZ [] trivial (fun _ => []) [2] [1] [(2, .cp 1 0)] [(1, some (.ob 137 (chain [.ar .u64 25 (perm a)])))] 4 (by kernel_rfl) trivial rfl hS fun ac gs ws hS => ?_
    refine then_n ?_
    refine wp_ret ?_
    exact fin_x (.inr rfl) hS (ds := [.ar .u64 25 (perm a)]) (by kernel_rfl) rfl trivial

end Go.Sx.Try
namespace Go.Sx.Try
open Go.Mi Go.RowKit Go.Sx Go.Proofs
noncomputable def c_grow (n : Nat) : Con := ⟨[.v (.slice none 0 0), .v (.int .i64 ((n : Nat) : Int))], [], .sk 0, [(0, .sl 5 [.int .u8] [])]⟩
set_option maxRecDepth 100000 in
set_option maxHeartbeats 4000000 in
theorem grow_ok (n : Nat) (h : n ≤ 140737488355328) : ConOk Try.prog 102 (c_grow n) := by
  refine conOk_of (nb := 0) Try.func102 rfl rfl Try.ntmps102 rfl rfl rfl fun g0 w0 ac gs ws hg0 hS => ?_
  refine wp_seq ?_
  refine region_a (E := E0) mo hZ [] trivial (fun _ => []) [0, 1, 4] [] [(0, .v (.slice none 0 0)), (1, .v (.int .i64 ((n : Nat) : Int))), (4, .v (.slice none 0 0))] [] 0 (by kernel_rfl) trivial rfl hS fun ac gs ws hS => ?_
  refine then_n ?_
  refine wp_seq ?_
  refine wp_seq ?_
  refine region_a (E := E0) mo hZ [] trivial (fun _ => []) [0, 1, 4, 6] [] [(0, .v (.slice none 0 0)), (1, .v (.int .i64 ((n : Nat) : Int))), (4, .v (.slice none 0 0)), (6, .v (.bool (decide (((n : Nat) : Int) < 0))))] [] 0 (by kernel_rfl) trivial rfl hS fun ac gs ws hS => ?_
  refine then_n ?_
  refine if_x hS rfl (fun h => ?_) (fun h => ?_)
  · skip
    have h1 := of_decide_eq_true h
    clear h
    exact absurd h1 (by omega)
  · skip
    have h1 := of_decide_eq_false h
    clear h
    refine wp_skip ?_
    refine then_n ?_
    refine wp_seq ?_
    refine wp_seq ?_
    refine region_a (E := E0) mo hZ [(6, .oi ((n : Nat) : Int))] trivial (fun _ => [isub .i64 ((n : Nat) : Int) 0 = ((n : Nat) : Int)]) [0, 1, 4] [] [(0, .v (.slice none 0 0)), (1, .v (.int .i64 ((n : Nat) : Int))), (4, .v (.slice none 0 0))] [] 0 (by kernel_rfl) ⟨by rw [isub64 (by omega) (by omega)]; omega, trivial⟩ rfl hS fun ac gs ws hS => ?_
    refine then_n ?_
    refine wp_seq ?_
    refine region_a (E := E0) mo hZ [] trivial (fun _ => []) [0, 1, 4, 16] [] [(0, .v (.slice none 0 0)), (1, .v (.int .i64 ((n : Nat) : Int))), (4, .v (.slice none 0 0)), (16, .v (.bool (decide ((0 : Int) < ((n : Nat) : Int)))))] [] 0 (by kernel_rfl) trivial rfl hS fun ac gs ws hS => ?_
    refine then_n ?_
    refine if_x hS rfl (fun h => ?_) (fun h => ?_)
    · skip
      have h2 := of_decide_eq_true h
      clear h
      refine region_a (E := E0) mo hZ [] trivial (fun _ => [bndP none (some 0) none 0 0, (0 : Int) ≤ ((n : Nat) : Int), ([] : List (RT [.int .u8])).length + n ≤ 9223372036854775807, (([] : List (RT [.int .u8])).length + n) * 1 ≤ 140737488355328, (0 : Int) ≤ 0 ∧ (0 : Int) ≤ ([] ++ List.replicate n (0 : Int)).length]) [0, 4] [1] [(0, .sk 1), (4, .v (.slice none 0 0))] [(1, some (.sl 5 [.int .u8] (([] ++ List.replicate n (0 : Int)).take 0)))] 2 (by kernel_rfl) ⟨⟨by simp only [nnI] <;> omega, by simp only [nnI] <;> omega, by simp only [nnI] <;> omega, by simp, by simp only [bl] <;> omega, by simp only [bl] <;> omega, by simp only [bl] <;> omega⟩, by omega, by simp <;> omega, by simp <;> omega, by simp, trivial⟩ rfl hS fun ac gs ws hS => ?_
      refine then_n ?_
      refine wp_seq ?_
      refine region_a (E := E0) mo hZ [] trivial (fun _ => []) [4] [1] [(4, .sk 1)] [(1, some (.sl 5 [.int .u8] (([] ++ List.replicate n (0 : Int)).take 0)))] 2 (by kernel_rfl) trivial rfl hS fun ac gs ws hS => ?_
      refine then_n ?_
      refine wp_ret ?_
      obtain ⟨gs, hS⟩ := St.ren hg0 hS [(0, 1)] [(4, .sk 0)] [(0, .sl 5 [.int .u8] (([] ++ List.replicate n (0 : Int)).take 0))] 1 (by kernel_rfl) (by kernel_rfl) ⟨rfl, trivial⟩
      exact fin_x (.inr rfl) hS (ds := [.sk 0]) (by kernel_rfl) rfl ⟨rfl, trivial⟩
    · skip
      have h2 := of_decide_eq_false h
      clear h
      refine wp_skip ?_
      refine then_n ?_
      refine wp_seq ?_
      refine region_a (E := E0) mo hZ [] trivial (fun _ => []) [4] [] [(4, .v (.slice none 0 0))] [] 0 (by kernel_rfl) trivial rfl hS fun ac gs ws hS => ?_
      refine then_n ?_
      refine wp_ret ?_
      obtain ⟨gs, hS⟩ := hS.nilk 4 5 [.int .u8] rfl (L' := [(4, .sk 0)]) (H' := [(0, some (.sl 5 [.int .u8] []))]) (by kernel_rfl) (by kernel_rfl)
      exact fin_x (.inr rfl) hS (ds := [.sk 0]) (by kernel_rfl) rfl ⟨rfl, trivial⟩

noncomputable def c_concat (l : List (List Int)) : Con := ⟨[.ls false [.sl (.int .u8)] l], [], .sk 0, [(0, .sl 5 [.int .u8] l.flatten)]⟩
set_option maxRecDepth 100000 in
set_option maxHeartbeats 4000000 in
theorem concat_ok (l : List (List Int)) (h : l.flatten.length ≤ 140737488355328) : ConOk Try.prog 75 (c_concat l) := by
  refine conOk_of (nb := 0) Try.func75 rfl rfl Try.ntmps75 rfl rfl rfl fun g0 w0 ac gs ws hg0 hS => ?_
  have hlen0 : l.length ≤ 9223372036854775807 := hS.len 0 rfl
  refine wp_seq ?_
  refine region_a (E := E0) mo hZ [] trivial (fun _ => []) [0, 2] [] [(0, .ls false [.sl (.int .u8)] l), (2, .v (.slice none 0 0))] [] 0 (by kernel_rfl) trivial rfl hS fun ac gs ws hS => ?_
  refine then_n ?_
  refine wp_seq ?_
  refine region_a (E := E0) mo hZ [] trivial (fun _ => []) [0, 2, 3] [] [(0, .ls false [.sl (.int .u8)] l), (2, .v (.slice none 0 0)), (3, .v (.int .i64 0))] [] 0 (by kernel_rfl) trivial rfl hS fun ac gs ws hS => ?_
  refine then_n ?_
  refine wp_seq ?_
  refine wp_seq ?_
  refine region_a (E := E0) mo hZ [] trivial (fun _ => []) [0, 2, 3, 9, 10, 11] [] [(0, .ls false [.sl (.int .u8)] l), (2, .v (.slice none 0 0)), (3, .v (.int .i64 0)), (9, .ls false [.sl (.int .u8)] l), (10, .v (.int .i64 ((l.length : Nat) : Int))), (11, .v (.int .i64 0))] [] 0 (by kernel_rfl) trivial rfl hS fun ac gs ws hS => ?_
  refine then_n ?_
  refine wp_block ?_
  refine loop_r (σ := Nat × Nat) hg0 hS (fun z_ => match z_ with | (i, c) => l.length - i) (fun z_ => match z_ with | (i, c) => [(0, .ls false [.sl (.int .u8)] l), (2, .v (.slice none 0 0)), (3, .v (.int .i64 ((c : Nat) : Int))), (9, .ls false [.sl (.int .u8)] l), (10, .v (.int .i64 ((l.length : Nat) : Int))), (11, .v (.int .i64 ((i : Nat) : Int)))]) (fun z_ => match z_ with | (i, c) => []) (fun z_ => match z_ with | (i, c) => (i ≤ l.length) ∧ (c = (l.take i).flatten.length) ∧ True) 0 (0, 0) [] (by kernel_rfl) (by kernel_rfl) trivial ⟨(by omega), rfl, trivial⟩ ?_
  rintro ⟨i, c⟩ ac gs ws ⟨hi, hc, _⟩ hS
  refine wp_seq ?_
  refine region_a (E := E0) mo hZ [] trivial (fun _ => []) [0, 2, 3, 9, 10, 11, 12] [] [(0, .ls false [.sl (.int .u8)] l), (2, .v (.slice none 0 0)), (3, .v (.int .i64 ((c : Nat) : Int))), (9, .ls false [.sl (.int .u8)] l), (10, .v (.int .i64 ((l.length : Nat) : Int))), (11, .v (.int .i64 ((i : Nat) : Int))), (12, .v (.bool (decide (((i : Nat) : Int) < ((l.length : Nat) : Int)))))] [] 0 (by kernel_rfl) trivial rfl hS fun ac gs ws hS => ?_
  refine then_n ?_
  refine wp_seq ?_
  refine if_x hS rfl (fun h => ?_) (fun h => ?_)
  · skip
    have h1 := of_decide_eq_true h
    clear h
    refine wp_skip ?_
    refine then_n ?_
    refine wp_seq ?_
    refine wp_block ?_
    refine wp_seq ?_
    refine region_a (E := E0) mo hZ [] trivial (fun _ => [(0 : Int) ≤ ((i : Nat) : Int) ∧ ((i : Nat) : Int) < ((l.length : Nat) : Int)]) [0, 2, 3, 5, 9, 10, 11] [] [(0, .ls false [.sl (.int .u8)] l), (2, .v (.slice none 0 0)), (3, .v (.int .i64 ((c : Nat) : Int))), (5, .ls false [.int .u8] (l.getD i (rz [.sl (.int .u8)]))), (9, .ls false [.sl (.int .u8)] l), (10, .v (.int .i64 ((l.length : Nat) : Int))), (11, .v (.int .i64 ((i : Nat) : Int)))] [] 0 (by kernel_rfl) ⟨by omega, trivial⟩ rfl hS fun ac gs ws hS => ?_
    refine then_n ?_
    refine wp_seq ?_
    have hb := cat_le (l := l) (j := i) (by omega) h
    rw [← hc] at hb
    refine region_a (E := E0) mo hZ [(3, .oi ((c + ((l.getD i (rz [.sl (.int .u8)])).length) : Nat) : Int))] trivial (fun _ => [iadd .i64 ((c : Nat) : Int) (((l.getD i (rz [.sl (.int .u8)])).length : Nat) : Int) = ((c + ((l.getD i (rz [.sl (.int .u8)])).length) : Nat) : Int)]) [0, 2, 3, 9, 10, 11] [] [(0, .ls false [.sl (.int .u8)] l), (2, .v (.slice none 0 0)), (3, .v (.int .i64 ((c + ((l.getD i (rz [.sl (.int .u8)])).length) : Nat) : Int))), (9, .ls false [.sl (.int .u8)] l), (10, .v (.int .i64 ((l.length : Nat) : Int))), (11, .v (.int .i64 ((i : Nat) : Int)))] [] 0 (by kernel_rfl) ⟨by rw [iadd64 (by omega) (by omega)]; omega, trivial⟩ rfl hS fun ac gs ws hS => ?_
    refine then_n ?_
    refine wp_seq ?_
    refine region_a (E := E0) mo hZ [] trivial (fun _ => []) [0, 2, 3, 9, 10, 11, 20] [] [(0, .ls false [.sl (.int .u8)] l), (2, .v (.slice none 0 0)), (3, .v (.int .i64 ((c + ((l.getD i (rz [.sl (.int .u8)])).length) : Nat) : Int))), (9, .ls false [.sl (.int .u8)] l), (10, .v (.int .i64 ((l.length : Nat) : Int))), (11, .v (.int .i64 ((i : Nat) : Int))), (20, .v (.bool (decide (((c + ((l.getD i (rz [.sl (.int .u8)])).length) : Nat) : Int) < 0))))] [] 0 (by kernel_rfl) trivial rfl hS fun ac gs ws hS => ?_
    refine then_n ?_
    refine if_x hS rfl (fun h => ?_) (fun h => ?_)
    · skip
      have h2 := of_decide_eq_true h
      clear h
      exact absurd h2 (by omega)
    · skip
      have h2 := of_decide_eq_false h
      clear h
      refine wp_skip ?_
      refine block_n ?_
      refine then_n ?_
      refine region_a (E := E0) mo hZ [(0, .oi ((i + 1 : Nat) : Int))] trivial (fun _ => [iadd .i64 ((i : Nat) : Int) 1 = ((i + 1 : Nat) : Int)]) [0, 2, 3, 9, 10, 11] [] [(0, .ls false [.sl (.int .u8)] l), (2, .v (.slice none 0 0)), (3, .v (.int .i64 ((c + ((l.getD i (rz [.sl (.int .u8)])).length) : Nat) : Int))), (9, .ls false [.sl (.int .u8)] l), (10, .v (.int .i64 ((l.length : Nat) : Int))), (11, .v (.int .i64 ((i + 1 : Nat) : Int)))] [] 0 (by kernel_rfl) ⟨by rw [iadd64 (by omega) (by omega)]; omega, trivial⟩ rfl hS fun ac gs ws hS => ?_
      refine then_n ?_
      exact next_r hg0 hS (s := (i, c)) (i + 1, c + ((l.getD i (rz [.sl (.int .u8)])).length)) [] (by kernel_rfl) (by kernel_rfl) trivial (show l.length - (i + 1) < l.length - i from by omega) ⟨(by omega), (by rw [cat_len l i (by omega), ← hc]), trivial⟩
  · skip
    have h1 := of_decide_eq_false h
    clear h
    have hScur := hS
    obtain rfl : l.length = i := by omega
    obtain rfl : l.flatten.length = c := Eq.symm (by rw [hc, List.take_length])
    have hS := hScur
    clear hScur
    refine wp_exit ?_
    refine then_exit ?_
    refine then_exit ?_
    refine block_exit ?_
    refine then_n ?_
    refine wp_seq ?_
    refine region_a (E := E0) mo hZ [(1, .call ⟨102, (c_grow l.flatten.length), [], [(0, 0)]⟩)] ⟨grow_ok l.flatten.length (by omega), trivial⟩ (fun C => [ndC C 1]) [0, 2, 6] [0] [(0, .ls false [.sl (.int .u8)] l), (2, .v (.slice none 0 0)), (6, .sk 0)] [(0, some (.sl 5 [.int .u8] []))] 1 (by kernel_rfl) ⟨rfl, trivial⟩ rfl hS fun ac gs ws hS => ?_
    refine then_n ?_
    refine wp_seq ?_
    refine wp_seq ?_
    refine region_a (E := E0) mo hZ [] trivial (fun _ => []) [2, 6, 25, 26, 27] [0] [(2, .v (.slice none 0 0)), (6, .sk 0), (25, .ls false [.sl (.int .u8)] l), (26, .v (.int .i64 ((l.length : Nat) : Int))), (27, .v (.int .i64 0))] [(0, some (.sl 5 [.int .u8] []))] 1 (by kernel_rfl) trivial rfl hS fun ac gs ws hS => ?_
    refine then_n ?_
    refine wp_block ?_
    refine loop_r (σ := Nat × (List Int)) hg0 hS (fun z_ => match z_ with | (j, o) => l.length - j) (fun z_ => match z_ with | (j, o) => [(2, .v (.slice none 0 0)), (6, .sk 0), (25, .ls false [.sl (.int .u8)] l), (26, .v (.int .i64 ((l.length : Nat) : Int))), (27, .v (.int .i64 ((j : Nat) : Int)))]) (fun z_ => match z_ with | (j, o) => [(0, .sl 5 [.int .u8] o)]) (fun z_ => match z_ with | (j, o) => (j ≤ l.length) ∧ (o = (l.take j).flatten) ∧ True) 1 (0, []) [(0, 0)] (by kernel_rfl) (by kernel_rfl) ⟨rfl, trivial⟩ ⟨(by omega), rfl, trivial⟩ ?_
    rintro ⟨j, o⟩ ac gs ws ⟨hj, ho, _⟩ hS
    refine wp_seq ?_
    refine region_a (E := E0) mo hZ [] trivial (fun _ => []) [2, 6, 25, 26, 27, 28] [0] [(2, .v (.slice none 0 0)), (6, .sk 0), (25, .ls false [.sl (.int .u8)] l), (26, .v (.int .i64 ((l.length : Nat) : Int))), (27, .v (.int .i64 ((j : Nat) : Int))), (28, .v (.bool (decide (((j : Nat) : Int) < ((l.length : Nat) : Int)))))] [(0, some (.sl 5 [.int .u8] o))] 1 (by kernel_rfl) trivial rfl hS fun ac gs ws hS => ?_
    refine then_n ?_
    refine wp_seq ?_
    refine if_x hS rfl (fun h => ?_) (fun h => ?_)
    · skip
      have h3 := of_decide_eq_true h
      clear h
      refine wp_skip ?_
      refine then_n ?_
      refine wp_seq ?_
      refine wp_block ?_
      refine wp_seq ?_
      refine region_a (E := E0) mo hZ [] trivial (fun _ => [(0 : Int) ≤ ((j : Nat) : Int) ∧ ((j : Nat) : Int) < ((l.length : Nat) : Int)]) [2, 6, 8, 25, 26, 27] [0] [(2, .v (.slice none 0 0)), (6, .sk 0), (8, .ls false [.int .u8] (l.getD j (rz [.sl (.int .u8)]))), (25, .ls false [.sl (.int .u8)] l), (26, .v (.int .i64 ((l.length : Nat) : Int))), (27, .v (.int .i64 ((j : Nat) : Int)))] [(0, some (.sl 5 [.int .u8] o))] 1 (by kernel_rfl) ⟨by omega, trivial⟩ rfl hS fun ac gs ws hS => ?_
      refine then_n ?_
      have hb := cat_le (l := l) (j := j) (by omega) h
      rw [← ho] at hb
      refine region_a (E := E0) mo hZ [] trivial (fun _ => [o.length + (l.getD j (rz [.sl (.int .u8)])).length ≤ 9223372036854775807, (o.length + (l.getD j (rz [.sl (.int .u8)])).length) * 1 ≤ 140737488355328]) [2, 6, 25, 26, 27] [1] [(2, .v (.slice none 0 0)), (6, .sk 1), (25, .ls false [.sl (.int .u8)] l), (26, .v (.int .i64 ((l.length : Nat) : Int))), (27, .v (.int .i64 ((j : Nat) : Int)))] [(1, some (.sl 5 [.int .u8] (o ++ (l.getD j (rz [.sl (.int .u8)])))))] 2 (by kernel_rfl) ⟨by omega, by omega, trivial⟩ rfl hS fun ac gs ws hS => ?_
      refine block_n ?_
      refine then_n ?_
      refine region_a (E := E0) mo hZ [(0, .oi ((j + 1 : Nat) : Int))] trivial (fun _ => [iadd .i64 ((j : Nat) : Int) 1 = ((j + 1 : Nat) : Int)]) [2, 6, 25, 26, 27] [1] [(2, .v (.slice none 0 0)), (6, .sk 1), (25, .ls false [.sl (.int .u8)] l), (26, .v (.int .i64 ((l.length : Nat) : Int))), (27, .v (.int .i64 ((j + 1 : Nat) : Int)))] [(1, some (.sl 5 [.int .u8] (o ++ (l.getD j (rz [.sl (.int .u8)])))))] 2 (by kernel_rfl) ⟨by rw [iadd64 (by omega) (by omega)]; omega, trivial⟩ rfl hS fun ac gs ws hS => ?_
      refine then_n ?_
      exact next_r hg0 hS (s := (j, o)) (j + 1, o ++ (l.getD j (rz [.sl (.int .u8)]))) [(0, 1)] (by kernel_rfl) (by kernel_rfl) ⟨rfl, trivial⟩ (show l.length - (j + 1) < l.length - j from by omega) ⟨(by omega), (by rw [cat_step l j (by omega), ← ho]), trivial⟩
    · skip
      have h3 := of_decide_eq_false h
      clear h
      have hScur := hS
      obtain rfl : l.length = j := by omega
      obtain rfl : l.flatten = o := Eq.symm (by rw [ho, List.take_length])
      have hS := hScur
      clear hScur
      refine wp_exit ?_
      refine then_exit ?_
      refine then_exit ?_
      refine block_exit ?_
      refine then_n ?_
      refine wp_seq ?_
      refine region_a (E := E0) mo hZ [] trivial (fun _ => []) [2] [0] [(2, .sk 0)] [(0, some (.sl 5 [.int .u8] l.flatten))] 1 (by kernel_rfl) trivial rfl hS fun ac gs ws hS => ?_
      refine then_n ?_
      refine wp_ret ?_
      exact fin_x (.inr rfl) hS (ds := [.sk 0]) (by kernel_rfl) rfl ⟨rfl, trivial⟩

noncomputable def c_cat (l : List (List Int)) : Con := ⟨[.ls false [.sl (.int .u8)] l], [], .sk 0, [(0, .sl 5 [.int .u8] l.flatten)]⟩
set_option maxRecDepth 100000 in
set_option maxHeartbeats 4000000 in
theorem cat_ok (l : List (List Int)) (h : l.flatten.length ≤ 140737488355328) : ConOk Try.prog 45 (c_cat l) := by
  refine conOk_of (nb := 0) Try.func45 rfl rfl Try.ntmps45 rfl rfl rfl fun g0 w0 ac gs ws hg0 hS => ?_
  have hlen0 : l.length ≤ 9223372036854775807 := hS.len 0 rfl
  refine wp_seq ?_
  refine region_a (E := E0) mo hZ [] trivial (fun _ => []) [0, 2] [] [(0, .ls false [.sl (.int .u8)] l), (2, .v (.slice none 0 0))] [] 0 (by kernel_rfl) trivial rfl hS fun ac gs ws hS => ?_
  refine then_n ?_
  refine wp_seq ?_
  refine region_a (E := E0) mo hZ [(1, .call ⟨75, (c_concat l), [], [(0, 0)]⟩)] ⟨concat_ok l (by first | omega | (simp only [List.flatten_cons, List.flatten_nil, List.length_append, List.length_cons, List.length_nil, List.length_take, List.length_drop]; omega)), trivial⟩ (fun C => [ndC C 1]) [2] [0] [(2, .sk 0)] [(0, some (.sl 5 [.int .u8] l.flatten))] 1 (by kernel_rfl) ⟨rfl, trivial⟩ rfl hS fun ac gs ws hS => ?_
  refine then_n ?_
  refine wp_ret ?_
  exact fin_x (.inr rfl) hS (ds := [.sk 0]) (by kernel_rfl) rfl ⟨rfl, trivial⟩

end Go.Sx.Try
namespace Go.Sx.Try
open Go.Mi Go.RowKit Go.Sx Go.Proofs
noncomputable def c_soaked (r : Nat) (e : Int) (l : List (List Int)) : Con := ⟨[.v (.int .i64 ((r : Nat) : Int)), .v (.int .u8 e), .ls false [.sl (.int .u8)] l], [], .cp 0 0, [(0, .ob 141 (chain [.ar .u64 25 (spg r e l), .v (.int .i64 ((r : Nat) : Int)), .v (.int .i64 0)]))]⟩
set_option maxRecDepth 100000 in
set_option maxHeartbeats 4000000 in
theorem soaked_ok (r : Nat) (e : Int) (l : List (List Int)) (hr : 0 < r) (hr2 : r ≤ 200) (h : l.flatten.length ≤ 140000000000000) : ConOk Try.prog 67 (c_soaked r e l) := by
  refine conOk_of (nb := 0) Try.func67 rfl rfl Try.ntmps67 rfl rfl rfl fun g0 w0 ac gs ws hg0 hS => ?_
  have hlen2 : l.length ≤ 9223372036854775807 := hS.len 2 rfl
  refine wp_seq ?_
  refine region_a (E := E0) mo hZ [] trivial (fun _ => []) [0, 1, 2, 6] [] [(0, .v (.int .i64 ((r : Nat) : Int))), (1, .v (.int .u8 e)), (2, .ls false [.sl (.int .u8)] l), (6, .v (.pointer none))] [] 0 (by kernel_rfl) trivial rfl hS fun ac gs ws hS => ?_
  refine then_n ?_
  refine wp_seq ?_
  refine region_a (E := E0) mo hZ [(1, .call ⟨45, (c_cat l), [], [(0, 0)]⟩)] ⟨cat_ok l (by first | omega | (simp only [List.flatten_cons, List.flatten_nil, List.length_append, List.length_cons, List.length_nil, List.length_take, List.length_drop]; omega)), trivial⟩ (fun C => [ndC C 1, l.flatten.length + [e].length ≤ 9223372036854775807, (l.flatten.length + [e].length) * 1 ≤ 140737488355328]) [0, 6, 7] [1] [(0, .v (.int .i64 ((r : Nat) : Int))), (6, .v (.pointer none)), (7, .sk 1)] [(1, some (.sl 5 [.int .u8] (l.flatten ++ [e])))] 2 (by kernel_rfl) ⟨rfl, by first | omega | (simp only [List.length_append, List.length_cons, List.length_nil]; omega), by first | omega | (simp only [List.length_append, List.length_cons, List.length_nil]; omega), trivial⟩ rfl hS fun ac gs ws hS => ?_
  refine then_n ?_
  refine wp_seq ?_
  have hm := Nat.mod_lt (l.flatten ++ [e]).length hr
  have hm2 := Nat.mod_lt (r - (l.flatten ++ [e]).length % r) hr
  have hl1 : (l.flatten ++ [e]).length = l.flatten.length + 1 := by simp
  refine region_a (E := E0) mo hZ [(5, .oi ((((l.flatten ++ [e]).length) % r : Nat) : Int)), (6, .oi ((r - (((l.flatten ++ [e]).length) % r) : Nat) : Int)), (8, .oi (((r - (((l.flatten ++ [e]).length) % r)) % r : Nat) : Int))] trivial (fun _ => [irem (((l.flatten ++ [e]).length : Nat) : Int) ((r : Nat) : Int) = ((((l.flatten ++ [e]).length) % r : Nat) : Int), (((r : Nat) : Int) : Int) ≠ 0, isub .i64 ((r : Nat) : Int) ((((l.flatten ++ [e]).length) % r : Nat) : Int) = ((r - (((l.flatten ++ [e]).length) % r) : Nat) : Int), irem ((r - (((l.flatten ++ [e]).length) % r) : Nat) : Int) ((r : Nat) : Int) = (((r - (((l.flatten ++ [e]).length) % r)) % r : Nat) : Int), (((r : Nat) : Int) : Int) ≠ 0, (0 : Int) ≤ (((r - (((l.flatten ++ [e]).length) % r)) % r : Nat) : Int), (l.flatten ++ [e]).length + ((r - (((l.flatten ++ [e]).length) % r)) % r) ≤ 9223372036854775807, ((l.flatten ++ [e]).length + ((r - (((l.flatten ++ [e]).length) % r)) % r)) * 1 ≤ 140737488355328]) [0, 6, 7] [2] [(0, .v (.int .i64 ((r : Nat) : Int))), (6, .v (.pointer none)), (7, .sk 2)] [(2, some (.sl 5 [.int .u8] ((l.flatten ++ [e]) ++ List.replicate ((r - (((l.flatten ++ [e]).length) % r)) % r) (0 : Int))))] 3 (by kernel_rfl) ⟨by rw [irem64 (by omega)]; exact (Int.natCast_emod _ _).symm, by omega, by rw [isub64 (by omega) (by omega)]; omega, by rw [irem64 (by omega)]; exact (Int.natCast_emod _ _).symm, by omega, by omega, by first | omega | (simp only [List.length_append, List.length_cons, List.length_nil]; omega), by first | omega | (simp only [List.length_append, List.length_cons, List.length_nil]; omega), trivial⟩ rfl hS fun ac gs ws hS => ?_
  obtain ⟨p, hp⟩ : ∃ p, p = padZ r e l := ⟨_, rfl⟩
  have hS := hS.cast (L' := [(0, .v (.int .i64 ((r : Nat) : Int))), (6, .v (.pointer none)), (7, .sk 2)]) (H' := [(2, some (.sl 5 [.int .u8] p))]) (by subst hp; rfl) (by subst hp; rfl)
  obtain ⟨N, hN0, hN⟩ := padZ_len hr e l
  have hp1 : 1 ≤ (padZ r e l).length := by rw [hN]; exact Nat.mul_pos hN0 hr
  have hpl := padZ_le hr e l
  rw [← hp] at hN hp1 hpl
  refine then_n ?_
  refine wp_seq ?_
  refine region_a (E := E0) mo hZ [(3, .oi ((p.length - 1 : Nat) : Int))] trivial (fun _ => [isub .i64 ((p.length : Nat) : Int) 1 = ((p.length - 1 : Nat) : Int), (0 : Int) ≤ ((p.length - 1 : Nat) : Int) ∧ ((p.length - 1 : Nat) : Int) < ((p.length : Nat) : Int), (0 : Int) ≤ ((p.length - 1 : Nat) : Int) ∧ ((p.length - 1 : Nat) : Int) < ((p.length : Nat) : Int)]) [0, 6, 7] [2] [(0, .v (.int .i64 ((r : Nat) : Int))), (6, .v (.pointer none)), (7, .sk 2)] [(2, some (.sl 5 [.int .u8] (p.set (p.length - 1) (ior .u8 (p.getD (p.length - 1) 0) 128))))] 3 (by kernel_rfl) ⟨by rw [isub64 (by omega) (by omega)]; omega, by omega, by omega, trivial⟩ rfl hS fun ac gs ws hS => ?_
  obtain ⟨q, hq⟩ : ∃ q, q = pad r e l := ⟨_, rfl⟩
  have hS := hS.cast (L' := [(0, .v (.int .i64 ((r : Nat) : Int))), (6, .v (.pointer none)), (7, .sk 2)]) (H' := [(2, some (.sl 5 [.int .u8] q))]) (by subst hq; subst hp; rfl) (by subst hq; subst hp; rfl)
  have hNq : q.length = N * r := by rw [hq, pad_len, ← hp, hN]
  clear hN hp1 hp
  have hql : q.length ≤ 140737488355328 := by rw [hq, pad_len]; exact Nat.le_trans (padZ_le hr e l) (by omega)
  refine then_n ?_
  refine wp_seq ?_
  refine region_a (E := E0) mo hZ [] trivial (fun _ => []) [0, 6, 7, 8] [2, 3] [(0, .v (.int .i64 ((r : Nat) : Int))), (6, .v (.pointer none)), (7, .sk 2), (8, .cp 3 0)] [(2, some (.sl 5 [.int .u8] q)), (3, some (.ob 141 (chain [.ar .u64 25 (fun _ => 0), .v (.int .i64 ((r : Nat) : Int)), .v (.int .i64 0)])))] 4 (by kernel_rfl) trivial rfl hS fun ac gs ws hS => ?_
  refine then_n ?_
  refine wp_seq ?_
  refine wp_block ?_
  obtain ⟨gs, hS⟩ := hS.frz 2 false (by nofun) rfl (L' := [(0, .v (.int .i64 ((r : Nat) : Int))), (6, .v (.pointer none)), (7, .ls false [.int .u8] q), (8, .cp 3 0)]) (H' := [(2, none), (2, some (.sl 5 [.int .u8] q)), (3, some (.ob 141 (chain [.ar .u64 25 (fun _ => 0), .v (.int .i64 ((r : Nat) : Int)), .v (.int .i64 0)])))]) (by kernel_rfl) (by kernel_rfl)
  refine loop_r (σ := Nat × (List Int) × (Nat → Int)) hg0 hS (fun z_ => match z_ with | (k, b, f) => N - k) (fun z_ => match z_ with | (k, b, f) => [(0, .v (.int .i64 ((r : Nat) : Int))), (6, .v (.pointer none)), (7, .ls false [.int .u8] b), (8, .cp 3 0)]) (fun z_ => match z_ with | (k, b, f) => [(3, .ob 141 (chain [.ar .u64 25 f, .v (.int .i64 ((r : Nat) : Int)), .v (.int .i64 0)]))]) (fun z_ => match z_ with | (k, b, f) => (k ≤ N) ∧ (b = q.drop (k * r)) ∧ (f = soakN q r k) ∧ True) 4 (0, q, fun _ => 0) [(3, 3)] (by kernel_rfl) (by kernel_rfl) ⟨rfl, trivial⟩ ⟨(by omega), (by rw [Nat.zero_mul]; rfl), rfl, trivial⟩ ?_
  rintro ⟨k, b, f⟩ ac gs ws ⟨hk, hb, hf, _⟩ hS
  refine wp_seq ?_
  refine wp_seq ?_
  refine region_a (E := E0) mo hZ [] trivial (fun _ => []) [0, 6, 7, 8, 38] [3] [(0, .v (.int .i64 ((r : Nat) : Int))), (6, .v (.pointer none)), (7, .ls false [.int .u8] b), (8, .cp 3 0), (38, .v (.bool (decide ((0 : Int) < ((b.length : Nat) : Int)))))] [(3, some (.ob 141 (chain [.ar .u64 25 f, .v (.int .i64 ((r : Nat) : Int)), .v (.int .i64 0)])))] 4 (by kernel_rfl) trivial rfl hS fun ac gs ws hS => ?_
  refine then_n ?_
  refine if_x hS rfl (fun h => ?_) (fun h => ?_)
  · skip
    have h1 := of_decide_eq_true h
    clear h
    refine wp_skip ?_
    refine then_n ?_
    refine wp_seq ?_
    refine wp_block ?_
    refine wp_seq ?_
    refine wp_seq ?_
    obtain ⟨hkN, hrb⟩ := blk_at hr hNq hb hk (by omega)
    refine region_a (E := E0) mo hZ [] trivial (fun _ => []) [0, 6, 7, 8, 42, 43] [3] [(0, .v (.int .i64 ((r : Nat) : Int))), (6, .v (.pointer none)), (7, .ls false [.int .u8] b), (8, .cp 3 0), (42, .v (.int .i64 ((r : Nat) : Int))), (43, .v (.int .i64 0))] [(3, some (.ob 141 (chain [.ar .u64 25 f, .v (.int .i64 ((r : Nat) : Int)), .v (.int .i64 0)])))] 4 (by kernel_rfl) trivial rfl hS fun ac gs ws hS => ?_
    refine then_n ?_
    refine wp_block ?_
    refine loop_r (σ := Nat × (Nat → Int)) hg0 hS (fun z_ => match z_ with | (i, g) => r - i) (fun z_ => match z_ with | (i, g) => [(0, .v (.int .i64 ((r : Nat) : Int))), (6, .v (.pointer none)), (7, .ls false [.int .u8] b), (8, .cp 3 0), (42, .v (.int .i64 ((r : Nat) : Int))), (43, .v (.int .i64 ((i : Nat) : Int)))]) (fun z_ => match z_ with | (i, g) => [(3, .ob 141 (chain [.ar .u64 25 g, .v (.int .i64 ((r : Nat) : Int)), .v (.int .i64 0)]))]) (fun z_ => match z_ with | (i, g) => (i ≤ r) ∧ (g = xin b f i) ∧ True) 4 (0, f) [(3, 3)] (by kernel_rfl) (by kernel_rfl) ⟨rfl, trivial⟩ ⟨(by omega), rfl, trivial⟩ ?_
    rintro ⟨i, g⟩ ac gs ws ⟨hi, hg, _⟩ hS
    refine wp_seq ?_
    refine region_a (E := E0) mo hZ [] trivial (fun _ => []) [0, 6, 7, 8, 42, 43, 44] [3] [(0, .v (.int .i64 ((r : Nat) : Int))), (6, .v (.pointer none)), (7, .ls false [.int .u8] b), (8, .cp 3 0), (42, .v (.int .i64 ((r : Nat) : Int))), (43, .v (.int .i64 ((i : Nat) : Int))), (44, .v (.bool (decide (((i : Nat) : Int) < ((r : Nat) : Int)))))] [(3, some (.ob 141 (chain [.ar .u64 25 g, .v (.int .i64 ((r : Nat) : Int)), .v (.int .i64 0)])))] 4 (by kernel_rfl) trivial rfl hS fun ac gs ws hS => ?_
    refine then_n ?_
    refine wp_seq ?_
    refine if_x hS rfl (fun h => ?_) (fun h => ?_)
    · skip
      have h2 := of_decide_eq_true h
      clear h
      refine wp_skip ?_
      refine then_n ?_
      refine wp_seq ?_
      refine wp_block ?_
      refine wp_seq ?_
      refine region_a (E := E0) mo hZ [] trivial (fun _ => []) [0, 6, 7, 8, 9, 42, 43] [3] [(0, .v (.int .i64 ((r : Nat) : Int))), (6, .v (.pointer none)), (7, .ls false [.int .u8] b), (8, .cp 3 0), (9, .v (.int .i64 ((i : Nat) : Int))), (42, .v (.int .i64 ((r : Nat) : Int))), (43, .v (.int .i64 ((i : Nat) : Int)))] [(3, some (.ob 141 (chain [.ar .u64 25 g, .v (.int .i64 ((r : Nat) : Int)), .v (.int .i64 0)])))] 4 (by kernel_rfl) trivial rfl hS fun ac gs ws hS => ?_
      refine then_n ?_
      refine region_a (E := E0) mo hZ [(2, .oi ((i / 8 : Nat) : Int)), (13, .oi ((i % 8 : Nat) : Int)), (14, .oi ((8 * (i % 8) : Nat) : Int))] trivial (fun _ => [iquo .i64 ((i : Nat) : Int) 8 = ((i / 8 : Nat) : Int), (8 : Int) ≠ 0, (0 : Int) ≤ ((i / 8 : Nat) : Int) ∧ (((i / 8 : Nat) : Int) : Int) < 25, (0 : Int) ≤ ((i : Nat) : Int) ∧ ((i : Nat) : Int) < ((b.length : Nat) : Int), irem ((i : Nat) : Int) 8 = ((i % 8 : Nat) : Int), (8 : Int) ≠ 0, imul .i64 8 ((i % 8 : Nat) : Int) = ((8 * (i % 8) : Nat) : Int), (0 : Int) ≤ ((8 * (i % 8) : Nat) : Int), (0 : Int) ≤ ((i / 8 : Nat) : Int) ∧ (((i / 8 : Nat) : Int) : Int) < 25]) [0, 6, 7, 8, 42, 43] [3] [(0, .v (.int .i64 ((r : Nat) : Int))), (6, .v (.pointer none)), (7, .ls false [.int .u8] b), (8, .cp 3 0), (42, .v (.int .i64 ((r : Nat) : Int))), (43, .v (.int .i64 ((i : Nat) : Int)))] [(3, some (.ob 141 (chain [.ar .u64 25 (upd g (i / 8) (ixor .u64 (g (i / 8)) (ishl .u64 (IntKind.wrap .u64 (b.getD i 0)) ((8 * (i % 8) : Nat) : Int)))), .v (.int .i64 ((r : Nat) : Int)), .v (.int .i64 0)])))] 4 (by kernel_rfl) ⟨by rw [iquo64 (by omega) (by omega) (by omega)]; omega, by omega, by omega, by omega, by rw [irem64 (by omega)]; omega, by omega, by rw [imul64 (by omega) (by omega)]; omega, by omega, by omega, trivial⟩ rfl hS fun ac gs ws hS => ?_
      refine block_n ?_
      refine then_n ?_
      refine region_a (E := E0) mo hZ [(0, .oi ((i + 1 : Nat) : Int))] trivial (fun _ => [iadd .i64 ((i : Nat) : Int) 1 = ((i + 1 : Nat) : Int)]) [0, 6, 7, 8, 42, 43] [3] [(0, .v (.int .i64 ((r : Nat) : Int))), (6, .v (.pointer none)), (7, .ls false [.int .u8] b), (8, .cp 3 0), (42, .v (.int .i64 ((r : Nat) : Int))), (43, .v (.int .i64 ((i + 1 : Nat) : Int)))] [(3, some (.ob 141 (chain [.ar .u64 25 (upd g (i / 8) (ixor .u64 (g (i / 8)) (ishl .u64 (IntKind.wrap .u64 (b.getD i 0)) ((8 * (i % 8) : Nat) : Int)))), .v (.int .i64 ((r : Nat) : Int)), .v (.int .i64 0)])))] 4 (by kernel_rfl) ⟨by rw [iadd64 (by omega) (by omega)]; omega, trivial⟩ rfl hS fun ac gs ws hS => ?_
      refine then_n ?_
      exact next_r hg0 hS (s := (i, g)) (i + 1, upd g (i / 8) (ixor .u64 (g (i / 8)) (ishl .u64 (IntKind.wrap .u64 (b.getD i 0)) ((8 * (i % 8) : Nat) : Int)))) [(3, 3)] (by kernel_rfl) (by kernel_rfl) ⟨rfl, trivial⟩ (show r - (i + 1) < r - i from by omega) ⟨(by omega), (by rw [hg]; rfl), trivial⟩
    · skip
      have h2 := of_decide_eq_false h
      clear h
      have hScur := hS
      obtain rfl : r = i := by omega
      have hS := hScur
      clear hScur
      refine wp_exit ?_
      refine then_exit ?_
      refine then_exit ?_
      refine block_exit ?_
      refine then_n ?_
      refine region_a (E := E0) mo hZ [(5, .call ⟨97, (c_perm g), [], []⟩)] ⟨perm_ok g, trivial⟩ (fun C => [ndC C 5]) [0, 6, 7, 8] [3] [(0, .v (.int .i64 ((r : Nat) : Int))), (6, .v (.pointer none)), (7, .ls false [.int .u8] b), (8, .cp 3 0)] [(3, some (.ob 141 (chain [.ar .u64 25 (perm g), .v (.int .i64 ((r : Nat) : Int)), .v (.int .i64 0)])))] 4 (by kernel_rfl) ⟨rfl, trivial⟩ rfl hS fun ac gs ws hS => ?_
      refine block_n ?_
      refine then_n ?_
      refine region_a (E := E0) mo hZ [] trivial (fun _ => [bndP (some ((r : Nat) : Int)) none none b.length b.length]) [0, 6, 7, 8] [3] [(0, .v (.int .i64 ((r : Nat) : Int))), (6, .v (.pointer none)), (7, .ls false [.int .u8] (b.drop r)), (8, .cp 3 0)] [(3, some (.ob 141 (chain [.ar .u64 25 (perm g), .v (.int .i64 ((r : Nat) : Int)), .v (.int .i64 0)])))] 4 (by kernel_rfl) ⟨⟨by simp only [nnI] <;> omega, by simp only [nnI] <;> omega, by simp only [nnI] <;> omega, by simp, by simp only [bl] <;> omega, by simp only [bl] <;> omega, by simp only [bl] <;> omega⟩, trivial⟩ rfl hS fun ac gs ws hS => ?_
      refine then_n ?_
      exact next_r hg0 hS (s := (k, b, f)) (k + 1, b.drop r, perm g) [(3, 3)] (by kernel_rfl) (by kernel_rfl) ⟨rfl, trivial⟩ (show N - (k + 1) < N - k from by omega) ⟨(by omega), (blk_next hb), (blk_soak hb hf hg), trivial⟩
  · skip
    have h1 := of_decide_eq_false h
    clear h
    have hScur := hS
    obtain rfl : q.length / r = k := Eq.symm (blk_end hr hNq hb hk (by omega))
    obtain rfl : spg r e l = f := Eq.symm (by rw [hf, hq]; rfl)
    have hS := hScur
    clear hScur
    refine wp_exit ?_
    refine then_exit ?_
    refine then_exit ?_
    refine block_exit ?_
    refine then_n ?_
    refine wp_seq ?_
    refine region_a (E := E0) mo hZ [] trivial (fun _ => []) [6] [3] [(6, .cp 3 0)] [(3, some (.ob 141 (chain [.ar .u64 25 (spg r e l), .v (.int .i64 ((r : Nat) : Int)), .v (.int .i64 0)])))] 4 (by kernel_rfl) trivial rfl hS fun ac gs ws hS => ?_
    refine then_n ?_
    refine wp_ret ?_
    obtain ⟨gs, hS⟩ := St.ren hg0 hS [(0, 3)] [(6, .cp 0 0)] [(0, .ob 141 (chain [.ar .u64 25 (spg r e l), .v (.int .i64 ((r : Nat) : Int)), .v (.int .i64 0)]))] 1 (by kernel_rfl) (by kernel_rfl) ⟨rfl, trivial⟩
    exact fin_x (.inr rfl) hS (ds := [.cp 0 0]) (by kernel_rfl) rfl ⟨rfl, trivial⟩

noncomputable def c_read (r : Nat) (f : Nat → Int) (a : Nat) (n : Nat) : Con := ⟨[.cp 0 0, .v (.int .i64 ((n : Nat) : Int))], [(0, .ob 141 (chain [.ar .u64 25 f, .v (.int .i64 ((r : Nat) : Int)), .v (.int .i64 ((a : Nat) : Int))]))], .ls false [.int .u8] ((rdA r f a n).2.2), [(0, .ob 141 (chain [.ar .u64 25 ((rdA r f a n).1), .v (.int .i64 ((r : Nat) : Int)), .v (.int .i64 (((rdA r f a n).2.1 : Nat) : Int))]))]⟩
set_option maxRecDepth 100000 in
set_option maxHeartbeats 4000000 in
theorem read_ok (r : Nat) (f : Nat → Int) (a : Nat) (n : Nat) (hr : 0 < r) (hr2 : r ≤ 200) (har : a ≤ r) (h : n ≤ 140737488355328) : ConOk Try.prog 68 (c_read r f a n) := by
  refine conOk_of (nb := 1) Try.func68 rfl rfl Try.ntmps68 rfl rfl rfl fun g0 w0 ac gs ws hg0 hS => ?_
  refine wp_seq ?_
  refine region_a (E := E0) mo hZ [] trivial (fun _ => []) [0, 1, 4] [0] [(0, .cp 0 0), (1, .v (.int .i64 ((n : Nat) : Int))), (4, .v (.slice none 0 0))] [(0, some (.ob 141 (chain [.ar .u64 25 f, .v (.int .i64 ((r : Nat) : Int)), .v (.int .i64 ((a : Nat) : Int))])))] 1 (by kernel_rfl) trivial rfl hS fun ac gs ws hS => ?_
  refine then_n ?_
  refine wp_seq ?_
  refine wp_block ?_
  obtain ⟨gs, hS⟩ := hS.nilk 4 5 [.int .u8] rfl (L' := [(0, .cp 0 0), (1, .v (.int .i64 ((n : Nat) : Int))), (4, .sk 1)]) (H' := [(1, some (.sl 5 [.int .u8] [])), (0, some (.ob 141 (chain [.ar .u64 25 f, .v (.int .i64 ((r : Nat) : Int)), .v (.int .i64 ((a : Nat) : Int))])))]) (by kernel_rfl) (by kernel_rfl)
  refine loop_r (σ := (Nat → Int) × Nat × (List Int)) hg0 hS (fun z_ => match z_ with | (g, b, o) => n - o.length) (fun z_ => match z_ with | (g, b, o) => [(0, .cp 0 0), (1, .v (.int .i64 ((n : Nat) : Int))), (4, .sk 1)]) (fun z_ => match z_ with | (g, b, o) => [(0, .ob 141 (chain [.ar .u64 25 g, .v (.int .i64 ((r : Nat) : Int)), .v (.int .i64 ((b : Nat) : Int))])), (1, .sl 5 [.int .u8] o)]) (fun z_ => match z_ with | (g, b, o) => (b ≤ r) ∧ (o.length ≤ n) ∧ ((g, b, o) = rdA r f a o.length) ∧ True) 2 (f, a, []) [(0, 0), (1, 1)] (by kernel_rfl) (by kernel_rfl) ⟨rfl, rfl, trivial⟩ ⟨(by omega), (by simp), (rd_0 r f a), trivial⟩ ?_
  rintro ⟨g, b, o⟩ ac gs ws ⟨hb, ho, hq, _⟩ hS
  refine wp_seq ?_
  refine wp_seq ?_
  refine region_a (E := E0) mo hZ [] trivial (fun _ => []) [0, 1, 4, 8] [0, 1] [(0, .cp 0 0), (1, .v (.int .i64 ((n : Nat) : Int))), (4, .sk 1), (8, .v (.bool (decide (((o.length : Nat) : Int) < ((n : Nat) : Int)))))] [(0, some (.ob 141 (chain [.ar .u64 25 g, .v (.int .i64 ((r : Nat) : Int)), .v (.int .i64 ((b : Nat) : Int))]))), (1, some (.sl 5 [.int .u8] o))] 2 (by kernel_rfl) trivial rfl hS fun ac gs ws hS => ?_
  refine then_n ?_
  refine if_x hS rfl (fun h => ?_) (fun h => ?_)
  · skip
    have h1 := of_decide_eq_true h
    clear h
    refine wp_skip ?_
    refine then_n ?_
    refine wp_block ?_
    refine wp_seq ?_
    refine wp_seq ?_
    refine region_a (E := E0) mo hZ [] trivial (fun _ => []) [0, 1, 4, 17] [0, 1] [(0, .cp 0 0), (1, .v (.int .i64 ((n : Nat) : Int))), (4, .sk 1), (17, .v (.bool (decide (((b : Nat) : Int) = ((r : Nat) : Int)))))] [(0, some (.ob 141 (chain [.ar .u64 25 g, .v (.int .i64 ((r : Nat) : Int)), .v (.int .i64 ((b : Nat) : Int))]))), (1, some (.sl 5 [.int .u8] o))] 2 (by kernel_rfl) trivial rfl hS fun ac gs ws hS => ?_
    refine then_n ?_
    refine if_x hS rfl (fun h => ?_) (fun h => ?_)
    · skip
      have h2 := of_decide_eq_true h
      clear h
      refine region_a (E := E0) mo hZ [(6, .call ⟨97, (c_perm g), [], []⟩)] ⟨perm_ok g, trivial⟩ (fun C => [ndC C 6]) [0, 1, 4] [0, 1] [(0, .cp 0 0), (1, .v (.int .i64 ((n : Nat) : Int))), (4, .sk 1)] [(0, some (.ob 141 (chain [.ar .u64 25 (perm g), .v (.int .i64 ((r : Nat) : Int)), .v (.int .i64 0)]))), (1, some (.sl 5 [.int .u8] o))] 2 (by kernel_rfl) ⟨rfl, trivial⟩ rfl hS fun ac gs ws hS => ?_
      refine then_n ?_
      refine wp_seq ?_
      refine region_a (E := E0) mo hZ [] trivial (fun _ => [(8 : Int) ≠ 0, (0 : Int) ≤ 0 ∧ (0 : Int) < 25, (8 : Int) ≠ 0, (0 : Int) ≤ 0, o.length + [(IntKind.wrap .u8 (ishr .u64 ((perm g) 0) 0))].length ≤ 9223372036854775807, (o.length + [(IntKind.wrap .u8 (ishr .u64 ((perm g) 0) 0))].length) * 1 ≤ 140737488355328]) [0, 1, 4] [0, 2] [(0, .cp 0 0), (1, .v (.int .i64 ((n : Nat) : Int))), (4, .sk 2)] [(0, some (.ob 141 (chain [.ar .u64 25 (perm g), .v (.int .i64 ((r : Nat) : Int)), .v (.int .i64 0)]))), (2, some (.sl 5 [.int .u8] (o ++ [(IntKind.wrap .u8 (ishr .u64 ((perm g) 0) 0))])))] 3 (by kernel_rfl) ⟨by omega, by omega, by omega, by omega, by simp <;> omega, by simp <;> omega, trivial⟩ rfl hS fun ac gs ws hS => ?_
      refine then_n ?_
      refine region_a (E := E0) mo hZ [] trivial (fun _ => []) [0, 1, 4] [0, 2] [(0, .cp 0 0), (1, .v (.int .i64 ((n : Nat) : Int))), (4, .sk 2)] [(0, some (.ob 141 (chain [.ar .u64 25 (perm g), .v (.int .i64 ((r : Nat) : Int)), .v (.int .i64 1)]))), (2, some (.sl 5 [.int .u8] (o ++ [(IntKind.wrap .u8 (ishr .u64 ((perm g) 0) 0))])))] 3 (by kernel_rfl) trivial rfl hS fun ac gs ws hS => ?_
      refine block_n ?_
      refine then_n ?_
      exact next_r hg0 hS (s := (g, b, o)) (perm g, 1, o ++ [(IntKind.wrap .u8 (ishr .u64 ((perm g) 0) 0))]) [(0, 0), (1, 2)] (by kernel_rfl) (by kernel_rfl) ⟨rfl, rfl, trivial⟩ (by simp <;> omega) ⟨(by omega), (by simp <;> omega), (by first | exact rd_next1 hq (by omega) | exact rd_next2 hq (by omega)), trivial⟩
    · skip
      have h2 := of_decide_eq_false h
      clear h
      refine wp_skip ?_
      refine then_n ?_
      refine wp_seq ?_
      refine region_a (E := E0) mo hZ [(6, .oi ((b / 8 : Nat) : Int)), (15, .oi ((b % 8 : Nat) : Int)), (16, .oi ((8 * (b % 8) : Nat) : Int))] trivial (fun _ => [iquo .i64 ((b : Nat) : Int) 8 = ((b / 8 : Nat) : Int), (8 : Int) ≠ 0, (0 : Int) ≤ ((b / 8 : Nat) : Int) ∧ (((b / 8 : Nat) : Int) : Int) < 25, irem ((b : Nat) : Int) 8 = ((b % 8 : Nat) : Int), (8 : Int) ≠ 0, imul .i64 8 ((b % 8 : Nat) : Int) = ((8 * (b % 8) : Nat) : Int), (0 : Int) ≤ ((8 * (b % 8) : Nat) : Int), o.length + [(IntKind.wrap .u8 (ishr .u64 (g (b / 8)) ((8 * (b % 8) : Nat) : Int)))].length ≤ 9223372036854775807, (o.length + [(IntKind.wrap .u8 (ishr .u64 (g (b / 8)) ((8 * (b % 8) : Nat) : Int)))].length) * 1 ≤ 140737488355328]) [0, 1, 4] [0, 2] [(0, .cp 0 0), (1, .v (.int .i64 ((n : Nat) : Int))), (4, .sk 2)] [(0, some (.ob 141 (chain [.ar .u64 25 g, .v (.int .i64 ((r : Nat) : Int)), .v (.int .i64 ((b : Nat) : Int))]))), (2, some (.sl 5 [.int .u8] (o ++ [(IntKind.wrap .u8 (ishr .u64 (g (b / 8)) ((8 * (b % 8) : Nat) : Int)))])))] 3 (by kernel_rfl) ⟨by rw [iquo64 (by omega) (by omega) (by omega)]; omega, by omega, by omega, by rw [irem64 (by omega)]; omega, by omega, by rw [imul64 (by omega) (by omega)]; omega, by omega, by simp <;> omega, by simp <;> omega, trivial⟩ rfl hS fun ac gs ws hS => ?_
      refine then_n ?_
      refine region_a (E := E0) mo hZ [(4, .oi ((b + 1 : Nat) : Int))] trivial (fun _ => [iadd .i64 ((b : Nat) : Int) 1 = ((b + 1 : Nat) : Int)]) [0, 1, 4] [0, 2] [(0, .cp 0 0), (1, .v (.int .i64 ((n : Nat) : Int))), (4, .sk 2)] [(0, some (.ob 141 (chain [.ar .u64 25 g, .v (.int .i64 ((r : Nat) : Int)), .v (.int .i64 ((b + 1 : Nat) : Int))]))), (2, some (.sl 5 [.int .u8] (o ++ [(IntKind.wrap .u8 (ishr .u64 (g (b / 8)) ((8 * (b % 8) : Nat) : Int)))])))] 3 (by kernel_rfl) ⟨by rw [iadd64 (by omega) (by omega)]; omega, trivial⟩ rfl hS fun ac gs ws hS => ?_
      refine block_n ?_
      refine then_n ?_
      exact next_r hg0 hS (s := (g, b, o)) (g, b + 1, o ++ [(IntKind.wrap .u8 (ishr .u64 (g (b / 8)) ((8 * (b % 8) : Nat) : Int)))]) [(0, 0), (1, 2)] (by kernel_rfl) (by kernel_rfl) ⟨rfl, rfl, trivial⟩ (by simp <;> omega) ⟨(by omega), (by simp <;> omega), (by first | exact rd_next1 hq (by omega) | exact rd_next2 hq (by omega)), trivial⟩
  · skip
    have h1 := of_decide_eq_false h
    clear h
    have hScur := hS
    have hn : o.length = n := by omega
    obtain ⟨e1, e2, e3⟩ := rd_end hq hn
    clear hq ho hn
    obtain rfl : (rdA r f a n).1 = g := Eq.symm e1
    obtain rfl : (rdA r f a n).2.1 = b := Eq.symm e2
    obtain rfl : (rdA r f a n).2.2 = o := Eq.symm e3
    have hS := hScur
    clear hScur
    refine wp_exit ?_
    refine then_exit ?_
    refine then_exit ?_
    refine block_exit ?_
    refine then_n ?_
    refine wp_seq ?_
    refine region_a (E := E0) mo hZ [] trivial (fun _ => []) [4] [0, 1] [(4, .sk 1)] [(0, some (.ob 141 (chain [.ar .u64 25 ((rdA r f a n).1), .v (.int .i64 ((r : Nat) : Int)), .v (.int .i64 (((rdA r f a n).2.1 : Nat) : Int))]))), (1, some (.sl 5 [.int .u8] ((rdA r f a n).2.2)))] 2 (by kernel_rfl) trivial rfl hS fun ac gs ws hS => ?_
    refine then_n ?_
    refine wp_ret ?_
    obtain ⟨gs, hS⟩ := hS.frz 1 false (by nofun) rfl (L' := [(4, .ls false [.int .u8] ((rdA r f a n).2.2))]) (H' := [(1, none), (0, some (.ob 141 (chain [.ar .u64 25 ((rdA r f a n).1), .v (.int .i64 ((r : Nat) : Int)), .v (.int .i64 (((rdA r f a n).2.1 : Nat) : Int))]))), (1, some (.sl 5 [.int .u8] ((rdA r f a n).2.2)))]) (by kernel_rfl) (by kernel_rfl)
    exact fin_x (.inr rfl) hS (ds := [.ls false [.int .u8] ((rdA r f a n).2.2)]) (by kernel_rfl) rfl ⟨rfl, trivial⟩

end Go.Sx.Try
namespace Go.Sx.Try
open Go.Mi Go.RowKit Go.Sx Go.Proofs
noncomputable def mod_v (x : Int) : Int := (IntKind.wrap .u16 (irem x 3329))
noncomputable def mod_m (x : Int) : Int := shut (mod_v x)
theorem mod_e (x : Int) : mod_m x = mod_v x := shut_eq _
noncomputable def c_mod (x : Int) : Con := ⟨[.v (.int .u32 x)], [], .v (.int .u16 (mod_m x)), []⟩
set_option maxRecDepth 100000 in
set_option maxHeartbeats 4000000 in
theorem mod_ok (x : Int) : ConOk Try.prog 71 (c_mod x) := by
  refine conOk_of (nb := 0) Try.func71 rfl rfl Try.ntmps71 rfl rfl rfl fun g0 w0 ac gs ws hg0 hS => ?_
  refine wp_seq ?_
  refine region_a (E := E0) mo hZ [] trivial (fun _ => []) [0, 2] [] [(0, .v (.int .u32 x)), (2, .v (.int .u16 0))] [] 0 (by kernel_rfl) trivial rfl hS fun ac gs ws hS => ?_
  refine then_n ?_
  refine wp_seq ?_
  refine region_a (E := E0) mo hZ [] trivial (fun _ => [(3329 : Int) ≠ 0]) [2] [] [(2, .v (.int .u16 (IntKind.wrap .u16 (irem x 3329))))] [] 0 (by kernel_rfl) ⟨by omega, trivial⟩ rfl hS fun ac gs ws hS => ?_
  refine then_n ?_
  refine wp_ret ?_
  have hM : mod_m x = (IntKind.wrap .u16 (irem x 3329)) := mod_e x
  exact fin_x (.inr rfl) hS (ds := [.v (.int .u16 (IntKind.wrap .u16 (irem x 3329)))]) (by kernel_rfl) (by show weak _ (.v (.int .u16 (mod_m x))) = (.v (.int .u16 (mod_m x))); rw [hM]; first | (simp only []; rfl) | (simp only []; done) | rfl) trivial

noncomputable def add_l1_s (f : Nat → Int) (g : Nat → Int) (x6 : Nat) : (Nat → Int) → (Nat → Int) := fun o2_0 => upd o2_0 x6 (mod_m (iadd .u32 (IntKind.wrap .u32 (o2_0 x6)) (IntKind.wrap .u32 (g x6))))
noncomputable def add_l1 (f : Nat → Int) (g : Nat → Int) : Nat → (Nat → Int)
  | 0 => f
  | x6 + 1 => add_l1_s f g x6 (add_l1 f g x6)
noncomputable def add_v (f : Nat → Int) (g : Nat → Int) : (Nat → Int) := add_l1 f g 256
noncomputable def add_m (f : Nat → Int) (g : Nat → Int) : (Nat → Int) := shut (add_v f g)
theorem add_e (f : Nat → Int) (g : Nat → Int) : add_m f g = add_v f g := shut_eq _
noncomputable def c_add (f : Nat → Int) (g : Nat → Int) : Con := ⟨[.ar .u16 256 f, .ar .u16 256 g], [], .ar .u16 256 (add_m f g), []⟩
set_option maxRecDepth 100000 in
set_option maxHeartbeats 4000000 in
theorem add_ok (f : Nat → Int) (g : Nat → Int) : ConOk Try.prog 42 (c_add f g) := by
  refine conOk_of (nb := 0) Try.func42 rfl rfl Try.ntmps42 rfl rfl rfl fun g0 w0 ac gs ws hg0 hS => ?_
  refine wp_seq ?_
  refine region_a (E := E0) mo hZ [] trivial (fun _ => []) [2, 3, 4] [0, 1, 2] [(2, .cp 0 0), (3, .cp 1 0), (4, .cp 2 0)] [(0, some (.ob 60 (chain [.ar .u16 256 f]))), (1, some (.ob 60 (chain [.ar .u16 256 g]))), (2, some (.ob 60 (chain [.ar .u16 256 (fun _ => 0)])))] 3 (by kernel_rfl) trivial rfl hS fun ac gs ws hS => ?_
  refine then_n ?_
  refine wp_seq ?_
  refine wp_seq ?_
  refine region_a (E := E0) mo hZ [] trivial (fun _ => []) [2, 3, 4, 6] [0, 1, 2] [(2, .cp 0 0), (3, .cp 1 0), (4, .cp 2 0), (6, .v (.int .i64 0))] [(0, some (.ob 60 (chain [.ar .u16 256 f]))), (1, some (.ob 60 (chain [.ar .u16 256 g]))), (2, some (.ob 60 (chain [.ar .u16 256 (fun _ => 0)])))] 3 (by kernel_rfl) trivial rfl hS fun ac gs ws hS => ?_
  refine then_n ?_
  refine wp_block ?_
  refine loop_r (σ := Nat × (Nat → Int)) hg0 hS (fun z_ => match z_ with | (x6, o2_0) => 256 - x6) (fun z_ => match z_ with | (x6, o2_0) => [(2, .cp 0 0), (3, .cp 1 0), (4, .cp 2 0), (6, .v (.int .i64 ((x6 : Nat) : Int)))]) (fun z_ => match z_ with | (x6, o2_0) => [(0, .ob 60 (chain [.ar .u16 256 o2_0])), (1, .ob 60 (chain [.ar .u16 256 g])), (2, .ob 60 (chain [.ar .u16 256 (fun _ => 0)]))]) (fun z_ => match z_ with | (x6, o2_0) => (x6 ≤ 256) ∧ (o2_0 = add_l1 f g x6) ∧ True) 3 (0, f) [(0, 0), (1, 1), (2, 2)] (by kernel_rfl) (by kernel_rfl) ⟨rfl, rfl, rfl, trivial⟩ ⟨(by omega), rfl, trivial⟩ ?_
  rintro ⟨x6, o2_0⟩ ac gs ws ⟨hx6, hq1, _⟩ hS
  refine wp_seq ?_
  refine region_a (E := E0) mo hZ [] trivial (fun _ => []) [2, 3, 4, 6, 7] [0, 1, 2] [(2, .cp 0 0), (3, .cp 1 0), (4, .cp 2 0), (6, .v (.int .i64 ((x6 : Nat) : Int))), (7, .v (.bool (decide (((x6 : Nat) : Int) < 256))))] [(0, some (.ob 60 (chain [.ar .u16 256 o2_0]))), (1, some (.ob 60 (chain [.ar .u16 256 g]))), (2, some (.ob 60 (chain [.ar .u16 256 (fun _ => 0)])))] 3 (by kernel_rfl) trivial rfl hS fun ac gs ws hS => ?_
  refine then_n ?_
  refine wp_seq ?_
  refine if_x hS rfl (fun h => ?_) (fun h => ?_)
  · skip
    have h1 := of_decide_eq_true h
    clear h
    refine wp_skip ?_
    refine then_n ?_
    refine wp_seq ?_
    refine wp_block ?_
    refine wp_seq ?_
    refine region_a (E := E0) mo hZ [] trivial (fun _ => []) [2, 3, 4, 5, 6] [0, 1, 2] [(2, .cp 0 0), (3, .cp 1 0), (4, .cp 2 0), (5, .v (.int .i64 ((x6 : Nat) : Int))), (6, .v (.int .i64 ((x6 : Nat) : Int)))] [(0, some (.ob 60 (chain [.ar .u16 256 o2_0]))), (1, some (.ob 60 (chain [.ar .u16 256 g]))), (2, some (.ob 60 (chain [.ar .u16 256 (fun _ => 0)])))] 3 (by kernel_rfl) trivial rfl hS fun ac gs ws hS => ?_
    refine then_n ?_
    refine region_a (E := E0) mo hZ [(10, .call ⟨71, (c_mod (iadd .u32 (IntKind.wrap .u32 (o2_0 x6)) (IntKind.wrap .u32 (g x6)))), [], []⟩)] ⟨mod_ok (iadd .u32 (IntKind.wrap .u32 (o2_0 x6)) (IntKind.wrap .u32 (g x6))), trivial⟩ (fun C => [(0 : Int) ≤ ((x6 : Nat) : Int) ∧ (((x6 : Nat) : Int) : Int) < 256, (0 : Int) ≤ ((x6 : Nat) : Int) ∧ (((x6 : Nat) : Int) : Int) < 256, ndC C 10, (0 : Int) ≤ ((x6 : Nat) : Int) ∧ (((x6 : Nat) : Int) : Int) < 256]) [2, 3, 4, 6] [0, 1, 2] [(2, .cp 0 0), (3, .cp 1 0), (4, .cp 2 0), (6, .v (.int .i64 ((x6 : Nat) : Int)))] [(0, some (.ob 60 (chain [.ar .u16 256 (upd o2_0 x6 (mod_m (iadd .u32 (IntKind.wrap .u32 (o2_0 x6)) (IntKind.wrap .u32 (g x6)))))]))), (1, some (.ob 60 (chain [.ar .u16 256 g]))), (2, some (.ob 60 (chain [.ar .u16 256 (fun _ => 0)])))] 3 (by kernel_rfl) ⟨by omega, by omega, rfl, by omega, trivial⟩ rfl hS fun ac gs ws hS => ?_
    refine block_n ?_
    refine then_n ?_
    refine region_a (E := E0) mo hZ [(0, .oi ((x6 + 1 : Nat) : Int))] trivial (fun _ => [iadd .i64 ((x6 : Nat) : Int) 1 = ((x6 + 1 : Nat) : Int)]) [2, 3, 4, 6] [0, 1, 2] [(2, .cp 0 0), (3, .cp 1 0), (4, .cp 2 0), (6, .v (.int .i64 ((x6 + 1 : Nat) : Int)))] [(0, some (.ob 60 (chain [.ar .u16 256 (upd o2_0 x6 (mod_m (iadd .u32 (IntKind.wrap .u32 (o2_0 x6)) (IntKind.wrap .u32 (g x6)))))]))), (1, some (.ob 60 (chain [.ar .u16 256 g]))), (2, some (.ob 60 (chain [.ar .u16 256 (fun _ => 0)])))] 3 (by kernel_rfl) ⟨by rw [iadd64 (by omega) (by omega)]; omega, trivial⟩ rfl hS fun ac gs ws hS => ?_
    refine then_n ?_
    exact next_r hg0 hS (s := (x6, o2_0)) (x6 + 1, upd o2_0 x6 (mod_m (iadd .u32 (IntKind.wrap .u32 (o2_0 x6)) (IntKind.wrap .u32 (g x6))))) [(0, 0), (1, 1), (2, 2)] (by kernel_rfl) (by kernel_rfl) ⟨rfl, rfl, rfl, trivial⟩ (show 256 - (x6 + 1) < 256 - x6 from by omega) ⟨(by omega), (it_next (F := add_l1 f g) (st := add_l1_s f g) (fun _ => rfl) hq1 rfl), trivial⟩
  · skip
    have h1 := of_decide_eq_false h
    clear h
    have hScur := hS
    obtain rfl : 256 = x6 := by omega
    obtain rfl : add_l1 f g 256 = o2_0 := Eq.symm (congrArg (fun z => z) hq1)
    have hS := hScur
    clear hScur
    refine wp_exit ?_
    refine then_exit ?_
    refine then_exit ?_
    refine block_exit ?_
    refine then_n ?_
    refine wp_seq ?_
    refine region_a (E := E0) mo hZ [] trivial (fun _ => []) [4] [2] [(4, .cp 2 0)] [(2, some (.ob 60 (chain [.ar .u16 256 (add_l1 f g 256)])))] 3 (by kernel_rfl) trivial rfl hS fun ac gs ws hS => ?_
    refine then_n ?_
    refine wp_ret ?_
    have hM : add_m f g = add_l1 f g 256 := add_e f g
    exact fin_x (.inr rfl) hS (ds := [.ar .u16 256 (add_l1 f g 256)]) (by kernel_rfl) (by show weak _ (.ar .u16 256 (add_m f g)) = (.ar .u16 256 (add_m f g)); rw [hM]; first | (simp only []; rfl) | (simp only []; done) | rfl) trivial

noncomputable def sub_l1_s (f : Nat → Int) (g : Nat → Int) (x6 : Nat) : (Nat → Int) → (Nat → Int) := fun o2_0 => upd o2_0 x6 (mod_m (isub .u32 (iadd .u32 (IntKind.wrap .u32 (o2_0 x6)) 3329) (IntKind.wrap .u32 (irem (g x6) 3329))))
noncomputable def sub_l1 (f : Nat → Int) (g : Nat → Int) : Nat → (Nat → Int)
  | 0 => f
  | x6 + 1 => sub_l1_s f g x6 (sub_l1 f g x6)
noncomputable def sub_v (f : Nat → Int) (g : Nat → Int) : (Nat → Int) := sub_l1 f g 256
noncomputable def sub_m (f : Nat → Int) (g : Nat → Int) : (Nat → Int) := shut (sub_v f g)
theorem sub_e (f : Nat → Int) (g : Nat → Int) : sub_m f g = sub_v f g := shut_eq _
noncomputable def c_sub (f : Nat → Int) (g : Nat → Int) : Con := ⟨[.ar .u16 256 f, .ar .u16 256 g], [], .ar .u16 256 (sub_m f g), []⟩
set_option maxRecDepth 100000 in
set_option maxHeartbeats 4000000 in
theorem sub_ok (f : Nat → Int) (g : Nat → Int) : ConOk Try.prog 125 (c_sub f g) := by
  refine conOk_of (nb := 0) Try.func125 rfl rfl Try.ntmps125 rfl rfl rfl fun g0 w0 ac gs ws hg0 hS => ?_
  refine wp_seq ?_
  refine region_a (E := E0) mo hZ [] trivial (fun _ => []) [2, 3, 4] [0, 1, 2] [(2, .cp 0 0), (3, .cp 1 0), (4, .cp 2 0)] [(0, some (.ob 60 (chain [.ar .u16 256 f]))), (1, some (.ob 60 (chain [.ar .u16 256 g]))), (2, some (.ob 60 (chain [.ar .u16 256 (fun _ => 0)])))] 3 (by kernel_rfl) trivial rfl hS fun ac gs ws hS => ?_
  refine then_n ?_
  refine wp_seq ?_
  refine wp_seq ?_
  refine region_a (E := E0) mo hZ [] trivial (fun _ => []) [2, 3, 4, 6] [0, 1, 2] [(2, .cp 0 0), (3, .cp 1 0), (4, .cp 2 0), (6, .v (.int .i64 0))] [(0, some (.ob 60 (chain [.ar .u16 256 f]))), (1, some (.ob 60 (chain [.ar .u16 256 g]))), (2, some (.ob 60 (chain [.ar .u16 256 (fun _ => 0)])))] 3 (by kernel_rfl) trivial rfl hS fun ac gs ws hS => ?_
  refine then_n ?_
  refine wp_block ?_
  refine loop_r (σ := Nat × (Nat → Int)) hg0 hS (fun z_ => match z_ with | (x6, o2_0) => 256 - x6) (fun z_ => match z_ with | (x6, o2_0) => [(2, .cp 0 0), (3, .cp 1 0), (4, .cp 2 0), (6, .v (.int .i64 ((x6 : Nat) : Int)))]) (fun z_ => match z_ with | (x6, o2_0) => [(0, .ob 60 (chain [.ar .u16 256 o2_0])), (1, .ob 60 (chain [.ar .u16 256 g])), (2, .ob 60 (chain [.ar .u16 256 (fun _ => 0)]))]) (fun z_ => match z_ with | (x6, o2_0) => (x6 ≤ 256) ∧ (o2_0 = sub_l1 f g x6) ∧ True) 3 (0, f) [(0, 0), (1, 1), (2, 2)] (by kernel_rfl) (by kernel_rfl) ⟨rfl, rfl, rfl, trivial⟩ ⟨(by omega), rfl, trivial⟩ ?_
  rintro ⟨x6, o2_0⟩ ac gs ws ⟨hx6, hq1, _⟩ hS
  refine wp_seq ?_
  refine region_a (E := E0) mo hZ [] trivial (fun _ => []) [2, 3, 4, 6, 7] [0, 1, 2] [(2, .cp 0 0), (3, .cp 1 0), (4, .cp 2 0), (6, .v (.int .i64 ((x6 : Nat) : Int))), (7, .v (.bool (decide (((x6 : Nat) : Int) < 256))))] [(0, some (.ob 60 (chain [.ar .u16 256 o2_0]))), (1, some (.ob 60 (chain [.ar .u16 256 g]))), (2, some (.ob 60 (chain [.ar .u16 256 (fun _ => 0)])))] 3 (by kernel_rfl) trivial rfl hS fun ac gs ws hS => ?_
  refine then_n ?_
  refine wp_seq ?_
  refine if_x hS rfl (fun h => ?_) (fun h => ?_)
  · skip
    have h1 := of_decide_eq_true h
    clear h
    refine wp_skip ?_
    refine then_n ?_
    refine wp_seq ?_
    refine wp_block ?_
    refine wp_seq ?_
    refine region_a (E := E0) mo hZ [] trivial (fun _ => []) [2, 3, 4, 5, 6] [0, 1, 2] [(2, .cp 0 0), (3, .cp 1 0), (4, .cp 2 0), (5, .v (.int .i64 ((x6 : Nat) : Int))), (6, .v (.int .i64 ((x6 : Nat) : Int)))] [(0, some (.ob 60 (chain [.ar .u16 256 o2_0]))), (1, some (.ob 60 (chain [.ar .u16 256 g]))), (2, some (.ob 60 (chain [.ar .u16 256 (fun _ => 0)])))] 3 (by kernel_rfl) trivial rfl hS fun ac gs ws hS => ?_
    refine then_n ?_
    refine region_a (E := E0) mo hZ [(12, .call ⟨71, (c_mod (isub .u32 (iadd .u32 (IntKind.wrap .u32 (o2_0 x6)) 3329) (IntKind.wrap .u32 (irem (g x6) 3329)))), [], []⟩)] ⟨mod_ok (isub .u32 (iadd .u32 (IntKind.wrap .u32 (o2_0 x6)) 3329) (IntKind.wrap .u32 (irem (g x6) 3329))), trivial⟩ (fun C => [(0 : Int) ≤ ((x6 : Nat) : Int) ∧ (((x6 : Nat) : Int) : Int) < 256, (0 : Int) ≤ ((x6 : Nat) : Int) ∧ (((x6 : Nat) : Int) : Int) < 256, (3329 : Int) ≠ 0, ndC C 12, (0 : Int) ≤ ((x6 : Nat) : Int) ∧ (((x6 : Nat) : Int) : Int) < 256]) [2, 3, 4, 6] [0, 1, 2] [(2, .cp 0 0), (3, .cp 1 0), (4, .cp 2 0), (6, .v (.int .i64 ((x6 : Nat) : Int)))] [(0, some (.ob 60 (chain [.ar .u16 256 (upd o2_0 x6 (mod_m (isub .u32 (iadd .u32 (IntKind.wrap .u32 (o2_0 x6)) 3329) (IntKind.wrap .u32 (irem (g x6) 3329)))))]))), (1, some (.ob 60 (chain [.ar .u16 256 g]))), (2, some (.ob 60 (chain [.ar .u16 256 (fun _ => 0)])))] 3 (by kernel_rfl) ⟨by omega, by omega, by omega, rfl, by omega, trivial⟩ rfl hS fun ac gs ws hS => ?_
    refine block_n ?_
    refine then_n ?_
    refine region_a (E := E0) mo hZ [(0, .oi ((x6 + 1 : Nat) : Int))] trivial (fun _ => [iadd .i64 ((x6 : Nat) : Int) 1 = ((x6 + 1 : Nat) : Int)]) [2, 3, 4, 6] [0, 1, 2] [(2, .cp 0 0), (3, .cp 1 0), (4, .cp 2 0), (6, .v (.int .i64 ((x6 + 1 : Nat) : Int)))] [(0, some (.ob 60 (chain [.ar .u16 256 (upd o2_0 x6 (mod_m (isub .u32 (iadd .u32 (IntKind.wrap .u32 (o2_0 x6)) 3329) (IntKind.wrap .u32 (irem (g x6) 3329)))))]))), (1, some (.ob 60 (chain [.ar .u16 256 g]))), (2, some (.ob 60 (chain [.ar .u16 256 (fun _ => 0)])))] 3 (by kernel_rfl) ⟨by rw [iadd64 (by omega) (by omega)]; omega, trivial⟩ rfl hS fun ac gs ws hS => ?_
    refine then_n ?_
    exact next_r hg0 hS (s := (x6, o2_0)) (x6 + 1, upd o2_0 x6 (mod_m (isub .u32 (iadd .u32 (IntKind.wrap .u32 (o2_0 x6)) 3329) (IntKind.wrap .u32 (irem (g x6) 3329))))) [(0, 0), (1, 1), (2, 2)] (by kernel_rfl) (by kernel_rfl) ⟨rfl, rfl, rfl, trivial⟩ (show 256 - (x6 + 1) < 256 - x6 from by omega) ⟨(by omega), (it_next (F := sub_l1 f g) (st := sub_l1_s f g) (fun _ => rfl) hq1 rfl), trivial⟩
  · skip
    have h1 := of_decide_eq_false h
    clear h
    have hScur := hS
    obtain rfl : 256 = x6 := by omega
    obtain rfl : sub_l1 f g 256 = o2_0 := Eq.symm (congrArg (fun z => z) hq1)
    have hS := hScur
    clear hScur
    refine wp_exit ?_
    refine then_exit ?_
    refine then_exit ?_
    refine block_exit ?_
    refine then_n ?_
    refine wp_seq ?_
    refine region_a (E := E0) mo hZ [] trivial (fun _ => []) [4] [2] [(4, .cp 2 0)] [(2, some (.ob 60 (chain [.ar .u16 256 (sub_l1 f g 256)])))] 3 (by kernel_rfl) trivial rfl hS fun ac gs ws hS => ?_
    refine then_n ?_
    refine wp_ret ?_
    have hM : sub_m f g = sub_l1 f g 256 := sub_e f g
    exact fin_x (.inr rfl) hS (ds := [.ar .u16 256 (sub_l1 f g 256)]) (by kernel_rfl) (by show weak _ (.ar .u16 256 (sub_m f g)) = (.ar .u16 256 (sub_m f g)); rw [hM]; first | (simp only []; rfl) | (simp only []; done) | rfl) trivial

noncomputable def turned_l1_s (i : Nat) (x3 : Nat) : (Int × Int) → (Int × Int) := fun z_ => match z_ with | (x0, x2) => ((ishr .i64 x0 1), (ior .i64 (ishl .i64 x2 1) (iand .i64 x0 1)))
noncomputable def turned_l1 (i : Nat) : Nat → Int × Int
  | 0 => (((i : Nat) : Int), 0)
  | x3 + 1 => turned_l1_s i x3 (turned_l1 i x3)
noncomputable def turned_v (i : Nat) : Int := ((turned_l1 i 7).2)
noncomputable def turned_m (i : Nat) : Int := shut (turned_v i)
theorem turned_e (i : Nat) : turned_m i = turned_v i := shut_eq _
theorem turned_lt (i : Nat) (h : i < 128) : 0 ≤ turned_m i ∧ turned_m i < 128 := by
  have key : ((List.range 128).all fun i => decide (0 ≤ turned_v i) && decide (turned_v i < 128)) = true := by kernel_rfl
  have := List.all_eq_true.1 key i (List.mem_range.2 h)
  rw [Bool.and_eq_true, decide_eq_true_iff, decide_eq_true_iff] at this
  rw [turned_e]
  exact this
noncomputable def c_turned (i : Nat) : Con := ⟨[.v (.int .i64 ((i : Nat) : Int))], [], .v (.int .i64 (turned_m i)), []⟩
set_option maxRecDepth 100000 in
set_option maxHeartbeats 4000000 in
theorem turned_ok (i : Nat) (h : i < 128) : ConOk Try.prog 99 (c_turned i) := by
  refine conOk_of (nb := 0) Try.func99 rfl rfl Try.ntmps99 rfl rfl rfl fun g0 w0 ac gs ws hg0 hS => ?_
  refine wp_seq ?_
  refine region_a (E := E0) mo hZ [] trivial (fun _ => []) [0, 2] [] [(0, .v (.int .i64 ((i : Nat) : Int))), (2, .v (.int .i64 0))] [] 0 (by kernel_rfl) trivial rfl hS fun ac gs ws hS => ?_
  refine then_n ?_
  refine wp_seq ?_
  refine wp_seq ?_
  refine region_a (E := E0) mo hZ [] trivial (fun _ => []) [0, 2, 3] [] [(0, .v (.int .i64 ((i : Nat) : Int))), (2, .v (.int .i64 0)), (3, .v (.int .i64 0))] [] 0 (by kernel_rfl) trivial rfl hS fun ac gs ws hS => ?_
  refine then_n ?_
  refine wp_block ?_
  refine loop_r (σ := Nat × Int × Int) hg0 hS (fun z_ => match z_ with | (x3, x0, x2) => 7 - x3) (fun z_ => match z_ with | (x3, x0, x2) => [(0, .v (.int .i64 x0)), (2, .v (.int .i64 x2)), (3, .v (.int .i64 ((x3 : Nat) : Int)))]) (fun z_ => match z_ with | (x3, x0, x2) => []) (fun z_ => match z_ with | (x3, x0, x2) => (x3 ≤ 7) ∧ ((x0, x2) = turned_l1 i x3) ∧ True) 0 (0, ((i : Nat) : Int), 0) [] (by kernel_rfl) (by kernel_rfl) trivial ⟨(by omega), rfl, trivial⟩ ?_
  rintro ⟨x3, x0, x2⟩ ac gs ws ⟨hx3, hq1, _⟩ hS
  refine wp_seq ?_
  refine region_a (E := E0) mo hZ [] trivial (fun _ => []) [0, 2, 3, 4] [] [(0, .v (.int .i64 x0)), (2, .v (.int .i64 x2)), (3, .v (.int .i64 ((x3 : Nat) : Int))), (4, .v (.bool (decide (((x3 : Nat) : Int) < 7))))] [] 0 (by kernel_rfl) trivial rfl hS fun ac gs ws hS => ?_
  refine then_n ?_
  refine wp_seq ?_
  refine if_x hS rfl (fun h => ?_) (fun h => ?_)
  · skip
    have h1 := of_decide_eq_true h
    clear h
    refine wp_skip ?_
    refine then_n ?_
    refine wp_seq ?_
    refine wp_block ?_
    refine wp_seq ?_
    refine region_a (E := E0) mo hZ [] trivial (fun _ => [(0 : Int) ≤ 1]) [0, 2, 3] [] [(0, .v (.int .i64 x0)), (2, .v (.int .i64 (ior .i64 (ishl .i64 x2 1) (iand .i64 x0 1)))), (3, .v (.int .i64 ((x3 : Nat) : Int)))] [] 0 (by kernel_rfl) ⟨by omega, trivial⟩ rfl hS fun ac gs ws hS => ?_
    refine then_n ?_
    refine region_a (E := E0) mo hZ [] trivial (fun _ => [(0 : Int) ≤ 1]) [0, 2, 3] [] [(0, .v (.int .i64 (ishr .i64 x0 1))), (2, .v (.int .i64 (ior .i64 (ishl .i64 x2 1) (iand .i64 x0 1)))), (3, .v (.int .i64 ((x3 : Nat) : Int)))] [] 0 (by kernel_rfl) ⟨by omega, trivial⟩ rfl hS fun ac gs ws hS => ?_
    refine block_n ?_
    refine then_n ?_
    refine region_a (E := E0) mo hZ [(0, .oi ((x3 + 1 : Nat) : Int))] trivial (fun _ => [iadd .i64 ((x3 : Nat) : Int) 1 = ((x3 + 1 : Nat) : Int)]) [0, 2, 3] [] [(0, .v (.int .i64 (ishr .i64 x0 1))), (2, .v (.int .i64 (ior .i64 (ishl .i64 x2 1) (iand .i64 x0 1)))), (3, .v (.int .i64 ((x3 + 1 : Nat) : Int)))] [] 0 (by kernel_rfl) ⟨by rw [iadd64 (by omega) (by omega)]; omega, trivial⟩ rfl hS fun ac gs ws hS => ?_
    refine then_n ?_
    exact next_r hg0 hS (s := (x3, x0, x2)) (x3 + 1, (ishr .i64 x0 1), (ior .i64 (ishl .i64 x2 1) (iand .i64 x0 1))) [] (by kernel_rfl) (by kernel_rfl) trivial (show 7 - (x3 + 1) < 7 - x3 from by omega) ⟨(by omega), (it_next (F := turned_l1 i) (st := turned_l1_s i) (fun _ => rfl) hq1 rfl), trivial⟩
  · skip
    have h1 := of_decide_eq_false h
    clear h
    have hScur := hS
    obtain rfl : 7 = x3 := by omega
    obtain rfl : (turned_l1 i 7).1 = x0 := Eq.symm (congrArg (fun z => z.1) hq1)
    obtain rfl : (turned_l1 i 7).2 = x2 := Eq.symm (congrArg (fun z => z.2) hq1)
    have hS := hScur
    clear hScur
    refine wp_exit ?_
    refine then_exit ?_
    refine then_exit ?_
    refine block_exit ?_
    refine then_n ?_
    refine wp_seq ?_
    refine region_a (E := E0) mo hZ [] trivial (fun _ => []) [2] [] [(2, .v (.int .i64 ((turned_l1 i 7).2)))] [] 0 (by kernel_rfl) trivial rfl hS fun ac gs ws hS => ?_
    refine then_n ?_
    refine wp_ret ?_
    have hM : turned_m i = ((turned_l1 i 7).2) := turned_e i
    exact fin_x (.inr rfl) hS (ds := [.v (.int .i64 ((turned_l1 i 7).2))]) (by kernel_rfl) (by show weak _ (.v (.int .i64 (turned_m i))) = (.v (.int .i64 (turned_m i))); rw [hM]; first | (simp only []; rfl) | (simp only []; done) | rfl) trivial

noncomputable def zetas_l1_s (k1 : Nat) : (Nat × (Nat → Int)) → (Nat × (Nat → Int)) := fun z_ => match z_ with | (x2, o1_0) => (x2 + 1, upd o1_0 x2 (irem (imul .u32 (o1_0 (Int.toNat (((x2 : Nat) : Int) - 1))) 17) 3329))
noncomputable def zetas_l1 : Nat → Nat × (Nat → Int)
  | 0 => (1, upd (fun _ => 0) 0 1)
  | k1 + 1 => zetas_l1_s k1 (zetas_l1 k1)
def zetas_l1_c : (Nat × (Nat → Int)) → Prop := fun z_ => match z_ with | (x2, o1_0) => ((x2 : Nat) : Int) < 128
noncomputable def zetas_l2_s (x17 : Nat) : (Nat → Int) → (Nat → Int) := fun o0_0 => upd o0_0 x17 (((zetas_l1 (lst fun j => zetas_l1_c (zetas_l1 j))).2) (Int.toNat (turned_m x17)))
noncomputable def zetas_l2 : Nat → (Nat → Int)
  | 0 => fun _ => 0
  | x17 + 1 => zetas_l2_s x17 (zetas_l2 x17)
noncomputable def zetas_v : (Nat → Int) := zetas_l2 128
noncomputable def zetas_m : (Nat → Int) := shut (zetas_v)
theorem zetas_e : zetas_m = zetas_v := shut_eq _
noncomputable def c_zetas : Con := ⟨[], [], .ar .u32 128 zetas_m, []⟩
set_option maxRecDepth 100000 in
set_option maxHeartbeats 4000000 in
theorem zetas_ok : ConOk Try.prog 70 (c_zetas) := by
  refine conOk_of (nb := 0) Try.func70 rfl rfl Try.ntmps70 rfl rfl rfl fun g0 w0 ac gs ws hg0 hS => ?_
  refine wp_seq ?_
  refine region_a (E := E0) mo hZ [] trivial (fun _ => []) [0] [0] [(0, .cp 0 0)] [(0, some (.ob 106 (chain [.ar .u32 128 (fun _ => 0)])))] 1 (by kernel_rfl) trivial rfl hS fun ac gs ws hS => ?_
  refine then_n ?_
  refine wp_seq ?_
  refine region_a (E := E0) mo hZ [] trivial (fun _ => []) [0, 1] [0, 1] [(0, .cp 0 0), (1, .cp 1 0)] [(0, some (.ob 106 (chain [.ar .u32 128 (fun _ => 0)]))), (1, some (.ob 106 (chain [.ar .u32 128 (fun _ => 0)])))] 2 (by kernel_rfl) trivial rfl hS fun ac gs ws hS => ?_
  refine then_n ?_
  refine wp_seq ?_
  refine region_a (E := E0) mo hZ [] trivial (fun _ => [(0 : Int) ≤ 0 ∧ (0 : Int) < 128]) [0, 1] [0, 1] [(0, .cp 0 0), (1, .cp 1 0)] [(0, some (.ob 106 (chain [.ar .u32 128 (fun _ => 0)]))), (1, some (.ob 106 (chain [.ar .u32 128 (upd (fun _ => 0) 0 1)])))] 2 (by kernel_rfl) ⟨by omega, trivial⟩ rfl hS fun ac gs ws hS => ?_
  refine then_n ?_
  refine wp_seq ?_
  refine wp_seq ?_
  refine region_a (E := E0) mo hZ [] trivial (fun _ => []) [0, 1, 2] [0, 1] [(0, .cp 0 0), (1, .cp 1 0), (2, .v (.int .i64 1))] [(0, some (.ob 106 (chain [.ar .u32 128 (fun _ => 0)]))), (1, some (.ob 106 (chain [.ar .u32 128 (upd (fun _ => 0) 0 1)])))] 2 (by kernel_rfl) trivial rfl hS fun ac gs ws hS => ?_
  refine then_n ?_
  refine wp_block ?_
  refine loop_r (σ := Nat × Nat × (Nat → Int)) hg0 hS (fun z_ => match z_ with | (k1, x2, o1_0) => 128 - x2) (fun z_ => match z_ with | (k1, x2, o1_0) => [(0, .cp 0 0), (1, .cp 1 0), (2, .v (.int .i64 ((x2 : Nat) : Int)))]) (fun z_ => match z_ with | (k1, x2, o1_0) => [(0, .ob 106 (chain [.ar .u32 128 (fun _ => 0)])), (1, .ob 106 (chain [.ar .u32 128 o1_0]))]) (fun z_ => match z_ with | (k1, x2, o1_0) => ((x2, o1_0) = zetas_l1 k1) ∧ (∀ j, j < k1 → zetas_l1_c (zetas_l1 j)) ∧ (x2 ≤ 128) ∧ (1 ≤ x2) ∧ True) 2 (0, 1, upd (fun _ => 0) 0 1) [(0, 0), (1, 1)] (by kernel_rfl) (by kernel_rfl) ⟨rfl, rfl, trivial⟩ ⟨rfl, (fun j h => absurd h (Nat.not_lt_zero j)), (by omega), (by omega), trivial⟩ ?_
  rintro ⟨k1, x2, o1_0⟩ ac gs ws ⟨hq1, hj1, p1, p2, _⟩ hS
  refine wp_seq ?_
  refine wp_seq ?_
  refine region_a (E := E0) mo hZ [] trivial (fun _ => []) [0, 1, 2, 6] [0, 1] [(0, .cp 0 0), (1, .cp 1 0), (2, .v (.int .i64 ((x2 : Nat) : Int))), (6, .v (.bool (decide (((x2 : Nat) : Int) < 128))))] [(0, some (.ob 106 (chain [.ar .u32 128 (fun _ => 0)]))), (1, some (.ob 106 (chain [.ar .u32 128 o1_0])))] 2 (by kernel_rfl) trivial rfl hS fun ac gs ws hS => ?_
  refine then_n ?_
  refine if_x hS rfl (fun h => ?_) (fun h => ?_)
  · skip
    have h1 := of_decide_eq_true h
    clear h
    refine wp_skip ?_
    refine then_n ?_
    refine wp_seq ?_
    refine wp_block ?_
    refine region_a (E := E0) mo hZ [(2, .oi (((x2 : Nat) : Int) - 1))] trivial (fun _ => [isub .i64 ((x2 : Nat) : Int) 1 = (((x2 : Nat) : Int) - 1), (0 : Int) ≤ (((x2 : Nat) : Int) - 1) ∧ ((((x2 : Nat) : Int) - 1) : Int) < 128, (3329 : Int) ≠ 0, (0 : Int) ≤ ((x2 : Nat) : Int) ∧ (((x2 : Nat) : Int) : Int) < 128]) [0, 1, 2] [0, 1] [(0, .cp 0 0), (1, .cp 1 0), (2, .v (.int .i64 ((x2 : Nat) : Int)))] [(0, some (.ob 106 (chain [.ar .u32 128 (fun _ => 0)]))), (1, some (.ob 106 (chain [.ar .u32 128 (upd o1_0 x2 (irem (imul .u32 (o1_0 (Int.toNat (((x2 : Nat) : Int) - 1))) 17) 3329))])))] 2 (by kernel_rfl) ⟨isub64 (by omega) (by omega), by omega, by omega, by omega, trivial⟩ rfl hS fun ac gs ws hS => ?_
    refine block_n ?_
    refine then_n ?_
    refine region_a (E := E0) mo hZ [(1, .oi ((x2 + 1 : Nat) : Int))] trivial (fun _ => [iadd .i64 ((x2 : Nat) : Int) 1 = ((x2 + 1 : Nat) : Int)]) [0, 1, 2] [0, 1] [(0, .cp 0 0), (1, .cp 1 0), (2, .v (.int .i64 ((x2 + 1 : Nat) : Int)))] [(0, some (.ob 106 (chain [.ar .u32 128 (fun _ => 0)]))), (1, some (.ob 106 (chain [.ar .u32 128 (upd o1_0 x2 (irem (imul .u32 (o1_0 (Int.toNat (((x2 : Nat) : Int) - 1))) 17) 3329))])))] 2 (by kernel_rfl) ⟨by rw [iadd64 (by omega) (by omega)]; omega, trivial⟩ rfl hS fun ac gs ws hS => ?_
    refine then_n ?_
    exact next_r hg0 hS (s := (k1, x2, o1_0)) (k1 + 1, x2 + 1, upd o1_0 x2 (irem (imul .u32 (o1_0 (Int.toNat (((x2 : Nat) : Int) - 1))) 17) 3329)) [(0, 0), (1, 1)] (by kernel_rfl) (by kernel_rfl) ⟨rfl, rfl, trivial⟩ (show 128 - (x2 + 1) < 128 - x2 from by omega) ⟨(it_next (F := zetas_l1) (st := zetas_l1_s) (fun _ => rfl) hq1 rfl), (lst_next hj1 (by rw [← hq1]; exact h1)), (by omega), (by omega), trivial⟩
  · skip
    have h1 := of_decide_eq_false h
    clear h
    have hScur := hS
    obtain rfl := lst_eq (P := fun j => zetas_l1_c (zetas_l1 j)) (by rw [← hq1]; exact h1) hj1
    obtain rfl : (zetas_l1 (lst fun j => zetas_l1_c (zetas_l1 j))).1 = x2 := Eq.symm (congrArg (fun z => z.1) hq1)
    obtain rfl : (zetas_l1 (lst fun j => zetas_l1_c (zetas_l1 j))).2 = o1_0 := Eq.symm (congrArg (fun z => z.2) hq1)
    have hS := hScur
    clear hScur
    refine wp_exit ?_
    refine then_exit ?_
    refine then_exit ?_
    refine block_exit ?_
    refine then_n ?_
    refine wp_seq ?_
    refine wp_seq ?_
    refine region_a (E := E0) mo hZ [] trivial (fun _ => []) [0, 1, 17] [0, 1] [(0, .cp 0 0), (1, .cp 1 0), (17, .v (.int .i64 0))] [(0, some (.ob 106 (chain [.ar .u32 128 (fun _ => 0)]))), (1, some (.ob 106 (chain [.ar .u32 128 ((zetas_l1 (lst fun j => zetas_l1_c (zetas_l1 j))).2)])))] 2 (by kernel_rfl) trivial rfl hS fun ac gs ws hS => ?_
    refine then_n ?_
    refine wp_block ?_
    refine loop_r (σ := Nat × (Nat → Int)) hg0 hS (fun z_ => match z_ with | (x17, o0_0) => 128 - x17) (fun z_ => match z_ with | (x17, o0_0) => [(0, .cp 0 0), (1, .cp 1 0), (17, .v (.int .i64 ((x17 : Nat) : Int)))]) (fun z_ => match z_ with | (x17, o0_0) => [(0, .ob 106 (chain [.ar .u32 128 o0_0])), (1, .ob 106 (chain [.ar .u32 128 ((zetas_l1 (lst fun j => zetas_l1_c (zetas_l1 j))).2)]))]) (fun z_ => match z_ with | (x17, o0_0) => (x17 ≤ 128) ∧ (o0_0 = zetas_l2 x17) ∧ True) 2 (0, fun _ => 0) [(0, 0), (1, 1)] (by kernel_rfl) (by kernel_rfl) ⟨rfl, rfl, trivial⟩ ⟨(by omega), rfl, trivial⟩ ?_
    rintro ⟨x17, o0_0⟩ ac gs ws ⟨hx17, hq2, _⟩ hS
    refine wp_seq ?_
    refine region_a (E := E0) mo hZ [] trivial (fun _ => []) [0, 1, 17, 18] [0, 1] [(0, .cp 0 0), (1, .cp 1 0), (17, .v (.int .i64 ((x17 : Nat) : Int))), (18, .v (.bool (decide (((x17 : Nat) : Int) < 128))))] [(0, some (.ob 106 (chain [.ar .u32 128 o0_0]))), (1, some (.ob 106 (chain [.ar .u32 128 ((zetas_l1 (lst fun j => zetas_l1_c (zetas_l1 j))).2)])))] 2 (by kernel_rfl) trivial rfl hS fun ac gs ws hS => ?_
    refine then_n ?_
    refine wp_seq ?_
    refine if_x hS rfl (fun h => ?_) (fun h => ?_)
    · skip
      have h2 := of_decide_eq_true h
      clear h
      refine wp_skip ?_
      refine then_n ?_
      refine wp_seq ?_
      refine wp_block ?_
      refine wp_seq ?_
      refine region_a (E := E0) mo hZ [] trivial (fun _ => []) [0, 1, 3, 17] [0, 1] [(0, .cp 0 0), (1, .cp 1 0), (3, .v (.int .i64 ((x17 : Nat) : Int))), (17, .v (.int .i64 ((x17 : Nat) : Int)))] [(0, some (.ob 106 (chain [.ar .u32 128 o0_0]))), (1, some (.ob 106 (chain [.ar .u32 128 ((zetas_l1 (lst fun j => zetas_l1_c (zetas_l1 j))).2)])))] 2 (by kernel_rfl) trivial rfl hS fun ac gs ws hS => ?_
      refine then_n ?_
      have ht := turned_lt x17 (by omega)
      refine region_a (E := E0) mo hZ [(2, .call ⟨99, (c_turned x17), [], []⟩)] ⟨turned_ok x17 (by omega), trivial⟩ (fun C => [ndC C 2, (0 : Int) ≤ (turned_m x17) ∧ ((turned_m x17) : Int) < 128, (0 : Int) ≤ ((x17 : Nat) : Int) ∧ (((x17 : Nat) : Int) : Int) < 128]) [0, 1, 17] [0, 1] [(0, .cp 0 0), (1, .cp 1 0), (17, .v (.int .i64 ((x17 : Nat) : Int)))] [(0, some (.ob 106 (chain [.ar .u32 128 (upd o0_0 x17 (((zetas_l1 (lst fun j => zetas_l1_c (zetas_l1 j))).2) (Int.toNat (turned_m x17))))]))), (1, some (.ob 106 (chain [.ar .u32 128 ((zetas_l1 (lst fun j => zetas_l1_c (zetas_l1 j))).2)])))] 2 (by kernel_rfl) ⟨rfl, by omega, by omega, trivial⟩ rfl hS fun ac gs ws hS => ?_
      refine block_n ?_
      refine then_n ?_
      refine region_a (E := E0) mo hZ [(0, .oi ((x17 + 1 : Nat) : Int))] trivial (fun _ => [iadd .i64 ((x17 : Nat) : Int) 1 = ((x17 + 1 : Nat) : Int)]) [0, 1, 17] [0, 1] [(0, .cp 0 0), (1, .cp 1 0), (17, .v (.int .i64 ((x17 + 1 : Nat) : Int)))] [(0, some (.ob 106 (chain [.ar .u32 128 (upd o0_0 x17 (((zetas_l1 (lst fun j => zetas_l1_c (zetas_l1 j))).2) (Int.toNat (turned_m x17))))]))), (1, some (.ob 106 (chain [.ar .u32 128 ((zetas_l1 (lst fun j => zetas_l1_c (zetas_l1 j))).2)])))] 2 (by kernel_rfl) ⟨by rw [iadd64 (by omega) (by omega)]; omega, trivial⟩ rfl hS fun ac gs ws hS => ?_
      refine then_n ?_
      exact next_r hg0 hS (s := (x17, o0_0)) (x17 + 1, upd o0_0 x17 (((zetas_l1 (lst fun j => zetas_l1_c (zetas_l1 j))).2) (Int.toNat (turned_m x17)))) [(0, 0), (1, 1)] (by kernel_rfl) (by kernel_rfl) ⟨rfl, rfl, trivial⟩ (show 128 - (x17 + 1) < 128 - x17 from by omega) ⟨(by omega), (it_next (F := zetas_l2) (st := zetas_l2_s) (fun _ => rfl) hq2 rfl), trivial⟩
    · skip
      have h2 := of_decide_eq_false h
      clear h
      have hScur := hS
      obtain rfl : 128 = x17 := by omega
      obtain rfl : zetas_l2 128 = o0_0 := Eq.symm (congrArg (fun z => z) hq2)
      have hS := hScur
      clear hScur
      refine wp_exit ?_
      refine then_exit ?_
      refine then_exit ?_
      refine block_exit ?_
      refine then_n ?_
      refine wp_seq ?_
      refine region_a (E := E0) mo hZ [] trivial (fun _ => []) [0] [0] [(0, .cp 0 0)] [(0, some (.ob 106 (chain [.ar .u32 128 (zetas_l2 128)])))] 2 (by kernel_rfl) trivial rfl hS fun ac gs ws hS => ?_
      refine then_n ?_
      refine wp_ret ?_
      have hM : zetas_m = zetas_l2 128 := zetas_e
      exact fin_x (.inr rfl) hS (ds := [.ar .u32 128 (zetas_l2 128)]) (by kernel_rfl) (by show weak _ (.ar .u32 128 zetas_m) = (.ar .u32 128 zetas_m); rw [hM]; first | (simp only []; rfl) | (simp only []; done) | rfl) trivial

def PW (h : Nat) : Prop := h = 1 ∨ h = 2 ∨ h = 4 ∨ h = 8 ∨ h = 16 ∨ h = 32 ∨ h = 64 ∨ h = 128
theorem ntt_a {h k : Nat} (h2 : 2 ≤ h) (hh : PW h) (hk : k * h = 128) : k * (2 * h) = 256 + 0 ∧ PW (h / 2) ∧ h ≤ 128 := by
  unfold PW at hh ⊢
  rcases hh with rfl | rfl | rfl | rfl | rfl | rfl | rfl | rfl <;> omega
theorem ntt_b {h k f : Nat} (h2 : 2 ≤ h) (hh : PW h) (hk : k * (2 * h) = 256 + f) (hf : f < 256) : f + 2 * h ≤ 256 ∧ k < 128 ∧ (k + 1) * (2 * h) = 256 + (f + 2 * h) := by
  unfold PW at hh
  rcases hh with rfl | rfl | rfl | rfl | rfl | rfl | rfl | rfl <;> omega
theorem ntt_c {h k f : Nat} (h2 : 2 ≤ h) (hh : PW h) (hk : k * (2 * h) = 256 + f) (hf : f = 256) : k * (h / 2) = 128 := by
  unfold PW at hh
  rcases hh with rfl | rfl | rfl | rfl | rfl | rfl | rfl | rfl <;> omega
noncomputable def ntt_l3_s (f : Nat → Int) (k1 : Nat) (x4 : Nat) (x5 : Nat) (o1_0 : Nat → Int) (k2 : Nat) (x4_2 : Nat) (x6 : Nat) (o1_0_2 : Nat → Int) (k3 : Nat) : (Nat × (Nat → Int)) → (Nat × (Nat → Int)) := fun z_ => match z_ with | (x7, o1_0_3) => (x7 + 1, upd (upd o1_0_3 x7 (mod_m (iadd .u32 (IntKind.wrap .u32 (o1_0_3 x7)) (irem (imul .u32 (zetas_m x4_2) (IntKind.wrap .u32 (o1_0_3 (x7 + x5)))) 3329)))) (x7 + x5) (mod_m (isub .u32 (iadd .u32 (IntKind.wrap .u32 (o1_0_3 x7)) 3329) (irem (imul .u32 (zetas_m x4_2) (IntKind.wrap .u32 (o1_0_3 (x7 + x5)))) 3329))))
noncomputable def ntt_l3 (f : Nat → Int) (k1 : Nat) (x4 : Nat) (x5 : Nat) (o1_0 : Nat → Int) (k2 : Nat) (x4_2 : Nat) (x6 : Nat) (o1_0_2 : Nat → Int) : Nat → Nat × (Nat → Int)
  | 0 => (x6, o1_0_2)
  | k3 + 1 => ntt_l3_s f k1 x4 x5 o1_0 k2 x4_2 x6 o1_0_2 k3 (ntt_l3 f k1 x4 x5 o1_0 k2 x4_2 x6 o1_0_2 k3)
def ntt_l3_c (f : Nat → Int) (k1 : Nat) (x4 : Nat) (x5 : Nat) (o1_0 : Nat → Int) (k2 : Nat) (x4_2 : Nat) (x6 : Nat) (o1_0_2 : Nat → Int) : (Nat × (Nat → Int)) → Prop := fun z_ => match z_ with | (x7, o1_0_3) => ((x7 : Nat) : Int) < ((x6 + x5 : Nat) : Int)
noncomputable def ntt_l2_s (f : Nat → Int) (k1 : Nat) (x4 : Nat) (x5 : Nat) (o1_0 : Nat → Int) (k2 : Nat) : (Nat × Nat × (Nat → Int)) → (Nat × Nat × (Nat → Int)) := fun z_ => match z_ with | (x4_2, x6, o1_0_2) => (x4_2 + 1, x6 + (2 * x5), (ntt_l3 f k1 x4 x5 o1_0 k2 x4_2 x6 o1_0_2 (lst fun j => ntt_l3_c f k1 x4 x5 o1_0 k2 x4_2 x6 o1_0_2 (ntt_l3 f k1 x4 x5 o1_0 k2 x4_2 x6 o1_0_2 j))).2)
noncomputable def ntt_l2 (f : Nat → Int) (k1 : Nat) (x4 : Nat) (x5 : Nat) (o1_0 : Nat → Int) : Nat → Nat × Nat × (Nat → Int)
  | 0 => (x4, 0, o1_0)
  | k2 + 1 => ntt_l2_s f k1 x4 x5 o1_0 k2 (ntt_l2 f k1 x4 x5 o1_0 k2)
def ntt_l2_c (f : Nat → Int) (k1 : Nat) (x4 : Nat) (x5 : Nat) (o1_0 : Nat → Int) : (Nat × Nat × (Nat → Int)) → Prop := fun z_ => match z_ with | (x4_2, x6, o1_0_2) => ((x6 : Nat) : Int) < 256
noncomputable def ntt_l1_s (f : Nat → Int) (k1 : Nat) : (Nat × Nat × (Nat → Int)) → (Nat × Nat × (Nat → Int)) := fun z_ => match z_ with | (x4, x5, o1_0) => ((ntt_l2 f k1 x4 x5 o1_0 (lst fun j => ntt_l2_c f k1 x4 x5 o1_0 (ntt_l2 f k1 x4 x5 o1_0 j))).1, x5 / 2, (ntt_l2 f k1 x4 x5 o1_0 (lst fun j => ntt_l2_c f k1 x4 x5 o1_0 (ntt_l2 f k1 x4 x5 o1_0 j))).2.2)
noncomputable def ntt_l1 (f : Nat → Int) : Nat → Nat × Nat × (Nat → Int)
  | 0 => (1, 128, add_m f (fun _ => 0))
  | k1 + 1 => ntt_l1_s f k1 (ntt_l1 f k1)
def ntt_l1_c (f : Nat → Int) : (Nat × Nat × (Nat → Int)) → Prop := fun z_ => match z_ with | (x4, x5, o1_0) => (2 : Int) ≤ ((x5 : Nat) : Int)
noncomputable def ntt_v (f : Nat → Int) : (Nat → Int) := (ntt_l1 f (lst fun j => ntt_l1_c f (ntt_l1 f j))).2.2
noncomputable def ntt_m (f : Nat → Int) : (Nat → Int) := shut (ntt_v f)
theorem ntt_e (f : Nat → Int) : ntt_m f = ntt_v f := shut_eq _
noncomputable def c_ntt (f : Nat → Int) : Con := ⟨[.ar .u16 256 f], [], .ar .u16 256 (ntt_m f), []⟩
set_option maxRecDepth 100000 in
set_option maxHeartbeats 4000000 in
theorem ntt_ok (f : Nat → Int) : ConOk Try.prog 41 (c_ntt f) := by
  refine conOk_of (nb := 0) Try.func41 rfl rfl Try.ntmps41 rfl rfl rfl fun g0 w0 ac gs ws hg0 hS => ?_
  refine wp_seq ?_
  refine region_a (E := E0) mo hZ [] trivial (fun _ => []) [1, 2] [0, 1] [(1, .cp 0 0), (2, .cp 1 0)] [(0, some (.ob 60 (chain [.ar .u16 256 f]))), (1, some (.ob 60 (chain [.ar .u16 256 (fun _ => 0)])))] 2 (by kernel_rfl) trivial rfl hS fun ac gs ws hS => ?_
  refine then_n ?_
  refine wp_seq ?_
  refine region_a (E := E0) mo hZ [(0, .ov (.ar .u16 256 f)), (2, .call ⟨42, (c_add f (fun _ => 0)), [], []⟩)] ⟨add_ok f (fun _ => 0), trivial⟩ (fun _ => [(.ar .u16 256 f : D) = (.ar .u16 256 f), nd [.ar .u16 256 f, .ar .u16 256 (fun _ => 0)] []]) [1, 2] [0, 1] [(1, .cp 0 0), (2, .cp 1 0)] [(0, some (.ob 60 (chain [.ar .u16 256 (add_m f (fun _ => 0))]))), (1, some (.ob 60 (chain [.ar .u16 256 (fun _ => 0)])))] 2 (by kernel_rfl) ⟨rfl, rfl, trivial⟩ rfl hS fun ac gs ws hS => ?_
  refine then_n ?_
  refine wp_seq ?_
  refine region_a (E := E0) mo hZ [(0, .call ⟨70, (c_zetas), [], []⟩)] ⟨zetas_ok, trivial⟩ (fun C => [ndC C 0]) [1, 2, 3, 4] [0, 1, 2] [(1, .cp 0 0), (2, .cp 1 0), (3, .cp 2 0), (4, .v (.int .i64 1))] [(0, some (.ob 60 (chain [.ar .u16 256 (add_m f (fun _ => 0))]))), (1, some (.ob 60 (chain [.ar .u16 256 (fun _ => 0)]))), (2, some (.ob 106 (chain [.ar .u32 128 zetas_m])))] 3 (by kernel_rfl) ⟨rfl, trivial⟩ rfl hS fun ac gs ws hS => ?_
  refine then_n ?_
  refine wp_seq ?_
  refine wp_seq ?_
  refine region_a (E := E0) mo hZ [] trivial (fun _ => []) [1, 2, 3, 4, 5] [0, 1, 2] [(1, .cp 0 0), (2, .cp 1 0), (3, .cp 2 0), (4, .v (.int .i64 1)), (5, .v (.int .i64 128))] [(0, some (.ob 60 (chain [.ar .u16 256 (add_m f (fun _ => 0))]))), (1, some (.ob 60 (chain [.ar .u16 256 (fun _ => 0)]))), (2, some (.ob 106 (chain [.ar .u32 128 zetas_m])))] 3 (by kernel_rfl) trivial rfl hS fun ac gs ws hS => ?_
  refine then_n ?_
  refine wp_block ?_
  refine loop_r (σ := Nat × Nat × Nat × (Nat → Int)) hg0 hS (fun z_ => match z_ with | (k1, x4, x5, o1_0) => x5) (fun z_ => match z_ with | (k1, x4, x5, o1_0) => [(1, .cp 0 0), (2, .cp 1 0), (3, .cp 2 0), (4, .v (.int .i64 ((x4 : Nat) : Int))), (5, .v (.int .i64 ((x5 : Nat) : Int)))]) (fun z_ => match z_ with | (k1, x4, x5, o1_0) => [(0, .ob 60 (chain [.ar .u16 256 o1_0])), (1, .ob 60 (chain [.ar .u16 256 (fun _ => 0)])), (2, .ob 106 (chain [.ar .u32 128 zetas_m]))]) (fun z_ => match z_ with | (k1, x4, x5, o1_0) => ((x4, x5, o1_0) = ntt_l1 f k1) ∧ (∀ j, j < k1 → ntt_l1_c f (ntt_l1 f j)) ∧ (PW x5) ∧ (x4 * x5 = 128) ∧ True) 3 (0, 1, 128, add_m f (fun _ => 0)) [(0, 0), (1, 1), (2, 2)] (by kernel_rfl) (by kernel_rfl) ⟨rfl, rfl, rfl, trivial⟩ ⟨rfl, (fun j h => absurd h (Nat.not_lt_zero j)), (by unfold PW; omega), rfl, trivial⟩ ?_
  rintro ⟨k1, x4, x5, o1_0⟩ ac gs ws ⟨hq1, hj1, pw, pk, _⟩ hS
  refine wp_seq ?_
  refine wp_seq ?_
  refine region_a (E := E0) mo hZ [] trivial (fun _ => []) [1, 2, 3, 4, 5, 14] [0, 1, 2] [(1, .cp 0 0), (2, .cp 1 0), (3, .cp 2 0), (4, .v (.int .i64 ((x4 : Nat) : Int))), (5, .v (.int .i64 ((x5 : Nat) : Int))), (14, .v (.bool (decide ((2 : Int) ≤ ((x5 : Nat) : Int)))))] [(0, some (.ob 60 (chain [.ar .u16 256 o1_0]))), (1, some (.ob 60 (chain [.ar .u16 256 (fun _ => 0)]))), (2, some (.ob 106 (chain [.ar .u32 128 zetas_m])))] 3 (by kernel_rfl) trivial rfl hS fun ac gs ws hS => ?_
  refine then_n ?_
  refine if_x hS rfl (fun h => ?_) (fun h => ?_)
  · skip
    have h1 := of_decide_eq_true h
    clear h
    refine wp_skip ?_
    refine then_n ?_
    refine wp_seq ?_
    refine wp_block ?_
    refine wp_seq ?_
    have pa := ntt_a (by omega) pw pk
    refine region_a (E := E0) mo hZ [] trivial (fun _ => []) [1, 2, 3, 4, 5, 6] [0, 1, 2] [(1, .cp 0 0), (2, .cp 1 0), (3, .cp 2 0), (4, .v (.int .i64 ((x4 : Nat) : Int))), (5, .v (.int .i64 ((x5 : Nat) : Int))), (6, .v (.int .i64 0))] [(0, some (.ob 60 (chain [.ar .u16 256 o1_0]))), (1, some (.ob 60 (chain [.ar .u16 256 (fun _ => 0)]))), (2, some (.ob 106 (chain [.ar .u32 128 zetas_m])))] 3 (by kernel_rfl) trivial rfl hS fun ac gs ws hS => ?_
    refine then_n ?_
    refine wp_block ?_
    refine loop_r (σ := Nat × Nat × Nat × (Nat → Int)) hg0 hS (fun z_ => match z_ with | (k2, x4_2, x6, o1_0_2) => 256 - x6) (fun z_ => match z_ with | (k2, x4_2, x6, o1_0_2) => [(1, .cp 0 0), (2, .cp 1 0), (3, .cp 2 0), (4, .v (.int .i64 ((x4_2 : Nat) : Int))), (5, .v (.int .i64 ((x5 : Nat) : Int))), (6, .v (.int .i64 ((x6 : Nat) : Int)))]) (fun z_ => match z_ with | (k2, x4_2, x6, o1_0_2) => [(0, .ob 60 (chain [.ar .u16 256 o1_0_2])), (1, .ob 60 (chain [.ar .u16 256 (fun _ => 0)])), (2, .ob 106 (chain [.ar .u32 128 zetas_m]))]) (fun z_ => match z_ with | (k2, x4_2, x6, o1_0_2) => ((x4_2, x6, o1_0_2) = ntt_l2 f k1 x4 x5 o1_0 k2) ∧ (∀ j, j < k2 → ntt_l2_c f k1 x4 x5 o1_0 (ntt_l2 f k1 x4 x5 o1_0 j)) ∧ (x4_2 * (2 * x5) = 256 + x6) ∧ (x6 ≤ 256) ∧ True) 3 (0, x4, 0, o1_0) [(0, 0), (1, 1), (2, 2)] (by kernel_rfl) (by kernel_rfl) ⟨rfl, rfl, rfl, trivial⟩ ⟨rfl, (fun j h => absurd h (Nat.not_lt_zero j)), pa.1, (by omega), trivial⟩ ?_
    rintro ⟨k2, x4_2, x6, o1_0_2⟩ ac gs ws ⟨hq2, hj2, p2, p3, _⟩ hS
    refine wp_seq ?_
    refine wp_seq ?_
    refine region_a (E := E0) mo hZ [] trivial (fun _ => []) [1, 2, 3, 4, 5, 6, 18] [0, 1, 2] [(1, .cp 0 0), (2, .cp 1 0), (3, .cp 2 0), (4, .v (.int .i64 ((x4_2 : Nat) : Int))), (5, .v (.int .i64 ((x5 : Nat) : Int))), (6, .v (.int .i64 ((x6 : Nat) : Int))), (18, .v (.bool (decide (((x6 : Nat) : Int) < 256))))] [(0, some (.ob 60 (chain [.ar .u16 256 o1_0_2]))), (1, some (.ob 60 (chain [.ar .u16 256 (fun _ => 0)]))), (2, some (.ob 106 (chain [.ar .u32 128 zetas_m])))] 3 (by kernel_rfl) trivial rfl hS fun ac gs ws hS => ?_
    refine then_n ?_
    refine if_x hS rfl (fun h => ?_) (fun h => ?_)
    · skip
      have h2 := of_decide_eq_true h
      clear h
      refine wp_skip ?_
      refine then_n ?_
      refine wp_seq ?_
      refine wp_block ?_
      refine wp_seq ?_
      refine wp_seq ?_
      have pb := ntt_b (by omega) pw p2 (by omega)
      refine region_a (E := E0) mo hZ [] trivial (fun _ => []) [1, 2, 3, 4, 5, 6, 7] [0, 1, 2] [(1, .cp 0 0), (2, .cp 1 0), (3, .cp 2 0), (4, .v (.int .i64 ((x4_2 : Nat) : Int))), (5, .v (.int .i64 ((x5 : Nat) : Int))), (6, .v (.int .i64 ((x6 : Nat) : Int))), (7, .v (.int .i64 ((x6 : Nat) : Int)))] [(0, some (.ob 60 (chain [.ar .u16 256 o1_0_2]))), (1, some (.ob 60 (chain [.ar .u16 256 (fun _ => 0)]))), (2, some (.ob 106 (chain [.ar .u32 128 zetas_m])))] 3 (by kernel_rfl) trivial rfl hS fun ac gs ws hS => ?_
      refine then_n ?_
      refine wp_block ?_
      refine loop_r (σ := Nat × Nat × (Nat → Int)) hg0 hS (fun z_ => match z_ with | (k3, x7, o1_0_3) => x6 + x5 - x7) (fun z_ => match z_ with | (k3, x7, o1_0_3) => [(1, .cp 0 0), (2, .cp 1 0), (3, .cp 2 0), (4, .v (.int .i64 ((x4_2 : Nat) : Int))), (5, .v (.int .i64 ((x5 : Nat) : Int))), (6, .v (.int .i64 ((x6 : Nat) : Int))), (7, .v (.int .i64 ((x7 : Nat) : Int)))]) (fun z_ => match z_ with | (k3, x7, o1_0_3) => [(0, .ob 60 (chain [.ar .u16 256 o1_0_3])), (1, .ob 60 (chain [.ar .u16 256 (fun _ => 0)])), (2, .ob 106 (chain [.ar .u32 128 zetas_m]))]) (fun z_ => match z_ with | (k3, x7, o1_0_3) => ((x7, o1_0_3) = ntt_l3 f k1 x4 x5 o1_0 k2 x4_2 x6 o1_0_2 k3) ∧ (∀ j, j < k3 → ntt_l3_c f k1 x4 x5 o1_0 k2 x4_2 x6 o1_0_2 (ntt_l3 f k1 x4 x5 o1_0 k2 x4_2 x6 o1_0_2 j)) ∧ (x6 ≤ x7) ∧ (x7 ≤ x6 + x5) ∧ True) 3 (0, x6, o1_0_2) [(0, 0), (1, 1), (2, 2)] (by kernel_rfl) (by kernel_rfl) ⟨rfl, rfl, rfl, trivial⟩ ⟨rfl, (fun j h => absurd h (Nat.not_lt_zero j)), (by omega), (by omega), trivial⟩ ?_
      rintro ⟨k3, x7, o1_0_3⟩ ac gs ws ⟨hq3, hj3, p4, p5, _⟩ hS
      refine wp_seq ?_
      refine wp_seq ?_
      refine region_a (E := E0) mo hZ [(3, .oi ((x6 + x5 : Nat) : Int))] trivial (fun _ => [iadd .i64 ((x6 : Nat) : Int) ((x5 : Nat) : Int) = ((x6 + x5 : Nat) : Int)]) [1, 2, 3, 4, 5, 6, 7, 28] [0, 1, 2] [(1, .cp 0 0), (2, .cp 1 0), (3, .cp 2 0), (4, .v (.int .i64 ((x4_2 : Nat) : Int))), (5, .v (.int .i64 ((x5 : Nat) : Int))), (6, .v (.int .i64 ((x6 : Nat) : Int))), (7, .v (.int .i64 ((x7 : Nat) : Int))), (28, .v (.bool (decide (((x7 : Nat) : Int) < ((x6 + x5 : Nat) : Int)))))] [(0, some (.ob 60 (chain [.ar .u16 256 o1_0_3]))), (1, some (.ob 60 (chain [.ar .u16 256 (fun _ => 0)]))), (2, some (.ob 106 (chain [.ar .u32 128 zetas_m])))] 3 (by kernel_rfl) ⟨by rw [iadd64 (by omega) (by omega)]; omega, trivial⟩ rfl hS fun ac gs ws hS => ?_
      refine then_n ?_
      refine if_x hS rfl (fun h => ?_) (fun h => ?_)
      · skip
        have h3 := of_decide_eq_true h
        clear h
        refine wp_skip ?_
        refine then_n ?_
        refine wp_seq ?_
        refine wp_block ?_
        refine wp_seq ?_
        refine region_a (E := E0) mo hZ [(5, .oi ((x7 + x5 : Nat) : Int))] trivial (fun _ => [(0 : Int) ≤ ((x4_2 : Nat) : Int) ∧ (((x4_2 : Nat) : Int) : Int) < 128, iadd .i64 ((x7 : Nat) : Int) ((x5 : Nat) : Int) = ((x7 + x5 : Nat) : Int), (0 : Int) ≤ ((x7 + x5 : Nat) : Int) ∧ (((x7 + x5 : Nat) : Int) : Int) < 256, (3329 : Int) ≠ 0]) [1, 2, 3, 4, 5, 6, 7, 8] [0, 1, 2] [(1, .cp 0 0), (2, .cp 1 0), (3, .cp 2 0), (4, .v (.int .i64 ((x4_2 : Nat) : Int))), (5, .v (.int .i64 ((x5 : Nat) : Int))), (6, .v (.int .i64 ((x6 : Nat) : Int))), (7, .v (.int .i64 ((x7 : Nat) : Int))), (8, .v (.int .u32 (irem (imul .u32 (zetas_m x4_2) (IntKind.wrap .u32 (o1_0_3 (x7 + x5)))) 3329)))] [(0, some (.ob 60 (chain [.ar .u16 256 o1_0_3]))), (1, some (.ob 60 (chain [.ar .u16 256 (fun _ => 0)]))), (2, some (.ob 106 (chain [.ar .u32 128 zetas_m])))] 3 (by kernel_rfl) ⟨by omega, by rw [iadd64 (by omega) (by omega)]; omega, by omega, by omega, trivial⟩ rfl hS fun ac gs ws hS => ?_
        refine then_n ?_
        refine region_a (E := E0) mo hZ [(3, .oi ((x7 + x5 : Nat) : Int)), (10, .call ⟨71, (c_mod (iadd .u32 (IntKind.wrap .u32 (o1_0_3 x7)) (irem (imul .u32 (zetas_m x4_2) (IntKind.wrap .u32 (o1_0_3 (x7 + x5)))) 3329))), [], []⟩), (18, .call ⟨71, (c_mod (isub .u32 (iadd .u32 (IntKind.wrap .u32 (o1_0_3 x7)) 3329) (irem (imul .u32 (zetas_m x4_2) (IntKind.wrap .u32 (o1_0_3 (x7 + x5)))) 3329))), [], []⟩)] ⟨mod_ok (iadd .u32 (IntKind.wrap .u32 (o1_0_3 x7)) (irem (imul .u32 (zetas_m x4_2) (IntKind.wrap .u32 (o1_0_3 (x7 + x5)))) 3329)), mod_ok (isub .u32 (iadd .u32 (IntKind.wrap .u32 (o1_0_3 x7)) 3329) (irem (imul .u32 (zetas_m x4_2) (IntKind.wrap .u32 (o1_0_3 (x7 + x5)))) 3329)), trivial⟩ (fun C => [iadd .i64 ((x7 : Nat) : Int) ((x5 : Nat) : Int) = ((x7 + x5 : Nat) : Int), (0 : Int) ≤ ((x7 : Nat) : Int) ∧ (((x7 : Nat) : Int) : Int) < 256, ndC C 10, (0 : Int) ≤ ((x7 : Nat) : Int) ∧ (((x7 : Nat) : Int) : Int) < 256, ndC C 18, (0 : Int) ≤ ((x7 : Nat) : Int) ∧ (((x7 : Nat) : Int) : Int) < 256, (0 : Int) ≤ ((x7 + x5 : Nat) : Int) ∧ (((x7 + x5 : Nat) : Int) : Int) < 256]) [1, 2, 3, 4, 5, 6, 7] [0, 1, 2] [(1, .cp 0 0), (2, .cp 1 0), (3, .cp 2 0), (4, .v (.int .i64 ((x4_2 : Nat) : Int))), (5, .v (.int .i64 ((x5 : Nat) : Int))), (6, .v (.int .i64 ((x6 : Nat) : Int))), (7, .v (.int .i64 ((x7 : Nat) : Int)))] [(0, some (.ob 60 (chain [.ar .u16 256 (upd (upd o1_0_3 x7 (mod_m (iadd .u32 (IntKind.wrap .u32 (o1_0_3 x7)) (irem (imul .u32 (zetas_m x4_2) (IntKind.wrap .u32 (o1_0_3 (x7 + x5)))) 3329)))) (x7 + x5) (mod_m (isub .u32 (iadd .u32 (IntKind.wrap .u32 (o1_0_3 x7)) 3329) (irem (imul .u32 (zetas_m x4_2) (IntKind.wrap .u32 (o1_0_3 (x7 + x5)))) 3329))))]))), (1, some (.ob 60 (chain [.ar .u16 256 (fun _ => 0)]))), (2, some (.ob 106 (chain [.ar .u32 128 zetas_m])))] 3 (by kernel_rfl) ⟨by rw [iadd64 (by omega) (by omega)]; omega, by omega, rfl, by omega, rfl, by omega, by omega, trivial⟩ rfl hS fun ac gs ws hS => ?_
        refine block_n ?_
        refine then_n ?_
        refine region_a (E := E0) mo hZ [(1, .oi ((x7 + 1 : Nat) : Int))] trivial (fun _ => [iadd .i64 ((x7 : Nat) : Int) 1 = ((x7 + 1 : Nat) : Int)]) [1, 2, 3, 4, 5, 6, 7] [0, 1, 2] [(1, .cp 0 0), (2, .cp 1 0), (3, .cp 2 0), (4, .v (.int .i64 ((x4_2 : Nat) : Int))), (5, .v (.int .i64 ((x5 : Nat) : Int))), (6, .v (.int .i64 ((x6 : Nat) : Int))), (7, .v (.int .i64 ((x7 + 1 : Nat) : Int)))] [(0, some (.ob 60 (chain [.ar .u16 256 (upd (upd o1_0_3 x7 (mod_m (iadd .u32 (IntKind.wrap .u32 (o1_0_3 x7)) (irem (imul .u32 (zetas_m x4_2) (IntKind.wrap .u32 (o1_0_3 (x7 + x5)))) 3329)))) (x7 + x5) (mod_m (isub .u32 (iadd .u32 (IntKind.wrap .u32 (o1_0_3 x7)) 3329) (irem (imul .u32 (zetas_m x4_2) (IntKind.wrap .u32 (o1_0_3 (x7 + x5)))) 3329))))]))), (1, some (.ob 60 (chain [.ar .u16 256 (fun _ => 0)]))), (2, some (.ob 106 (chain [.ar .u32 128 zetas_m])))] 3 (by kernel_rfl) ⟨by rw [iadd64 (by omega) (by omega)]; omega, trivial⟩ rfl hS fun ac gs ws hS => ?_
        refine then_n ?_
        exact next_r hg0 hS (s := (k3, x7, o1_0_3)) (k3 + 1, x7 + 1, upd (upd o1_0_3 x7 (mod_m (iadd .u32 (IntKind.wrap .u32 (o1_0_3 x7)) (irem (imul .u32 (zetas_m x4_2) (IntKind.wrap .u32 (o1_0_3 (x7 + x5)))) 3329)))) (x7 + x5) (mod_m (isub .u32 (iadd .u32 (IntKind.wrap .u32 (o1_0_3 x7)) 3329) (irem (imul .u32 (zetas_m x4_2) (IntKind.wrap .u32 (o1_0_3 (x7 + x5)))) 3329)))) [(0, 0), (1, 1), (2, 2)] (by kernel_rfl) (by kernel_rfl) ⟨rfl, rfl, rfl, trivial⟩ (show x6 + x5 - (x7 + 1) < x6 + x5 - x7 from by omega) ⟨(it_next (F := ntt_l3 f k1 x4 x5 o1_0 k2 x4_2 x6 o1_0_2) (st := ntt_l3_s f k1 x4 x5 o1_0 k2 x4_2 x6 o1_0_2) (fun _ => rfl) hq3 rfl), (lst_next hj3 (by rw [← hq3]; exact h3)), (by omega), (by omega), trivial⟩
      · skip
        have h3 := of_decide_eq_false h
        clear h
        have hScur := hS
        obtain rfl := lst_eq (P := fun j => ntt_l3_c f k1 x4 x5 o1_0 k2 x4_2 x6 o1_0_2 (ntt_l3 f k1 x4 x5 o1_0 k2 x4_2 x6 o1_0_2 j)) (by rw [← hq3]; exact h3) hj3
        obtain rfl : (ntt_l3 f k1 x4 x5 o1_0 k2 x4_2 x6 o1_0_2 (lst fun j => ntt_l3_c f k1 x4 x5 o1_0 k2 x4_2 x6 o1_0_2 (ntt_l3 f k1 x4 x5 o1_0 k2 x4_2 x6 o1_0_2 j))).1 = x7 := Eq.symm (congrArg (fun z => z.1) hq3)
        obtain rfl : (ntt_l3 f k1 x4 x5 o1_0 k2 x4_2 x6 o1_0_2 (lst fun j => ntt_l3_c f k1 x4 x5 o1_0 k2 x4_2 x6 o1_0_2 (ntt_l3 f k1 x4 x5 o1_0 k2 x4_2 x6 o1_0_2 j))).2 = o1_0_3 := Eq.symm (congrArg (fun z => z.2) hq3)
        have hS := hScur
        clear hScur
        refine wp_exit ?_
        refine then_exit ?_
        refine then_exit ?_
        refine block_exit ?_
        refine then_n ?_
        refine region_a (E := E0) mo hZ [(1, .oi ((x4_2 + 1 : Nat) : Int))] trivial (fun _ => [iadd .i64 ((x4_2 : Nat) : Int) 1 = ((x4_2 + 1 : Nat) : Int)]) [1, 2, 3, 4, 5, 6] [0, 1, 2] [(1, .cp 0 0), (2, .cp 1 0), (3, .cp 2 0), (4, .v (.int .i64 ((x4_2 + 1 : Nat) : Int))), (5, .v (.int .i64 ((x5 : Nat) : Int))), (6, .v (.int .i64 ((x6 : Nat) : Int)))] [(0, some (.ob 60 (chain [.ar .u16 256 ((ntt_l3 f k1 x4 x5 o1_0 k2 x4_2 x6 o1_0_2 (lst fun j => ntt_l3_c f k1 x4 x5 o1_0 k2 x4_2 x6 o1_0_2 (ntt_l3 f k1 x4 x5 o1_0 k2 x4_2 x6 o1_0_2 j))).2)]))), (1, some (.ob 60 (chain [.ar .u16 256 (fun _ => 0)]))), (2, some (.ob 106 (chain [.ar .u32 128 zetas_m])))] 3 (by kernel_rfl) ⟨by rw [iadd64 (by omega) (by omega)]; omega, trivial⟩ rfl hS fun ac gs ws hS => ?_
        refine block_n ?_
        refine then_n ?_
        refine region_a (E := E0) mo hZ [(2, .oi ((2 * x5 : Nat) : Int)), (3, .oi ((x6 + (2 * x5) : Nat) : Int))] trivial (fun _ => [imul .i64 2 ((x5 : Nat) : Int) = ((2 * x5 : Nat) : Int), iadd .i64 ((x6 : Nat) : Int) ((2 * x5 : Nat) : Int) = ((x6 + (2 * x5) : Nat) : Int)]) [1, 2, 3, 4, 5, 6] [0, 1, 2] [(1, .cp 0 0), (2, .cp 1 0), (3, .cp 2 0), (4, .v (.int .i64 ((x4_2 + 1 : Nat) : Int))), (5, .v (.int .i64 ((x5 : Nat) : Int))), (6, .v (.int .i64 ((x6 + (2 * x5) : Nat) : Int)))] [(0, some (.ob 60 (chain [.ar .u16 256 ((ntt_l3 f k1 x4 x5 o1_0 k2 x4_2 x6 o1_0_2 (lst fun j => ntt_l3_c f k1 x4 x5 o1_0 k2 x4_2 x6 o1_0_2 (ntt_l3 f k1 x4 x5 o1_0 k2 x4_2 x6 o1_0_2 j))).2)]))), (1, some (.ob 60 (chain [.ar .u16 256 (fun _ => 0)]))), (2, some (.ob 106 (chain [.ar .u32 128 zetas_m])))] 3 (by kernel_rfl) ⟨by rw [imul64 (by omega) (by omega)]; omega, by rw [iadd64 (by omega) (by omega)]; omega, trivial⟩ rfl hS fun ac gs ws hS => ?_
        refine then_n ?_
        exact next_r hg0 hS (s := (k2, x4_2, x6, o1_0_2)) (k2 + 1, x4_2 + 1, x6 + (2 * x5), (ntt_l3 f k1 x4 x5 o1_0 k2 x4_2 x6 o1_0_2 (lst fun j => ntt_l3_c f k1 x4 x5 o1_0 k2 x4_2 x6 o1_0_2 (ntt_l3 f k1 x4 x5 o1_0 k2 x4_2 x6 o1_0_2 j))).2) [(0, 0), (1, 1), (2, 2)] (by kernel_rfl) (by kernel_rfl) ⟨rfl, rfl, rfl, trivial⟩ (show 256 - (x6 + (2 * x5)) < 256 - x6 from by omega) ⟨(it_next (F := ntt_l2 f k1 x4 x5 o1_0) (st := ntt_l2_s f k1 x4 x5 o1_0) (fun _ => rfl) hq2 rfl), (lst_next hj2 (by rw [← hq2]; exact h2)), pb.2.2, pb.1, trivial⟩
    · skip
      have h2 := of_decide_eq_false h
      clear h
      have hScur := hS
      have pe := ntt_c (by omega) pw p2 (by omega)
      have pn := pa.2.1
      obtain rfl := lst_eq (P := fun j => ntt_l2_c f k1 x4 x5 o1_0 (ntt_l2 f k1 x4 x5 o1_0 j)) (by rw [← hq2]; exact h2) hj2
      obtain rfl : (ntt_l2 f k1 x4 x5 o1_0 (lst fun j => ntt_l2_c f k1 x4 x5 o1_0 (ntt_l2 f k1 x4 x5 o1_0 j))).1 = x4_2 := Eq.symm (congrArg (fun z => z.1) hq2)
      obtain rfl : (ntt_l2 f k1 x4 x5 o1_0 (lst fun j => ntt_l2_c f k1 x4 x5 o1_0 (ntt_l2 f k1 x4 x5 o1_0 j))).2.1 = x6 := Eq.symm (congrArg (fun z => z.2.1) hq2)
      obtain rfl : (ntt_l2 f k1 x4 x5 o1_0 (lst fun j => ntt_l2_c f k1 x4 x5 o1_0 (ntt_l2 f k1 x4 x5 o1_0 j))).2.2 = o1_0_2 := Eq.symm (congrArg (fun z => z.2.2) hq2)
      have hS := hScur
      clear hScur
      refine wp_exit ?_
      refine then_exit ?_
      refine then_exit ?_
      refine block_exit ?_
      refine block_n ?_
      refine then_n ?_
      refine region_a (E := E0) mo hZ [(1, .oi ((x5 / 2 : Nat) : Int))] trivial (fun _ => [iquo .i64 ((x5 : Nat) : Int) 2 = ((x5 / 2 : Nat) : Int), (2 : Int) ≠ 0]) [1, 2, 3, 4, 5] [0, 1, 2] [(1, .cp 0 0), (2, .cp 1 0), (3, .cp 2 0), (4, .v (.int .i64 (((ntt_l2 f k1 x4 x5 o1_0 (lst fun j => ntt_l2_c f k1 x4 x5 o1_0 (ntt_l2 f k1 x4 x5 o1_0 j))).1 : Nat) : Int))), (5, .v (.int .i64 ((x5 / 2 : Nat) : Int)))] [(0, some (.ob 60 (chain [.ar .u16 256 ((ntt_l2 f k1 x4 x5 o1_0 (lst fun j => ntt_l2_c f k1 x4 x5 o1_0 (ntt_l2 f k1 x4 x5 o1_0 j))).2.2)]))), (1, some (.ob 60 (chain [.ar .u16 256 (fun _ => 0)]))), (2, some (.ob 106 (chain [.ar .u32 128 zetas_m])))] 3 (by kernel_rfl) ⟨by rw [iquo64 (by omega) (by omega) (by omega)]; omega, by omega, trivial⟩ rfl hS fun ac gs ws hS => ?_
      refine then_n ?_
      exact next_r hg0 hS (s := (k1, x4, x5, o1_0)) (k1 + 1, (ntt_l2 f k1 x4 x5 o1_0 (lst fun j => ntt_l2_c f k1 x4 x5 o1_0 (ntt_l2 f k1 x4 x5 o1_0 j))).1, x5 / 2, (ntt_l2 f k1 x4 x5 o1_0 (lst fun j => ntt_l2_c f k1 x4 x5 o1_0 (ntt_l2 f k1 x4 x5 o1_0 j))).2.2) [(0, 0), (1, 1), (2, 2)] (by kernel_rfl) (by kernel_rfl) ⟨rfl, rfl, rfl, trivial⟩ (show (x5 / 2) < x5 from by omega) ⟨(it_next (F := ntt_l1 f) (st := ntt_l1_s f) (fun _ => rfl) hq1 rfl), (lst_next hj1 (by rw [← hq1]; exact h1)), pn, pe, trivial⟩
  · skip
    have h1 := of_decide_eq_false h
    clear h
    have hScur := hS
    obtain rfl := lst_eq (P := fun j => ntt_l1_c f (ntt_l1 f j)) (by rw [← hq1]; exact h1) hj1
    obtain rfl : (ntt_l1 f (lst fun j => ntt_l1_c f (ntt_l1 f j))).1 = x4 := Eq.symm (congrArg (fun z => z.1) hq1)
    obtain rfl : (ntt_l1 f (lst fun j => ntt_l1_c f (ntt_l1 f j))).2.1 = x5 := Eq.symm (congrArg (fun z => z.2.1) hq1)
    obtain rfl : (ntt_l1 f (lst fun j => ntt_l1_c f (ntt_l1 f j))).2.2 = o1_0 := Eq.symm (congrArg (fun z => z.2.2) hq1)
    have hS := hScur
    clear hScur
    refine wp_exit ?_
    refine then_exit ?_
    refine then_exit ?_
    refine block_exit ?_
    refine then_n ?_
    refine wp_seq ?_
    refine region_a (E := E0) mo hZ [] trivial (fun _ => []) [2] [1] [(2, .cp 1 0)] [(1, some (.ob 60 (chain [.ar .u16 256 ((ntt_l1 f (lst fun j => ntt_l1_c f (ntt_l1 f j))).2.2)])))] 3 (by kernel_rfl) trivial rfl hS fun ac gs ws hS => ?_
    refine then_n ?_
    refine wp_ret ?_
    have hM : ntt_m f = (ntt_l1 f (lst fun j => ntt_l1_c f (ntt_l1 f j))).2.2 := ntt_e f
    exact fin_x (.inr rfl) hS (ds := [.ar .u16 256 ((ntt_l1 f (lst fun j => ntt_l1_c f (ntt_l1 f j))).2.2)]) (by kernel_rfl) (by show weak _ (.ar .u16 256 (ntt_m f)) = (.ar .u16 256 (ntt_m f)); rw [hM]; first | (simp only []; rfl) | (simp only []; done) | rfl) trivial

end Go.Sx.Try
