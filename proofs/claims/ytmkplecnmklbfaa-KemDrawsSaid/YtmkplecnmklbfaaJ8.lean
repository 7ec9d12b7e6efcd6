/- General lemmas, walks. -/
import Derived.Test.YtmkplecnmklbfaaJ7
import Derived.Test.YtmkplecnmklbfaaJ5
set_option linter.unusedSimpArgs false
set_option linter.unusedVariables false
set_option linter.unnecessarySimpa false
namespace Go.Sx.Try
open Go.Mi Go.RowKit Go.Sx Go.Proofs
noncomputable def sum256_v (l : List (List Int)) : (List Int) := (rdA 136 (spg 136 6 l) 0 32).2.2
noncomputable def sum256_m (l : List (List Int)) : (List Int) := shut (sum256_v l)
theorem sum256_e (l : List (List Int)) : sum256_m l = sum256_v l := shut_eq _
@[simp] theorem sum256_len (l : List (List Int)) : (sum256_m l).length = 32 := by rw [sum256_e]; exact rd_len ..
noncomputable def c_sum256 (l : List (List Int)) : Con := ⟨[.ls false [.sl (.int .u8)] l], [], .ls false [.int .u8] (sum256_m l), []⟩
set_option maxRecDepth 100000 in
set_option maxHeartbeats 4000000 in
theorem sum256_ok (l : List (List Int)) (h : l.flatten.length ≤ 140000000000000) : ConOk Try.prog 37 (c_sum256 l) := by
  refine conOk_of (nb := 0) Try.func37 rfl rfl Try.ntmps37 rfl rfl rfl fun g0 w0 ac gs ws hg0 hS => ?_
  have hlen0 : l.length ≤ 9223372036854775807 := hS.len 0 rfl
  refine wp_seq ?_
  refine region_a (E := E0) mo hZ [] trivial (fun _ => []) [0, 2] [] [(0, .ls false [.sl (.int .u8)] l), (2, .v (.slice none 0 0))] [] 0 (by kernel_rfl) trivial rfl hS fun ac gs ws hS => ?_
  refine then_n ?_
  refine wp_seq ?_
  refine region_a (E := E0) mo hZ [(1, .call ⟨67, (c_soaked 136 6 l), [], [(0, 0)]⟩), (2, .call ⟨68, (c_read 136 (spg 136 6 l) 0 32), [(0, 0)], []⟩)] ⟨soaked_ok 136 6 l (by omega) (by omega) (by first | omega | (simp only [List.flatten_cons, List.flatten_nil, List.length_append, List.length_cons, List.length_nil, List.length_take, List.length_drop]; omega) | (simp; omega)), read_ok 136 (spg 136 6 l) 0 32 (by omega) (by omega) (by omega) (by omega), trivial⟩ (fun C => [ndC C 1, ndC C 2]) [2] [] [(2, .ls false [.int .u8] ((rdA 136 (spg 136 6 l) 0 32).2.2))] [] 1 (by kernel_rfl) ⟨rfl, rfl, trivial⟩ rfl hS fun ac gs ws hS => ?_
  refine then_n ?_
  refine wp_ret ?_
  have hM : sum256_m l = (rdA 136 (spg 136 6 l) 0 32).2.2 := sum256_e l
  exact fin_x (.inr rfl) hS (ds := [.ls false [.int .u8] ((rdA 136 (spg 136 6 l) 0 32).2.2)]) (by kernel_rfl) (by show weak _ (.ls false [.int .u8] (sum256_m l)) = (.ls false [.int .u8] (sum256_m l)); rw [hM]; first | (simp only []; rfl) | (simp only []; done) | rfl) trivial

noncomputable def sum512_v (l : List (List Int)) : (List Int) := (rdA 72 (spg 72 6 l) 0 64).2.2
noncomputable def sum512_m (l : List (List Int)) : (List Int) := shut (sum512_v l)
theorem sum512_e (l : List (List Int)) : sum512_m l = sum512_v l := shut_eq _
@[simp] theorem sum512_len (l : List (List Int)) : (sum512_m l).length = 64 := by rw [sum512_e]; exact rd_len ..
noncomputable def c_sum512 (l : List (List Int)) : Con := ⟨[.ls false [.sl (.int .u8)] l], [], .ls false [.int .u8] (sum512_m l), []⟩
set_option maxRecDepth 100000 in
set_option maxHeartbeats 4000000 in
theorem sum512_ok (l : List (List Int)) (h : l.flatten.length ≤ 140000000000000) : ConOk Try.prog 38 (c_sum512 l) := by
  refine conOk_of (nb := 0) Try.func38 rfl rfl Try.ntmps38 rfl rfl rfl fun g0 w0 ac gs ws hg0 hS => ?_
  have hlen0 : l.length ≤ 9223372036854775807 := hS.len 0 rfl
  refine wp_seq ?_
  refine region_a (E := E0) mo hZ [] trivial (fun _ => []) [0, 2] [] [(0, .ls false [.sl (.int .u8)] l), (2, .v (.slice none 0 0))] [] 0 (by kernel_rfl) trivial rfl hS fun ac gs ws hS => ?_
  refine then_n ?_
  refine wp_seq ?_
  refine region_a (E := E0) mo hZ [(1, .call ⟨67, (c_soaked 72 6 l), [], [(0, 0)]⟩), (2, .call ⟨68, (c_read 72 (spg 72 6 l) 0 64), [(0, 0)], []⟩)] ⟨soaked_ok 72 6 l (by omega) (by omega) (by first | omega | (simp only [List.flatten_cons, List.flatten_nil, List.length_append, List.length_cons, List.length_nil, List.length_take, List.length_drop]; omega) | (simp; omega)), read_ok 72 (spg 72 6 l) 0 64 (by omega) (by omega) (by omega) (by omega), trivial⟩ (fun C => [ndC C 1, ndC C 2]) [2] [] [(2, .ls false [.int .u8] ((rdA 72 (spg 72 6 l) 0 64).2.2))] [] 1 (by kernel_rfl) ⟨rfl, rfl, trivial⟩ rfl hS fun ac gs ws hS => ?_
  refine then_n ?_
  refine wp_ret ?_
  have hM : sum512_m l = (rdA 72 (spg 72 6 l) 0 64).2.2 := sum512_e l
  exact fin_x (.inr rfl) hS (ds := [.ls false [.int .u8] ((rdA 72 (spg 72 6 l) 0 64).2.2)]) (by kernel_rfl) (by show weak _ (.ls false [.int .u8] (sum512_m l)) = (.ls false [.int .u8] (sum512_m l)); rw [hM]; first | (simp only []; rfl) | (simp only []; done) | rfl) trivial

noncomputable def shake128_v (l : List (List Int)) : (List Int) := (rdA 136 (spg 136 31 l) 0 128).2.2
noncomputable def shake128_m (l : List (List Int)) : (List Int) := shut (shake128_v l)
theorem shake128_e (l : List (List Int)) : shake128_m l = shake128_v l := shut_eq _
@[simp] theorem shake128_len (l : List (List Int)) : (shake128_m l).length = 128 := by rw [shake128_e]; exact rd_len ..
noncomputable def c_shake128 (l : List (List Int)) : Con := ⟨[.v (.int .i64 128), .ls false [.sl (.int .u8)] l], [], .ls false [.int .u8] (shake128_m l), []⟩
set_option maxRecDepth 100000 in
set_option maxHeartbeats 4000000 in
theorem shake128_ok (l : List (List Int)) (h : l.flatten.length ≤ 140000000000000) : ConOk Try.prog 98 (c_shake128 l) := by
  refine conOk_of (nb := 0) Try.func98 rfl rfl Try.ntmps98 rfl rfl rfl fun g0 w0 ac gs ws hg0 hS => ?_
  have hlen1 : l.length ≤ 9223372036854775807 := hS.len 1 rfl
  refine wp_seq ?_
  refine region_a (E := E0) mo hZ [] trivial (fun _ => []) [0, 1, 4] [] [(0, .v (.int .i64 128)), (1, .ls false [.sl (.int .u8)] l), (4, .v (.slice none 0 0))] [] 0 (by kernel_rfl) trivial rfl hS fun ac gs ws hS => ?_
  refine then_n ?_
  refine wp_seq ?_
  refine region_a (E := E0) mo hZ [(1, .call ⟨67, (c_soaked 136 31 l), [], [(0, 0)]⟩), (4, .call ⟨68, (c_read 136 (spg 136 31 l) 0 128), [(0, 0)], []⟩)] ⟨soaked_ok 136 31 l (by omega) (by omega) (by first | omega | (simp only [List.flatten_cons, List.flatten_nil, List.length_append, List.length_cons, List.length_nil, List.length_take, List.length_drop]; omega) | (simp; omega)), read_ok 136 (spg 136 31 l) 0 128 (by omega) (by omega) (by omega) (by omega), trivial⟩ (fun C => [ndC C 1, ndC C 4]) [4] [] [(4, .ls false [.int .u8] ((rdA 136 (spg 136 31 l) 0 128).2.2))] [] 1 (by kernel_rfl) ⟨rfl, rfl, trivial⟩ rfl hS fun ac gs ws hS => ?_
  refine then_n ?_
  refine wp_ret ?_
  have hM : shake128_m l = (rdA 136 (spg 136 31 l) 0 128).2.2 := shake128_e l
  exact fin_x (.inr rfl) hS (ds := [.ls false [.int .u8] ((rdA 136 (spg 136 31 l) 0 128).2.2)]) (by kernel_rfl) (by show weak _ (.ls false [.int .u8] (shake128_m l)) = (.ls false [.int .u8] (shake128_m l)); rw [hM]; first | (simp only []; rfl) | (simp only []; done) | rfl) trivial

noncomputable def shake32_v (l : List (List Int)) : (List Int) := (rdA 136 (spg 136 31 l) 0 32).2.2
noncomputable def shake32_m (l : List (List Int)) : (List Int) := shut (shake32_v l)
theorem shake32_e (l : List (List Int)) : shake32_m l = shake32_v l := shut_eq _
@[simp] theorem shake32_len (l : List (List Int)) : (shake32_m l).length = 32 := by rw [shake32_e]; exact rd_len ..
noncomputable def c_shake32 (l : List (List Int)) : Con := ⟨[.v (.int .i64 32), .ls false [.sl (.int .u8)] l], [], .ls false [.int .u8] (shake32_m l), []⟩
set_option maxRecDepth 100000 in
set_option maxHeartbeats 4000000 in
theorem shake32_ok (l : List (List Int)) (h : l.flatten.length ≤ 140000000000000) : ConOk Try.prog 98 (c_shake32 l) := by
  refine conOk_of (nb := 0) Try.func98 rfl rfl Try.ntmps98 rfl rfl rfl fun g0 w0 ac gs ws hg0 hS => ?_
  have hlen1 : l.length ≤ 9223372036854775807 := hS.len 1 rfl
  refine wp_seq ?_
  refine region_a (E := E0) mo hZ [] trivial (fun _ => []) [0, 1, 4] [] [(0, .v (.int .i64 32)), (1, .ls false [.sl (.int .u8)] l), (4, .v (.slice none 0 0))] [] 0 (by kernel_rfl) trivial rfl hS fun ac gs ws hS => ?_
  refine then_n ?_
  refine wp_seq ?_
  refine region_a (E := E0) mo hZ [(1, .call ⟨67, (c_soaked 136 31 l), [], [(0, 0)]⟩), (4, .call ⟨68, (c_read 136 (spg 136 31 l) 0 32), [(0, 0)], []⟩)] ⟨soaked_ok 136 31 l (by omega) (by omega) (by first | omega | (simp only [List.flatten_cons, List.flatten_nil, List.length_append, List.length_cons, List.length_nil, List.length_take, List.length_drop]; omega) | (simp; omega)), read_ok 136 (spg 136 31 l) 0 32 (by omega) (by omega) (by omega) (by omega), trivial⟩ (fun C => [ndC C 1, ndC C 4]) [4] [] [(4, .ls false [.int .u8] ((rdA 136 (spg 136 31 l) 0 32).2.2))] [] 1 (by kernel_rfl) ⟨rfl, rfl, trivial⟩ rfl hS fun ac gs ws hS => ?_
  refine then_n ?_
  refine wp_ret ?_
  have hM : shake32_m l = (rdA 136 (spg 136 31 l) 0 32).2.2 := shake32_e l
  exact fin_x (.inr rfl) hS (ds := [.ls false [.int .u8] ((rdA 136 (spg 136 31 l) 0 32).2.2)]) (by kernel_rfl) (by show weak _ (.ls false [.int .u8] (shake32_m l)) = (.ls false [.int .u8] (shake32_m l)); rw [hM]; first | (simp only []; rfl) | (simp only []; done) | rfl) trivial

noncomputable def noise_l1_s (sd : List Int) (k : Int) (x13 : Nat) : (Nat → Int) → (Nat → Int) := fun o4_0 => upd o4_0 x13 (mod_m (isub .u32 (isub .u32 (iadd .u32 (iadd .u32 (iand .u32 (ishr .u32 (IntKind.wrap .u32 ((shake128_m [sd, [k]]).getD (x13 / 2) 0)) (((x13 % 2) * 4 : Nat) : Int)) 1) (iand .u32 (ishr .u32 (ishr .u32 (IntKind.wrap .u32 ((shake128_m [sd, [k]]).getD (x13 / 2) 0)) (((x13 % 2) * 4 : Nat) : Int)) 1) 1)) 3329) (iand .u32 (ishr .u32 (ishr .u32 (IntKind.wrap .u32 ((shake128_m [sd, [k]]).getD (x13 / 2) 0)) (((x13 % 2) * 4 : Nat) : Int)) 2) 1)) (iand .u32 (ishr .u32 (ishr .u32 (IntKind.wrap .u32 ((shake128_m [sd, [k]]).getD (x13 / 2) 0)) (((x13 % 2) * 4 : Nat) : Int)) 3) 1)))
noncomputable def noise_l1 (sd : List Int) (k : Int) : Nat → (Nat → Int)
  | 0 => fun _ => 0
  | x13 + 1 => noise_l1_s sd k x13 (noise_l1 sd k x13)
noncomputable def noise_v (sd : List Int) (k : Int) : (Nat → Int) := noise_l1 sd k 256
noncomputable def noise_m (sd : List Int) (k : Int) : (Nat → Int) := shut (noise_v sd k)
theorem noise_e (sd : List Int) (k : Int) : noise_m sd k = noise_v sd k := shut_eq _
noncomputable def c_noise (sd : List Int) (k : Int) : Con := ⟨[.ls false [.int .u8] sd, .v (.int .u8 k)], [], .ar .u16 256 (noise_m sd k), []⟩
set_option maxRecDepth 100000 in
set_option maxHeartbeats 4000000 in
theorem noise_ok (sd : List Int) (k : Int) (h : sd.length ≤ 100000000000000) : ConOk Try.prog 69 (c_noise sd k) := by
  refine conOk_of (nb := 0) Try.func69 rfl rfl Try.ntmps69 rfl rfl rfl fun g0 w0 ac gs ws hg0 hS => ?_
  have hlen0 : sd.length ≤ 9223372036854775807 := hS.len 0 rfl
  refine wp_seq ?_
  refine region_a (E := E0) mo hZ [] trivial (fun _ => []) [0, 1, 4] [0] [(0, .ls false [.int .u8] sd), (1, .v (.int .u8 k)), (4, .cp 0 0)] [(0, some (.ob 60 (chain [.ar .u16 256 (fun _ => 0)])))] 1 (by kernel_rfl) trivial rfl hS fun ac gs ws hS => ?_
  refine then_n ?_
  refine wp_seq ?_
  refine region_a (E := E0) mo hZ [(4, .call ⟨98, (c_shake128 [sd, [k]]), [], []⟩)] ⟨shake128_ok [sd, [k]] (by first | omega | (simp only [List.flatten_cons, List.flatten_nil, List.length_append, List.length_cons, List.length_nil, List.length_take, List.length_drop]; omega) | (simp; omega)), trivial⟩ (fun C => [ndC C 4]) [4, 5] [0] [(4, .cp 0 0), (5, .ls false [.int .u8] (shake128_m [sd, [k]]))] [(0, some (.ob 60 (chain [.ar .u16 256 (fun _ => 0)])))] 1 (by kernel_rfl) ⟨rfl, trivial⟩ rfl hS fun ac gs ws hS => ?_
  have hl := shake128_len [sd, [k]]
  refine then_n ?_
  refine wp_seq ?_
  refine wp_seq ?_
  refine region_a (E := E0) mo hZ [] trivial (fun _ => []) [4, 5, 13] [0] [(4, .cp 0 0), (5, .ls false [.int .u8] (shake128_m [sd, [k]])), (13, .v (.int .i64 0))] [(0, some (.ob 60 (chain [.ar .u16 256 (fun _ => 0)])))] 1 (by kernel_rfl) trivial rfl hS fun ac gs ws hS => ?_
  refine then_n ?_
  refine wp_block ?_
  refine loop_r (σ := Nat × (Nat → Int)) hg0 hS (fun z_ => match z_ with | (x13, o4_0) => 256 - x13) (fun z_ => match z_ with | (x13, o4_0) => [(4, .cp 0 0), (5, .ls false [.int .u8] (shake128_m [sd, [k]])), (13, .v (.int .i64 ((x13 : Nat) : Int)))]) (fun z_ => match z_ with | (x13, o4_0) => [(0, .ob 60 (chain [.ar .u16 256 o4_0]))]) (fun z_ => match z_ with | (x13, o4_0) => (x13 ≤ 256) ∧ (o4_0 = noise_l1 sd k x13) ∧ True) 1 (0, fun _ => 0) [(0, 0)] (by kernel_rfl) (by kernel_rfl) ⟨rfl, trivial⟩ ⟨(by omega), rfl, trivial⟩ ?_
  rintro ⟨x13, o4_0⟩ ac gs ws ⟨hx13, hq1, _⟩ hS
  refine wp_seq ?_
  refine region_a (E := E0) mo hZ [] trivial (fun _ => []) [4, 5, 13, 14] [0] [(4, .cp 0 0), (5, .ls false [.int .u8] (shake128_m [sd, [k]])), (13, .v (.int .i64 ((x13 : Nat) : Int))), (14, .v (.bool (decide (((x13 : Nat) : Int) < 256))))] [(0, some (.ob 60 (chain [.ar .u16 256 o4_0])))] 1 (by kernel_rfl) trivial rfl hS fun ac gs ws hS => ?_
  refine then_n ?_
  refine wp_seq ?_
  refine if_x hS rfl (fun h => ?_) (fun h => ?_)
  · skip
    have h1 := of_decide_eq_true h
    clear h
    refine wp_skip ?_
    refine then_n ?_
    refine wp_seq ?_
    refine wp_block ?_
    refine wp_seq ?_
    refine region_a (E := E0) mo hZ [] trivial (fun _ => []) [4, 5, 6, 13] [0] [(4, .cp 0 0), (5, .ls false [.int .u8] (shake128_m [sd, [k]])), (6, .v (.int .i64 ((x13 : Nat) : Int))), (13, .v (.int .i64 ((x13 : Nat) : Int)))] [(0, some (.ob 60 (chain [.ar .u16 256 o4_0])))] 1 (by kernel_rfl) trivial rfl hS fun ac gs ws hS => ?_
    refine then_n ?_
    refine wp_seq ?_
    refine region_a (E := E0) mo hZ [(2, .oi ((x13 / 2 : Nat) : Int)), (7, .oi ((x13 % 2 : Nat) : Int)), (8, .oi (((x13 % 2) * 4 : Nat) : Int))] trivial (fun _ => [iquo .i64 ((x13 : Nat) : Int) 2 = ((x13 / 2 : Nat) : Int), (2 : Int) ≠ 0, (0 : Int) ≤ ((x13 / 2 : Nat) : Int) ∧ ((x13 / 2 : Nat) : Int) < (((shake128_m [sd, [k]]).length : Nat) : Int), irem ((x13 : Nat) : Int) 2 = ((x13 % 2 : Nat) : Int), (2 : Int) ≠ 0, imul .i64 ((x13 % 2 : Nat) : Int) 4 = (((x13 % 2) * 4 : Nat) : Int), (0 : Int) ≤ (((x13 % 2) * 4 : Nat) : Int)]) [4, 5, 6, 7, 13] [0] [(4, .cp 0 0), (5, .ls false [.int .u8] (shake128_m [sd, [k]])), (6, .v (.int .i64 ((x13 : Nat) : Int))), (7, .v (.int .u32 (ishr .u32 (IntKind.wrap .u32 ((shake128_m [sd, [k]]).getD (x13 / 2) 0)) (((x13 % 2) * 4 : Nat) : Int)))), (13, .v (.int .i64 ((x13 : Nat) : Int)))] [(0, some (.ob 60 (chain [.ar .u16 256 o4_0])))] 1 (by kernel_rfl) ⟨by rw [iquo64 (by omega) (by omega) (by omega)]; omega, by omega, by omega, by rw [irem64 (by omega)]; omega, by omega, by rw [imul64 (by omega) (by omega)]; omega, by omega, trivial⟩ rfl hS fun ac gs ws hS => ?_
    refine then_n ?_
    refine region_a (E := E0) mo hZ [(16, .call ⟨71, (c_mod (isub .u32 (isub .u32 (iadd .u32 (iadd .u32 (iand .u32 (ishr .u32 (IntKind.wrap .u32 ((shake128_m [sd, [k]]).getD (x13 / 2) 0)) (((x13 % 2) * 4 : Nat) : Int)) 1) (iand .u32 (ishr .u32 (ishr .u32 (IntKind.wrap .u32 ((shake128_m [sd, [k]]).getD (x13 / 2) 0)) (((x13 % 2) * 4 : Nat) : Int)) 1) 1)) 3329) (iand .u32 (ishr .u32 (ishr .u32 (IntKind.wrap .u32 ((shake128_m [sd, [k]]).getD (x13 / 2) 0)) (((x13 % 2) * 4 : Nat) : Int)) 2) 1)) (iand .u32 (ishr .u32 (ishr .u32 (IntKind.wrap .u32 ((shake128_m [sd, [k]]).getD (x13 / 2) 0)) (((x13 % 2) * 4 : Nat) : Int)) 3) 1))), [], []⟩)] ⟨mod_ok (isub .u32 (isub .u32 (iadd .u32 (iadd .u32 (iand .u32 (ishr .u32 (IntKind.wrap .u32 ((shake128_m [sd, [k]]).getD (x13 / 2) 0)) (((x13 % 2) * 4 : Nat) : Int)) 1) (iand .u32 (ishr .u32 (ishr .u32 (IntKind.wrap .u32 ((shake128_m [sd, [k]]).getD (x13 / 2) 0)) (((x13 % 2) * 4 : Nat) : Int)) 1) 1)) 3329) (iand .u32 (ishr .u32 (ishr .u32 (IntKind.wrap .u32 ((shake128_m [sd, [k]]).getD (x13 / 2) 0)) (((x13 % 2) * 4 : Nat) : Int)) 2) 1)) (iand .u32 (ishr .u32 (ishr .u32 (IntKind.wrap .u32 ((shake128_m [sd, [k]]).getD (x13 / 2) 0)) (((x13 % 2) * 4 : Nat) : Int)) 3) 1)), trivial⟩ (fun C => [(0 : Int) ≤ 1, (0 : Int) ≤ 2, (0 : Int) ≤ 3, ndC C 16, (0 : Int) ≤ ((x13 : Nat) : Int) ∧ (((x13 : Nat) : Int) : Int) < 256]) [4, 5, 13] [0] [(4, .cp 0 0), (5, .ls false [.int .u8] (shake128_m [sd, [k]])), (13, .v (.int .i64 ((x13 : Nat) : Int)))] [(0, some (.ob 60 (chain [.ar .u16 256 (upd o4_0 x13 (mod_m (isub .u32 (isub .u32 (iadd .u32 (iadd .u32 (iand .u32 (ishr .u32 (IntKind.wrap .u32 ((shake128_m [sd, [k]]).getD (x13 / 2) 0)) (((x13 % 2) * 4 : Nat) : Int)) 1) (iand .u32 (ishr .u32 (ishr .u32 (IntKind.wrap .u32 ((shake128_m [sd, [k]]).getD (x13 / 2) 0)) (((x13 % 2) * 4 : Nat) : Int)) 1) 1)) 3329) (iand .u32 (ishr .u32 (ishr .u32 (IntKind.wrap .u32 ((shake128_m [sd, [k]]).getD (x13 / 2) 0)) (((x13 % 2) * 4 : Nat) : Int)) 2) 1)) (iand .u32 (ishr .u32 (ishr .u32 (IntKind.wrap .u32 ((shake128_m [sd, [k]]).getD (x13 / 2) 0)) (((x13 % 2) * 4 : Nat) : Int)) 3) 1))))])))] 1 (by kernel_rfl) ⟨by omega, by omega, by omega, rfl, by omega, trivial⟩ rfl hS fun ac gs ws hS => ?_
    refine block_n ?_
    refine then_n ?_
    refine region_a (E := E0) mo hZ [(0, .oi ((x13 + 1 : Nat) : Int))] trivial (fun _ => [iadd .i64 ((x13 : Nat) : Int) 1 = ((x13 + 1 : Nat) : Int)]) [4, 5, 13] [0] [(4, .cp 0 0), (5, .ls false [.int .u8] (shake128_m [sd, [k]])), (13, .v (.int .i64 ((x13 + 1 : Nat) : Int)))] [(0, some (.ob 60 (chain [.ar .u16 256 (upd o4_0 x13 (mod_m (isub .u32 (isub .u32 (iadd .u32 (iadd .u32 (iand .u32 (ishr .u32 (IntKind.wrap .u32 ((shake128_m [sd, [k]]).getD (x13 / 2) 0)) (((x13 % 2) * 4 : Nat) : Int)) 1) (iand .u32 (ishr .u32 (ishr .u32 (IntKind.wrap .u32 ((shake128_m [sd, [k]]).getD (x13 / 2) 0)) (((x13 % 2) * 4 : Nat) : Int)) 1) 1)) 3329) (iand .u32 (ishr .u32 (ishr .u32 (IntKind.wrap .u32 ((shake128_m [sd, [k]]).getD (x13 / 2) 0)) (((x13 % 2) * 4 : Nat) : Int)) 2) 1)) (iand .u32 (ishr .u32 (ishr .u32 (IntKind.wrap .u32 ((shake128_m [sd, [k]]).getD (x13 / 2) 0)) (((x13 % 2) * 4 : Nat) : Int)) 3) 1))))])))] 1 (by kernel_rfl) ⟨by rw [iadd64 (by omega) (by omega)]; omega, trivial⟩ rfl hS fun ac gs ws hS => ?_
    refine then_n ?_
    exact next_r hg0 hS (s := (x13, o4_0)) (x13 + 1, upd o4_0 x13 (mod_m (isub .u32 (isub .u32 (iadd .u32 (iadd .u32 (iand .u32 (ishr .u32 (IntKind.wrap .u32 ((shake128_m [sd, [k]]).getD (x13 / 2) 0)) (((x13 % 2) * 4 : Nat) : Int)) 1) (iand .u32 (ishr .u32 (ishr .u32 (IntKind.wrap .u32 ((shake128_m [sd, [k]]).getD (x13 / 2) 0)) (((x13 % 2) * 4 : Nat) : Int)) 1) 1)) 3329) (iand .u32 (ishr .u32 (ishr .u32 (IntKind.wrap .u32 ((shake128_m [sd, [k]]).getD (x13 / 2) 0)) (((x13 % 2) * 4 : Nat) : Int)) 2) 1)) (iand .u32 (ishr .u32 (ishr .u32 (IntKind.wrap .u32 ((shake128_m [sd, [k]]).getD (x13 / 2) 0)) (((x13 % 2) * 4 : Nat) : Int)) 3) 1)))) [(0, 0)] (by kernel_rfl) (by kernel_rfl) ⟨rfl, trivial⟩ (show 256 - (x13 + 1) < 256 - x13 from by omega) ⟨(by omega), (it_next (F := noise_l1 sd k) (st := noise_l1_s sd k) (fun _ => rfl) hq1 rfl), trivial⟩
  · skip
    have h1 := of_decide_eq_false h
    clear h
    have hScur := hS
    obtain rfl : 256 = x13 := by omega
    obtain rfl : noise_l1 sd k 256 = o4_0 := Eq.symm (congrArg (fun z => z) hq1)
    have hS := hScur
    clear hScur
    refine wp_exit ?_
    refine then_exit ?_
    refine then_exit ?_
    refine block_exit ?_
    refine then_n ?_
    refine wp_seq ?_
    refine region_a (E := E0) mo hZ [] trivial (fun _ => []) [4] [0] [(4, .cp 0 0)] [(0, some (.ob 60 (chain [.ar .u16 256 (noise_l1 sd k 256)])))] 1 (by kernel_rfl) trivial rfl hS fun ac gs ws hS => ?_
    refine then_n ?_
    refine wp_ret ?_
    have hM : noise_m sd k = noise_l1 sd k 256 := noise_e sd k
    exact fin_x (.inr rfl) hS (ds := [.ar .u16 256 (noise_l1 sd k 256)]) (by kernel_rfl) (by show weak _ (.ar .u16 256 (noise_m sd k)) = (.ar .u16 256 (noise_m sd k)); rw [hM]; first | (simp only []; rfl) | (simp only []; done) | rfl) trivial

noncomputable def c_newreader (l : List (List Int)) : Con := ⟨[.ls false [.sl (.int .u8)] l], [], .cp 0 0, [(0, .ob 162 (chain [.cp 1 0])), (1, .ob 141 (chain [.ar .u64 25 (spg 168 31 l), .v (.int .i64 168), .v (.int .i64 0)]))]⟩
set_option maxRecDepth 100000 in
set_option maxHeartbeats 4000000 in
theorem newreader_ok (l : List (List Int)) (h : l.flatten.length ≤ 140000000000000) : ConOk Try.prog 100 (c_newreader l) := by
  refine conOk_of (nb := 0) Try.func100 rfl rfl Try.ntmps100 rfl rfl rfl fun g0 w0 ac gs ws hg0 hS => ?_
  have hlen0 : l.length ≤ 9223372036854775807 := hS.len 0 rfl
  refine wp_seq ?_
  refine region_a (E := E0) mo hZ [] trivial (fun _ => []) [0, 2] [] [(0, .ls false [.sl (.int .u8)] l), (2, .v (.pointer none))] [] 0 (by kernel_rfl) trivial rfl hS fun ac gs ws hS => ?_
  refine then_n ?_
  refine wp_seq ?_
  refine region_a (E := E0) mo hZ [(1, .call ⟨67, (c_soaked 168 31 l), [], [(0, 0)]⟩)] ⟨soaked_ok 168 31 l (by omega) (by omega) (by first | omega | (simp only [List.flatten_cons, List.flatten_nil, List.length_append, List.length_cons, List.length_nil, List.length_take, List.length_drop]; omega) | (simp; omega)), trivial⟩ (fun C => [ndC C 1]) [2] [0, 1] [(2, .cp 1 0)] [(0, some (.ob 141 (chain [.ar .u64 25 (spg 168 31 l), .v (.int .i64 168), .v (.int .i64 0)]))), (1, some (.ob 162 (chain [.cp 0 0])))] 2 (by kernel_rfl) ⟨rfl, trivial⟩ rfl hS fun ac gs ws hS => ?_
  refine then_n ?_
  refine wp_ret ?_
  obtain ⟨gs, hS⟩ := St.ren hg0 hS [(0, 1), (1, 0)] [(2, .cp 0 0)] [(0, .ob 162 (chain [.cp 1 0])), (1, .ob 141 (chain [.ar .u64 25 (spg 168 31 l), .v (.int .i64 168), .v (.int .i64 0)]))] 2 (by kernel_rfl) (by kernel_rfl) ⟨rfl, rfl, trivial⟩
  exact fin_x (.inr rfl) hS (ds := [.cp 0 0]) (by kernel_rfl) rfl ⟨rfl, rfl, trivial⟩

noncomputable def c_rread (f : Nat → Int) (a : Nat) : Con := ⟨[.cp 0 0, .v (.int .i64 504)], [(0, .ob 162 (chain [.cp 1 0])), (1, .ob 141 (chain [.ar .u64 25 f, .v (.int .i64 168), .v (.int .i64 ((a : Nat) : Int))]))], .ls false [.int .u8] ((rdA 168 f a 504).2.2), [(0, .ob 162 (chain [.cp 1 0])), (1, .ob 141 (chain [.ar .u64 25 ((rdA 168 f a 504).1), .v (.int .i64 168), .v (.int .i64 ((((rdA 168 f a 504).2.1) : Nat) : Int))]))]⟩
set_option maxRecDepth 100000 in
set_option maxHeartbeats 4000000 in
theorem rread_ok (f : Nat → Int) (a : Nat) (h : a ≤ 168) : ConOk Try.prog 101 (c_rread f a) := by
  refine conOk_of (nb := 2) Try.func101 rfl rfl Try.ntmps101 rfl rfl rfl fun g0 w0 ac gs ws hg0 hS => ?_
  refine wp_seq ?_
  refine region_a (E := E0) mo hZ [] trivial (fun _ => []) [0, 1, 4] [0, 1] [(0, .cp 0 0), (1, .v (.int .i64 504)), (4, .v (.slice none 0 0))] [(0, some (.ob 162 (chain [.cp 1 0]))), (1, some (.ob 141 (chain [.ar .u64 25 f, .v (.int .i64 168), .v (.int .i64 ((a : Nat) : Int))])))] 2 (by kernel_rfl) trivial rfl hS fun ac gs ws hS => ?_
  refine then_n ?_
  refine wp_seq ?_
  refine wp_seq ?_
  refine region_a (E := E0) mo hZ [] trivial (fun _ => []) [0, 1, 4, 14] [0, 1] [(0, .cp 0 0), (1, .v (.int .i64 504)), (4, .v (.slice none 0 0)), (14, .v (.bool false))] [(0, some (.ob 162 (chain [.cp 1 0]))), (1, some (.ob 141 (chain [.ar .u64 25 f, .v (.int .i64 168), .v (.int .i64 ((a : Nat) : Int))])))] 2 (by kernel_rfl) trivial rfl hS fun ac gs ws hS => ?_
  refine then_n ?_
  refine wp_cond_false (hS.fx.frm.eval rfl) ?_
  refine wp_skip ?_
  refine then_n ?_
  refine wp_seq ?_
  refine wp_seq ?_
  refine region_a (E := E0) mo hZ [] trivial (fun _ => []) [0, 1, 4, 19] [0, 1] [(0, .cp 0 0), (1, .v (.int .i64 504)), (4, .v (.slice none 0 0)), (19, .v (.bool false))] [(0, some (.ob 162 (chain [.cp 1 0]))), (1, some (.ob 141 (chain [.ar .u64 25 f, .v (.int .i64 168), .v (.int .i64 ((a : Nat) : Int))])))] 2 (by kernel_rfl) trivial rfl hS fun ac gs ws hS => ?_
  refine then_n ?_
  refine wp_cond_false (hS.fx.frm.eval rfl) ?_
  refine wp_skip ?_
  refine then_n ?_
  refine wp_seq ?_
  refine region_a (E := E0) mo hZ [(5, .call ⟨68, (c_read 168 f a 504), [(0, 1)], []⟩)] ⟨read_ok 168 f a 504 (by omega) (by omega) (by omega) (by omega), trivial⟩ (fun C => [ndC C 5]) [4] [0, 1] [(4, .ls false [.int .u8] ((rdA 168 f a 504).2.2))] [(0, some (.ob 162 (chain [.cp 1 0]))), (1, some (.ob 141 (chain [.ar .u64 25 ((rdA 168 f a 504).1), .v (.int .i64 168), .v (.int .i64 (((rdA 168 f a 504).2.1 : Nat) : Int))])))] 2 (by kernel_rfl) ⟨rfl, trivial⟩ rfl hS fun ac gs ws hS => ?_
  refine then_n ?_
  refine wp_ret ?_
  exact fin_x (.inr rfl) hS (ds := [.ls false [.int .u8] ((rdA 168 f a 504).2.2)]) (by kernel_rfl) rfl ⟨rfl, rfl, trivial⟩

end Go.Sx.Try
namespace Go.Sx.Try
open Go.Mi Go.RowKit Go.Sx Go.Proofs
noncomputable def c_uniform (sd : List Int) (bi : Int) (bj : Int) : Con := ⟨[.ls false [.int .u8] sd, .v (.int .u8 bi), .v (.int .u8 bj)], [], .ar .u16 256 (uniform [sd, [bi, bj]]), []⟩
set_option maxRecDepth 100000 in
set_option maxHeartbeats 4000000 in
theorem uniform_ok (sd : List Int) (bi : Int) (bj : Int) (h : sd.length = 32) : ConOk Try.prog 72 (c_uniform sd bi bj) := by
  refine conOk_of (nb := 0) Try.func72 rfl rfl Try.ntmps72 rfl rfl rfl fun g0 w0 ac gs ws hg0 hS => ?_
  have hlen0 : sd.length ≤ 9223372036854775807 := hS.len 0 rfl
  refine wp_seq ?_
  refine region_a (E := E0) mo hZ [] trivial (fun _ => []) [0, 1, 2, 6] [0] [(0, .ls false [.int .u8] sd), (1, .v (.int .u8 bi)), (2, .v (.int .u8 bj)), (6, .cp 0 0)] [(0, some (.ob 60 (chain [.ar .u16 256 (fun _ => 0)])))] 1 (by kernel_rfl) trivial rfl hS fun ac gs ws hS => ?_
  refine then_n ?_
  refine wp_seq ?_
  refine region_a (E := E0) mo hZ [(5, .call ⟨100, (c_newreader [sd, [bi, bj]]), [], [(0, 1), (1, 2)]⟩)] ⟨newreader_ok [sd, [bi, bj]] (by first | omega | (simp only [List.flatten_cons, List.flatten_nil, List.length_append, List.length_cons, List.length_nil, List.length_take, List.length_drop]; omega) | (simp; omega)), trivial⟩ (fun C => [ndC C 5]) [6, 7] [0, 1, 2] [(6, .cp 0 0), (7, .cp 1 0)] [(0, some (.ob 60 (chain [.ar .u16 256 (fun _ => 0)]))), (1, some (.ob 162 (chain [.cp 2 0]))), (2, some (.ob 141 (chain [.ar .u64 25 (spg 168 31 [sd, [bi, bj]]), .v (.int .i64 168), .v (.int .i64 0)])))] 3 (by kernel_rfl) ⟨rfl, trivial⟩ rfl hS fun ac gs ws hS => ?_
  refine then_n ?_
  refine wp_seq ?_
  refine region_a (E := E0) mo hZ [] trivial (fun _ => []) [6, 7, 8] [0, 1, 2] [(6, .cp 0 0), (7, .cp 1 0), (8, .v (.int .i64 0))] [(0, some (.ob 60 (chain [.ar .u16 256 (fun _ => 0)]))), (1, some (.ob 162 (chain [.cp 2 0]))), (2, some (.ob 141 (chain [.ar .u64 25 (spg 168 31 [sd, [bi, bj]]), .v (.int .i64 168), .v (.int .i64 0)])))] 3 (by kernel_rfl) trivial rfl hS fun ac gs ws hS => ?_
  refine then_n ?_
  refine wp_seq ?_
  refine wp_block ?_
  refine loop_r (σ := Nat × (Nat → Int) × Nat × (Nat → Int) × Nat) hg0 hS (fun z_ => match z_ with | (k, g, a, f, n) => uK [sd, [bi, bj]] - k) (fun z_ => match z_ with | (k, g, a, f, n) => [(6, .cp 0 0), (7, .cp 1 0), (8, .v (.int .i64 ((n : Nat) : Int)))]) (fun z_ => match z_ with | (k, g, a, f, n) => [(0, .ob 60 (chain [.ar .u16 256 f])), (1, .ob 162 (chain [.cp 2 0])), (2, .ob 141 (chain [.ar .u64 25 g, .v (.int .i64 168), .v (.int .i64 ((a : Nat) : Int))]))]) (fun z_ => match z_ with | (k, g, a, f, n) => ((g, a, f, n) = uR (spg 168 31 [sd, [bi, bj]]) k) ∧ (∀ j, j < k → (uR (spg 168 31 [sd, [bi, bj]]) j).2.2.2 < 256) ∧ True) 3 (0, (spg 168 31 [sd, [bi, bj]]), 0, fun _ => 0, 0) [(0, 0), (1, 1), (2, 2)] (by kernel_rfl) (by kernel_rfl) ⟨rfl, rfl, rfl, trivial⟩ ⟨rfl, (fun j h => absurd h (Nat.not_lt_zero j)), trivial⟩ ?_
  rintro ⟨k, g, a, f, n⟩ ac gs ws ⟨hq, hj, _⟩ hS
  refine wp_seq ?_
  refine wp_seq ?_
  refine region_a (E := E0) mo hZ [] trivial (fun _ => []) [6, 7, 8, 19] [0, 1, 2] [(6, .cp 0 0), (7, .cp 1 0), (8, .v (.int .i64 ((n : Nat) : Int))), (19, .v (.bool (decide (((n : Nat) : Int) < 256))))] [(0, some (.ob 60 (chain [.ar .u16 256 f]))), (1, some (.ob 162 (chain [.cp 2 0]))), (2, some (.ob 141 (chain [.ar .u64 25 g, .v (.int .i64 168), .v (.int .i64 ((a : Nat) : Int))])))] 3 (by kernel_rfl) trivial rfl hS fun ac gs ws hS => ?_
  refine then_n ?_
  refine if_x hS rfl (fun h => ?_) (fun h => ?_)
  · skip
    have h1 := of_decide_eq_true h
    clear h
    refine wp_skip ?_
    refine then_n ?_
    refine wp_block ?_
    refine wp_seq ?_
    have ha := uR_a hq
    have hnk : (uR (spg 168 31 [sd, [bi, bj]]) k).2.2.2 < 256 := by rw [← hq]; simp only; omega
    have hk := uK_ok (l := [sd, [bi, bj]]) (by simp only [List.flatten_cons, List.flatten_nil, List.length_append, List.length_cons, List.length_nil]; omega) hnk
    refine region_a (E := E0) mo hZ [(1, .call ⟨101, (c_rread g a), [(0, 1), (1, 2)], []⟩)] ⟨rread_ok g a (by omega), trivial⟩ (fun C => [ndC C 1]) [6, 7, 8, 9] [0, 1, 2] [(6, .cp 0 0), (7, .cp 1 0), (8, .v (.int .i64 ((n : Nat) : Int))), (9, .ls false [.int .u8] ((rdA 168 g a 504).2.2))] [(0, some (.ob 60 (chain [.ar .u16 256 f]))), (1, some (.ob 162 (chain [.cp 2 0]))), (2, some (.ob 141 (chain [.ar .u64 25 ((rdA 168 g a 504).1), .v (.int .i64 168), .v (.int .i64 ((((rdA 168 g a 504).2.1) : Nat) : Int))])))] 3 (by kernel_rfl) ⟨rfl, trivial⟩ rfl hS fun ac gs ws hS => ?_
    refine then_n ?_
    refine wp_block ?_
    refine loop_r (σ := (List Int) × (Nat → Int) × Nat) hg0 hS (fun z_ => match z_ with | (b, f2, n2) => b.length) (fun z_ => match z_ with | (b, f2, n2) => [(6, .cp 0 0), (7, .cp 1 0), (8, .v (.int .i64 ((n2 : Nat) : Int))), (9, .ls false [.int .u8] b)]) (fun z_ => match z_ with | (b, f2, n2) => [(0, .ob 60 (chain [.ar .u16 256 f2])), (1, .ob 162 (chain [.cp 2 0])), (2, .ob 141 (chain [.ar .u64 25 ((rdA 168 g a 504).1), .v (.int .i64 168), .v (.int .i64 ((((rdA 168 g a 504).2.1) : Nat) : Int))]))]) (fun z_ => match z_ with | (b, f2, n2) => (b.length % 3 = 0) ∧ (acc b (f2, n2) = acc (rdA 168 g a 504).2.2 (f, n)) ∧ True) 3 (((rdA 168 g a 504).2.2), f, n) [(0, 0), (1, 1), (2, 2)] (by kernel_rfl) (by kernel_rfl) ⟨rfl, rfl, rfl, trivial⟩ ⟨(by rw [rd_len]), rfl, trivial⟩ ?_
    rintro ⟨b, f2, n2⟩ ac gs ws ⟨hb, hc, _⟩ hS
    refine wp_seq ?_
    refine wp_seq ?_
    refine region_a (E := E0) mo hZ [] trivial (fun _ => []) [6, 7, 8, 9, 24] [0, 1, 2] [(6, .cp 0 0), (7, .cp 1 0), (8, .v (.int .i64 ((n2 : Nat) : Int))), (9, .ls false [.int .u8] b), (24, .v (.bool (decide ((0 : Int) < ((b.length : Nat) : Int)))))] [(0, some (.ob 60 (chain [.ar .u16 256 f2]))), (1, some (.ob 162 (chain [.cp 2 0]))), (2, some (.ob 141 (chain [.ar .u64 25 ((rdA 168 g a 504).1), .v (.int .i64 168), .v (.int .i64 ((((rdA 168 g a 504).2.1) : Nat) : Int))])))] 3 (by kernel_rfl) trivial rfl hS fun ac gs ws hS => ?_
    refine then_n ?_
    refine if_x hS rfl (fun h => ?_) (fun h => ?_)
    · skip
      have h2 := of_decide_eq_true h
      clear h
      refine wp_skip ?_
      refine then_n ?_
      refine wp_seq ?_
      refine wp_block ?_
      refine wp_seq ?_
      refine region_a (E := E0) mo hZ [] trivial (fun _ => [(0 : Int) ≤ 0 ∧ 0 < ((b.length : Nat) : Int), (0 : Int) ≤ 1 ∧ 1 < ((b.length : Nat) : Int), (0 : Int) ≤ 8, (0 : Int) ≤ 1 ∧ 1 < ((b.length : Nat) : Int), (0 : Int) ≤ 4, (0 : Int) ≤ 2 ∧ 2 < ((b.length : Nat) : Int), (0 : Int) ≤ 4]) [6, 7, 8, 9, 49, 50, 51] [0, 1, 2] [(6, .cp 0 0), (7, .cp 1 0), (8, .v (.int .i64 ((n2 : Nat) : Int))), (9, .ls false [.int .u8] b), (49, .ls true [.int .u16] [(ior .u16 (IntKind.wrap .u16 (b.getD 0 0)) (ishl .u16 (IntKind.wrap .u16 (iand .u8 (b.getD 1 0) 15)) 8)), (ior .u16 (IntKind.wrap .u16 (ishr .u8 (b.getD 1 0) 4)) (ishl .u16 (IntKind.wrap .u16 (b.getD 2 0)) 4))]), (50, .v (.int .i64 2)), (51, .v (.int .i64 0))] [(0, some (.ob 60 (chain [.ar .u16 256 f2]))), (1, some (.ob 162 (chain [.cp 2 0]))), (2, some (.ob 141 (chain [.ar .u64 25 ((rdA 168 g a 504).1), .v (.int .i64 168), .v (.int .i64 ((((rdA 168 g a 504).2.1) : Nat) : Int))])))] 3 (by kernel_rfl) ⟨by omega, by omega, by omega, by omega, by omega, by omega, by omega, trivial⟩ rfl hS fun ac gs ws hS => ?_
      refine then_n ?_
      refine wp_block ?_
      refine loop_r (σ := Nat × (Nat → Int) × Nat) hg0 hS (fun z_ => match z_ with | (t, f3, n3) => 2 - t) (fun z_ => match z_ with | (t, f3, n3) => [(6, .cp 0 0), (7, .cp 1 0), (8, .v (.int .i64 ((n3 : Nat) : Int))), (9, .ls false [.int .u8] b), (49, .ls true [.int .u16] [(ior .u16 (IntKind.wrap .u16 (b.getD 0 0)) (ishl .u16 (IntKind.wrap .u16 (iand .u8 (b.getD 1 0) 15)) 8)), (ior .u16 (IntKind.wrap .u16 (ishr .u8 (b.getD 1 0) 4)) (ishl .u16 (IntKind.wrap .u16 (b.getD 2 0)) 4))]), (50, .v (.int .i64 2)), (51, .v (.int .i64 ((t : Nat) : Int)))]) (fun z_ => match z_ with | (t, f3, n3) => [(0, .ob 60 (chain [.ar .u16 256 f3])), (1, .ob 162 (chain [.cp 2 0])), (2, .ob 141 (chain [.ar .u64 25 ((rdA 168 g a 504).1), .v (.int .i64 168), .v (.int .i64 ((((rdA 168 g a 504).2.1) : Nat) : Int))]))]) (fun z_ => match z_ with | (t, f3, n3) => (t ≤ 2) ∧ ((f3, n3) = accs [(ior .u16 (IntKind.wrap .u16 (b.getD 0 0)) (ishl .u16 (IntKind.wrap .u16 (iand .u8 (b.getD 1 0) 15)) 8)), (ior .u16 (IntKind.wrap .u16 (ishr .u8 (b.getD 1 0) 4)) (ishl .u16 (IntKind.wrap .u16 (b.getD 2 0)) 4))] (f2, n2) t) ∧ True) 3 (0, f2, n2) [(0, 0), (1, 1), (2, 2)] (by kernel_rfl) (by kernel_rfl) ⟨rfl, rfl, rfl, trivial⟩ ⟨(by omega), rfl, trivial⟩ ?_
      rintro ⟨t, f3, n3⟩ ac gs ws ⟨ht, hs, _⟩ hS
      refine wp_seq ?_
      refine region_a (E := E0) mo hZ [] trivial (fun _ => []) [6, 7, 8, 9, 49, 50, 51, 52] [0, 1, 2] [(6, .cp 0 0), (7, .cp 1 0), (8, .v (.int .i64 ((n3 : Nat) : Int))), (9, .ls false [.int .u8] b), (49, .ls true [.int .u16] [(ior .u16 (IntKind.wrap .u16 (b.getD 0 0)) (ishl .u16 (IntKind.wrap .u16 (iand .u8 (b.getD 1 0) 15)) 8)), (ior .u16 (IntKind.wrap .u16 (ishr .u8 (b.getD 1 0) 4)) (ishl .u16 (IntKind.wrap .u16 (b.getD 2 0)) 4))]), (50, .v (.int .i64 2)), (51, .v (.int .i64 ((t : Nat) : Int))), (52, .v (.bool (decide (((t : Nat) : Int) < 2))))] [(0, some (.ob 60 (chain [.ar .u16 256 f3]))), (1, some (.ob 162 (chain [.cp 2 0]))), (2, some (.ob 141 (chain [.ar .u64 25 ((rdA 168 g a 504).1), .v (.int .i64 168), .v (.int .i64 ((((rdA 168 g a 504).2.1) : Nat) : Int))])))] 3 (by kernel_rfl) trivial rfl hS fun ac gs ws hS => ?_
      refine then_n ?_
      refine wp_seq ?_
      refine if_x hS rfl (fun h => ?_) (fun h => ?_)
      · skip
        have h3 := of_decide_eq_true h
        clear h
        refine wp_skip ?_
        refine then_n ?_
        refine wp_seq ?_
        refine wp_block ?_
        refine wp_seq ?_
        refine region_a (E := E0) mo hZ [] trivial (fun _ => [(0 : Int) ≤ ((t : Nat) : Int) ∧ (((t : Nat) : Int) : Int) < 2]) [6, 7, 8, 9, 11, 49, 50, 51] [0, 1, 2] [(6, .cp 0 0), (7, .cp 1 0), (8, .v (.int .i64 ((n3 : Nat) : Int))), (9, .ls false [.int .u8] b), (11, .v (.int .u16 ([(ior .u16 (IntKind.wrap .u16 (b.getD 0 0)) (ishl .u16 (IntKind.wrap .u16 (iand .u8 (b.getD 1 0) 15)) 8)), (ior .u16 (IntKind.wrap .u16 (ishr .u8 (b.getD 1 0) 4)) (ishl .u16 (IntKind.wrap .u16 (b.getD 2 0)) 4))].getD t 0))), (49, .ls true [.int .u16] [(ior .u16 (IntKind.wrap .u16 (b.getD 0 0)) (ishl .u16 (IntKind.wrap .u16 (iand .u8 (b.getD 1 0) 15)) 8)), (ior .u16 (IntKind.wrap .u16 (ishr .u8 (b.getD 1 0) 4)) (ishl .u16 (IntKind.wrap .u16 (b.getD 2 0)) 4))]), (50, .v (.int .i64 2)), (51, .v (.int .i64 ((t : Nat) : Int)))] [(0, some (.ob 60 (chain [.ar .u16 256 f3]))), (1, some (.ob 162 (chain [.cp 2 0]))), (2, some (.ob 141 (chain [.ar .u64 25 ((rdA 168 g a 504).1), .v (.int .i64 168), .v (.int .i64 ((((rdA 168 g a 504).2.1) : Nat) : Int))])))] 3 (by kernel_rfl) ⟨by omega, trivial⟩ rfl hS fun ac gs ws hS => ?_
        refine then_n ?_
        refine wp_seq ?_
        by_cases h4 : ([(ior .u16 (IntKind.wrap .u16 (b.getD 0 0)) (ishl .u16 (IntKind.wrap .u16 (iand .u8 (b.getD 1 0) 15)) 8)), (ior .u16 (IntKind.wrap .u16 (ishr .u8 (b.getD 1 0) 4)) (ishl .u16 (IntKind.wrap .u16 (b.getD 2 0)) 4))].getD t 0) < 3329
        · skip
          refine region_a (E := E0) mo hZ [(1, .ob true)] trivial (fun _ => [(decide (([(ior .u16 (IntKind.wrap .u16 (b.getD 0 0)) (ishl .u16 (IntKind.wrap .u16 (iand .u8 (b.getD 1 0) 15)) 8)), (ior .u16 (IntKind.wrap .u16 (ishr .u8 (b.getD 1 0) 4)) (ishl .u16 (IntKind.wrap .u16 (b.getD 2 0)) 4))].getD t 0) < 3329)) = true]) [6, 7, 8, 9, 11, 49, 50, 51, 60] [0, 1, 2] [(6, .cp 0 0), (7, .cp 1 0), (8, .v (.int .i64 ((n3 : Nat) : Int))), (9, .ls false [.int .u8] b), (11, .v (.int .u16 ([(ior .u16 (IntKind.wrap .u16 (b.getD 0 0)) (ishl .u16 (IntKind.wrap .u16 (iand .u8 (b.getD 1 0) 15)) 8)), (ior .u16 (IntKind.wrap .u16 (ishr .u8 (b.getD 1 0) 4)) (ishl .u16 (IntKind.wrap .u16 (b.getD 2 0)) 4))].getD t 0))), (49, .ls true [.int .u16] [(ior .u16 (IntKind.wrap .u16 (b.getD 0 0)) (ishl .u16 (IntKind.wrap .u16 (iand .u8 (b.getD 1 0) 15)) 8)), (ior .u16 (IntKind.wrap .u16 (ishr .u8 (b.getD 1 0) 4)) (ishl .u16 (IntKind.wrap .u16 (b.getD 2 0)) 4))]), (50, .v (.int .i64 2)), (51, .v (.int .i64 ((t : Nat) : Int))), (60, .v (.bool (decide (((n3 : Nat) : Int) < 256))))] [(0, some (.ob 60 (chain [.ar .u16 256 f3]))), (1, some (.ob 162 (chain [.cp 2 0]))), (2, some (.ob 141 (chain [.ar .u64 25 ((rdA 168 g a 504).1), .v (.int .i64 168), .v (.int .i64 ((((rdA 168 g a 504).2.1) : Nat) : Int))])))] 3 (by kernel_rfl) ⟨decide_eq_true h4, trivial⟩ rfl hS fun ac gs ws hS => ?_
          refine then_n ?_
          refine if_x hS rfl (fun h => ?_) (fun h => ?_)
          · skip
            have h5 := of_decide_eq_true h
            clear h
            refine wp_seq ?_
            refine region_a (E := E0) mo hZ [] trivial (fun _ => [(0 : Int) ≤ ((n3 : Nat) : Int) ∧ (((n3 : Nat) : Int) : Int) < 256]) [6, 7, 8, 9, 49, 50, 51] [0, 1, 2] [(6, .cp 0 0), (7, .cp 1 0), (8, .v (.int .i64 ((n3 : Nat) : Int))), (9, .ls false [.int .u8] b), (49, .ls true [.int .u16] [(ior .u16 (IntKind.wrap .u16 (b.getD 0 0)) (ishl .u16 (IntKind.wrap .u16 (iand .u8 (b.getD 1 0) 15)) 8)), (ior .u16 (IntKind.wrap .u16 (ishr .u8 (b.getD 1 0) 4)) (ishl .u16 (IntKind.wrap .u16 (b.getD 2 0)) 4))]), (50, .v (.int .i64 2)), (51, .v (.int .i64 ((t : Nat) : Int)))] [(0, some (.ob 60 (chain [.ar .u16 256 (upd f3 n3 ([(ior .u16 (IntKind.wrap .u16 (b.getD 0 0)) (ishl .u16 (IntKind.wrap .u16 (iand .u8 (b.getD 1 0) 15)) 8)), (ior .u16 (IntKind.wrap .u16 (ishr .u8 (b.getD 1 0) 4)) (ishl .u16 (IntKind.wrap .u16 (b.getD 2 0)) 4))].getD t 0))]))), (1, some (.ob 162 (chain [.cp 2 0]))), (2, some (.ob 141 (chain [.ar .u64 25 ((rdA 168 g a 504).1), .v (.int .i64 168), .v (.int .i64 ((((rdA 168 g a 504).2.1) : Nat) : Int))])))] 3 (by kernel_rfl) ⟨by omega, trivial⟩ rfl hS fun ac gs ws hS => ?_
            refine then_n ?_
            refine region_a (E := E0) mo hZ [(1, .oi ((n3 + 1 : Nat) : Int))] trivial (fun _ => [iadd .i64 ((n3 : Nat) : Int) 1 = ((n3 + 1 : Nat) : Int)]) [6, 7, 8, 9, 49, 50, 51] [0, 1, 2] [(6, .cp 0 0), (7, .cp 1 0), (8, .v (.int .i64 ((n3 + 1 : Nat) : Int))), (9, .ls false [.int .u8] b), (49, .ls true [.int .u16] [(ior .u16 (IntKind.wrap .u16 (b.getD 0 0)) (ishl .u16 (IntKind.wrap .u16 (iand .u8 (b.getD 1 0) 15)) 8)), (ior .u16 (IntKind.wrap .u16 (ishr .u8 (b.getD 1 0) 4)) (ishl .u16 (IntKind.wrap .u16 (b.getD 2 0)) 4))]), (50, .v (.int .i64 2)), (51, .v (.int .i64 ((t : Nat) : Int)))] [(0, some (.ob 60 (chain [.ar .u16 256 (upd f3 n3 ([(ior .u16 (IntKind.wrap .u16 (b.getD 0 0)) (ishl .u16 (IntKind.wrap .u16 (iand .u8 (b.getD 1 0) 15)) 8)), (ior .u16 (IntKind.wrap .u16 (ishr .u8 (b.getD 1 0) 4)) (ishl .u16 (IntKind.wrap .u16 (b.getD 2 0)) 4))].getD t 0))]))), (1, some (.ob 162 (chain [.cp 2 0]))), (2, some (.ob 141 (chain [.ar .u64 25 ((rdA 168 g a 504).1), .v (.int .i64 168), .v (.int .i64 ((((rdA 168 g a 504).2.1) : Nat) : Int))])))] 3 (by kernel_rfl) ⟨by rw [iadd64 (by omega) (by omega)]; omega, trivial⟩ rfl hS fun ac gs ws hS => ?_
            refine block_n ?_
            refine then_n ?_
            refine region_a (E := E0) mo hZ [(0, .oi ((t + 1 : Nat) : Int))] trivial (fun _ => [iadd .i64 ((t : Nat) : Int) 1 = ((t + 1 : Nat) : Int)]) [6, 7, 8, 9, 49, 50, 51] [0, 1, 2] [(6, .cp 0 0), (7, .cp 1 0), (8, .v (.int .i64 ((n3 + 1 : Nat) : Int))), (9, .ls false [.int .u8] b), (49, .ls true [.int .u16] [(ior .u16 (IntKind.wrap .u16 (b.getD 0 0)) (ishl .u16 (IntKind.wrap .u16 (iand .u8 (b.getD 1 0) 15)) 8)), (ior .u16 (IntKind.wrap .u16 (ishr .u8 (b.getD 1 0) 4)) (ishl .u16 (IntKind.wrap .u16 (b.getD 2 0)) 4))]), (50, .v (.int .i64 2)), (51, .v (.int .i64 ((t + 1 : Nat) : Int)))] [(0, some (.ob 60 (chain [.ar .u16 256 (upd f3 n3 ([(ior .u16 (IntKind.wrap .u16 (b.getD 0 0)) (ishl .u16 (IntKind.wrap .u16 (iand .u8 (b.getD 1 0) 15)) 8)), (ior .u16 (IntKind.wrap .u16 (ishr .u8 (b.getD 1 0) 4)) (ishl .u16 (IntKind.wrap .u16 (b.getD 2 0)) 4))].getD t 0))]))), (1, some (.ob 162 (chain [.cp 2 0]))), (2, some (.ob 141 (chain [.ar .u64 25 ((rdA 168 g a 504).1), .v (.int .i64 168), .v (.int .i64 ((((rdA 168 g a 504).2.1) : Nat) : Int))])))] 3 (by kernel_rfl) ⟨by rw [iadd64 (by omega) (by omega)]; omega, trivial⟩ rfl hS fun ac gs ws hS => ?_
            refine then_n ?_
            exact next_r hg0 hS (s := (t, f3, n3)) (t + 1, upd f3 n3 ([(ior .u16 (IntKind.wrap .u16 (b.getD 0 0)) (ishl .u16 (IntKind.wrap .u16 (iand .u8 (b.getD 1 0) 15)) 8)), (ior .u16 (IntKind.wrap .u16 (ishr .u8 (b.getD 1 0) 4)) (ishl .u16 (IntKind.wrap .u16 (b.getD 2 0)) 4))].getD t 0), n3 + 1) [(0, 0), (1, 1), (2, 2)] (by kernel_rfl) (by kernel_rfl) ⟨rfl, rfl, rfl, trivial⟩ (show 2 - (t + 1) < 2 - t from by omega) ⟨(by omega), (accs_next hs (by first | exact (acc1_y (by assumption) (by assumption)).symm | exact (acc1_n (by assumption) (by assumption)).symm | exact (acc1_z (by assumption)).symm)), trivial⟩
          · skip
            have h5 := of_decide_eq_false h
            clear h
            refine wp_skip ?_
            refine block_n ?_
            refine then_n ?_
            refine region_a (E := E0) mo hZ [(0, .oi ((t + 1 : Nat) : Int))] trivial (fun _ => [iadd .i64 ((t : Nat) : Int) 1 = ((t + 1 : Nat) : Int)]) [6, 7, 8, 9, 49, 50, 51] [0, 1, 2] [(6, .cp 0 0), (7, .cp 1 0), (8, .v (.int .i64 ((n3 : Nat) : Int))), (9, .ls false [.int .u8] b), (49, .ls true [.int .u16] [(ior .u16 (IntKind.wrap .u16 (b.getD 0 0)) (ishl .u16 (IntKind.wrap .u16 (iand .u8 (b.getD 1 0) 15)) 8)), (ior .u16 (IntKind.wrap .u16 (ishr .u8 (b.getD 1 0) 4)) (ishl .u16 (IntKind.wrap .u16 (b.getD 2 0)) 4))]), (50, .v (.int .i64 2)), (51, .v (.int .i64 ((t + 1 : Nat) : Int)))] [(0, some (.ob 60 (chain [.ar .u16 256 f3]))), (1, some (.ob 162 (chain [.cp 2 0]))), (2, some (.ob 141 (chain [.ar .u64 25 ((rdA 168 g a 504).1), .v (.int .i64 168), .v (.int .i64 ((((rdA 168 g a 504).2.1) : Nat) : Int))])))] 3 (by kernel_rfl) ⟨by rw [iadd64 (by omega) (by omega)]; omega, trivial⟩ rfl hS fun ac gs ws hS => ?_
            refine then_n ?_
            exact next_r hg0 hS (s := (t, f3, n3)) (t + 1, f3, n3) [(0, 0), (1, 1), (2, 2)] (by kernel_rfl) (by kernel_rfl) ⟨rfl, rfl, rfl, trivial⟩ (show 2 - (t + 1) < 2 - t from by omega) ⟨(by omega), (accs_next hs (by first | exact (acc1_y (by assumption) (by assumption)).symm | exact (acc1_n (by assumption) (by assumption)).symm | exact (acc1_z (by assumption)).symm)), trivial⟩
        · skip
          refine region_a (E := E0) mo hZ [(1, .ob false)] trivial (fun _ => [(decide (([(ior .u16 (IntKind.wrap .u16 (b.getD 0 0)) (ishl .u16 (IntKind.wrap .u16 (iand .u8 (b.getD 1 0) 15)) 8)), (ior .u16 (IntKind.wrap .u16 (ishr .u8 (b.getD 1 0) 4)) (ishl .u16 (IntKind.wrap .u16 (b.getD 2 0)) 4))].getD t 0) < 3329)) = false]) [6, 7, 8, 9, 11, 49, 50, 51, 60] [0, 1, 2] [(6, .cp 0 0), (7, .cp 1 0), (8, .v (.int .i64 ((n3 : Nat) : Int))), (9, .ls false [.int .u8] b), (11, .v (.int .u16 ([(ior .u16 (IntKind.wrap .u16 (b.getD 0 0)) (ishl .u16 (IntKind.wrap .u16 (iand .u8 (b.getD 1 0) 15)) 8)), (ior .u16 (IntKind.wrap .u16 (ishr .u8 (b.getD 1 0) 4)) (ishl .u16 (IntKind.wrap .u16 (b.getD 2 0)) 4))].getD t 0))), (49, .ls true [.int .u16] [(ior .u16 (IntKind.wrap .u16 (b.getD 0 0)) (ishl .u16 (IntKind.wrap .u16 (iand .u8 (b.getD 1 0) 15)) 8)), (ior .u16 (IntKind.wrap .u16 (ishr .u8 (b.getD 1 0) 4)) (ishl .u16 (IntKind.wrap .u16 (b.getD 2 0)) 4))]), (50, .v (.int .i64 2)), (51, .v (.int .i64 ((t : Nat) : Int))), (60, .v (.bool false))] [(0, some (.ob 60 (chain [.ar .u16 256 f3]))), (1, some (.ob 162 (chain [.cp 2 0]))), (2, some (.ob 141 (chain [.ar .u64 25 ((rdA 168 g a 504).1), .v (.int .i64 168), .v (.int .i64 ((((rdA 168 g a 504).2.1) : Nat) : Int))])))] 3 (by kernel_rfl) ⟨decide_eq_false h4, trivial⟩ rfl hS fun ac gs ws hS => ?_
          refine then_n ?_
          refine wp_cond_false (hS.fx.frm.eval rfl) ?_
          refine wp_skip ?_
          refine block_n ?_
          refine then_n ?_
          refine region_a (E := E0) mo hZ [(0, .oi ((t + 1 : Nat) : Int))] trivial (fun _ => [iadd .i64 ((t : Nat) : Int) 1 = ((t + 1 : Nat) : Int)]) [6, 7, 8, 9, 49, 50, 51] [0, 1, 2] [(6, .cp 0 0), (7, .cp 1 0), (8, .v (.int .i64 ((n3 : Nat) : Int))), (9, .ls false [.int .u8] b), (49, .ls true [.int .u16] [(ior .u16 (IntKind.wrap .u16 (b.getD 0 0)) (ishl .u16 (IntKind.wrap .u16 (iand .u8 (b.getD 1 0) 15)) 8)), (ior .u16 (IntKind.wrap .u16 (ishr .u8 (b.getD 1 0) 4)) (ishl .u16 (IntKind.wrap .u16 (b.getD 2 0)) 4))]), (50, .v (.int .i64 2)), (51, .v (.int .i64 ((t + 1 : Nat) : Int)))] [(0, some (.ob 60 (chain [.ar .u16 256 f3]))), (1, some (.ob 162 (chain [.cp 2 0]))), (2, some (.ob 141 (chain [.ar .u64 25 ((rdA 168 g a 504).1), .v (.int .i64 168), .v (.int .i64 ((((rdA 168 g a 504).2.1) : Nat) : Int))])))] 3 (by kernel_rfl) ⟨by rw [iadd64 (by omega) (by omega)]; omega, trivial⟩ rfl hS fun ac gs ws hS => ?_
          refine then_n ?_
          exact next_r hg0 hS (s := (t, f3, n3)) (t + 1, f3, n3) [(0, 0), (1, 1), (2, 2)] (by kernel_rfl) (by kernel_rfl) ⟨rfl, rfl, rfl, trivial⟩ (show 2 - (t + 1) < 2 - t from by omega) ⟨(by omega), (accs_next hs (by first | exact (acc1_y (by assumption) (by assumption)).symm | exact (acc1_n (by assumption) (by assumption)).symm | exact (acc1_z (by assumption)).symm)), trivial⟩
      · skip
        have h3 := of_decide_eq_false h
        clear h
        have hScur := hS
        obtain rfl : 2 = t := by omega
        obtain rfl : (accs [(ior .u16 (IntKind.wrap .u16 (b.getD 0 0)) (ishl .u16 (IntKind.wrap .u16 (iand .u8 (b.getD 1 0) 15)) 8)), (ior .u16 (IntKind.wrap .u16 (ishr .u8 (b.getD 1 0) 4)) (ishl .u16 (IntKind.wrap .u16 (b.getD 2 0)) 4))] (f2, n2) 2).1 = f3 := Eq.symm (congrArg (fun z => z.1) hs)
        obtain rfl : (accs [(ior .u16 (IntKind.wrap .u16 (b.getD 0 0)) (ishl .u16 (IntKind.wrap .u16 (iand .u8 (b.getD 1 0) 15)) 8)), (ior .u16 (IntKind.wrap .u16 (ishr .u8 (b.getD 1 0) 4)) (ishl .u16 (IntKind.wrap .u16 (b.getD 2 0)) 4))] (f2, n2) 2).2 = n3 := Eq.symm (congrArg (fun z => z.2) hs)
        have hS := hScur
        clear hScur
        refine wp_exit ?_
        refine then_exit ?_
        refine then_exit ?_
        refine block_exit ?_
        refine block_n ?_
        refine then_n ?_
        refine region_a (E := E0) mo hZ [] trivial (fun _ => [bndP (some 3) none none b.length b.length]) [6, 7, 8, 9] [0, 1, 2] [(6, .cp 0 0), (7, .cp 1 0), (8, .v (.int .i64 (((accs [(ior .u16 (IntKind.wrap .u16 (b.getD 0 0)) (ishl .u16 (IntKind.wrap .u16 (iand .u8 (b.getD 1 0) 15)) 8)), (ior .u16 (IntKind.wrap .u16 (ishr .u8 (b.getD 1 0) 4)) (ishl .u16 (IntKind.wrap .u16 (b.getD 2 0)) 4))] (f2, n2) 2).2 : Nat) : Int))), (9, .ls false [.int .u8] (b.drop 3))] [(0, some (.ob 60 (chain [.ar .u16 256 ((accs [(ior .u16 (IntKind.wrap .u16 (b.getD 0 0)) (ishl .u16 (IntKind.wrap .u16 (iand .u8 (b.getD 1 0) 15)) 8)), (ior .u16 (IntKind.wrap .u16 (ishr .u8 (b.getD 1 0) 4)) (ishl .u16 (IntKind.wrap .u16 (b.getD 2 0)) 4))] (f2, n2) 2).1)]))), (1, some (.ob 162 (chain [.cp 2 0]))), (2, some (.ob 141 (chain [.ar .u64 25 ((rdA 168 g a 504).1), .v (.int .i64 168), .v (.int .i64 ((((rdA 168 g a 504).2.1) : Nat) : Int))])))] 3 (by kernel_rfl) ⟨⟨by simp only [nnI] <;> omega, by simp only [nnI] <;> omega, by simp only [nnI] <;> omega, by simp, by simp only [bl] <;> omega, by simp only [bl] <;> omega, by simp only [bl] <;> omega⟩, trivial⟩ rfl hS fun ac gs ws hS => ?_
        refine then_n ?_
        exact next_r hg0 hS (s := (b, f2, n2)) (b.drop 3, (accs [(ior .u16 (IntKind.wrap .u16 (b.getD 0 0)) (ishl .u16 (IntKind.wrap .u16 (iand .u8 (b.getD 1 0) 15)) 8)), (ior .u16 (IntKind.wrap .u16 (ishr .u8 (b.getD 1 0) 4)) (ishl .u16 (IntKind.wrap .u16 (b.getD 2 0)) 4))] (f2, n2) 2).1, (accs [(ior .u16 (IntKind.wrap .u16 (b.getD 0 0)) (ishl .u16 (IntKind.wrap .u16 (iand .u8 (b.getD 1 0) 15)) 8)), (ior .u16 (IntKind.wrap .u16 (ishr .u8 (b.getD 1 0) 4)) (ishl .u16 (IntKind.wrap .u16 (b.getD 2 0)) 4))] (f2, n2) 2).2) [(0, 0), (1, 1), (2, 2)] (by kernel_rfl) (by kernel_rfl) ⟨rfl, rfl, rfl, trivial⟩ (show (b.drop 3).length < b.length from by rw [List.length_drop]; omega) ⟨(by rw [List.length_drop]; omega), (acc_nx (by omega) hc), trivial⟩
    · skip
      have h2 := of_decide_eq_false h
      clear h
      have hScur := hS
      have hn : b = [] := List.eq_nil_of_length_eq_zero (by omega)
      obtain rfl : [] = b := Eq.symm hn
      obtain rfl : (acc (rdA 168 g a 504).2.2 (f, n)).1 = f2 := Eq.symm (congrArg (fun z => z.1) ((acc_nil _).symm.trans hc))
      obtain rfl : (acc (rdA 168 g a 504).2.2 (f, n)).2 = n2 := Eq.symm (congrArg (fun z => z.2) ((acc_nil _).symm.trans hc))
      have hS := hScur
      clear hScur
      refine wp_exit ?_
      refine then_exit ?_
      refine then_exit ?_
      refine block_exit ?_
      refine block_n ?_
      refine then_n ?_
      exact next_r hg0 hS (s := (k, g, a, f, n)) (k + 1, ((rdA 168 g a 504).1), (rdA 168 g a 504).2.1, (acc (rdA 168 g a 504).2.2 (f, n)).1, (acc (rdA 168 g a 504).2.2 (f, n)).2) [(0, 0), (1, 1), (2, 2)] (by kernel_rfl) (by kernel_rfl) ⟨rfl, rfl, rfl, trivial⟩ (show uK [sd, [bi, bj]] - (k + 1) < uK [sd, [bi, bj]] - k from by omega) ⟨(uR_nx hq), (lst_next hj hnk), trivial⟩
  · skip
    have h1 := of_decide_eq_false h
    clear h
    have hScur := hS
    obtain rfl := lst_eq (P := fun k => (uR (spg 168 31 [sd, [bi, bj]]) k).2.2.2 < 256) (by rw [← hq]; simp only; omega) hj
    obtain rfl : uniform [sd, [bi, bj]] = f := Eq.symm (congrArg (fun z => z.2.2.1) hq)
    have hS := hScur
    clear hScur
    refine wp_exit ?_
    refine then_exit ?_
    refine then_exit ?_
    refine block_exit ?_
    refine then_n ?_
    refine wp_seq ?_
    refine region_a (E := E0) mo hZ [] trivial (fun _ => []) [6] [0] [(6, .cp 0 0)] [(0, some (.ob 60 (chain [.ar .u16 256 (uniform [sd, [bi, bj]])])))] 3 (by kernel_rfl) trivial rfl hS fun ac gs ws hS => ?_
    refine then_n ?_
    refine wp_ret ?_
    exact fin_x (.inr rfl) hS (ds := [.ar .u16 256 (uniform [sd, [bi, bj]])]) (by kernel_rfl) rfl trivial

end Go.Sx.Try
namespace Go.Sx.Try
open Go.Mi Go.RowKit Go.Sx Go.Proofs
theorem encode12_l2_len (f : Nat → Int) (i : Nat) (o : List Int) : ∀ k, (encode12_l2 f i o k).length = o.length
  | 0 => rfl
  | k + 1 => by
    show (encode12_l2_s f i o k (encode12_l2 f i o k)).length = o.length
    unfold encode12_l2_s
    rw [List.length_set, encode12_l2_len f i o k]
@[simp] theorem encode12_len (f : Nat → Int) : (encode12_m f).length = 384 := by
  have key : ∀ i, (encode12_l1 f i).length = 384 := by
    intro i
    induction i with
    | zero => exact List.length_replicate
    | succ i ih => exact (encode12_l2_len f i _ 12).trans ih
  rw [encode12_e]
  exact key 256
theorem encode10_l2_len (f : Nat → Int) (i : Nat) (o : List Int) : ∀ k, (encode10_l2 f i o k).length = o.length
  | 0 => rfl
  | k + 1 => by
    show (encode10_l2_s f i o k (encode10_l2 f i o k)).length = o.length
    unfold encode10_l2_s
    rw [List.length_set, encode10_l2_len f i o k]
@[simp] theorem encode10_len (f : Nat → Int) : (encode10_m f).length = 320 := by
  have key : ∀ i, (encode10_l1 f i).length = 320 := by
    intro i
    induction i with
    | zero => exact List.length_replicate
    | succ i ih => exact (encode10_l2_len f i _ 10).trans ih
  rw [encode10_e]
  exact key 256
theorem encode4_l2_len (f : Nat → Int) (i : Nat) (o : List Int) : ∀ k, (encode4_l2 f i o k).length = o.length
  | 0 => rfl
  | k + 1 => by
    show (encode4_l2_s f i o k (encode4_l2 f i o k)).length = o.length
    unfold encode4_l2_s
    rw [List.length_set, encode4_l2_len f i o k]
@[simp] theorem encode4_len (f : Nat → Int) : (encode4_m f).length = 128 := by
  have key : ∀ i, (encode4_l1 f i).length = 128 := by
    intro i
    induction i with
    | zero => exact List.length_replicate
    | succ i ih => exact (encode4_l2_len f i _ 4).trans ih
  rw [encode4_e]
  exact key 256
theorem encode1_l2_len (f : Nat → Int) (i : Nat) (o : List Int) : ∀ k, (encode1_l2 f i o k).length = o.length
  | 0 => rfl
  | k + 1 => by
    show (encode1_l2_s f i o k (encode1_l2 f i o k)).length = o.length
    unfold encode1_l2_s
    rw [List.length_set, encode1_l2_len f i o k]
@[simp] theorem encode1_len (f : Nat → Int) : (encode1_m f).length = 32 := by
  have key : ∀ i, (encode1_l1 f i).length = 32 := by
    intro i
    induction i with
    | zero => exact List.length_replicate
    | succ i ih => exact (encode1_l2_len f i _ 1).trans ih
  rw [encode1_e]
  exact key 256
noncomputable def each_ntt_l1_s (f : Nat → Int) (x6 : Nat) : (Nat → Int) → (Nat → Int) := fun o2_0 => updW o2_0 (x6 * 256) 256 (ntt_m (fun j => o2_0 (x6 * 256 + j)))
noncomputable def each_ntt_l1 (f : Nat → Int) : Nat → (Nat → Int)
  | 0 => f
  | x6 + 1 => each_ntt_l1_s f x6 (each_ntt_l1 f x6)
noncomputable def each_ntt_v (f : Nat → Int) : (Nat → Int) := each_ntt_l1 f 3
noncomputable def each_ntt_m (f : Nat → Int) : (Nat → Int) := shut (each_ntt_v f)
theorem each_ntt_e (f : Nat → Int) : each_ntt_m f = each_ntt_v f := shut_eq _
noncomputable def c_each_ntt (f : Nat → Int) : Con := ⟨[.ar .u16 768 f, .v (.func (.func 41) #[] #[])], [], .ar .u16 768 (each_ntt_m f), []⟩
set_option maxRecDepth 100000 in
set_option maxHeartbeats 4000000 in
theorem each_ntt_ok (f : Nat → Int) : ConOk Try.prog 40 (c_each_ntt f) := by
  refine conOk_of (nb := 0) Try.func40 rfl rfl Try.ntmps40 rfl rfl rfl fun g0 w0 ac gs ws hg0 hS => ?_
  refine wp_seq ?_
  refine region_a (E := E0) mo hZ [] trivial (fun _ => []) [1, 2, 4] [0, 1] [(1, .v (.func (.func 41) #[] #[])), (2, .cp 0 0), (4, .cp 1 0)] [(0, some (.ob 62 (chain [.ar .u16 768 f]))), (1, some (.ob 62 (chain [.ar .u16 768 (fun _ => 0)])))] 2 (by kernel_rfl) trivial rfl hS fun ac gs ws hS => ?_
  refine then_n ?_
  refine wp_seq ?_
  refine wp_seq ?_
  refine region_a (E := E0) mo hZ [] trivial (fun _ => []) [1, 2, 4, 6] [0, 1] [(1, .v (.func (.func 41) #[] #[])), (2, .cp 0 0), (4, .cp 1 0), (6, .v (.int .i64 0))] [(0, some (.ob 62 (chain [.ar .u16 768 f]))), (1, some (.ob 62 (chain [.ar .u16 768 (fun _ => 0)])))] 2 (by kernel_rfl) trivial rfl hS fun ac gs ws hS => ?_
  refine then_n ?_
  refine wp_block ?_
  refine loop_r (σ := Nat × (Nat → Int)) hg0 hS (fun z_ => match z_ with | (x6, o2_0) => 3 - x6) (fun z_ => match z_ with | (x6, o2_0) => [(1, .v (.func (.func 41) #[] #[])), (2, .cp 0 0), (4, .cp 1 0), (6, .v (.int .i64 ((x6 : Nat) : Int)))]) (fun z_ => match z_ with | (x6, o2_0) => [(0, .ob 62 (chain [.ar .u16 768 o2_0])), (1, .ob 62 (chain [.ar .u16 768 (fun _ => 0)]))]) (fun z_ => match z_ with | (x6, o2_0) => (x6 ≤ 3) ∧ (o2_0 = each_ntt_l1 f x6) ∧ True) 2 (0, f) [(0, 0), (1, 1)] (by kernel_rfl) (by kernel_rfl) ⟨rfl, rfl, trivial⟩ ⟨(by omega), rfl, trivial⟩ ?_
  rintro ⟨x6, o2_0⟩ ac gs ws ⟨hx6, hq1, _⟩ hS
  refine wp_seq ?_
  refine region_a (E := E0) mo hZ [] trivial (fun _ => []) [1, 2, 4, 6, 7] [0, 1] [(1, .v (.func (.func 41) #[] #[])), (2, .cp 0 0), (4, .cp 1 0), (6, .v (.int .i64 ((x6 : Nat) : Int))), (7, .v (.bool (decide (((x6 : Nat) : Int) < 3))))] [(0, some (.ob 62 (chain [.ar .u16 768 o2_0]))), (1, some (.ob 62 (chain [.ar .u16 768 (fun _ => 0)])))] 2 (by kernel_rfl) trivial rfl hS fun ac gs ws hS => ?_
  refine then_n ?_
  refine wp_seq ?_
  refine if_x hS rfl (fun h => ?_) (fun h => ?_)
  · skip
    have h1 := of_decide_eq_true h
    clear h
    refine wp_skip ?_
    refine then_n ?_
    refine wp_seq ?_
    refine wp_block ?_
    refine wp_seq ?_
    refine region_a (E := E0) mo hZ [] trivial (fun _ => []) [1, 2, 4, 5, 6] [0, 1] [(1, .v (.func (.func 41) #[] #[])), (2, .cp 0 0), (4, .cp 1 0), (5, .v (.int .i64 ((x6 : Nat) : Int))), (6, .v (.int .i64 ((x6 : Nat) : Int)))] [(0, some (.ob 62 (chain [.ar .u16 768 o2_0]))), (1, some (.ob 62 (chain [.ar .u16 768 (fun _ => 0)])))] 2 (by kernel_rfl) trivial rfl hS fun ac gs ws hS => ?_
    refine then_n ?_
    refine region_a (E := E0) mo hZ [(4, .ov (.ar .u16 256 (fun j => o2_0 (x6 * 256 + j)))), (5, .call ⟨41, (c_ntt (fun j => o2_0 (x6 * 256 + j))), [], []⟩)] ⟨ntt_ok (fun j => o2_0 (x6 * 256 + j)), trivial⟩ (fun C => [(0 : Int) ≤ ((x6 : Nat) : Int) ∧ (((x6 : Nat) : Int) : Int) < 3, (.ar .u16 256 (fun j => o2_0 (x6 * 256 + j)) : D) = (.ar .u16 256 (fun j => o2_0 (x6 * 256 + j))), ndC C 5, (0 : Int) ≤ ((x6 : Nat) : Int) ∧ (((x6 : Nat) : Int) : Int) < 3]) [1, 2, 4, 6] [0, 1] [(1, .v (.func (.func 41) #[] #[])), (2, .cp 0 0), (4, .cp 1 0), (6, .v (.int .i64 ((x6 : Nat) : Int)))] [(0, some (.ob 62 (chain [.ar .u16 768 (updW o2_0 (x6 * 256) 256 (ntt_m (fun j => o2_0 (x6 * 256 + j))))]))), (1, some (.ob 62 (chain [.ar .u16 768 (fun _ => 0)])))] 2 (by kernel_rfl) ⟨by omega, rfl, rfl, by omega, trivial⟩ rfl hS fun ac gs ws hS => ?_
    refine block_n ?_
    refine then_n ?_
    refine region_a (E := E0) mo hZ [(0, .oi ((x6 + 1 : Nat) : Int))] trivial (fun _ => [iadd .i64 ((x6 : Nat) : Int) 1 = ((x6 + 1 : Nat) : Int)]) [1, 2, 4, 6] [0, 1] [(1, .v (.func (.func 41) #[] #[])), (2, .cp 0 0), (4, .cp 1 0), (6, .v (.int .i64 ((x6 + 1 : Nat) : Int)))] [(0, some (.ob 62 (chain [.ar .u16 768 (updW o2_0 (x6 * 256) 256 (ntt_m (fun j => o2_0 (x6 * 256 + j))))]))), (1, some (.ob 62 (chain [.ar .u16 768 (fun _ => 0)])))] 2 (by kernel_rfl) ⟨by rw [iadd64 (by omega) (by omega)]; omega, trivial⟩ rfl hS fun ac gs ws hS => ?_
    refine then_n ?_
    exact next_r hg0 hS (s := (x6, o2_0)) (x6 + 1, updW o2_0 (x6 * 256) 256 (ntt_m (fun j => o2_0 (x6 * 256 + j)))) [(0, 0), (1, 1)] (by kernel_rfl) (by kernel_rfl) ⟨rfl, rfl, trivial⟩ (show 3 - (x6 + 1) < 3 - x6 from by omega) ⟨(by omega), (it_next (F := each_ntt_l1 f) (st := each_ntt_l1_s f) (fun _ => rfl) hq1 rfl), trivial⟩
  · skip
    have h1 := of_decide_eq_false h
    clear h
    have hScur := hS
    obtain rfl : 3 = x6 := by omega
    obtain rfl : each_ntt_l1 f 3 = o2_0 := Eq.symm (congrArg (fun z => z) hq1)
    have hS := hScur
    clear hScur
    refine wp_exit ?_
    refine then_exit ?_
    refine then_exit ?_
    refine block_exit ?_
    refine then_n ?_
    refine wp_seq ?_
    refine region_a (E := E0) mo hZ [] trivial (fun _ => []) [4] [1] [(4, .cp 1 0)] [(1, some (.ob 62 (chain [.ar .u16 768 (each_ntt_l1 f 3)])))] 2 (by kernel_rfl) trivial rfl hS fun ac gs ws hS => ?_
    refine then_n ?_
    refine wp_ret ?_
    have hM : each_ntt_m f = each_ntt_l1 f 3 := each_ntt_e f
    exact fin_x (.inr rfl) hS (ds := [.ar .u16 768 (each_ntt_l1 f 3)]) (by kernel_rfl) (by show weak _ (.ar .u16 768 (each_ntt_m f)) = (.ar .u16 768 (each_ntt_m f)); rw [hM]; first | (simp only []; rfl) | (simp only []; done) | rfl) trivial

noncomputable def with_mul_l1_s (f : Nat → Int) (g : Nat → Int) (x8 : Nat) : (Nat → Int) → (Nat → Int) := fun o3_0 => updW o3_0 (x8 * 256) 256 (mul_m (fun j => o3_0 (x8 * 256 + j)) (fun j => g (x8 * 256 + j)))
noncomputable def with_mul_l1 (f : Nat → Int) (g : Nat → Int) : Nat → (Nat → Int)
  | 0 => f
  | x8 + 1 => with_mul_l1_s f g x8 (with_mul_l1 f g x8)
noncomputable def with_mul_v (f : Nat → Int) (g : Nat → Int) : (Nat → Int) := with_mul_l1 f g 3
noncomputable def with_mul_m (f : Nat → Int) (g : Nat → Int) : (Nat → Int) := shut (with_mul_v f g)
theorem with_mul_e (f : Nat → Int) (g : Nat → Int) : with_mul_m f g = with_mul_v f g := shut_eq _
noncomputable def c_with_mul (f : Nat → Int) (g : Nat → Int) : Con := ⟨[.ar .u16 768 f, .ar .u16 768 g, .v (.func (.func 74) #[] #[])], [], .ar .u16 768 (with_mul_m f g), []⟩
set_option maxRecDepth 100000 in
set_option maxHeartbeats 4000000 in
theorem with_mul_ok (f : Nat → Int) (g : Nat → Int) : ConOk Try.prog 73 (c_with_mul f g) := by
  refine conOk_of (nb := 0) Try.func73 rfl rfl Try.ntmps73 rfl rfl rfl fun g0 w0 ac gs ws hg0 hS => ?_
  refine wp_seq ?_
  refine region_a (E := E0) mo hZ [] trivial (fun _ => []) [2, 3, 4, 6] [0, 1, 2] [(2, .v (.func (.func 74) #[] #[])), (3, .cp 0 0), (4, .cp 1 0), (6, .cp 2 0)] [(0, some (.ob 62 (chain [.ar .u16 768 f]))), (1, some (.ob 62 (chain [.ar .u16 768 g]))), (2, some (.ob 62 (chain [.ar .u16 768 (fun _ => 0)])))] 3 (by kernel_rfl) trivial rfl hS fun ac gs ws hS => ?_
  refine then_n ?_
  refine wp_seq ?_
  refine wp_seq ?_
  refine region_a (E := E0) mo hZ [] trivial (fun _ => []) [2, 3, 4, 6, 8] [0, 1, 2] [(2, .v (.func (.func 74) #[] #[])), (3, .cp 0 0), (4, .cp 1 0), (6, .cp 2 0), (8, .v (.int .i64 0))] [(0, some (.ob 62 (chain [.ar .u16 768 f]))), (1, some (.ob 62 (chain [.ar .u16 768 g]))), (2, some (.ob 62 (chain [.ar .u16 768 (fun _ => 0)])))] 3 (by kernel_rfl) trivial rfl hS fun ac gs ws hS => ?_
  refine then_n ?_
  refine wp_block ?_
  refine loop_r (σ := Nat × (Nat → Int)) hg0 hS (fun z_ => match z_ with | (x8, o3_0) => 3 - x8) (fun z_ => match z_ with | (x8, o3_0) => [(2, .v (.func (.func 74) #[] #[])), (3, .cp 0 0), (4, .cp 1 0), (6, .cp 2 0), (8, .v (.int .i64 ((x8 : Nat) : Int)))]) (fun z_ => match z_ with | (x8, o3_0) => [(0, .ob 62 (chain [.ar .u16 768 o3_0])), (1, .ob 62 (chain [.ar .u16 768 g])), (2, .ob 62 (chain [.ar .u16 768 (fun _ => 0)]))]) (fun z_ => match z_ with | (x8, o3_0) => (x8 ≤ 3) ∧ (o3_0 = with_mul_l1 f g x8) ∧ True) 3 (0, f) [(0, 0), (1, 1), (2, 2)] (by kernel_rfl) (by kernel_rfl) ⟨rfl, rfl, rfl, trivial⟩ ⟨(by omega), rfl, trivial⟩ ?_
  rintro ⟨x8, o3_0⟩ ac gs ws ⟨hx8, hq1, _⟩ hS
  refine wp_seq ?_
  refine region_a (E := E0) mo hZ [] trivial (fun _ => []) [2, 3, 4, 6, 8, 9] [0, 1, 2] [(2, .v (.func (.func 74) #[] #[])), (3, .cp 0 0), (4, .cp 1 0), (6, .cp 2 0), (8, .v (.int .i64 ((x8 : Nat) : Int))), (9, .v (.bool (decide (((x8 : Nat) : Int) < 3))))] [(0, some (.ob 62 (chain [.ar .u16 768 o3_0]))), (1, some (.ob 62 (chain [.ar .u16 768 g]))), (2, some (.ob 62 (chain [.ar .u16 768 (fun _ => 0)])))] 3 (by kernel_rfl) trivial rfl hS fun ac gs ws hS => ?_
  refine then_n ?_
  refine wp_seq ?_
  refine if_x hS rfl (fun h => ?_) (fun h => ?_)
  · skip
    have h1 := of_decide_eq_true h
    clear h
    refine wp_skip ?_
    refine then_n ?_
    refine wp_seq ?_
    refine wp_block ?_
    refine wp_seq ?_
    refine region_a (E := E0) mo hZ [] trivial (fun _ => []) [2, 3, 4, 6, 7, 8] [0, 1, 2] [(2, .v (.func (.func 74) #[] #[])), (3, .cp 0 0), (4, .cp 1 0), (6, .cp 2 0), (7, .v (.int .i64 ((x8 : Nat) : Int))), (8, .v (.int .i64 ((x8 : Nat) : Int)))] [(0, some (.ob 62 (chain [.ar .u16 768 o3_0]))), (1, some (.ob 62 (chain [.ar .u16 768 g]))), (2, some (.ob 62 (chain [.ar .u16 768 (fun _ => 0)])))] 3 (by kernel_rfl) trivial rfl hS fun ac gs ws hS => ?_
    refine then_n ?_
    refine region_a (E := E0) mo hZ [(4, .ov (.ar .u16 256 (fun j => o3_0 (x8 * 256 + j)))), (7, .ov (.ar .u16 256 (fun j => g (x8 * 256 + j)))), (8, .call ⟨74, (c_mul (fun j => o3_0 (x8 * 256 + j)) (fun j => g (x8 * 256 + j))), [], []⟩)] ⟨mul_ok (fun j => o3_0 (x8 * 256 + j)) (fun j => g (x8 * 256 + j)), trivial⟩ (fun _ => [(0 : Int) ≤ ((x8 : Nat) : Int) ∧ (((x8 : Nat) : Int) : Int) < 3, (.ar .u16 256 (fun j => o3_0 (x8 * 256 + j)) : D) = (.ar .u16 256 (fun j => o3_0 (x8 * 256 + j))), (0 : Int) ≤ ((x8 : Nat) : Int) ∧ (((x8 : Nat) : Int) : Int) < 3, (.ar .u16 256 (fun j => g (x8 * 256 + j)) : D) = (.ar .u16 256 (fun j => g (x8 * 256 + j))), nd [.ar .u16 256 (fun j => o3_0 (x8 * 256 + j)), .ar .u16 256 (fun j => g (x8 * 256 + j))] [], (0 : Int) ≤ ((x8 : Nat) : Int) ∧ (((x8 : Nat) : Int) : Int) < 3]) [2, 3, 4, 6, 8] [0, 1, 2] [(2, .v (.func (.func 74) #[] #[])), (3, .cp 0 0), (4, .cp 1 0), (6, .cp 2 0), (8, .v (.int .i64 ((x8 : Nat) : Int)))] [(0, some (.ob 62 (chain [.ar .u16 768 (updW o3_0 (x8 * 256) 256 (mul_m (fun j => o3_0 (x8 * 256 + j)) (fun j => g (x8 * 256 + j))))]))), (1, some (.ob 62 (chain [.ar .u16 768 g]))), (2, some (.ob 62 (chain [.ar .u16 768 (fun _ => 0)])))] 3 (by kernel_rfl) ⟨by omega, rfl, by omega, rfl, rfl, by omega, trivial⟩ rfl hS fun ac gs ws hS => ?_
    refine block_n ?_
    refine then_n ?_
    refine region_a (E := E0) mo hZ [(0, .oi ((x8 + 1 : Nat) : Int))] trivial (fun _ => [iadd .i64 ((x8 : Nat) : Int) 1 = ((x8 + 1 : Nat) : Int)]) [2, 3, 4, 6, 8] [0, 1, 2] [(2, .v (.func (.func 74) #[] #[])), (3, .cp 0 0), (4, .cp 1 0), (6, .cp 2 0), (8, .v (.int .i64 ((x8 + 1 : Nat) : Int)))] [(0, some (.ob 62 (chain [.ar .u16 768 (updW o3_0 (x8 * 256) 256 (mul_m (fun j => o3_0 (x8 * 256 + j)) (fun j => g (x8 * 256 + j))))]))), (1, some (.ob 62 (chain [.ar .u16 768 g]))), (2, some (.ob 62 (chain [.ar .u16 768 (fun _ => 0)])))] 3 (by kernel_rfl) ⟨by rw [iadd64 (by omega) (by omega)]; omega, trivial⟩ rfl hS fun ac gs ws hS => ?_
    refine then_n ?_
    exact next_r hg0 hS (s := (x8, o3_0)) (x8 + 1, updW o3_0 (x8 * 256) 256 (mul_m (fun j => o3_0 (x8 * 256 + j)) (fun j => g (x8 * 256 + j)))) [(0, 0), (1, 1), (2, 2)] (by kernel_rfl) (by kernel_rfl) ⟨rfl, rfl, rfl, trivial⟩ (show 3 - (x8 + 1) < 3 - x8 from by omega) ⟨(by omega), (it_next (F := with_mul_l1 f g) (st := with_mul_l1_s f g) (fun _ => rfl) hq1 rfl), trivial⟩
  · skip
    have h1 := of_decide_eq_false h
    clear h
    have hScur := hS
    obtain rfl : 3 = x8 := by omega
    obtain rfl : with_mul_l1 f g 3 = o3_0 := Eq.symm (congrArg (fun z => z) hq1)
    have hS := hScur
    clear hScur
    refine wp_exit ?_
    refine then_exit ?_
    refine then_exit ?_
    refine block_exit ?_
    refine then_n ?_
    refine wp_seq ?_
    refine region_a (E := E0) mo hZ [] trivial (fun _ => []) [6] [2] [(6, .cp 2 0)] [(2, some (.ob 62 (chain [.ar .u16 768 (with_mul_l1 f g 3)])))] 3 (by kernel_rfl) trivial rfl hS fun ac gs ws hS => ?_
    refine then_n ?_
    refine wp_ret ?_
    have hM : with_mul_m f g = with_mul_l1 f g 3 := with_mul_e f g
    exact fin_x (.inr rfl) hS (ds := [.ar .u16 768 (with_mul_l1 f g 3)]) (by kernel_rfl) (by show weak _ (.ar .u16 768 (with_mul_m f g)) = (.ar .u16 768 (with_mul_m f g)); rw [hM]; first | (simp only []; rfl) | (simp only []; done) | rfl) trivial

noncomputable def dot_l1_s (f : Nat → Int) (g : Nat → Int) (x10 : Nat) : (Nat → Int) → (Nat → Int) := fun o4_0 => add_m o4_0 (fun j => (with_mul_m f g) (x10 * 256 + j))
noncomputable def dot_l1 (f : Nat → Int) (g : Nat → Int) : Nat → (Nat → Int)
  | 0 => fun _ => 0
  | x10 + 1 => dot_l1_s f g x10 (dot_l1 f g x10)
noncomputable def dot_v (f : Nat → Int) (g : Nat → Int) : (Nat → Int) := dot_l1 f g 3
noncomputable def dot_m (f : Nat → Int) (g : Nat → Int) : (Nat → Int) := shut (dot_v f g)
theorem dot_e (f : Nat → Int) (g : Nat → Int) : dot_m f g = dot_v f g := shut_eq _
noncomputable def c_dot (f : Nat → Int) (g : Nat → Int) : Con := ⟨[.ar .u16 768 f, .ar .u16 768 g], [], .ar .u16 256 (dot_m f g), []⟩
set_option maxRecDepth 100000 in
set_option maxHeartbeats 4000000 in
theorem dot_ok (f : Nat → Int) (g : Nat → Int) : ConOk Try.prog 44 (c_dot f g) := by
  refine conOk_of (nb := 0) Try.func44 rfl rfl Try.ntmps44 rfl rfl rfl fun g0 w0 ac gs ws hg0 hS => ?_
  refine wp_seq ?_
  refine region_a (E := E0) mo hZ [] trivial (fun _ => []) [2, 3, 4] [0, 1, 2] [(2, .cp 0 0), (3, .cp 1 0), (4, .cp 2 0)] [(0, some (.ob 62 (chain [.ar .u16 768 f]))), (1, some (.ob 62 (chain [.ar .u16 768 g]))), (2, some (.ob 60 (chain [.ar .u16 256 (fun _ => 0)])))] 3 (by kernel_rfl) trivial rfl hS fun ac gs ws hS => ?_
  refine then_n ?_
  refine wp_seq ?_
  refine wp_seq ?_
  refine region_a (E := E0) mo hZ [(0, .ov (.ar .u16 768 f)), (1, .ov (.ar .u16 768 g)), (2, .call ⟨73, (c_with_mul f g), [], []⟩)] ⟨with_mul_ok f g, trivial⟩ (fun _ => [(.ar .u16 768 f : D) = (.ar .u16 768 f), (.ar .u16 768 g : D) = (.ar .u16 768 g), nd [.ar .u16 768 f, .ar .u16 768 g, .v (.func (.func 74) #[] #[])] []]) [4, 9, 10] [2] [(4, .cp 2 0), (9, .ar .u16 768 (with_mul_m f g)), (10, .v (.int .i64 0))] [(2, some (.ob 60 (chain [.ar .u16 256 (fun _ => 0)])))] 3 (by kernel_rfl) ⟨rfl, rfl, rfl, trivial⟩ rfl hS fun ac gs ws hS => ?_
  refine then_n ?_
  refine wp_block ?_
  refine loop_r (σ := Nat × (Nat → Int)) hg0 hS (fun z_ => match z_ with | (x10, o4_0) => 3 - x10) (fun z_ => match z_ with | (x10, o4_0) => [(4, .cp 2 0), (9, .ar .u16 768 (with_mul_m f g)), (10, .v (.int .i64 ((x10 : Nat) : Int)))]) (fun z_ => match z_ with | (x10, o4_0) => [(2, .ob 60 (chain [.ar .u16 256 o4_0]))]) (fun z_ => match z_ with | (x10, o4_0) => (x10 ≤ 3) ∧ (o4_0 = dot_l1 f g x10) ∧ True) 3 (0, fun _ => 0) [(2, 2)] (by kernel_rfl) (by kernel_rfl) ⟨rfl, trivial⟩ ⟨(by omega), rfl, trivial⟩ ?_
  rintro ⟨x10, o4_0⟩ ac gs ws ⟨hx10, hq1, _⟩ hS
  refine wp_seq ?_
  refine region_a (E := E0) mo hZ [] trivial (fun _ => []) [4, 9, 10, 11] [2] [(4, .cp 2 0), (9, .ar .u16 768 (with_mul_m f g)), (10, .v (.int .i64 ((x10 : Nat) : Int))), (11, .v (.bool (decide (((x10 : Nat) : Int) < 3))))] [(2, some (.ob 60 (chain [.ar .u16 256 o4_0])))] 3 (by kernel_rfl) trivial rfl hS fun ac gs ws hS => ?_
  refine then_n ?_
  refine wp_seq ?_
  refine if_x hS rfl (fun h => ?_) (fun h => ?_)
  · skip
    have h1 := of_decide_eq_true h
    clear h
    refine wp_skip ?_
    refine then_n ?_
    refine wp_seq ?_
    refine wp_block ?_
    refine wp_seq ?_
    refine region_a (E := E0) mo hZ [] trivial (fun _ => [(0 : Int) ≤ ((x10 : Nat) : Int) ∧ (((x10 : Nat) : Int) : Int) < 3]) [4, 6, 9, 10] [2, 3] [(4, .cp 2 0), (6, .cp 3 0), (9, .ar .u16 768 (with_mul_m f g)), (10, .v (.int .i64 ((x10 : Nat) : Int)))] [(2, some (.ob 60 (chain [.ar .u16 256 o4_0]))), (3, some (.ob 60 (chain [.ar .u16 256 (fun j => (with_mul_m f g) (x10 * 256 + j))])))] 4 (by kernel_rfl) ⟨by omega, trivial⟩ rfl hS fun ac gs ws hS => ?_
    refine then_n ?_
    refine region_a (E := E0) mo hZ [(0, .ov (.ar .u16 256 o4_0)), (1, .ov (.ar .u16 256 (fun j => (with_mul_m f g) (x10 * 256 + j)))), (2, .call ⟨42, (c_add o4_0 (fun j => (with_mul_m f g) (x10 * 256 + j))), [], []⟩)] ⟨add_ok o4_0 (fun j => (with_mul_m f g) (x10 * 256 + j)), trivial⟩ (fun _ => [(.ar .u16 256 o4_0 : D) = (.ar .u16 256 o4_0), (.ar .u16 256 (fun j => (with_mul_m f g) (x10 * 256 + j)) : D) = (.ar .u16 256 (fun j => (with_mul_m f g) (x10 * 256 + j))), nd [.ar .u16 256 o4_0, .ar .u16 256 (fun j => (with_mul_m f g) (x10 * 256 + j))] []]) [4, 9, 10] [2] [(4, .cp 2 0), (9, .ar .u16 768 (with_mul_m f g)), (10, .v (.int .i64 ((x10 : Nat) : Int)))] [(2, some (.ob 60 (chain [.ar .u16 256 (add_m o4_0 (fun j => (with_mul_m f g) (x10 * 256 + j)))])))] 4 (by kernel_rfl) ⟨rfl, rfl, rfl, trivial⟩ rfl hS fun ac gs ws hS => ?_
    refine block_n ?_
    refine then_n ?_
    refine region_a (E := E0) mo hZ [(0, .oi ((x10 + 1 : Nat) : Int))] trivial (fun _ => [iadd .i64 ((x10 : Nat) : Int) 1 = ((x10 + 1 : Nat) : Int)]) [4, 9, 10] [2] [(4, .cp 2 0), (9, .ar .u16 768 (with_mul_m f g)), (10, .v (.int .i64 ((x10 + 1 : Nat) : Int)))] [(2, some (.ob 60 (chain [.ar .u16 256 (add_m o4_0 (fun j => (with_mul_m f g) (x10 * 256 + j)))])))] 4 (by kernel_rfl) ⟨by rw [iadd64 (by omega) (by omega)]; omega, trivial⟩ rfl hS fun ac gs ws hS => ?_
    refine then_n ?_
    exact next_r hg0 hS (s := (x10, o4_0)) (x10 + 1, add_m o4_0 (fun j => (with_mul_m f g) (x10 * 256 + j))) [(2, 2)] (by kernel_rfl) (by kernel_rfl) ⟨rfl, trivial⟩ (show 3 - (x10 + 1) < 3 - x10 from by omega) ⟨(by omega), (it_next (F := dot_l1 f g) (st := dot_l1_s f g) (fun _ => rfl) hq1 rfl), trivial⟩
  · skip
    have h1 := of_decide_eq_false h
    clear h
    have hScur := hS
    obtain rfl : 3 = x10 := by omega
    obtain rfl : dot_l1 f g 3 = o4_0 := Eq.symm (congrArg (fun z => z) hq1)
    have hS := hScur
    clear hScur
    refine wp_exit ?_
    refine then_exit ?_
    refine then_exit ?_
    refine block_exit ?_
    refine then_n ?_
    refine wp_seq ?_
    refine region_a (E := E0) mo hZ [] trivial (fun _ => []) [4] [2] [(4, .cp 2 0)] [(2, some (.ob 60 (chain [.ar .u16 256 (dot_l1 f g 3)])))] 3 (by kernel_rfl) trivial rfl hS fun ac gs ws hS => ?_
    refine then_n ?_
    refine wp_ret ?_
    have hM : dot_m f g = dot_l1 f g 3 := dot_e f g
    exact fin_x (.inr rfl) hS (ds := [.ar .u16 256 (dot_l1 f g 3)]) (by kernel_rfl) (by show weak _ (.ar .u16 256 (dot_m f g)) = (.ar .u16 256 (dot_m f g)); rw [hM]; first | (simp only []; rfl) | (simp only []; done) | rfl) trivial

noncomputable def rbytes_l1_s (f : Nat → Int) (x8 : Nat) : (List Int) → (List Int) := fun x2 => x2 ++ (encode12_m (fun j => f (x8 * 256 + j)))
noncomputable def rbytes_l1 (f : Nat → Int) : Nat → (List Int)
  | 0 => []
  | x8 + 1 => rbytes_l1_s f x8 (rbytes_l1 f x8)
noncomputable def rbytes_v (f : Nat → Int) : (List Int) := rbytes_l1 f 3
noncomputable def rbytes_m (f : Nat → Int) : (List Int) := shut (rbytes_v f)
theorem rbytes_e (f : Nat → Int) : rbytes_m f = rbytes_v f := shut_eq _
noncomputable def c_rbytes (f : Nat → Int) : Con := ⟨[.ar .u16 768 f], [], .ls false [.int .u8] (rbytes_m f), []⟩
set_option maxRecDepth 100000 in
set_option maxHeartbeats 4000000 in
theorem rbytes_ok (f : Nat → Int) : ConOk Try.prog 46 (c_rbytes f) := by
  refine conOk_of (nb := 0) Try.func46 rfl rfl Try.ntmps46 rfl rfl rfl fun g0 w0 ac gs ws hg0 hS => ?_
  refine wp_seq ?_
  refine region_a (E := E0) mo hZ [] trivial (fun _ => []) [1, 2] [0] [(1, .cp 0 0), (2, .v (.slice none 0 0))] [(0, some (.ob 62 (chain [.ar .u16 768 f])))] 1 (by kernel_rfl) trivial rfl hS fun ac gs ws hS => ?_
  refine then_n ?_
  refine wp_seq ?_
  refine wp_seq ?_
  refine region_a (E := E0) mo hZ [] trivial (fun _ => []) [2, 7, 8] [] [(2, .v (.slice none 0 0)), (7, .ar .u16 768 f), (8, .v (.int .i64 0))] [] 1 (by kernel_rfl) trivial rfl hS fun ac gs ws hS => ?_
  refine then_n ?_
  refine wp_block ?_
  obtain ⟨gs, hS⟩ := hS.nilk 2 5 [.int .u8] rfl (L' := [(2, .sk 1), (7, .ar .u16 768 f), (8, .v (.int .i64 0))]) (H' := [(1, some (.sl 5 [.int .u8] []))]) (by kernel_rfl) (by kernel_rfl)
  refine loop_r (σ := Nat × (List Int)) hg0 hS (fun z_ => match z_ with | (x8, x2) => 3 - x8) (fun z_ => match z_ with | (x8, x2) => [(2, .sk 1), (7, .ar .u16 768 f), (8, .v (.int .i64 ((x8 : Nat) : Int)))]) (fun z_ => match z_ with | (x8, x2) => [(1, .sl 5 [.int .u8] x2)]) (fun z_ => match z_ with | (x8, x2) => (x8 ≤ 3) ∧ (x2 = rbytes_l1 f x8) ∧ (x2.length = 384 * x8) ∧ True) 2 (0, []) [(1, 1)] (by kernel_rfl) (by kernel_rfl) ⟨rfl, trivial⟩ ⟨(by omega), rfl, rfl, trivial⟩ ?_
  rintro ⟨x8, x2⟩ ac gs ws ⟨hx8, hq1, p1, _⟩ hS
  refine wp_seq ?_
  refine region_a (E := E0) mo hZ [] trivial (fun _ => []) [2, 7, 8, 9] [1] [(2, .sk 1), (7, .ar .u16 768 f), (8, .v (.int .i64 ((x8 : Nat) : Int))), (9, .v (.bool (decide (((x8 : Nat) : Int) < 3))))] [(1, some (.sl 5 [.int .u8] x2))] 2 (by kernel_rfl) trivial rfl hS fun ac gs ws hS => ?_
  refine then_n ?_
  refine wp_seq ?_
  refine if_x hS rfl (fun h => ?_) (fun h => ?_)
  · skip
    have h1 := of_decide_eq_true h
    clear h
    refine wp_skip ?_
    refine then_n ?_
    refine wp_seq ?_
    refine wp_block ?_
    refine wp_seq ?_
    refine region_a (E := E0) mo hZ [] trivial (fun _ => [(0 : Int) ≤ ((x8 : Nat) : Int) ∧ (((x8 : Nat) : Int) : Int) < 3]) [2, 4, 7, 8] [1, 2] [(2, .sk 1), (4, .cp 2 0), (7, .ar .u16 768 f), (8, .v (.int .i64 ((x8 : Nat) : Int)))] [(1, some (.sl 5 [.int .u8] x2)), (2, some (.ob 60 (chain [.ar .u16 256 (fun j => f (x8 * 256 + j))])))] 3 (by kernel_rfl) ⟨by omega, trivial⟩ rfl hS fun ac gs ws hS => ?_
    refine then_n ?_
    refine wp_seq ?_
    refine region_a (E := E0) mo hZ [(0, .ov (.ar .u16 256 (fun j => f (x8 * 256 + j)))), (1, .call ⟨76, (c_encode12 (fun j => f (x8 * 256 + j))), [], [(0, 3)]⟩)] ⟨encode12_ok (fun j => f (x8 * 256 + j)), trivial⟩ (fun _ => [(.ar .u16 256 (fun j => f (x8 * 256 + j)) : D) = (.ar .u16 256 (fun j => f (x8 * 256 + j))), nd [.ar .u16 256 (fun j => f (x8 * 256 + j)), .v (.int .i64 12)] []]) [2, 5, 7, 8] [1, 3] [(2, .sk 1), (5, .sk 3), (7, .ar .u16 768 f), (8, .v (.int .i64 ((x8 : Nat) : Int)))] [(1, some (.sl 5 [.int .u8] x2)), (3, some (.sl 5 [.int .u8] (encode12_m (fun j => f (x8 * 256 + j)))))] 4 (by kernel_rfl) ⟨rfl, rfl, trivial⟩ rfl hS fun ac gs ws hS => ?_
    have hl := encode12_len (fun j => f (x8 * 256 + j))
    refine then_n ?_
    refine region_a (E := E0) mo hZ [] trivial (fun _ => [x2.length + (encode12_m (fun j => f (x8 * 256 + j))).length ≤ 9223372036854775807, (x2.length + (encode12_m (fun j => f (x8 * 256 + j))).length) * 1 ≤ 140737488355328]) [2, 7, 8] [4] [(2, .sk 4), (7, .ar .u16 768 f), (8, .v (.int .i64 ((x8 : Nat) : Int)))] [(4, some (.sl 5 [.int .u8] (x2 ++ (encode12_m (fun j => f (x8 * 256 + j))))))] 5 (by kernel_rfl) ⟨by omega, by omega, trivial⟩ rfl hS fun ac gs ws hS => ?_
    refine block_n ?_
    refine then_n ?_
    refine region_a (E := E0) mo hZ [(0, .oi ((x8 + 1 : Nat) : Int))] trivial (fun _ => [iadd .i64 ((x8 : Nat) : Int) 1 = ((x8 + 1 : Nat) : Int)]) [2, 7, 8] [4] [(2, .sk 4), (7, .ar .u16 768 f), (8, .v (.int .i64 ((x8 + 1 : Nat) : Int)))] [(4, some (.sl 5 [.int .u8] (x2 ++ (encode12_m (fun j => f (x8 * 256 + j))))))] 5 (by kernel_rfl) ⟨by rw [iadd64 (by omega) (by omega)]; omega, trivial⟩ rfl hS fun ac gs ws hS => ?_
    refine then_n ?_
    exact next_r hg0 hS (s := (x8, x2)) (x8 + 1, x2 ++ (encode12_m (fun j => f (x8 * 256 + j)))) [(1, 4)] (by kernel_rfl) (by kernel_rfl) ⟨rfl, trivial⟩ (show 3 - (x8 + 1) < 3 - x8 from by omega) ⟨(by omega), (it_next (F := rbytes_l1 f) (st := rbytes_l1_s f) (fun _ => rfl) hq1 rfl), (by rw [List.length_append, encode12_len, p1]; omega), trivial⟩
  · skip
    have h1 := of_decide_eq_false h
    clear h
    have hScur := hS
    obtain rfl : 3 = x8 := by omega
    obtain rfl : rbytes_l1 f 3 = x2 := Eq.symm (congrArg (fun z => z) hq1)
    have hS := hScur
    clear hScur
    refine wp_exit ?_
    refine then_exit ?_
    refine then_exit ?_
    refine block_exit ?_
    refine then_n ?_
    refine wp_seq ?_
    refine region_a (E := E0) mo hZ [] trivial (fun _ => []) [2] [1] [(2, .sk 1)] [(1, some (.sl 5 [.int .u8] (rbytes_l1 f 3)))] 2 (by kernel_rfl) trivial rfl hS fun ac gs ws hS => ?_
    refine then_n ?_
    refine wp_ret ?_
    have hM : rbytes_m f = rbytes_l1 f 3 := rbytes_e f
    obtain ⟨gs, hS⟩ := hS.frz 1 false (by nofun) rfl (L' := [(2, .ls false [.int .u8] (rbytes_l1 f 3))]) (H' := [(1, none), (1, some (.sl 5 [.int .u8] (rbytes_l1 f 3)))]) (by kernel_rfl) (by kernel_rfl)
    exact fin_x (.inr rfl) hS (ds := [.ls false [.int .u8] (rbytes_l1 f 3)]) (by kernel_rfl) (by show weak _ (.ls false [.int .u8] (rbytes_m f)) = (.ls false [.int .u8] (rbytes_m f)); rw [hM]; first | (simp only []; rfl) | (simp only []; done) | rfl) trivial

noncomputable def rowof_l1_s (xs : List Int) (x4 : Nat) : (Nat → Int) → (Nat → Int) := fun o2_0 => updW o2_0 (x4 * 256) 256 (unpack12_m (xs.drop (384 * x4)))
noncomputable def rowof_l1 (xs : List Int) : Nat → (Nat → Int)
  | 0 => fun _ => 0
  | x4 + 1 => rowof_l1_s xs x4 (rowof_l1 xs x4)
noncomputable def rowof_v (xs : List Int) : (Nat → Int) := rowof_l1 xs 3
noncomputable def rowof_m (xs : List Int) : (Nat → Int) := shut (rowof_v xs)
theorem rowof_e (xs : List Int) : rowof_m xs = rowof_v xs := shut_eq _
noncomputable def c_rowof (xs : List Int) : Con := ⟨[.ls false [.int .u8] xs], [], .ar .u16 768 (rowof_m xs), []⟩
set_option maxRecDepth 100000 in
set_option maxHeartbeats 4000000 in
theorem rowof_ok (xs : List Int) (h : 1152 ≤ xs.length) : ConOk Try.prog 33 (c_rowof xs) := by
  refine conOk_of (nb := 0) Try.func33 rfl rfl Try.ntmps33 rfl rfl rfl fun g0 w0 ac gs ws hg0 hS => ?_
  have hlen0 : xs.length ≤ 9223372036854775807 := hS.len 0 rfl
  refine wp_seq ?_
  refine region_a (E := E0) mo hZ [] trivial (fun _ => []) [0, 2] [0] [(0, .ls false [.int .u8] xs), (2, .cp 0 0)] [(0, some (.ob 62 (chain [.ar .u16 768 (fun _ => 0)])))] 1 (by kernel_rfl) trivial rfl hS fun ac gs ws hS => ?_
  refine then_n ?_
  refine wp_seq ?_
  refine wp_seq ?_
  refine region_a (E := E0) mo hZ [] trivial (fun _ => []) [0, 2, 4] [0] [(0, .ls false [.int .u8] xs), (2, .cp 0 0), (4, .v (.int .i64 0))] [(0, some (.ob 62 (chain [.ar .u16 768 (fun _ => 0)])))] 1 (by kernel_rfl) trivial rfl hS fun ac gs ws hS => ?_
  refine then_n ?_
  refine wp_block ?_
  refine loop_r (σ := Nat × (Nat → Int)) hg0 hS (fun z_ => match z_ with | (x4, o2_0) => 3 - x4) (fun z_ => match z_ with | (x4, o2_0) => [(0, .ls false [.int .u8] xs), (2, .cp 0 0), (4, .v (.int .i64 ((x4 : Nat) : Int)))]) (fun z_ => match z_ with | (x4, o2_0) => [(0, .ob 62 (chain [.ar .u16 768 o2_0]))]) (fun z_ => match z_ with | (x4, o2_0) => (x4 ≤ 3) ∧ (o2_0 = rowof_l1 xs x4) ∧ True) 1 (0, fun _ => 0) [(0, 0)] (by kernel_rfl) (by kernel_rfl) ⟨rfl, trivial⟩ ⟨(by omega), rfl, trivial⟩ ?_
  rintro ⟨x4, o2_0⟩ ac gs ws ⟨hx4, hq1, _⟩ hS
  refine wp_seq ?_
  refine region_a (E := E0) mo hZ [] trivial (fun _ => []) [0, 2, 4, 5] [0] [(0, .ls false [.int .u8] xs), (2, .cp 0 0), (4, .v (.int .i64 ((x4 : Nat) : Int))), (5, .v (.bool (decide (((x4 : Nat) : Int) < 3))))] [(0, some (.ob 62 (chain [.ar .u16 768 o2_0])))] 1 (by kernel_rfl) trivial rfl hS fun ac gs ws hS => ?_
  refine then_n ?_
  refine wp_seq ?_
  refine if_x hS rfl (fun h => ?_) (fun h => ?_)
  · skip
    have h1 := of_decide_eq_true h
    clear h
    refine wp_skip ?_
    refine then_n ?_
    refine wp_seq ?_
    refine wp_block ?_
    refine wp_seq ?_
    refine region_a (E := E0) mo hZ [] trivial (fun _ => []) [0, 2, 3, 4] [0] [(0, .ls false [.int .u8] xs), (2, .cp 0 0), (3, .v (.int .i64 ((x4 : Nat) : Int))), (4, .v (.int .i64 ((x4 : Nat) : Int)))] [(0, some (.ob 62 (chain [.ar .u16 768 o2_0])))] 1 (by kernel_rfl) trivial rfl hS fun ac gs ws hS => ?_
    refine then_n ?_
    refine region_a (E := E0) mo hZ [(3, .oi ((384 * x4 : Nat) : Int)), (5, .call ⟨64, (c_unpack12 (xs.drop (384 * x4))), [], []⟩)] ⟨unpack12_ok (xs.drop (384 * x4)) (by first | omega | (simp only [List.length_append, List.length_drop, List.length_take, List.length_cons, List.length_nil]; omega)), trivial⟩ (fun C => [imul .i64 384 ((x4 : Nat) : Int) = ((384 * x4 : Nat) : Int), bndP (some ((384 * x4 : Nat) : Int)) none none xs.length xs.length, ndC C 5, (0 : Int) ≤ ((x4 : Nat) : Int) ∧ (((x4 : Nat) : Int) : Int) < 3]) [0, 2, 4] [0] [(0, .ls false [.int .u8] xs), (2, .cp 0 0), (4, .v (.int .i64 ((x4 : Nat) : Int)))] [(0, some (.ob 62 (chain [.ar .u16 768 (updW o2_0 (x4 * 256) 256 (unpack12_m (xs.drop (384 * x4))))])))] 1 (by kernel_rfl) ⟨by rw [imul64 (by omega) (by omega)]; omega, ⟨by simp only [nnI] <;> omega, by simp only [nnI] <;> omega, by simp only [nnI] <;> omega, by simp, by simp only [bl] <;> omega, by simp only [bl] <;> omega, by simp only [bl] <;> omega⟩, rfl, by omega, trivial⟩ rfl hS fun ac gs ws hS => ?_
    refine block_n ?_
    refine then_n ?_
    refine region_a (E := E0) mo hZ [(0, .oi ((x4 + 1 : Nat) : Int))] trivial (fun _ => [iadd .i64 ((x4 : Nat) : Int) 1 = ((x4 + 1 : Nat) : Int)]) [0, 2, 4] [0] [(0, .ls false [.int .u8] xs), (2, .cp 0 0), (4, .v (.int .i64 ((x4 + 1 : Nat) : Int)))] [(0, some (.ob 62 (chain [.ar .u16 768 (updW o2_0 (x4 * 256) 256 (unpack12_m (xs.drop (384 * x4))))])))] 1 (by kernel_rfl) ⟨by rw [iadd64 (by omega) (by omega)]; omega, trivial⟩ rfl hS fun ac gs ws hS => ?_
    refine then_n ?_
    exact next_r hg0 hS (s := (x4, o2_0)) (x4 + 1, updW o2_0 (x4 * 256) 256 (unpack12_m (xs.drop (384 * x4)))) [(0, 0)] (by kernel_rfl) (by kernel_rfl) ⟨rfl, trivial⟩ (show 3 - (x4 + 1) < 3 - x4 from by omega) ⟨(by omega), (it_next (F := rowof_l1 xs) (st := rowof_l1_s xs) (fun _ => rfl) hq1 rfl), trivial⟩
  · skip
    have h1 := of_decide_eq_false h
    clear h
    have hScur := hS
    obtain rfl : 3 = x4 := by omega
    obtain rfl : rowof_l1 xs 3 = o2_0 := Eq.symm (congrArg (fun z => z) hq1)
    have hS := hScur
    clear hScur
    refine wp_exit ?_
    refine then_exit ?_
    refine then_exit ?_
    refine block_exit ?_
    refine then_n ?_
    refine wp_seq ?_
    refine region_a (E := E0) mo hZ [] trivial (fun _ => []) [2] [0] [(2, .cp 0 0)] [(0, some (.ob 62 (chain [.ar .u16 768 (rowof_l1 xs 3)])))] 1 (by kernel_rfl) trivial rfl hS fun ac gs ws hS => ?_
    refine then_n ?_
    refine wp_ret ?_
    have hM : rowof_m xs = rowof_l1 xs 3 := rowof_e xs
    exact fin_x (.inr rfl) hS (ds := [.ar .u16 768 (rowof_l1 xs 3)]) (by kernel_rfl) (by show weak _ (.ar .u16 768 (rowof_m xs)) = (.ar .u16 768 (rowof_m xs)); rw [hM]; first | (simp only []; rfl) | (simp only []; done) | rfl) trivial

noncomputable def knoise_l1_s (sd : List Int) (n : Nat) (x6 : Nat) : (Nat → Int) → (Nat → Int) := fun o4_0 => updW o4_0 (x6 * 256) 256 (noise_m sd (IntKind.wrap .u8 ((n + x6 : Nat) : Int)))
noncomputable def knoise_l1 (sd : List Int) (n : Nat) : Nat → (Nat → Int)
  | 0 => fun _ => 0
  | x6 + 1 => knoise_l1_s sd n x6 (knoise_l1 sd n x6)
noncomputable def knoise_v (sd : List Int) (n : Nat) : (Nat → Int) := knoise_l1 sd n 3
noncomputable def knoise_m (sd : List Int) (n : Nat) : (Nat → Int) := shut (knoise_v sd n)
theorem knoise_e (sd : List Int) (n : Nat) : knoise_m sd n = knoise_v sd n := shut_eq _
noncomputable def c_knoise (sd : List Int) (n : Nat) : Con := ⟨[.ls false [.int .u8] sd, .v (.int .i64 ((n : Nat) : Int))], [], .ar .u16 768 (knoise_m sd n), []⟩
set_option maxRecDepth 100000 in
set_option maxHeartbeats 4000000 in
theorem knoise_ok (sd : List Int) (n : Nat) (h : sd.length ≤ 100000000000000) (hn : n ≤ 100) : ConOk Try.prog 39 (c_knoise sd n) := by
  refine conOk_of (nb := 0) Try.func39 rfl rfl Try.ntmps39 rfl rfl rfl fun g0 w0 ac gs ws hg0 hS => ?_
  have hlen0 : sd.length ≤ 9223372036854775807 := hS.len 0 rfl
  refine wp_seq ?_
  refine region_a (E := E0) mo hZ [] trivial (fun _ => []) [0, 1, 4] [0] [(0, .ls false [.int .u8] sd), (1, .v (.int .i64 ((n : Nat) : Int))), (4, .cp 0 0)] [(0, some (.ob 62 (chain [.ar .u16 768 (fun _ => 0)])))] 1 (by kernel_rfl) trivial rfl hS fun ac gs ws hS => ?_
  refine then_n ?_
  refine wp_seq ?_
  refine wp_seq ?_
  refine region_a (E := E0) mo hZ [] trivial (fun _ => []) [0, 1, 4, 6] [0] [(0, .ls false [.int .u8] sd), (1, .v (.int .i64 ((n : Nat) : Int))), (4, .cp 0 0), (6, .v (.int .i64 0))] [(0, some (.ob 62 (chain [.ar .u16 768 (fun _ => 0)])))] 1 (by kernel_rfl) trivial rfl hS fun ac gs ws hS => ?_
  refine then_n ?_
  refine wp_block ?_
  refine loop_r (σ := Nat × (Nat → Int)) hg0 hS (fun z_ => match z_ with | (x6, o4_0) => 3 - x6) (fun z_ => match z_ with | (x6, o4_0) => [(0, .ls false [.int .u8] sd), (1, .v (.int .i64 ((n : Nat) : Int))), (4, .cp 0 0), (6, .v (.int .i64 ((x6 : Nat) : Int)))]) (fun z_ => match z_ with | (x6, o4_0) => [(0, .ob 62 (chain [.ar .u16 768 o4_0]))]) (fun z_ => match z_ with | (x6, o4_0) => (x6 ≤ 3) ∧ (o4_0 = knoise_l1 sd n x6) ∧ True) 1 (0, fun _ => 0) [(0, 0)] (by kernel_rfl) (by kernel_rfl) ⟨rfl, trivial⟩ ⟨(by omega), rfl, trivial⟩ ?_
  rintro ⟨x6, o4_0⟩ ac gs ws ⟨hx6, hq1, _⟩ hS
  refine wp_seq ?_
  refine region_a (E := E0) mo hZ [] trivial (fun _ => []) [0, 1, 4, 6, 7] [0] [(0, .ls false [.int .u8] sd), (1, .v (.int .i64 ((n : Nat) : Int))), (4, .cp 0 0), (6, .v (.int .i64 ((x6 : Nat) : Int))), (7, .v (.bool (decide (((x6 : Nat) : Int) < 3))))] [(0, some (.ob 62 (chain [.ar .u16 768 o4_0])))] 1 (by kernel_rfl) trivial rfl hS fun ac gs ws hS => ?_
  refine then_n ?_
  refine wp_seq ?_
  refine if_x hS rfl (fun h => ?_) (fun h => ?_)
  · skip
    have h1 := of_decide_eq_true h
    clear h
    refine wp_skip ?_
    refine then_n ?_
    refine wp_seq ?_
    refine wp_block ?_
    refine wp_seq ?_
    refine region_a (E := E0) mo hZ [] trivial (fun _ => []) [0, 1, 4, 5, 6] [0] [(0, .ls false [.int .u8] sd), (1, .v (.int .i64 ((n : Nat) : Int))), (4, .cp 0 0), (5, .v (.int .i64 ((x6 : Nat) : Int))), (6, .v (.int .i64 ((x6 : Nat) : Int)))] [(0, some (.ob 62 (chain [.ar .u16 768 o4_0])))] 1 (by kernel_rfl) trivial rfl hS fun ac gs ws hS => ?_
    refine then_n ?_
    refine region_a (E := E0) mo hZ [(4, .oi ((n + x6 : Nat) : Int)), (6, .call ⟨69, (c_noise sd (IntKind.wrap .u8 ((n + x6 : Nat) : Int))), [], []⟩)] ⟨noise_ok sd (IntKind.wrap .u8 ((n + x6 : Nat) : Int)) (by first | omega | (simp only [List.length_append, List.length_drop, List.length_take, List.length_cons, List.length_nil]; omega)), trivial⟩ (fun C => [iadd .i64 ((n : Nat) : Int) ((x6 : Nat) : Int) = ((n + x6 : Nat) : Int), ndC C 6, (0 : Int) ≤ ((x6 : Nat) : Int) ∧ (((x6 : Nat) : Int) : Int) < 3]) [0, 1, 4, 6] [0] [(0, .ls false [.int .u8] sd), (1, .v (.int .i64 ((n : Nat) : Int))), (4, .cp 0 0), (6, .v (.int .i64 ((x6 : Nat) : Int)))] [(0, some (.ob 62 (chain [.ar .u16 768 (updW o4_0 (x6 * 256) 256 (noise_m sd (IntKind.wrap .u8 ((n + x6 : Nat) : Int))))])))] 1 (by kernel_rfl) ⟨by rw [iadd64 (by omega) (by omega)]; omega, rfl, by omega, trivial⟩ rfl hS fun ac gs ws hS => ?_
    refine block_n ?_
    refine then_n ?_
    refine region_a (E := E0) mo hZ [(0, .oi ((x6 + 1 : Nat) : Int))] trivial (fun _ => [iadd .i64 ((x6 : Nat) : Int) 1 = ((x6 + 1 : Nat) : Int)]) [0, 1, 4, 6] [0] [(0, .ls false [.int .u8] sd), (1, .v (.int .i64 ((n : Nat) : Int))), (4, .cp 0 0), (6, .v (.int .i64 ((x6 + 1 : Nat) : Int)))] [(0, some (.ob 62 (chain [.ar .u16 768 (updW o4_0 (x6 * 256) 256 (noise_m sd (IntKind.wrap .u8 ((n + x6 : Nat) : Int))))])))] 1 (by kernel_rfl) ⟨by rw [iadd64 (by omega) (by omega)]; omega, trivial⟩ rfl hS fun ac gs ws hS => ?_
    refine then_n ?_
    exact next_r hg0 hS (s := (x6, o4_0)) (x6 + 1, updW o4_0 (x6 * 256) 256 (noise_m sd (IntKind.wrap .u8 ((n + x6 : Nat) : Int)))) [(0, 0)] (by kernel_rfl) (by kernel_rfl) ⟨rfl, trivial⟩ (show 3 - (x6 + 1) < 3 - x6 from by omega) ⟨(by omega), (it_next (F := knoise_l1 sd n) (st := knoise_l1_s sd n) (fun _ => rfl) hq1 rfl), trivial⟩
  · skip
    have h1 := of_decide_eq_false h
    clear h
    have hScur := hS
    obtain rfl : 3 = x6 := by omega
    obtain rfl : knoise_l1 sd n 3 = o4_0 := Eq.symm (congrArg (fun z => z) hq1)
    have hS := hScur
    clear hScur
    refine wp_exit ?_
    refine then_exit ?_
    refine then_exit ?_
    refine block_exit ?_
    refine then_n ?_
    refine wp_seq ?_
    refine region_a (E := E0) mo hZ [] trivial (fun _ => []) [4] [0] [(4, .cp 0 0)] [(0, some (.ob 62 (chain [.ar .u16 768 (knoise_l1 sd n 3)])))] 1 (by kernel_rfl) trivial rfl hS fun ac gs ws hS => ?_
    refine then_n ?_
    refine wp_ret ?_
    have hM : knoise_m sd n = knoise_l1 sd n 3 := knoise_e sd n
    exact fin_x (.inr rfl) hS (ds := [.ar .u16 768 (knoise_l1 sd n 3)]) (by kernel_rfl) (by show weak _ (.ar .u16 768 (knoise_m sd n)) = (.ar .u16 768 (knoise_m sd n)); rw [hM]; first | (simp only []; rfl) | (simp only []; done) | rfl) trivial

noncomputable def matrix_true_l1_s (sd : List Int) (i : Nat) (x10 : Nat) : (Nat → Int) → (Nat → Int) := fun o6_0 => updW o6_0 (x10 * 256) 256 (uniform [sd, [(IntKind.wrap .u8 ((i : Nat) : Int)), (IntKind.wrap .u8 ((x10 : Nat) : Int))]])
noncomputable def matrix_true_l1 (sd : List Int) (i : Nat) : Nat → (Nat → Int)
  | 0 => fun _ => 0
  | x10 + 1 => matrix_true_l1_s sd i x10 (matrix_true_l1 sd i x10)
noncomputable def matrix_true_v (sd : List Int) (i : Nat) : (Nat → Int) := matrix_true_l1 sd i 3
noncomputable def matrix_true_m (sd : List Int) (i : Nat) : (Nat → Int) := shut (matrix_true_v sd i)
theorem matrix_true_e (sd : List Int) (i : Nat) : matrix_true_m sd i = matrix_true_v sd i := shut_eq _
noncomputable def c_matrix_true (sd : List Int) (i : Nat) : Con := ⟨[.ls false [.int .u8] sd, .v (.int .i64 ((i : Nat) : Int)), .v (.bool true)], [], .ar .u16 768 (matrix_true_m sd i), []⟩
set_option maxRecDepth 100000 in
set_option maxHeartbeats 4000000 in
theorem matrix_true_ok (sd : List Int) (i : Nat) (h : sd.length = 32) (hi : i ≤ 100) : ConOk Try.prog 43 (c_matrix_true sd i) := by
  refine conOk_of (nb := 0) Try.func43 rfl rfl Try.ntmps43 rfl rfl rfl fun g0 w0 ac gs ws hg0 hS => ?_
  have hlen0 : sd.length ≤ 9223372036854775807 := hS.len 0 rfl
  refine wp_seq ?_
  refine region_a (E := E0) mo hZ [] trivial (fun _ => []) [0, 1, 2, 6] [0] [(0, .ls false [.int .u8] sd), (1, .v (.int .i64 ((i : Nat) : Int))), (2, .v (.bool true)), (6, .cp 0 0)] [(0, some (.ob 62 (chain [.ar .u16 768 (fun _ => 0)])))] 1 (by kernel_rfl) trivial rfl hS fun ac gs ws hS => ?_
  refine then_n ?_
  refine wp_seq ?_
  refine wp_seq ?_
  refine region_a (E := E0) mo hZ [] trivial (fun _ => []) [0, 1, 2, 6, 10] [0] [(0, .ls false [.int .u8] sd), (1, .v (.int .i64 ((i : Nat) : Int))), (2, .v (.bool true)), (6, .cp 0 0), (10, .v (.int .i64 0))] [(0, some (.ob 62 (chain [.ar .u16 768 (fun _ => 0)])))] 1 (by kernel_rfl) trivial rfl hS fun ac gs ws hS => ?_
  refine then_n ?_
  refine wp_block ?_
  refine loop_r (σ := Nat × (Nat → Int)) hg0 hS (fun z_ => match z_ with | (x10, o6_0) => 3 - x10) (fun z_ => match z_ with | (x10, o6_0) => [(0, .ls false [.int .u8] sd), (1, .v (.int .i64 ((i : Nat) : Int))), (2, .v (.bool true)), (6, .cp 0 0), (10, .v (.int .i64 ((x10 : Nat) : Int)))]) (fun z_ => match z_ with | (x10, o6_0) => [(0, .ob 62 (chain [.ar .u16 768 o6_0]))]) (fun z_ => match z_ with | (x10, o6_0) => (x10 ≤ 3) ∧ (o6_0 = matrix_true_l1 sd i x10) ∧ True) 1 (0, fun _ => 0) [(0, 0)] (by kernel_rfl) (by kernel_rfl) ⟨rfl, trivial⟩ ⟨(by omega), rfl, trivial⟩ ?_
  rintro ⟨x10, o6_0⟩ ac gs ws ⟨hx10, hq1, _⟩ hS
  refine wp_seq ?_
  refine region_a (E := E0) mo hZ [] trivial (fun _ => []) [0, 1, 2, 6, 10, 11] [0] [(0, .ls false [.int .u8] sd), (1, .v (.int .i64 ((i : Nat) : Int))), (2, .v (.bool true)), (6, .cp 0 0), (10, .v (.int .i64 ((x10 : Nat) : Int))), (11, .v (.bool (decide (((x10 : Nat) : Int) < 3))))] [(0, some (.ob 62 (chain [.ar .u16 768 o6_0])))] 1 (by kernel_rfl) trivial rfl hS fun ac gs ws hS => ?_
  refine then_n ?_
  refine wp_seq ?_
  refine if_x hS rfl (fun h => ?_) (fun h => ?_)
  · skip
    have h1 := of_decide_eq_true h
    clear h
    refine wp_skip ?_
    refine then_n ?_
    refine wp_seq ?_
    refine wp_block ?_
    refine wp_seq ?_
    refine region_a (E := E0) mo hZ [] trivial (fun _ => []) [0, 1, 2, 6, 7, 10] [0] [(0, .ls false [.int .u8] sd), (1, .v (.int .i64 ((i : Nat) : Int))), (2, .v (.bool true)), (6, .cp 0 0), (7, .v (.int .i64 ((x10 : Nat) : Int))), (10, .v (.int .i64 ((x10 : Nat) : Int)))] [(0, some (.ob 62 (chain [.ar .u16 768 o6_0])))] 1 (by kernel_rfl) trivial rfl hS fun ac gs ws hS => ?_
    refine then_n ?_
    refine wp_seq ?_
    refine region_a (E := E0) mo hZ [] trivial (fun _ => []) [0, 1, 2, 6, 7, 8, 9, 10] [0] [(0, .ls false [.int .u8] sd), (1, .v (.int .i64 ((i : Nat) : Int))), (2, .v (.bool true)), (6, .cp 0 0), (7, .v (.int .i64 ((x10 : Nat) : Int))), (8, .v (.int .u8 (IntKind.wrap .u8 ((x10 : Nat) : Int)))), (9, .v (.int .u8 (IntKind.wrap .u8 ((i : Nat) : Int)))), (10, .v (.int .i64 ((x10 : Nat) : Int)))] [(0, some (.ob 62 (chain [.ar .u16 768 o6_0])))] 1 (by kernel_rfl) trivial rfl hS fun ac gs ws hS => ?_
    refine then_n ?_
    refine wp_seq ?_
    refine wp_seq ?_
    refine region_a (E := E0) mo hZ [] trivial (fun _ => []) [0, 1, 2, 6, 7, 8, 9, 10, 17] [0] [(0, .ls false [.int .u8] sd), (1, .v (.int .i64 ((i : Nat) : Int))), (2, .v (.bool true)), (6, .cp 0 0), (7, .v (.int .i64 ((x10 : Nat) : Int))), (8, .v (.int .u8 (IntKind.wrap .u8 ((x10 : Nat) : Int)))), (9, .v (.int .u8 (IntKind.wrap .u8 ((i : Nat) : Int)))), (10, .v (.int .i64 ((x10 : Nat) : Int))), (17, .v (.bool true))] [(0, some (.ob 62 (chain [.ar .u16 768 o6_0])))] 1 (by kernel_rfl) trivial rfl hS fun ac gs ws hS => ?_
    refine then_n ?_
    refine wp_cond_true (hS.fx.frm.eval rfl) ?_
    refine region_a (E := E0) mo hZ [] trivial (fun _ => []) [0, 1, 2, 6, 7, 8, 9, 10] [0] [(0, .ls false [.int .u8] sd), (1, .v (.int .i64 ((i : Nat) : Int))), (2, .v (.bool true)), (6, .cp 0 0), (7, .v (.int .i64 ((x10 : Nat) : Int))), (8, .v (.int .u8 (IntKind.wrap .u8 ((i : Nat) : Int)))), (9, .v (.int .u8 (IntKind.wrap .u8 ((x10 : Nat) : Int)))), (10, .v (.int .i64 ((x10 : Nat) : Int)))] [(0, some (.ob 62 (chain [.ar .u16 768 o6_0])))] 1 (by kernel_rfl) trivial rfl hS fun ac gs ws hS => ?_
    refine then_n ?_
    refine region_a (E := E0) mo hZ [(4, .call ⟨72, (c_uniform sd (IntKind.wrap .u8 ((i : Nat) : Int)) (IntKind.wrap .u8 ((x10 : Nat) : Int))), [], []⟩)] ⟨uniform_ok sd (IntKind.wrap .u8 ((i : Nat) : Int)) (IntKind.wrap .u8 ((x10 : Nat) : Int)) (by first | omega | assumption), trivial⟩ (fun C => [ndC C 4, (0 : Int) ≤ ((x10 : Nat) : Int) ∧ (((x10 : Nat) : Int) : Int) < 3]) [0, 1, 2, 6, 10] [0] [(0, .ls false [.int .u8] sd), (1, .v (.int .i64 ((i : Nat) : Int))), (2, .v (.bool true)), (6, .cp 0 0), (10, .v (.int .i64 ((x10 : Nat) : Int)))] [(0, some (.ob 62 (chain [.ar .u16 768 (updW o6_0 (x10 * 256) 256 (uniform [sd, [(IntKind.wrap .u8 ((i : Nat) : Int)), (IntKind.wrap .u8 ((x10 : Nat) : Int))]]))])))] 1 (by kernel_rfl) ⟨rfl, by omega, trivial⟩ rfl hS fun ac gs ws hS => ?_
    refine block_n ?_
    refine then_n ?_
    refine region_a (E := E0) mo hZ [(0, .oi ((x10 + 1 : Nat) : Int))] trivial (fun _ => [iadd .i64 ((x10 : Nat) : Int) 1 = ((x10 + 1 : Nat) : Int)]) [0, 1, 2, 6, 10] [0] [(0, .ls false [.int .u8] sd), (1, .v (.int .i64 ((i : Nat) : Int))), (2, .v (.bool true)), (6, .cp 0 0), (10, .v (.int .i64 ((x10 + 1 : Nat) : Int)))] [(0, some (.ob 62 (chain [.ar .u16 768 (updW o6_0 (x10 * 256) 256 (uniform [sd, [(IntKind.wrap .u8 ((i : Nat) : Int)), (IntKind.wrap .u8 ((x10 : Nat) : Int))]]))])))] 1 (by kernel_rfl) ⟨by rw [iadd64 (by omega) (by omega)]; omega, trivial⟩ rfl hS fun ac gs ws hS => ?_
    refine then_n ?_
    exact next_r hg0 hS (s := (x10, o6_0)) (x10 + 1, updW o6_0 (x10 * 256) 256 (uniform [sd, [(IntKind.wrap .u8 ((i : Nat) : Int)), (IntKind.wrap .u8 ((x10 : Nat) : Int))]])) [(0, 0)] (by kernel_rfl) (by kernel_rfl) ⟨rfl, trivial⟩ (show 3 - (x10 + 1) < 3 - x10 from by omega) ⟨(by omega), (it_next (F := matrix_true_l1 sd i) (st := matrix_true_l1_s sd i) (fun _ => rfl) hq1 rfl), trivial⟩
  · skip
    have h1 := of_decide_eq_false h
    clear h
    have hScur := hS
    obtain rfl : 3 = x10 := by omega
    obtain rfl : matrix_true_l1 sd i 3 = o6_0 := Eq.symm (congrArg (fun z => z) hq1)
    have hS := hScur
    clear hScur
    refine wp_exit ?_
    refine then_exit ?_
    refine then_exit ?_
    refine block_exit ?_
    refine then_n ?_
    refine wp_seq ?_
    refine region_a (E := E0) mo hZ [] trivial (fun _ => []) [6] [0] [(6, .cp 0 0)] [(0, some (.ob 62 (chain [.ar .u16 768 (matrix_true_l1 sd i 3)])))] 1 (by kernel_rfl) trivial rfl hS fun ac gs ws hS => ?_
    refine then_n ?_
    refine wp_ret ?_
    have hM : matrix_true_m sd i = matrix_true_l1 sd i 3 := matrix_true_e sd i
    exact fin_x (.inr rfl) hS (ds := [.ar .u16 768 (matrix_true_l1 sd i 3)]) (by kernel_rfl) (by show weak _ (.ar .u16 768 (matrix_true_m sd i)) = (.ar .u16 768 (matrix_true_m sd i)); rw [hM]; first | (simp only []; rfl) | (simp only []; done) | rfl) trivial

noncomputable def matrix_false_l1_s (sd : List Int) (i : Nat) (x10 : Nat) : (Nat → Int) → (Nat → Int) := fun o6_0 => updW o6_0 (x10 * 256) 256 (uniform [sd, [(IntKind.wrap .u8 ((x10 : Nat) : Int)), (IntKind.wrap .u8 ((i : Nat) : Int))]])
noncomputable def matrix_false_l1 (sd : List Int) (i : Nat) : Nat → (Nat → Int)
  | 0 => fun _ => 0
  | x10 + 1 => matrix_false_l1_s sd i x10 (matrix_false_l1 sd i x10)
noncomputable def matrix_false_v (sd : List Int) (i : Nat) : (Nat → Int) := matrix_false_l1 sd i 3
noncomputable def matrix_false_m (sd : List Int) (i : Nat) : (Nat → Int) := shut (matrix_false_v sd i)
theorem matrix_false_e (sd : List Int) (i : Nat) : matrix_false_m sd i = matrix_false_v sd i := shut_eq _
noncomputable def c_matrix_false (sd : List Int) (i : Nat) : Con := ⟨[.ls false [.int .u8] sd, .v (.int .i64 ((i : Nat) : Int)), .v (.bool false)], [], .ar .u16 768 (matrix_false_m sd i), []⟩
set_option maxRecDepth 100000 in
set_option maxHeartbeats 4000000 in
theorem matrix_false_ok (sd : List Int) (i : Nat) (h : sd.length = 32) (hi : i ≤ 100) : ConOk Try.prog 43 (c_matrix_false sd i) := by
  refine conOk_of (nb := 0) Try.func43 rfl rfl Try.ntmps43 rfl rfl rfl fun g0 w0 ac gs ws hg0 hS => ?_
  have hlen0 : sd.length ≤ 9223372036854775807 := hS.len 0 rfl
  refine wp_seq ?_
  refine region_a (E := E0) mo hZ [] trivial (fun _ => []) [0, 1, 2, 6] [0] [(0, .ls false [.int .u8] sd), (1, .v (.int .i64 ((i : Nat) : Int))), (2, .v (.bool false)), (6, .cp 0 0)] [(0, some (.ob 62 (chain [.ar .u16 768 (fun _ => 0)])))] 1 (by kernel_rfl) trivial rfl hS fun ac gs ws hS => ?_
  refine then_n ?_
  refine wp_seq ?_
  refine wp_seq ?_
  refine region_a (E := E0) mo hZ [] trivial (fun _ => []) [0, 1, 2, 6, 10] [0] [(0, .ls false [.int .u8] sd), (1, .v (.int .i64 ((i : Nat) : Int))), (2, .v (.bool false)), (6, .cp 0 0), (10, .v (.int .i64 0))] [(0, some (.ob 62 (chain [.ar .u16 768 (fun _ => 0)])))] 1 (by kernel_rfl) trivial rfl hS fun ac gs ws hS => ?_
  refine then_n ?_
  refine wp_block ?_
  refine loop_r (σ := Nat × (Nat → Int)) hg0 hS (fun z_ => match z_ with | (x10, o6_0) => 3 - x10) (fun z_ => match z_ with | (x10, o6_0) => [(0, .ls false [.int .u8] sd), (1, .v (.int .i64 ((i : Nat) : Int))), (2, .v (.bool false)), (6, .cp 0 0), (10, .v (.int .i64 ((x10 : Nat) : Int)))]) (fun z_ => match z_ with | (x10, o6_0) => [(0, .ob 62 (chain [.ar .u16 768 o6_0]))]) (fun z_ => match z_ with | (x10, o6_0) => (x10 ≤ 3) ∧ (o6_0 = matrix_false_l1 sd i x10) ∧ True) 1 (0, fun _ => 0) [(0, 0)] (by kernel_rfl) (by kernel_rfl) ⟨rfl, trivial⟩ ⟨(by omega), rfl, trivial⟩ ?_
  rintro ⟨x10, o6_0⟩ ac gs ws ⟨hx10, hq1, _⟩ hS
  refine wp_seq ?_
  refine region_a (E := E0) mo hZ [] trivial (fun _ => []) [0, 1, 2, 6, 10, 11] [0] [(0, .ls false [.int .u8] sd), (1, .v (.int .i64 ((i : Nat) : Int))), (2, .v (.bool false)), (6, .cp 0 0), (10, .v (.int .i64 ((x10 : Nat) : Int))), (11, .v (.bool (decide (((x10 : Nat) : Int) < 3))))] [(0, some (.ob 62 (chain [.ar .u16 768 o6_0])))] 1 (by kernel_rfl) trivial rfl hS fun ac gs ws hS => ?_
  refine then_n ?_
  refine wp_seq ?_
  refine if_x hS rfl (fun h => ?_) (fun h => ?_)
  · skip
    have h1 := of_decide_eq_true h
    clear h
    refine wp_skip ?_
    refine then_n ?_
    refine wp_seq ?_
    refine wp_block ?_
    refine wp_seq ?_
    refine region_a (E := E0) mo hZ [] trivial (fun _ => []) [0, 1, 2, 6, 7, 10] [0] [(0, .ls false [.int .u8] sd), (1, .v (.int .i64 ((i : Nat) : Int))), (2, .v (.bool false)), (6, .cp 0 0), (7, .v (.int .i64 ((x10 : Nat) : Int))), (10, .v (.int .i64 ((x10 : Nat) : Int)))] [(0, some (.ob 62 (chain [.ar .u16 768 o6_0])))] 1 (by kernel_rfl) trivial rfl hS fun ac gs ws hS => ?_
    refine then_n ?_
    refine wp_seq ?_
    refine region_a (E := E0) mo hZ [] trivial (fun _ => []) [0, 1, 2, 6, 7, 8, 9, 10] [0] [(0, .ls false [.int .u8] sd), (1, .v (.int .i64 ((i : Nat) : Int))), (2, .v (.bool false)), (6, .cp 0 0), (7, .v (.int .i64 ((x10 : Nat) : Int))), (8, .v (.int .u8 (IntKind.wrap .u8 ((x10 : Nat) : Int)))), (9, .v (.int .u8 (IntKind.wrap .u8 ((i : Nat) : Int)))), (10, .v (.int .i64 ((x10 : Nat) : Int)))] [(0, some (.ob 62 (chain [.ar .u16 768 o6_0])))] 1 (by kernel_rfl) trivial rfl hS fun ac gs ws hS => ?_
    refine then_n ?_
    refine wp_seq ?_
    refine wp_seq ?_
    refine region_a (E := E0) mo hZ [] trivial (fun _ => []) [0, 1, 2, 6, 7, 8, 9, 10, 17] [0] [(0, .ls false [.int .u8] sd), (1, .v (.int .i64 ((i : Nat) : Int))), (2, .v (.bool false)), (6, .cp 0 0), (7, .v (.int .i64 ((x10 : Nat) : Int))), (8, .v (.int .u8 (IntKind.wrap .u8 ((x10 : Nat) : Int)))), (9, .v (.int .u8 (IntKind.wrap .u8 ((i : Nat) : Int)))), (10, .v (.int .i64 ((x10 : Nat) : Int))), (17, .v (.bool false))] [(0, some (.ob 62 (chain [.ar .u16 768 o6_0])))] 1 (by kernel_rfl) trivial rfl hS fun ac gs ws hS => ?_
    refine then_n ?_
    refine wp_cond_false (hS.fx.frm.eval rfl) ?_
    refine wp_skip ?_
    refine then_n ?_
    refine region_a (E := E0) mo hZ [(4, .call ⟨72, (c_uniform sd (IntKind.wrap .u8 ((x10 : Nat) : Int)) (IntKind.wrap .u8 ((i : Nat) : Int))), [], []⟩)] ⟨uniform_ok sd (IntKind.wrap .u8 ((x10 : Nat) : Int)) (IntKind.wrap .u8 ((i : Nat) : Int)) (by first | omega | assumption), trivial⟩ (fun C => [ndC C 4, (0 : Int) ≤ ((x10 : Nat) : Int) ∧ (((x10 : Nat) : Int) : Int) < 3]) [0, 1, 2, 6, 10] [0] [(0, .ls false [.int .u8] sd), (1, .v (.int .i64 ((i : Nat) : Int))), (2, .v (.bool false)), (6, .cp 0 0), (10, .v (.int .i64 ((x10 : Nat) : Int)))] [(0, some (.ob 62 (chain [.ar .u16 768 (updW o6_0 (x10 * 256) 256 (uniform [sd, [(IntKind.wrap .u8 ((x10 : Nat) : Int)), (IntKind.wrap .u8 ((i : Nat) : Int))]]))])))] 1 (by kernel_rfl) ⟨rfl, by omega, trivial⟩ rfl hS fun ac gs ws hS => ?_
    refine block_n ?_
    refine then_n ?_
    refine region_a (E := E0) mo hZ [(0, .oi ((x10 + 1 : Nat) : Int))] trivial (fun _ => [iadd .i64 ((x10 : Nat) : Int) 1 = ((x10 + 1 : Nat) : Int)]) [0, 1, 2, 6, 10] [0] [(0, .ls false [.int .u8] sd), (1, .v (.int .i64 ((i : Nat) : Int))), (2, .v (.bool false)), (6, .cp 0 0), (10, .v (.int .i64 ((x10 + 1 : Nat) : Int)))] [(0, some (.ob 62 (chain [.ar .u16 768 (updW o6_0 (x10 * 256) 256 (uniform [sd, [(IntKind.wrap .u8 ((x10 : Nat) : Int)), (IntKind.wrap .u8 ((i : Nat) : Int))]]))])))] 1 (by kernel_rfl) ⟨by rw [iadd64 (by omega) (by omega)]; omega, trivial⟩ rfl hS fun ac gs ws hS => ?_
    refine then_n ?_
    exact next_r hg0 hS (s := (x10, o6_0)) (x10 + 1, updW o6_0 (x10 * 256) 256 (uniform [sd, [(IntKind.wrap .u8 ((x10 : Nat) : Int)), (IntKind.wrap .u8 ((i : Nat) : Int))]])) [(0, 0)] (by kernel_rfl) (by kernel_rfl) ⟨rfl, trivial⟩ (show 3 - (x10 + 1) < 3 - x10 from by omega) ⟨(by omega), (it_next (F := matrix_false_l1 sd i) (st := matrix_false_l1_s sd i) (fun _ => rfl) hq1 rfl), trivial⟩
  · skip
    have h1 := of_decide_eq_false h
    clear h
    have hScur := hS
    obtain rfl : 3 = x10 := by omega
    obtain rfl : matrix_false_l1 sd i 3 = o6_0 := Eq.symm (congrArg (fun z => z) hq1)
    have hS := hScur
    clear hScur
    refine wp_exit ?_
    refine then_exit ?_
    refine then_exit ?_
    refine block_exit ?_
    refine then_n ?_
    refine wp_seq ?_
    refine region_a (E := E0) mo hZ [] trivial (fun _ => []) [6] [0] [(6, .cp 0 0)] [(0, some (.ob 62 (chain [.ar .u16 768 (matrix_false_l1 sd i 3)])))] 1 (by kernel_rfl) trivial rfl hS fun ac gs ws hS => ?_
    refine then_n ?_
    refine wp_ret ?_
    have hM : matrix_false_m sd i = matrix_false_l1 sd i 3 := matrix_false_e sd i
    exact fin_x (.inr rfl) hS (ds := [.ar .u16 768 (matrix_false_l1 sd i 3)]) (by kernel_rfl) (by show weak _ (.ar .u16 768 (matrix_false_m sd i)) = (.ar .u16 768 (matrix_false_m sd i)); rw [hM]; first | (simp only []; rfl) | (simp only []; done) | rfl) trivial

end Go.Sx.Try
namespace Go.Sx.Try
open Go.Mi Go.RowKit Go.Sx Go.Proofs
theorem eq_no1 {xs ys : List Int} (h : ¬ ((xs.length : Nat) : Int) = ((ys.length : Nat) : Int)) : decide (xs = ys) = false := decide_eq_false fun e => h (by rw [e])
theorem eq_no2 {xs ys : List Int} {i : Nat} (h : ¬ xs.getD i 0 = ys.getD i 0) : decide (xs = ys) = false := decide_eq_false fun e => h (by rw [e])
theorem eq_yes {xs ys : List Int} (hl : ((xs.length : Nat) : Int) = ((ys.length : Nat) : Int)) (h : ∀ j, j < xs.length → xs.getD j 0 = ys.getD j 0) : decide (xs = ys) = true := decide_eq_true (by
  refine List.ext_getElem (by omega) fun i h1 h2 => ?_
  have := h i h1
  rwa [List.getD_eq_getElem?_getD, List.getD_eq_getElem?_getD, List.getElem?_eq_getElem h1, List.getElem?_eq_getElem h2] at this)
theorem three {P : Nat → Prop} (h0 : P 0) (h1 : P 1) (h2 : P 2) : ∀ j, j < 3 → P j := fun j hj => by
  have : j = 0 ∨ j = 1 ∨ j = 2 := by omega
  rcases this with rfl | rfl | rfl <;> assumption
/-- is each number of a row small? -/
noncomputable def rmay (xs : List Int) : Bool := (List.range 3).all fun i => mayB fun j => rowof_m xs (i * 256 + j)
theorem rmay_no {xs : List Int} {i : Nat} (hi : i < 3) (h : mayB (fun j => rowof_m xs (i * 256 + j)) = false) : rmay xs = false := by
  cases hb : rmay xs with
  | false => rfl
  | true =>
    have := List.all_eq_true.1 hb i (List.mem_range.2 hi)
    rw [h] at this; cases this
theorem rmay_yes {xs : List Int} (h : ∀ i, i < 3 → mayB (fun j => rowof_m xs (i * 256 + j)) = true) : rmay xs = true := by
  unfold rmay
  rw [List.all_eq_true]
  exact fun i hi => h i (List.mem_range.1 hi)
/-- what Check tells -/
noncomputable def chk (xs : List Int) : Nat := if xs.length = 1184 then (if rmay xs = true then 0 else 2) else 1
theorem chk_1 {xs : List Int} (h : ¬ ((xs.length : Nat) : Int) = 1184) : chk xs = 1 := by unfold chk; rw [if_neg (by omega)]
theorem chk_2 {xs : List Int} (h : ((xs.length : Nat) : Int) = 1184) (h2 : rmay xs = false) : chk xs = 2 := by unfold chk; rw [if_pos (by omega), if_neg (by rw [h2]; decide)]
theorem chk_0 {xs : List Int} (h : ((xs.length : Nat) : Int) = 1184) (h2 : rmay xs = true) : chk xs = 0 := by unfold chk; rw [if_pos (by omega), if_pos h2]
/-- what CheckDk tells -/
noncomputable def chkdk (xs : List Int) : Nat := if xs.length = 2400 then (if rmay xs = true then (if chk ((xs.take 2336).drop 1152) = 0 then (if sum256_m [(xs.take 2336).drop 1152] = (xs.take 2368).drop 2336 then 0 else 2) else 2) else 2) else 1
noncomputable def c_sequal (xs : List Int) (ys : List Int) : Con := ⟨[.ls false [.int .u8] xs, .ls false [.int .u8] ys], [], .v (.bool (decide (xs = ys))), []⟩
set_option maxRecDepth 100000 in
set_option maxHeartbeats 4000000 in
theorem sequal_ok (xs : List Int) (ys : List Int) : ConOk Try.prog 66 (c_sequal xs ys) := by
  refine conOk_of (nb := 0) Try.func66 rfl rfl Try.ntmps66 rfl rfl rfl fun g0 w0 ac gs ws hg0 hS => ?_
  have hlen0 : xs.length ≤ 9223372036854775807 := hS.len 0 rfl
  have hlen1 : ys.length ≤ 9223372036854775807 := hS.len 1 rfl
  refine wp_seq ?_
  refine region_a (E := E0) mo hZ [] trivial (fun _ => []) [0, 1, 4] [] [(0, .ls false [.int .u8] xs), (1, .ls false [.int .u8] ys), (4, .v (.bool false))] [] 0 (by kernel_rfl) trivial rfl hS fun ac gs ws hS => ?_
  refine then_n ?_
  refine wp_seq ?_
  refine wp_seq ?_
  refine region_a (E := E0) mo hZ [] trivial (fun _ => []) [0, 1, 4, 10] [] [(0, .ls false [.int .u8] xs), (1, .ls false [.int .u8] ys), (4, .v (.bool false)), (10, .v (.bool (!decide (((xs.length : Nat) : Int) = ((ys.length : Nat) : Int)))))] [] 0 (by kernel_rfl) trivial rfl hS fun ac gs ws hS => ?_
  refine then_n ?_
  refine if_x hS rfl (fun h => ?_) (fun h => ?_)
  · skip
    have h1 := ndec_true h
    clear h
    refine wp_seq ?_
    refine region_a (E := E0) mo hZ [] trivial (fun _ => []) [0, 1, 4] [] [(0, .ls false [.int .u8] xs), (1, .ls false [.int .u8] ys), (4, .v (.bool false))] [] 0 (by kernel_rfl) trivial rfl hS fun ac gs ws hS => ?_
    refine then_n ?_
    refine wp_ret ?_
    refine then_ret ?_
    exact fin_x (.inr rfl) hS (ds := [.v (.bool false)]) (by kernel_rfl) (by show weak _ (.v (.bool (decide (xs = ys)))) = .v (.bool (decide (xs = ys))); rw [eq_no1 h1]; rfl) trivial
  · skip
    have h1 := ndec_false h
    clear h
    refine wp_skip ?_
    refine then_n ?_
    refine wp_seq ?_
    refine wp_seq ?_
    refine region_a (E := E0) mo hZ [] trivial (fun _ => []) [0, 1, 4, 12, 13] [] [(0, .ls false [.int .u8] xs), (1, .ls false [.int .u8] ys), (4, .v (.bool false)), (12, .v (.int .i64 ((xs.length : Nat) : Int))), (13, .v (.int .i64 0))] [] 0 (by kernel_rfl) trivial rfl hS fun ac gs ws hS => ?_
    refine then_n ?_
    refine wp_block ?_
    refine loop_r (σ := Nat) hg0 hS (fun i => xs.length - i) (fun i => [(0, .ls false [.int .u8] xs), (1, .ls false [.int .u8] ys), (12, .v (.int .i64 ((xs.length : Nat) : Int))), (13, .v (.int .i64 ((i : Nat) : Int)))]) (fun i => []) (fun i => (i ≤ xs.length) ∧ (∀ j, j < i → xs.getD j 0 = ys.getD j 0) ∧ True) 0 0 [] (by kernel_rfl) (by kernel_rfl) trivial ⟨(by omega), (fun j h => absurd h (Nat.not_lt_zero j)), trivial⟩ ?_
    rintro i ac gs ws ⟨hi, pm, _⟩ hS
    refine wp_seq ?_
    refine region_a (E := E0) mo hZ [] trivial (fun _ => []) [0, 1, 12, 13, 14] [] [(0, .ls false [.int .u8] xs), (1, .ls false [.int .u8] ys), (12, .v (.int .i64 ((xs.length : Nat) : Int))), (13, .v (.int .i64 ((i : Nat) : Int))), (14, .v (.bool (decide (((i : Nat) : Int) < ((xs.length : Nat) : Int)))))] [] 0 (by kernel_rfl) trivial rfl hS fun ac gs ws hS => ?_
    refine then_n ?_
    refine wp_seq ?_
    refine if_x hS rfl (fun h => ?_) (fun h => ?_)
    · skip
      have h2 := of_decide_eq_true h
      clear h
      refine wp_skip ?_
      refine then_n ?_
      refine wp_seq ?_
      refine wp_block ?_
      refine wp_seq ?_
      refine region_a (E := E0) mo hZ [] trivial (fun _ => []) [0, 1, 5, 12, 13] [] [(0, .ls false [.int .u8] xs), (1, .ls false [.int .u8] ys), (5, .v (.int .i64 ((i : Nat) : Int))), (12, .v (.int .i64 ((xs.length : Nat) : Int))), (13, .v (.int .i64 ((i : Nat) : Int)))] [] 0 (by kernel_rfl) trivial rfl hS fun ac gs ws hS => ?_
      refine then_n ?_
      refine wp_seq ?_
      refine region_a (E := E0) mo hZ [] trivial (fun _ => [(0 : Int) ≤ ((i : Nat) : Int) ∧ ((i : Nat) : Int) < ((xs.length : Nat) : Int), (0 : Int) ≤ ((i : Nat) : Int) ∧ ((i : Nat) : Int) < ((ys.length : Nat) : Int)]) [0, 1, 12, 13, 24] [] [(0, .ls false [.int .u8] xs), (1, .ls false [.int .u8] ys), (12, .v (.int .i64 ((xs.length : Nat) : Int))), (13, .v (.int .i64 ((i : Nat) : Int))), (24, .v (.bool (!decide ((xs.getD i 0) = (ys.getD i 0)))))] [] 0 (by kernel_rfl) ⟨by omega, by omega, trivial⟩ rfl hS fun ac gs ws hS => ?_
      refine then_n ?_
      refine if_x hS rfl (fun h => ?_) (fun h => ?_)
      · skip
        have h3 := ndec_true h
        clear h
        refine wp_seq ?_
        refine region_a (E := E0) mo hZ [] trivial (fun _ => []) [0, 1, 4, 12, 13] [] [(0, .ls false [.int .u8] xs), (1, .ls false [.int .u8] ys), (4, .v (.bool false)), (12, .v (.int .i64 ((xs.length : Nat) : Int))), (13, .v (.int .i64 ((i : Nat) : Int)))] [] 0 (by kernel_rfl) trivial rfl hS fun ac gs ws hS => ?_
        refine then_n ?_
        refine wp_ret ?_
        refine block_ret ?_
        refine then_ret ?_
        refine then_ret ?_
        refine block_ret ?_
        refine then_ret ?_
        exact fin_x (.inr rfl) hS (ds := [.v (.bool false)]) (by kernel_rfl) (by show weak _ (.v (.bool (decide (xs = ys)))) = .v (.bool (decide (xs = ys))); rw [eq_no2 h3]; rfl) trivial
      · skip
        have h3 := ndec_false h
        clear h
        refine wp_skip ?_
        refine block_n ?_
        refine then_n ?_
        refine region_a (E := E0) mo hZ [(0, .oi ((i + 1 : Nat) : Int))] trivial (fun _ => [iadd .i64 ((i : Nat) : Int) 1 = ((i + 1 : Nat) : Int)]) [0, 1, 12, 13] [] [(0, .ls false [.int .u8] xs), (1, .ls false [.int .u8] ys), (12, .v (.int .i64 ((xs.length : Nat) : Int))), (13, .v (.int .i64 ((i + 1 : Nat) : Int)))] [] 0 (by kernel_rfl) ⟨by rw [iadd64 (by omega) (by omega)]; omega, trivial⟩ rfl hS fun ac gs ws hS => ?_
        refine then_n ?_
        exact next_r hg0 hS (s := (i)) (i + 1) [] (by kernel_rfl) (by kernel_rfl) trivial (show xs.length - (i + 1) < xs.length - i from by omega) ⟨(by omega), (lst_next pm (by assumption)), trivial⟩
    · skip
      have h2 := of_decide_eq_false h
      clear h
      have hScur := hS
      obtain rfl : xs.length = i := by omega
      have hS := hScur
      clear hScur
      refine wp_exit ?_
      refine then_exit ?_
      refine then_exit ?_
      refine block_exit ?_
      refine then_n ?_
      refine wp_seq ?_
      refine region_a (E := E0) mo hZ [] trivial (fun _ => []) [4] [] [(4, .v (.bool true))] [] 0 (by kernel_rfl) trivial rfl hS fun ac gs ws hS => ?_
      refine then_n ?_
      refine wp_ret ?_
      exact fin_x (.inr rfl) hS (ds := [.v (.bool true)]) (by kernel_rfl) (by show weak _ (.v (.bool (decide (xs = ys)))) = .v (.bool (decide (xs = ys))); rw [eq_yes h1 pm]; rfl) trivial

noncomputable def c_equal (xs : List Int) (ys : List Int) : Con := ⟨[.ls false [.int .u8] xs, .ls false [.int .u8] ys], [], .v (.bool (decide (xs = ys))), []⟩
set_option maxRecDepth 100000 in
set_option maxHeartbeats 4000000 in
theorem equal_ok (xs : List Int) (ys : List Int) : ConOk Try.prog 36 (c_equal xs ys) := by
  refine conOk_of (nb := 0) Try.func36 rfl rfl Try.ntmps36 rfl rfl rfl fun g0 w0 ac gs ws hg0 hS => ?_
  have hlen0 : xs.length ≤ 9223372036854775807 := hS.len 0 rfl
  have hlen1 : ys.length ≤ 9223372036854775807 := hS.len 1 rfl
  refine wp_seq ?_
  refine region_a (E := E0) mo hZ [] trivial (fun _ => []) [0, 1, 4] [] [(0, .ls false [.int .u8] xs), (1, .ls false [.int .u8] ys), (4, .v (.bool false))] [] 0 (by kernel_rfl) trivial rfl hS fun ac gs ws hS => ?_
  refine then_n ?_
  refine wp_seq ?_
  refine region_a (E := E0) mo hZ [(2, .call ⟨66, (c_sequal xs ys), [], []⟩)] ⟨sequal_ok xs ys, trivial⟩ (fun C => [ndC C 2]) [4] [] [(4, .v (.bool (decide (xs = ys))))] [] 0 (by kernel_rfl) ⟨rfl, trivial⟩ rfl hS fun ac gs ws hS => ?_
  refine then_n ?_
  refine wp_ret ?_
  exact fin_x (.inr rfl) hS (ds := [.v (.bool (decide (xs = ys)))]) (by kernel_rfl) rfl trivial

theorem bne_f {b : Bool} (h : (!b) = true) : b = false := by cases b <;> simp_all
theorem bne_g {b : Bool} (h : (!b) = false) : b = true := by cases b <;> simp_all
noncomputable def c_check (ek : List Int) : Con := ⟨[.ls false [.int .u8] ek], [], .v (.int .i64 ((chk ek : Nat) : Int)), []⟩
set_option maxRecDepth 100000 in
set_option maxHeartbeats 4000000 in
theorem check_ok (ek : List Int) : ConOk Try.prog 10 (c_check ek) := by
  refine conOk_of (nb := 0) Try.func10 rfl rfl Try.ntmps10 rfl rfl rfl fun g0 w0 ac gs ws hg0 hS => ?_
  have hlen0 : ek.length ≤ 9223372036854775807 := hS.len 0 rfl
  refine wp_seq ?_
  refine region_a (E := E0) mo hZ [] trivial (fun _ => []) [0, 2] [] [(0, .ls false [.int .u8] ek), (2, .v (.int .i64 0))] [] 0 (by kernel_rfl) trivial rfl hS fun ac gs ws hS => ?_
  refine then_n ?_
  refine wp_seq ?_
  refine wp_seq ?_
  refine region_a (E := E0) mo hZ [] trivial (fun _ => []) [0, 2, 7] [] [(0, .ls false [.int .u8] ek), (2, .v (.int .i64 0)), (7, .v (.bool (!decide (((ek.length : Nat) : Int) = 1184))))] [] 0 (by kernel_rfl) trivial rfl hS fun ac gs ws hS => ?_
  refine then_n ?_
  refine if_x hS rfl (fun h => ?_) (fun h => ?_)
  · skip
    have h1 := ndec_true h
    clear h
    refine wp_seq ?_
    refine region_a (E := E0) mo hZ [] trivial (fun _ => []) [0, 2] [] [(0, .ls false [.int .u8] ek), (2, .v (.int .i64 1))] [] 0 (by kernel_rfl) trivial rfl hS fun ac gs ws hS => ?_
    refine then_n ?_
    refine wp_ret ?_
    refine then_ret ?_
    exact fin_x (.inr rfl) hS (ds := [.v (.int .i64 1)]) (by kernel_rfl) (by show weak _ (.v (.int .i64 ((chk ek : Nat) : Int))) = .v (.int .i64 ((chk ek : Nat) : Int)); rw [chk_1 h1]; rfl) trivial
  · skip
    have h1 := ndec_false h
    clear h
    refine wp_skip ?_
    refine then_n ?_
    refine wp_seq ?_
    refine wp_seq ?_
    refine region_a (E := E0) mo hZ [(1, .call ⟨33, (c_rowof ek), [], []⟩)] ⟨rowof_ok ek (by first | omega | (simp only [List.length_append, List.length_drop, List.length_take, List.length_cons, List.length_nil]; omega)), trivial⟩ (fun C => [ndC C 1]) [2, 9, 10] [] [(2, .v (.int .i64 0)), (9, .ar .u16 768 (rowof_m ek)), (10, .v (.int .i64 0))] [] 0 (by kernel_rfl) ⟨rfl, trivial⟩ rfl hS fun ac gs ws hS => ?_
    refine then_n ?_
    refine wp_block ?_
    refine loop_r (σ := Nat) hg0 hS (fun i => 3 - i) (fun i => [(9, .ar .u16 768 (rowof_m ek)), (10, .v (.int .i64 ((i : Nat) : Int)))]) (fun i => []) (fun i => (i ≤ 3) ∧ (∀ j, j < i → mayB (fun t => rowof_m ek (j * 256 + t)) = true) ∧ True) 0 0 [] (by kernel_rfl) (by kernel_rfl) trivial ⟨(by omega), (fun j h => absurd h (Nat.not_lt_zero j)), trivial⟩ ?_
    rintro i ac gs ws ⟨hi, pm, _⟩ hS
    refine wp_seq ?_
    refine region_a (E := E0) mo hZ [] trivial (fun _ => []) [9, 10, 11] [] [(9, .ar .u16 768 (rowof_m ek)), (10, .v (.int .i64 ((i : Nat) : Int))), (11, .v (.bool (decide (((i : Nat) : Int) < 3))))] [] 0 (by kernel_rfl) trivial rfl hS fun ac gs ws hS => ?_
    refine then_n ?_
    refine wp_seq ?_
    refine if_x hS rfl (fun h => ?_) (fun h => ?_)
    · skip
      have h2 := of_decide_eq_true h
      clear h
      refine wp_skip ?_
      refine then_n ?_
      refine wp_seq ?_
      refine wp_block ?_
      refine wp_seq ?_
      refine region_a (E := E0) mo hZ [] trivial (fun _ => [(0 : Int) ≤ ((i : Nat) : Int) ∧ (((i : Nat) : Int) : Int) < 3]) [4, 9, 10] [0] [(4, .cp 0 0), (9, .ar .u16 768 (rowof_m ek)), (10, .v (.int .i64 ((i : Nat) : Int)))] [(0, some (.ob 60 (chain [.ar .u16 256 (fun j => (rowof_m ek) (i * 256 + j))])))] 1 (by kernel_rfl) ⟨by omega, trivial⟩ rfl hS fun ac gs ws hS => ?_
      refine then_n ?_
      refine wp_seq ?_
      refine region_a (E := E0) mo hZ [(0, .ov (.ar .u16 256 (fun j => (rowof_m ek) (i * 256 + j)))), (1, .call ⟨34, (c_may (fun j => (rowof_m ek) (i * 256 + j))), [], []⟩)] ⟨may_ok (fun j => (rowof_m ek) (i * 256 + j)), trivial⟩ (fun C => [(.ar .u16 256 (fun j => (rowof_m ek) (i * 256 + j)) : D) = (.ar .u16 256 (fun j => (rowof_m ek) (i * 256 + j))), ndC C 1]) [9, 10, 15] [] [(9, .ar .u16 768 (rowof_m ek)), (10, .v (.int .i64 ((i : Nat) : Int))), (15, .v (.bool (!(mayB (fun j => (rowof_m ek) (i * 256 + j))))))] [] 1 (by kernel_rfl) ⟨rfl, rfl, trivial⟩ rfl hS fun ac gs ws hS => ?_
      refine then_n ?_
      refine if_x hS rfl (fun h => ?_) (fun h => ?_)
      · skip
        have h3 := h
        refine wp_seq ?_
        refine region_a (E := E0) mo hZ [] trivial (fun _ => []) [2, 9, 10] [] [(2, .v (.int .i64 2)), (9, .ar .u16 768 (rowof_m ek)), (10, .v (.int .i64 ((i : Nat) : Int)))] [] 1 (by kernel_rfl) trivial rfl hS fun ac gs ws hS => ?_
        refine then_n ?_
        refine wp_ret ?_
        refine block_ret ?_
        refine then_ret ?_
        refine then_ret ?_
        refine block_ret ?_
        refine then_ret ?_
        exact fin_x (.inr rfl) hS (ds := [.v (.int .i64 2)]) (by kernel_rfl) (by show weak _ (.v (.int .i64 ((chk ek : Nat) : Int))) = .v (.int .i64 ((chk ek : Nat) : Int)); rw [chk_2 h1 (rmay_no (by omega) (bne_f h3))]; rfl) trivial
      · skip
        have h3 := h
        refine wp_skip ?_
        refine block_n ?_
        refine then_n ?_
        refine region_a (E := E0) mo hZ [(0, .oi ((i + 1 : Nat) : Int))] trivial (fun _ => [iadd .i64 ((i : Nat) : Int) 1 = ((i + 1 : Nat) : Int)]) [9, 10] [] [(9, .ar .u16 768 (rowof_m ek)), (10, .v (.int .i64 ((i + 1 : Nat) : Int)))] [] 1 (by kernel_rfl) ⟨by rw [iadd64 (by omega) (by omega)]; omega, trivial⟩ rfl hS fun ac gs ws hS => ?_
        refine then_n ?_
        exact next_r hg0 hS (s := (i)) (i + 1) [] (by kernel_rfl) (by kernel_rfl) trivial (show 3 - (i + 1) < 3 - i from by omega) ⟨(by omega), (lst_next pm (bne_g (by assumption))), trivial⟩
    · skip
      have h2 := of_decide_eq_false h
      clear h
      have hScur := hS
      obtain rfl : 3 = i := by omega
      have hS := hScur
      clear hScur
      refine wp_exit ?_
      refine then_exit ?_
      refine then_exit ?_
      refine block_exit ?_
      refine then_n ?_
      refine wp_seq ?_
      refine region_a (E := E0) mo hZ [] trivial (fun _ => []) [2] [] [(2, .v (.int .i64 0))] [] 0 (by kernel_rfl) trivial rfl hS fun ac gs ws hS => ?_
      refine then_n ?_
      refine wp_ret ?_
      exact fin_x (.inr rfl) hS (ds := [.v (.int .i64 0)]) (by kernel_rfl) (by show weak _ (.v (.int .i64 ((chk ek : Nat) : Int))) = .v (.int .i64 ((chk ek : Nat) : Int)); rw [chk_0 h1 (rmay_yes pm)]; rfl) trivial

noncomputable def c_checkdk (dk : List Int) : Con := ⟨[.ls false [.int .u8] dk], [], .v (.int .i64 ((chkdk dk : Nat) : Int)), []⟩
set_option maxRecDepth 100000 in
set_option maxHeartbeats 4000000 in
theorem checkdk_ok (dk : List Int) : ConOk Try.prog 12 (c_checkdk dk) := by
  refine conOk_of (nb := 0) Try.func12 rfl rfl Try.ntmps12 rfl rfl rfl fun g0 w0 ac gs ws hg0 hS => ?_
  have hlen0 : dk.length ≤ 9223372036854775807 := hS.len 0 rfl
  refine wp_seq ?_
  refine region_a (E := E0) mo hZ [] trivial (fun _ => []) [0, 2] [] [(0, .ls false [.int .u8] dk), (2, .v (.int .i64 0))] [] 0 (by kernel_rfl) trivial rfl hS fun ac gs ws hS => ?_
  refine then_n ?_
  refine wp_seq ?_
  refine wp_seq ?_
  refine region_a (E := E0) mo hZ [] trivial (fun _ => []) [0, 2, 7] [] [(0, .ls false [.int .u8] dk), (2, .v (.int .i64 0)), (7, .v (.bool (!decide (((dk.length : Nat) : Int) = 2400))))] [] 0 (by kernel_rfl) trivial rfl hS fun ac gs ws hS => ?_
  refine then_n ?_
  refine if_x hS rfl (fun h => ?_) (fun h => ?_)
  · skip
    have h1 := ndec_true h
    clear h
    refine wp_seq ?_
    refine region_a (E := E0) mo hZ [] trivial (fun _ => []) [0, 2] [] [(0, .ls false [.int .u8] dk), (2, .v (.int .i64 1))] [] 0 (by kernel_rfl) trivial rfl hS fun ac gs ws hS => ?_
    refine then_n ?_
    refine wp_ret ?_
    refine then_ret ?_
    exact fin_x (.inr rfl) hS (ds := [.v (.int .i64 1)]) (by kernel_rfl) (by show weak _ (.v (.int .i64 ((chkdk dk : Nat) : Int))) = .v (.int .i64 ((chkdk dk : Nat) : Int)); unfold chkdk; rw [if_neg (by omega)]; rfl) trivial
  · skip
    have h1 := ndec_false h
    clear h
    refine wp_skip ?_
    refine then_n ?_
    refine wp_seq ?_
    refine wp_seq ?_
    refine region_a (E := E0) mo hZ [(1, .call ⟨33, (c_rowof dk), [], []⟩)] ⟨rowof_ok dk (by first | omega | (simp only [List.length_append, List.length_drop, List.length_take, List.length_cons, List.length_nil]; omega)), trivial⟩ (fun C => [ndC C 1]) [0, 2, 9, 10] [] [(0, .ls false [.int .u8] dk), (2, .v (.int .i64 0)), (9, .ar .u16 768 (rowof_m dk)), (10, .v (.int .i64 0))] [] 0 (by kernel_rfl) ⟨rfl, trivial⟩ rfl hS fun ac gs ws hS => ?_
    refine then_n ?_
    refine wp_block ?_
    refine loop_r (σ := Nat) hg0 hS (fun i => 3 - i) (fun i => [(0, .ls false [.int .u8] dk), (9, .ar .u16 768 (rowof_m dk)), (10, .v (.int .i64 ((i : Nat) : Int)))]) (fun i => []) (fun i => (i ≤ 3) ∧ (∀ j, j < i → mayB (fun t => rowof_m dk (j * 256 + t)) = true) ∧ True) 0 0 [] (by kernel_rfl) (by kernel_rfl) trivial ⟨(by omega), (fun j h => absurd h (Nat.not_lt_zero j)), trivial⟩ ?_
    rintro i ac gs ws ⟨hi, pm, _⟩ hS
    refine wp_seq ?_
    refine region_a (E := E0) mo hZ [] trivial (fun _ => []) [0, 9, 10, 11] [] [(0, .ls false [.int .u8] dk), (9, .ar .u16 768 (rowof_m dk)), (10, .v (.int .i64 ((i : Nat) : Int))), (11, .v (.bool (decide (((i : Nat) : Int) < 3))))] [] 0 (by kernel_rfl) trivial rfl hS fun ac gs ws hS => ?_
    refine then_n ?_
    refine wp_seq ?_
    refine if_x hS rfl (fun h => ?_) (fun h => ?_)
    · skip
      have h2 := of_decide_eq_true h
      clear h
      refine wp_skip ?_
      refine then_n ?_
      refine wp_seq ?_
      refine wp_block ?_
      refine wp_seq ?_
      refine region_a (E := E0) mo hZ [] trivial (fun _ => [(0 : Int) ≤ ((i : Nat) : Int) ∧ (((i : Nat) : Int) : Int) < 3]) [0, 4, 9, 10] [0] [(0, .ls false [.int .u8] dk), (4, .cp 0 0), (9, .ar .u16 768 (rowof_m dk)), (10, .v (.int .i64 ((i : Nat) : Int)))] [(0, some (.ob 60 (chain [.ar .u16 256 (fun j => (rowof_m dk) (i * 256 + j))])))] 1 (by kernel_rfl) ⟨by omega, trivial⟩ rfl hS fun ac gs ws hS => ?_
      refine then_n ?_
      refine wp_seq ?_
      refine region_a (E := E0) mo hZ [(0, .ov (.ar .u16 256 (fun j => (rowof_m dk) (i * 256 + j)))), (1, .call ⟨34, (c_may (fun j => (rowof_m dk) (i * 256 + j))), [], []⟩)] ⟨may_ok (fun j => (rowof_m dk) (i * 256 + j)), trivial⟩ (fun C => [(.ar .u16 256 (fun j => (rowof_m dk) (i * 256 + j)) : D) = (.ar .u16 256 (fun j => (rowof_m dk) (i * 256 + j))), ndC C 1]) [0, 9, 10, 15] [] [(0, .ls false [.int .u8] dk), (9, .ar .u16 768 (rowof_m dk)), (10, .v (.int .i64 ((i : Nat) : Int))), (15, .v (.bool (!(mayB (fun j => (rowof_m dk) (i * 256 + j))))))] [] 1 (by kernel_rfl) ⟨rfl, rfl, trivial⟩ rfl hS fun ac gs ws hS => ?_
      refine then_n ?_
      refine if_x hS rfl (fun h => ?_) (fun h => ?_)
      · skip
        have h3 := h
        refine wp_seq ?_
        refine region_a (E := E0) mo hZ [] trivial (fun _ => []) [0, 2, 9, 10] [] [(0, .ls false [.int .u8] dk), (2, .v (.int .i64 2)), (9, .ar .u16 768 (rowof_m dk)), (10, .v (.int .i64 ((i : Nat) : Int)))] [] 1 (by kernel_rfl) trivial rfl hS fun ac gs ws hS => ?_
        refine then_n ?_
        refine wp_ret ?_
        refine block_ret ?_
        refine then_ret ?_
        refine then_ret ?_
        refine block_ret ?_
        refine then_ret ?_
        exact fin_x (.inr rfl) hS (ds := [.v (.int .i64 2)]) (by kernel_rfl) (by show weak _ (.v (.int .i64 ((chkdk dk : Nat) : Int))) = .v (.int .i64 ((chkdk dk : Nat) : Int)); unfold chkdk; rw [if_pos (by omega), if_neg (by rw [rmay_no (by omega) (bne_f h3)]; decide)]; rfl) trivial
      · skip
        have h3 := h
        refine wp_skip ?_
        refine block_n ?_
        refine then_n ?_
        refine region_a (E := E0) mo hZ [(0, .oi ((i + 1 : Nat) : Int))] trivial (fun _ => [iadd .i64 ((i : Nat) : Int) 1 = ((i + 1 : Nat) : Int)]) [0, 9, 10] [] [(0, .ls false [.int .u8] dk), (9, .ar .u16 768 (rowof_m dk)), (10, .v (.int .i64 ((i + 1 : Nat) : Int)))] [] 1 (by kernel_rfl) ⟨by rw [iadd64 (by omega) (by omega)]; omega, trivial⟩ rfl hS fun ac gs ws hS => ?_
        refine then_n ?_
        exact next_r hg0 hS (s := (i)) (i + 1) [] (by kernel_rfl) (by kernel_rfl) trivial (show 3 - (i + 1) < 3 - i from by omega) ⟨(by omega), (lst_next pm (bne_g (by assumption))), trivial⟩
    · skip
      have h2 := of_decide_eq_false h
      clear h
      have hScur := hS
      obtain rfl : 3 = i := by omega
      have hS := hScur
      clear hScur
      refine wp_exit ?_
      refine then_exit ?_
      refine then_exit ?_
      refine block_exit ?_
      refine then_n ?_
      refine wp_seq ?_
      refine wp_seq ?_
      by_cases h4 : ((chk ((dk.take 2336).drop 1152) : Nat) : Int) = 0
      · skip
        refine region_a (E := E0) mo hZ [(2, .call ⟨10, (c_check ((dk.take 2336).drop 1152)), [], []⟩), (3, .ob false), (8, .call ⟨37, (c_sum256 [(dk.take 2336).drop 1152]), [], []⟩), (11, .call ⟨36, (c_equal (sum256_m [(dk.take 2336).drop 1152]) ((dk.take 2368).drop 2336)), [], []⟩)] ⟨check_ok ((dk.take 2336).drop 1152), sum256_ok [(dk.take 2336).drop 1152] (by first | omega | (simp only [List.flatten_cons, List.flatten_nil, List.length_append, List.length_cons, List.length_nil, List.length_take, List.length_drop]; omega) | (simp; omega)), equal_ok (sum256_m [(dk.take 2336).drop 1152]) ((dk.take 2368).drop 2336), trivial⟩ (fun C => [bndP (some 1152) (some 2336) none dk.length dk.length, ndC C 2, (!decide (((chk ((dk.take 2336).drop 1152) : Nat) : Int) = 0)) = false, bndP (some 1152) (some 2336) none dk.length dk.length, ndC C 8, bndP (some 2336) (some 2368) none dk.length dk.length, ndC C 11]) [30] [] [(30, .v (.bool (!decide ((sum256_m [(dk.take 2336).drop 1152]) = ((dk.take 2368).drop 2336)))))] [] 0 (by kernel_rfl) ⟨⟨by simp only [nnI] <;> omega, by simp only [nnI] <;> omega, by simp only [nnI] <;> omega, by simp, by simp only [bl] <;> omega, by simp only [bl] <;> omega, by simp only [bl] <;> omega⟩, rfl, by rw [decide_eq_true h4]; rfl, ⟨by simp only [nnI] <;> omega, by simp only [nnI] <;> omega, by simp only [nnI] <;> omega, by simp, by simp only [bl] <;> omega, by simp only [bl] <;> omega, by simp only [bl] <;> omega⟩, rfl, ⟨by simp only [nnI] <;> omega, by simp only [nnI] <;> omega, by simp only [nnI] <;> omega, by simp, by simp only [bl] <;> omega, by simp only [bl] <;> omega, by simp only [bl] <;> omega⟩, rfl, trivial⟩ rfl hS fun ac gs ws hS => ?_
        refine then_n ?_
        refine if_x hS rfl (fun h => ?_) (fun h => ?_)
        · skip
          have h5 := ndec_true h
          clear h
          refine wp_seq ?_
          refine region_a (E := E0) mo hZ [] trivial (fun _ => []) [2] [] [(2, .v (.int .i64 2))] [] 0 (by kernel_rfl) trivial rfl hS fun ac gs ws hS => ?_
          refine then_n ?_
          refine wp_ret ?_
          refine then_ret ?_
          exact fin_x (.inr rfl) hS (ds := [.v (.int .i64 2)]) (by kernel_rfl) (by show weak _ (.v (.int .i64 ((chkdk dk : Nat) : Int))) = .v (.int .i64 ((chkdk dk : Nat) : Int)); unfold chkdk; rw [if_pos (by omega), if_pos (rmay_yes pm), if_pos (by omega), if_neg h5]; rfl) trivial
        · skip
          have h5 := ndec_false h
          clear h
          refine wp_skip ?_
          refine then_n ?_
          refine wp_seq ?_
          refine region_a (E := E0) mo hZ [] trivial (fun _ => []) [2] [] [(2, .v (.int .i64 0))] [] 0 (by kernel_rfl) trivial rfl hS fun ac gs ws hS => ?_
          refine then_n ?_
          refine wp_ret ?_
          exact fin_x (.inr rfl) hS (ds := [.v (.int .i64 0)]) (by kernel_rfl) (by show weak _ (.v (.int .i64 ((chkdk dk : Nat) : Int))) = .v (.int .i64 ((chkdk dk : Nat) : Int)); unfold chkdk; rw [if_pos (by omega), if_pos (rmay_yes pm), if_pos (by omega), if_pos h5]; rfl) trivial
      · skip
        refine region_a (E := E0) mo hZ [(2, .call ⟨10, (c_check ((dk.take 2336).drop 1152)), [], []⟩), (3, .ob true)] ⟨check_ok ((dk.take 2336).drop 1152), trivial⟩ (fun C => [bndP (some 1152) (some 2336) none dk.length dk.length, ndC C 2, (!decide (((chk ((dk.take 2336).drop 1152) : Nat) : Int) = 0)) = true]) [30] [] [(30, .v (.bool true))] [] 0 (by kernel_rfl) ⟨⟨by simp only [nnI] <;> omega, by simp only [nnI] <;> omega, by simp only [nnI] <;> omega, by simp, by simp only [bl] <;> omega, by simp only [bl] <;> omega, by simp only [bl] <;> omega⟩, rfl, by rw [decide_eq_false h4]; rfl, trivial⟩ rfl hS fun ac gs ws hS => ?_
        refine then_n ?_
        refine wp_cond_true (hS.fx.frm.eval rfl) ?_
        refine wp_seq ?_
        refine region_a (E := E0) mo hZ [] trivial (fun _ => []) [2] [] [(2, .v (.int .i64 2))] [] 0 (by kernel_rfl) trivial rfl hS fun ac gs ws hS => ?_
        refine then_n ?_
        refine wp_ret ?_
        refine then_ret ?_
        exact fin_x (.inr rfl) hS (ds := [.v (.int .i64 2)]) (by kernel_rfl) (by show weak _ (.v (.int .i64 ((chkdk dk : Nat) : Int))) = .v (.int .i64 ((chkdk dk : Nat) : Int)); unfold chkdk; rw [if_pos (by omega), if_pos (rmay_yes pm), if_neg (by omega)]; rfl) trivial

end Go.Sx.Try
namespace Go.Sx.Try
open Go.Mi Go.RowKit Go.Sx Go.Proofs
@[simp] theorem rbytes_len (f : Nat → Int) : (rbytes_m f).length = 1152 := by
  have key : ∀ i, (rbytes_l1 f i).length = 384 * i := by
    intro i
    induction i with
    | zero => rfl
    | succ i ih =>
      show (rbytes_l1_s f i (rbytes_l1 f i)).length = _
      unfold rbytes_l1_s
      rw [List.length_append, encode12_len, ih]; omega
  rw [rbytes_e]
  exact key 3
theorem chk_len {xs : List Int} (h : chk xs = 0) : xs.length = 1184 := by
  by_cases e : xs.length = 1184
  · exact e
  · unfold chk at h; rw [if_neg e] at h; exact absurd h (by decide)
theorem chkdk_len {xs : List Int} (h : chkdk xs = 0) : xs.length = 2400 := by
  by_cases e : xs.length = 2400
  · exact e
  · unfold chkdk at h; rw [if_neg e] at h; exact absurd h (by decide)
noncomputable def keys_l1_s (d : List Int) (z : List Int) (x35 : Nat) : (Nat → Int) → (Nat → Int) := fun o11_0 => updW o11_0 (x35 * 256) 256 (add_m (fun j => o11_0 (x35 * 256 + j)) (dot_m (matrix_false_m ((sum512_m [d, [3]]).take 32) x35) (each_ntt_m (knoise_m ((sum512_m [d, [3]]).drop 32) 0))))
noncomputable def keys_l1 (d : List Int) (z : List Int) : Nat → (Nat → Int)
  | 0 => each_ntt_m (knoise_m ((sum512_m [d, [3]]).drop 32) 3)
  | x35 + 1 => keys_l1_s d z x35 (keys_l1 d z x35)
noncomputable def keys_v (d : List Int) (z : List Int) : (List Int) × (List Int) := ([rbytes_m (keys_l1 d z 3), (sum512_m [d, [3]]).take 32].flatten, [rbytes_m (each_ntt_m (knoise_m ((sum512_m [d, [3]]).drop 32) 0)), [rbytes_m (keys_l1 d z 3), (sum512_m [d, [3]]).take 32].flatten, sum256_m [[rbytes_m (keys_l1 d z 3), (sum512_m [d, [3]]).take 32].flatten], z].flatten)
noncomputable def keys_m (d : List Int) (z : List Int) : (List Int) × (List Int) := shut (keys_v d z)
theorem keys_e (d : List Int) (z : List Int) : keys_m d z = keys_v d z := shut_eq _
theorem keys_len (d z : List Int) (hz : z.length = 32) : (keys_m d z).1.length = 1184 ∧ (keys_m d z).2.length = 2400 := by
  have h1 := sum512_len [d, [3]]
  rw [keys_e]
  unfold keys_v
  simp only [List.flatten_cons, List.flatten_nil, List.length_append, List.length_nil, rbytes_len, sum256_len, List.length_take, h1, hz]
  exact ⟨by omega, by omega⟩
noncomputable def c_keys (d : List Int) (z : List Int) : Con := ⟨[.ls false [.int .u8] d, .ls false [.int .u8] z], [], .tu (chain [.ls false [.int .u8] ((keys_m d z).1), .sk 0, .v (.int .i64 0)]), [(0, .sl 5 [.int .u8] ((keys_m d z).2))]⟩
set_option maxRecDepth 100000 in
set_option maxHeartbeats 4000000 in
theorem keys_ok (d : List Int) (z : List Int) (hd : d.length = 32) (hz : z.length = 32) : ConOk Try.prog 14 (c_keys d z) := by
  refine conOk_of (nb := 0) Try.func14 rfl rfl Try.ntmps14 rfl rfl rfl fun g0 w0 ac gs ws hg0 hS => ?_
  have hlen0 : d.length ≤ 9223372036854775807 := hS.len 0 rfl
  have hlen1 : z.length ≤ 9223372036854775807 := hS.len 1 rfl
  have hd1 : ((d.length : Nat) : Int) = 32 := (by omega)
  have hz1 : ((z.length : Nat) : Int) = 32 := (by omega)
  refine wp_seq ?_
  refine region_a (E := E0) mo hZ [] trivial (fun _ => []) [0, 1, 4, 5, 6] [] [(0, .ls false [.int .u8] d), (1, .ls false [.int .u8] z), (4, .v (.slice none 0 0)), (5, .v (.slice none 0 0)), (6, .v (.int .i64 0))] [] 0 (by kernel_rfl) trivial rfl hS fun ac gs ws hS => ?_
  refine then_n ?_
  refine wp_seq ?_
  refine wp_seq ?_
  refine region_a (E := E0) mo hZ [(2, .ob false), (6, .ob false)] trivial (fun _ => [(!decide (((d.length : Nat) : Int) = 32)) = false, (!decide (((z.length : Nat) : Int) = 32)) = false]) [0, 1, 4, 5, 6, 20] [] [(0, .ls false [.int .u8] d), (1, .ls false [.int .u8] z), (4, .v (.slice none 0 0)), (5, .v (.slice none 0 0)), (6, .v (.int .i64 0)), (20, .v (.bool false))] [] 0 (by kernel_rfl) ⟨by rw [decide_eq_true hd1]; rfl, by rw [decide_eq_true hz1]; rfl, trivial⟩ rfl hS fun ac gs ws hS => ?_
  refine then_n ?_
  refine wp_cond_false (hS.fx.frm.eval rfl) ?_
  refine wp_skip ?_
  refine then_n ?_
  refine wp_seq ?_
  refine region_a (E := E0) mo hZ [(3, .call ⟨38, (c_sum512 [d, [3]]), [], []⟩)] ⟨sum512_ok [d, [3]] (by first | omega | (simp only [List.flatten_cons, List.flatten_nil, List.length_append, List.length_cons, List.length_nil, List.length_take, List.length_drop]; omega) | (simp; omega)), trivial⟩ (fun C => [ndC C 3]) [1, 4, 5, 6, 7] [] [(1, .ls false [.int .u8] z), (4, .v (.slice none 0 0)), (5, .v (.slice none 0 0)), (6, .v (.int .i64 0)), (7, .ls false [.int .u8] (sum512_m [d, [3]]))] [] 0 (by kernel_rfl) ⟨rfl, trivial⟩ rfl hS fun ac gs ws hS => ?_
  refine then_n ?_
  refine wp_seq ?_
  have hl := sum512_len [d, [3]]
  refine region_a (E := E0) mo hZ [] trivial (fun _ => [bndP none (some 32) none (sum512_m [d, [3]]).length (sum512_m [d, [3]]).length, bndP (some 32) none none (sum512_m [d, [3]]).length (sum512_m [d, [3]]).length]) [1, 4, 5, 6, 8, 9] [] [(1, .ls false [.int .u8] z), (4, .v (.slice none 0 0)), (5, .v (.slice none 0 0)), (6, .v (.int .i64 0)), (8, .ls false [.int .u8] ((sum512_m [d, [3]]).take 32)), (9, .ls false [.int .u8] ((sum512_m [d, [3]]).drop 32))] [] 0 (by kernel_rfl) ⟨⟨by simp only [nnI] <;> omega, by simp only [nnI] <;> omega, by simp only [nnI] <;> omega, by simp, by simp only [bl] <;> omega, by simp only [bl] <;> omega, by simp only [bl] <;> omega⟩, ⟨by simp only [nnI] <;> omega, by simp only [nnI] <;> omega, by simp only [nnI] <;> omega, by simp, by simp only [bl] <;> omega, by simp only [bl] <;> omega, by simp only [bl] <;> omega⟩, trivial⟩ rfl hS fun ac gs ws hS => ?_
  refine then_n ?_
  refine wp_seq ?_
  refine region_a (E := E0) mo hZ [(1, .call ⟨39, (c_knoise ((sum512_m [d, [3]]).drop 32) 0), [], []⟩), (2, .call ⟨40, (c_each_ntt (knoise_m ((sum512_m [d, [3]]).drop 32) 0)), [], []⟩)] ⟨knoise_ok ((sum512_m [d, [3]]).drop 32) 0 (by first | omega | (simp only [List.length_append, List.length_drop, List.length_take, List.length_cons, List.length_nil]; omega)) (by omega), each_ntt_ok (knoise_m ((sum512_m [d, [3]]).drop 32) 0), trivial⟩ (fun C => [ndC C 1, nd [.ar .u16 768 (knoise_m ((sum512_m [d, [3]]).drop 32) 0), .v (.func (.func 41) #[] #[])] []]) [1, 4, 5, 6, 8, 9, 10] [0] [(1, .ls false [.int .u8] z), (4, .v (.slice none 0 0)), (5, .v (.slice none 0 0)), (6, .v (.int .i64 0)), (8, .ls false [.int .u8] ((sum512_m [d, [3]]).take 32)), (9, .ls false [.int .u8] ((sum512_m [d, [3]]).drop 32)), (10, .cp 0 0)] [(0, some (.ob 62 (chain [.ar .u16 768 (each_ntt_m (knoise_m ((sum512_m [d, [3]]).drop 32) 0))])))] 1 (by kernel_rfl) ⟨rfl, rfl, trivial⟩ rfl hS fun ac gs ws hS => ?_
  refine then_n ?_
  refine wp_seq ?_
  refine region_a (E := E0) mo hZ [(1, .call ⟨39, (c_knoise ((sum512_m [d, [3]]).drop 32) 3), [], []⟩), (2, .call ⟨40, (c_each_ntt (knoise_m ((sum512_m [d, [3]]).drop 32) 3)), [], []⟩)] ⟨knoise_ok ((sum512_m [d, [3]]).drop 32) 3 (by first | omega | (simp only [List.length_append, List.length_drop, List.length_take, List.length_cons, List.length_nil]; omega)) (by omega), each_ntt_ok (knoise_m ((sum512_m [d, [3]]).drop 32) 3), trivial⟩ (fun C => [ndC C 1, nd [.ar .u16 768 (knoise_m ((sum512_m [d, [3]]).drop 32) 3), .v (.func (.func 41) #[] #[])] []]) [1, 4, 5, 6, 8, 10, 11] [0, 1] [(1, .ls false [.int .u8] z), (4, .v (.slice none 0 0)), (5, .v (.slice none 0 0)), (6, .v (.int .i64 0)), (8, .ls false [.int .u8] ((sum512_m [d, [3]]).take 32)), (10, .cp 0 0), (11, .cp 1 0)] [(0, some (.ob 62 (chain [.ar .u16 768 (each_ntt_m (knoise_m ((sum512_m [d, [3]]).drop 32) 0))]))), (1, some (.ob 62 (chain [.ar .u16 768 (each_ntt_m (knoise_m ((sum512_m [d, [3]]).drop 32) 3))])))] 2 (by kernel_rfl) ⟨rfl, rfl, trivial⟩ rfl hS fun ac gs ws hS => ?_
  refine then_n ?_
  refine wp_seq ?_
  refine wp_seq ?_
  refine region_a (E := E0) mo hZ [] trivial (fun _ => []) [1, 4, 5, 6, 8, 10, 11, 35] [0, 1] [(1, .ls false [.int .u8] z), (4, .v (.slice none 0 0)), (5, .v (.slice none 0 0)), (6, .v (.int .i64 0)), (8, .ls false [.int .u8] ((sum512_m [d, [3]]).take 32)), (10, .cp 0 0), (11, .cp 1 0), (35, .v (.int .i64 0))] [(0, some (.ob 62 (chain [.ar .u16 768 (each_ntt_m (knoise_m ((sum512_m [d, [3]]).drop 32) 0))]))), (1, some (.ob 62 (chain [.ar .u16 768 (each_ntt_m (knoise_m ((sum512_m [d, [3]]).drop 32) 3))])))] 2 (by kernel_rfl) trivial rfl hS fun ac gs ws hS => ?_
  refine then_n ?_
  refine wp_block ?_
  refine loop_r (σ := Nat × (Nat → Int)) hg0 hS (fun z_ => match z_ with | (x35, o11_0) => 3 - x35) (fun z_ => match z_ with | (x35, o11_0) => [(1, .ls false [.int .u8] z), (4, .v (.slice none 0 0)), (5, .v (.slice none 0 0)), (6, .v (.int .i64 0)), (8, .ls false [.int .u8] ((sum512_m [d, [3]]).take 32)), (10, .cp 0 0), (11, .cp 1 0), (35, .v (.int .i64 ((x35 : Nat) : Int)))]) (fun z_ => match z_ with | (x35, o11_0) => [(0, .ob 62 (chain [.ar .u16 768 (each_ntt_m (knoise_m ((sum512_m [d, [3]]).drop 32) 0))])), (1, .ob 62 (chain [.ar .u16 768 o11_0]))]) (fun z_ => match z_ with | (x35, o11_0) => (x35 ≤ 3) ∧ (o11_0 = keys_l1 d z x35) ∧ True) 2 (0, each_ntt_m (knoise_m ((sum512_m [d, [3]]).drop 32) 3)) [(0, 0), (1, 1)] (by kernel_rfl) (by kernel_rfl) ⟨rfl, rfl, trivial⟩ ⟨(by omega), rfl, trivial⟩ ?_
  rintro ⟨x35, o11_0⟩ ac gs ws ⟨hx35, hq1, _⟩ hS
  refine wp_seq ?_
  refine region_a (E := E0) mo hZ [] trivial (fun _ => []) [1, 4, 5, 6, 8, 10, 11, 35, 36] [0, 1] [(1, .ls false [.int .u8] z), (4, .v (.slice none 0 0)), (5, .v (.slice none 0 0)), (6, .v (.int .i64 0)), (8, .ls false [.int .u8] ((sum512_m [d, [3]]).take 32)), (10, .cp 0 0), (11, .cp 1 0), (35, .v (.int .i64 ((x35 : Nat) : Int))), (36, .v (.bool (decide (((x35 : Nat) : Int) < 3))))] [(0, some (.ob 62 (chain [.ar .u16 768 (each_ntt_m (knoise_m ((sum512_m [d, [3]]).drop 32) 0))]))), (1, some (.ob 62 (chain [.ar .u16 768 o11_0])))] 2 (by kernel_rfl) trivial rfl hS fun ac gs ws hS => ?_
  refine then_n ?_
  refine wp_seq ?_
  refine if_x hS rfl (fun h => ?_) (fun h => ?_)
  · skip
    have h1 := of_decide_eq_true h
    clear h
    refine wp_skip ?_
    refine then_n ?_
    refine wp_seq ?_
    refine wp_block ?_
    refine wp_seq ?_
    refine region_a (E := E0) mo hZ [] trivial (fun _ => []) [1, 4, 5, 6, 8, 10, 11, 12, 35] [0, 1] [(1, .ls false [.int .u8] z), (4, .v (.slice none 0 0)), (5, .v (.slice none 0 0)), (6, .v (.int .i64 0)), (8, .ls false [.int .u8] ((sum512_m [d, [3]]).take 32)), (10, .cp 0 0), (11, .cp 1 0), (12, .v (.int .i64 ((x35 : Nat) : Int))), (35, .v (.int .i64 ((x35 : Nat) : Int)))] [(0, some (.ob 62 (chain [.ar .u16 768 (each_ntt_m (knoise_m ((sum512_m [d, [3]]).drop 32) 0))]))), (1, some (.ob 62 (chain [.ar .u16 768 o11_0])))] 2 (by kernel_rfl) trivial rfl hS fun ac gs ws hS => ?_
    refine then_n ?_
    refine region_a (E := E0) mo hZ [(3, .ov (.ar .u16 256 (fun j => o11_0 (x35 * 256 + j)))), (6, .call ⟨43, (c_matrix_false ((sum512_m [d, [3]]).take 32) x35), [], []⟩), (7, .ov (.ar .u16 768 (each_ntt_m (knoise_m ((sum512_m [d, [3]]).drop 32) 0)))), (8, .call ⟨44, (c_dot (matrix_false_m ((sum512_m [d, [3]]).take 32) x35) (each_ntt_m (knoise_m ((sum512_m [d, [3]]).drop 32) 0))), [], []⟩), (9, .call ⟨42, (c_add (fun j => o11_0 (x35 * 256 + j)) (dot_m (matrix_false_m ((sum512_m [d, [3]]).take 32) x35) (each_ntt_m (knoise_m ((sum512_m [d, [3]]).drop 32) 0)))), [], []⟩)] ⟨matrix_false_ok ((sum512_m [d, [3]]).take 32) x35 (by first | omega | (simp only [List.length_append, List.length_drop, List.length_take, List.length_cons, List.length_nil]; omega)) (by omega), dot_ok (matrix_false_m ((sum512_m [d, [3]]).take 32) x35) (each_ntt_m (knoise_m ((sum512_m [d, [3]]).drop 32) 0)), add_ok (fun j => o11_0 (x35 * 256 + j)) (dot_m (matrix_false_m ((sum512_m [d, [3]]).take 32) x35) (each_ntt_m (knoise_m ((sum512_m [d, [3]]).drop 32) 0))), trivial⟩ (fun C => [(0 : Int) ≤ ((x35 : Nat) : Int) ∧ (((x35 : Nat) : Int) : Int) < 3, (.ar .u16 256 (fun j => o11_0 (x35 * 256 + j)) : D) = (.ar .u16 256 (fun j => o11_0 (x35 * 256 + j))), ndC C 6, (.ar .u16 768 (each_ntt_m (knoise_m ((sum512_m [d, [3]]).drop 32) 0)) : D) = (.ar .u16 768 (each_ntt_m (knoise_m ((sum512_m [d, [3]]).drop 32) 0))), nd [.ar .u16 768 (matrix_false_m ((sum512_m [d, [3]]).take 32) x35), .ar .u16 768 (each_ntt_m (knoise_m ((sum512_m [d, [3]]).drop 32) 0))] [], nd [.ar .u16 256 (fun j => o11_0 (x35 * 256 + j)), .ar .u16 256 (dot_m (matrix_false_m ((sum512_m [d, [3]]).take 32) x35) (each_ntt_m (knoise_m ((sum512_m [d, [3]]).drop 32) 0)))] [], (0 : Int) ≤ ((x35 : Nat) : Int) ∧ (((x35 : Nat) : Int) : Int) < 3]) [1, 4, 5, 6, 8, 10, 11, 35] [0, 1] [(1, .ls false [.int .u8] z), (4, .v (.slice none 0 0)), (5, .v (.slice none 0 0)), (6, .v (.int .i64 0)), (8, .ls false [.int .u8] ((sum512_m [d, [3]]).take 32)), (10, .cp 0 0), (11, .cp 1 0), (35, .v (.int .i64 ((x35 : Nat) : Int)))] [(0, some (.ob 62 (chain [.ar .u16 768 (each_ntt_m (knoise_m ((sum512_m [d, [3]]).drop 32) 0))]))), (1, some (.ob 62 (chain [.ar .u16 768 (updW o11_0 (x35 * 256) 256 (add_m (fun j => o11_0 (x35 * 256 + j)) (dot_m (matrix_false_m ((sum512_m [d, [3]]).take 32) x35) (each_ntt_m (knoise_m ((sum512_m [d, [3]]).drop 32) 0)))))])))] 2 (by kernel_rfl) ⟨by omega, rfl, rfl, rfl, rfl, rfl, by omega, trivial⟩ rfl hS fun ac gs ws hS => ?_
    refine block_n ?_
    refine then_n ?_
    refine region_a (E := E0) mo hZ [(0, .oi ((x35 + 1 : Nat) : Int))] trivial (fun _ => [iadd .i64 ((x35 : Nat) : Int) 1 = ((x35 + 1 : Nat) : Int)]) [1, 4, 5, 6, 8, 10, 11, 35] [0, 1] [(1, .ls false [.int .u8] z), (4, .v (.slice none 0 0)), (5, .v (.slice none 0 0)), (6, .v (.int .i64 0)), (8, .ls false [.int .u8] ((sum512_m [d, [3]]).take 32)), (10, .cp 0 0), (11, .cp 1 0), (35, .v (.int .i64 ((x35 + 1 : Nat) : Int)))] [(0, some (.ob 62 (chain [.ar .u16 768 (each_ntt_m (knoise_m ((sum512_m [d, [3]]).drop 32) 0))]))), (1, some (.ob 62 (chain [.ar .u16 768 (updW o11_0 (x35 * 256) 256 (add_m (fun j => o11_0 (x35 * 256 + j)) (dot_m (matrix_false_m ((sum512_m [d, [3]]).take 32) x35) (each_ntt_m (knoise_m ((sum512_m [d, [3]]).drop 32) 0)))))])))] 2 (by kernel_rfl) ⟨by rw [iadd64 (by omega) (by omega)]; omega, trivial⟩ rfl hS fun ac gs ws hS => ?_
    refine then_n ?_
    exact next_r hg0 hS (s := (x35, o11_0)) (x35 + 1, updW o11_0 (x35 * 256) 256 (add_m (fun j => o11_0 (x35 * 256 + j)) (dot_m (matrix_false_m ((sum512_m [d, [3]]).take 32) x35) (each_ntt_m (knoise_m ((sum512_m [d, [3]]).drop 32) 0))))) [(0, 0), (1, 1)] (by kernel_rfl) (by kernel_rfl) ⟨rfl, rfl, trivial⟩ (show 3 - (x35 + 1) < 3 - x35 from by omega) ⟨(by omega), (it_next (F := keys_l1 d z) (st := keys_l1_s d z) (fun _ => rfl) hq1 rfl), trivial⟩
  · skip
    have h1 := of_decide_eq_false h
    clear h
    have hScur := hS
    obtain rfl : 3 = x35 := by omega
    obtain rfl : keys_l1 d z 3 = o11_0 := Eq.symm (congrArg (fun z => z) hq1)
    have hS := hScur
    clear hScur
    refine wp_exit ?_
    refine then_exit ?_
    refine then_exit ?_
    refine block_exit ?_
    refine then_n ?_
    refine wp_seq ?_
    have hb := rbytes_len (keys_l1 d z 3)
    refine region_a (E := E0) mo hZ [(0, .ov (.ar .u16 768 (keys_l1 d z 3))), (1, .call ⟨46, (c_rbytes (keys_l1 d z 3)), [], []⟩), (4, .call ⟨45, (c_cat [rbytes_m (keys_l1 d z 3), (sum512_m [d, [3]]).take 32]), [], [(0, 2)]⟩)] ⟨rbytes_ok (keys_l1 d z 3), cat_ok [rbytes_m (keys_l1 d z 3), (sum512_m [d, [3]]).take 32] (by first | omega | (simp only [List.flatten_cons, List.flatten_nil, List.length_append, List.length_cons, List.length_nil, List.length_take, List.length_drop]; omega) | (simp; omega)), trivial⟩ (fun C => [(.ar .u16 768 (keys_l1 d z 3) : D) = (.ar .u16 768 (keys_l1 d z 3)), ndC C 1, ndC C 4]) [1, 4, 5, 6, 10] [0, 2] [(1, .ls false [.int .u8] z), (4, .sk 2), (5, .v (.slice none 0 0)), (6, .v (.int .i64 0)), (10, .cp 0 0)] [(0, some (.ob 62 (chain [.ar .u16 768 (each_ntt_m (knoise_m ((sum512_m [d, [3]]).drop 32) 0))]))), (2, some (.sl 5 [.int .u8] ([rbytes_m (keys_l1 d z 3), (sum512_m [d, [3]]).take 32].flatten)))] 3 (by kernel_rfl) ⟨rfl, rfl, rfl, trivial⟩ rfl hS fun ac gs ws hS => ?_
    refine then_n ?_
    refine wp_seq ?_
    have hb2 := rbytes_len (each_ntt_m (knoise_m ((sum512_m [d, [3]]).drop 32) 0))
    obtain ⟨gs, hS⟩ := hS.frz 2 false (by nofun) rfl (L' := [(1, .ls false [.int .u8] z), (4, .ls false [.int .u8] ([rbytes_m (keys_l1 d z 3), (sum512_m [d, [3]]).take 32].flatten)), (5, .v (.slice none 0 0)), (6, .v (.int .i64 0)), (10, .cp 0 0)]) (H' := [(2, none), (0, some (.ob 62 (chain [.ar .u16 768 (each_ntt_m (knoise_m ((sum512_m [d, [3]]).drop 32) 0))]))), (2, some (.sl 5 [.int .u8] ([rbytes_m (keys_l1 d z 3), (sum512_m [d, [3]]).take 32].flatten)))]) (by kernel_rfl) (by kernel_rfl)
    refine region_a (E := E0) mo hZ [(1, .ov (.ar .u16 768 (each_ntt_m (knoise_m ((sum512_m [d, [3]]).drop 32) 0)))), (2, .call ⟨46, (c_rbytes (each_ntt_m (knoise_m ((sum512_m [d, [3]]).drop 32) 0))), [], []⟩), (6, .call ⟨37, (c_sum256 [[rbytes_m (keys_l1 d z 3), (sum512_m [d, [3]]).take 32].flatten]), [], []⟩), (9, .call ⟨45, (c_cat [rbytes_m (each_ntt_m (knoise_m ((sum512_m [d, [3]]).drop 32) 0)), [rbytes_m (keys_l1 d z 3), (sum512_m [d, [3]]).take 32].flatten, sum256_m [[rbytes_m (keys_l1 d z 3), (sum512_m [d, [3]]).take 32].flatten], z]), [], [(0, 3)]⟩)] ⟨rbytes_ok (each_ntt_m (knoise_m ((sum512_m [d, [3]]).drop 32) 0)), sum256_ok [[rbytes_m (keys_l1 d z 3), (sum512_m [d, [3]]).take 32].flatten] (by first | omega | (simp only [List.flatten_cons, List.flatten_nil, List.length_append, List.length_cons, List.length_nil, List.length_take, List.length_drop]; omega) | (simp; omega)), cat_ok [rbytes_m (each_ntt_m (knoise_m ((sum512_m [d, [3]]).drop 32) 0)), [rbytes_m (keys_l1 d z 3), (sum512_m [d, [3]]).take 32].flatten, sum256_m [[rbytes_m (keys_l1 d z 3), (sum512_m [d, [3]]).take 32].flatten], z] (by first | omega | (simp only [List.flatten_cons, List.flatten_nil, List.length_append, List.length_cons, List.length_nil, List.length_take, List.length_drop]; omega) | (simp; omega)), trivial⟩ (fun C => [(.ar .u16 768 (each_ntt_m (knoise_m ((sum512_m [d, [3]]).drop 32) 0)) : D) = (.ar .u16 768 (each_ntt_m (knoise_m ((sum512_m [d, [3]]).drop 32) 0))), ndC C 2, ndC C 6, ndC C 9]) [4, 5, 6] [3] [(4, .ls false [.int .u8] ([rbytes_m (keys_l1 d z 3), (sum512_m [d, [3]]).take 32].flatten)), (5, .sk 3), (6, .v (.int .i64 0))] [(3, some (.sl 5 [.int .u8] ([rbytes_m (each_ntt_m (knoise_m ((sum512_m [d, [3]]).drop 32) 0)), [rbytes_m (keys_l1 d z 3), (sum512_m [d, [3]]).take 32].flatten, sum256_m [[rbytes_m (keys_l1 d z 3), (sum512_m [d, [3]]).take 32].flatten], z].flatten)))] 4 (by kernel_rfl) ⟨rfl, rfl, rfl, rfl, trivial⟩ rfl hS fun ac gs ws hS => ?_
    refine then_n ?_
    refine wp_ret ?_
    have hM : keys_m d z = ([rbytes_m (keys_l1 d z 3), (sum512_m [d, [3]]).take 32].flatten, [rbytes_m (each_ntt_m (knoise_m ((sum512_m [d, [3]]).drop 32) 0)), [rbytes_m (keys_l1 d z 3), (sum512_m [d, [3]]).take 32].flatten, sum256_m [[rbytes_m (keys_l1 d z 3), (sum512_m [d, [3]]).take 32].flatten], z].flatten) := keys_e d z
    obtain ⟨gs, hS⟩ := St.ren hg0 hS [(0, 3)] [(4, .ls false [.int .u8] ([rbytes_m (keys_l1 d z 3), (sum512_m [d, [3]]).take 32].flatten)), (5, .sk 0), (6, .v (.int .i64 0))] [(0, .sl 5 [.int .u8] ([rbytes_m (each_ntt_m (knoise_m ((sum512_m [d, [3]]).drop 32) 0)), [rbytes_m (keys_l1 d z 3), (sum512_m [d, [3]]).take 32].flatten, sum256_m [[rbytes_m (keys_l1 d z 3), (sum512_m [d, [3]]).take 32].flatten], z].flatten))] 1 (by kernel_rfl) (by kernel_rfl) ⟨rfl, trivial⟩
    exact fin_x (.inr rfl) hS (ds := [.ls false [.int .u8] ([rbytes_m (keys_l1 d z 3), (sum512_m [d, [3]]).take 32].flatten), .sk 0, .v (.int .i64 0)]) (by kernel_rfl) (by show weak _ (.tu (chain [.ls false [.int .u8] ((keys_m d z).1), .sk 0, .v (.int .i64 0)])) = (.tu (chain [.ls false [.int .u8] ((keys_m d z).1), .sk 0, .v (.int .i64 0)])); rw [hM]; first | (simp only []; rfl) | (simp only []; done) | rfl) (by show H1Ok _ [(0, .sl 5 [.int .u8] ((keys_m d z).2))] true; rw [hM]; first | (simp only []; exact ⟨rfl, trivial⟩) | exact ⟨rfl, trivial⟩)

noncomputable def keysk_l1_s (d : List Int) (z : List Int) (x35 : Nat) : (Nat → Int) → (Nat → Int) := fun o11_0 => updW o11_0 (x35 * 256) 256 (add_m (fun j => o11_0 (x35 * 256 + j)) (dot_m (matrix_false_m ((sum512_m [d, [3]]).take 32) x35) (each_ntt_m (knoise_m ((sum512_m [d, [3]]).drop 32) 0))))
noncomputable def keysk_l1 (d : List Int) (z : List Int) : Nat → (Nat → Int)
  | 0 => each_ntt_m (knoise_m ((sum512_m [d, [3]]).drop 32) 3)
  | x35 + 1 => keysk_l1_s d z x35 (keysk_l1 d z x35)
noncomputable def keysk_v (d : List Int) (z : List Int) : (List Int) × (List Int) := ([rbytes_m (keysk_l1 d z 3), (sum512_m [d, [3]]).take 32].flatten, [rbytes_m (each_ntt_m (knoise_m ((sum512_m [d, [3]]).drop 32) 0)), [rbytes_m (keysk_l1 d z 3), (sum512_m [d, [3]]).take 32].flatten, sum256_m [[rbytes_m (keysk_l1 d z 3), (sum512_m [d, [3]]).take 32].flatten], z].flatten)
noncomputable def keysk_m (d : List Int) (z : List Int) : (List Int) × (List Int) := shut (keysk_v d z)
theorem keysk_e (d : List Int) (z : List Int) : keysk_m d z = keysk_v d z := shut_eq _
theorem keysk_len (d z : List Int) (hz : z.length = 32) : (keysk_m d z).1.length = 1184 ∧ (keysk_m d z).2.length = 2400 := by
  have h1 := sum512_len [d, [3]]
  rw [keysk_e]
  unfold keysk_v
  simp only [List.flatten_cons, List.flatten_nil, List.length_append, List.length_nil, rbytes_len, sum256_len, List.length_take, h1, hz]
  exact ⟨by omega, by omega⟩
noncomputable def c_keysk (d : List Int) (z : List Int) : Con := ⟨[.sk 0, .sk 1], [(0, .sl 5 [.int .u8] d), (1, .sl 5 [.int .u8] z)], .tu (chain [.ls false [.int .u8] ((keysk_m d z).1), .sk 2, .v (.int .i64 0)]), [(2, .sl 5 [.int .u8] ((keysk_m d z).2))]⟩
set_option maxRecDepth 100000 in
set_option maxHeartbeats 4000000 in
theorem keysk_ok (d : List Int) (z : List Int) (hd : d.length = 32) (hz : z.length = 32) : ConOk Try.prog 14 (c_keysk d z) := by
  refine conOk_of (nb := 2) Try.func14 rfl rfl Try.ntmps14 rfl rfl rfl fun g0 w0 ac gs ws hg0 hS => ?_
  have hlenk0 : d.length ≤ 9223372036854775807 := hS.lens 0 rfl
  have hlenk1 : z.length ≤ 9223372036854775807 := hS.lens 1 rfl
  have hd1 : ((d.length : Nat) : Int) = 32 := (by omega)
  have hz1 : ((z.length : Nat) : Int) = 32 := (by omega)
  refine wp_seq ?_
  refine region_a (E := E0) mo hZ [] trivial (fun _ => []) [0, 1, 4, 5, 6] [0, 1] [(0, .sk 0), (1, .sk 1), (4, .v (.slice none 0 0)), (5, .v (.slice none 0 0)), (6, .v (.int .i64 0))] [(0, some (.sl 5 [.int .u8] d)), (1, some (.sl 5 [.int .u8] z))] 2 (by kernel_rfl) trivial rfl hS fun ac gs ws hS => ?_
  refine then_n ?_
  refine wp_seq ?_
  refine wp_seq ?_
  refine region_a (E := E0) mo hZ [(2, .ob false), (6, .ob false)] trivial (fun _ => [(!decide (((d.length : Nat) : Int) = 32)) = false, (!decide (((z.length : Nat) : Int) = 32)) = false]) [0, 1, 4, 5, 6, 20] [0, 1] [(0, .sk 0), (1, .sk 1), (4, .v (.slice none 0 0)), (5, .v (.slice none 0 0)), (6, .v (.int .i64 0)), (20, .v (.bool false))] [(0, some (.sl 5 [.int .u8] d)), (1, some (.sl 5 [.int .u8] z))] 2 (by kernel_rfl) ⟨by rw [decide_eq_true hd1]; rfl, by rw [decide_eq_true hz1]; rfl, trivial⟩ rfl hS fun ac gs ws hS => ?_
  refine then_n ?_
  refine wp_cond_false (hS.fx.frm.eval rfl) ?_
  refine wp_skip ?_
  refine then_n ?_
  refine wp_seq ?_
  obtain ⟨gs, hS⟩ := hS.frz 0 false (by nofun) rfl (L' := [(0, .ls false [.int .u8] d), (1, .sk 1), (4, .v (.slice none 0 0)), (5, .v (.slice none 0 0)), (6, .v (.int .i64 0)), (20, .v (.bool false))]) (H' := [(0, none), (0, some (.sl 5 [.int .u8] d)), (1, some (.sl 5 [.int .u8] z))]) (by kernel_rfl) (by kernel_rfl)
  refine region_a (E := E0) mo hZ [(3, .call ⟨38, (c_sum512 [d, [3]]), [], []⟩)] ⟨sum512_ok [d, [3]] (by first | omega | (simp only [List.flatten_cons, List.flatten_nil, List.length_append, List.length_cons, List.length_nil, List.length_take, List.length_drop]; omega) | (simp; omega)), trivial⟩ (fun C => [ndC C 3]) [1, 4, 5, 6, 7] [1] [(1, .sk 1), (4, .v (.slice none 0 0)), (5, .v (.slice none 0 0)), (6, .v (.int .i64 0)), (7, .ls false [.int .u8] (sum512_m [d, [3]]))] [(1, some (.sl 5 [.int .u8] z))] 2 (by kernel_rfl) ⟨rfl, trivial⟩ rfl hS fun ac gs ws hS => ?_
  refine then_n ?_
  refine wp_seq ?_
  have hl := sum512_len [d, [3]]
  refine region_a (E := E0) mo hZ [] trivial (fun _ => [bndP none (some 32) none (sum512_m [d, [3]]).length (sum512_m [d, [3]]).length, bndP (some 32) none none (sum512_m [d, [3]]).length (sum512_m [d, [3]]).length]) [1, 4, 5, 6, 8, 9] [1] [(1, .sk 1), (4, .v (.slice none 0 0)), (5, .v (.slice none 0 0)), (6, .v (.int .i64 0)), (8, .ls false [.int .u8] ((sum512_m [d, [3]]).take 32)), (9, .ls false [.int .u8] ((sum512_m [d, [3]]).drop 32))] [(1, some (.sl 5 [.int .u8] z))] 2 (by kernel_rfl) ⟨⟨by simp only [nnI] <;> omega, by simp only [nnI] <;> omega, by simp only [nnI] <;> omega, by simp, by simp only [bl] <;> omega, by simp only [bl] <;> omega, by simp only [bl] <;> omega⟩, ⟨by simp only [nnI] <;> omega, by simp only [nnI] <;> omega, by simp only [nnI] <;> omega, by simp, by simp only [bl] <;> omega, by simp only [bl] <;> omega, by simp only [bl] <;> omega⟩, trivial⟩ rfl hS fun ac gs ws hS => ?_
  refine then_n ?_
  refine wp_seq ?_
  refine region_a (E := E0) mo hZ [(1, .call ⟨39, (c_knoise ((sum512_m [d, [3]]).drop 32) 0), [], []⟩), (2, .call ⟨40, (c_each_ntt (knoise_m ((sum512_m [d, [3]]).drop 32) 0)), [], []⟩)] ⟨knoise_ok ((sum512_m [d, [3]]).drop 32) 0 (by first | omega | (simp only [List.length_append, List.length_drop, List.length_take, List.length_cons, List.length_nil]; omega)) (by omega), each_ntt_ok (knoise_m ((sum512_m [d, [3]]).drop 32) 0), trivial⟩ (fun C => [ndC C 1, nd [.ar .u16 768 (knoise_m ((sum512_m [d, [3]]).drop 32) 0), .v (.func (.func 41) #[] #[])] []]) [1, 4, 5, 6, 8, 9, 10] [1, 2] [(1, .sk 1), (4, .v (.slice none 0 0)), (5, .v (.slice none 0 0)), (6, .v (.int .i64 0)), (8, .ls false [.int .u8] ((sum512_m [d, [3]]).take 32)), (9, .ls false [.int .u8] ((sum512_m [d, [3]]).drop 32)), (10, .cp 2 0)] [(1, some (.sl 5 [.int .u8] z)), (2, some (.ob 62 (chain [.ar .u16 768 (each_ntt_m (knoise_m ((sum512_m [d, [3]]).drop 32) 0))])))] 3 (by kernel_rfl) ⟨rfl, rfl, trivial⟩ rfl hS fun ac gs ws hS => ?_
  refine then_n ?_
  refine wp_seq ?_
  refine region_a (E := E0) mo hZ [(1, .call ⟨39, (c_knoise ((sum512_m [d, [3]]).drop 32) 3), [], []⟩), (2, .call ⟨40, (c_each_ntt (knoise_m ((sum512_m [d, [3]]).drop 32) 3)), [], []⟩)] ⟨knoise_ok ((sum512_m [d, [3]]).drop 32) 3 (by first | omega | (simp only [List.length_append, List.length_drop, List.length_take, List.length_cons, List.length_nil]; omega)) (by omega), each_ntt_ok (knoise_m ((sum512_m [d, [3]]).drop 32) 3), trivial⟩ (fun C => [ndC C 1, nd [.ar .u16 768 (knoise_m ((sum512_m [d, [3]]).drop 32) 3), .v (.func (.func 41) #[] #[])] []]) [1, 4, 5, 6, 8, 10, 11] [1, 2, 3] [(1, .sk 1), (4, .v (.slice none 0 0)), (5, .v (.slice none 0 0)), (6, .v (.int .i64 0)), (8, .ls false [.int .u8] ((sum512_m [d, [3]]).take 32)), (10, .cp 2 0), (11, .cp 3 0)] [(1, some (.sl 5 [.int .u8] z)), (2, some (.ob 62 (chain [.ar .u16 768 (each_ntt_m (knoise_m ((sum512_m [d, [3]]).drop 32) 0))]))), (3, some (.ob 62 (chain [.ar .u16 768 (each_ntt_m (knoise_m ((sum512_m [d, [3]]).drop 32) 3))])))] 4 (by kernel_rfl) ⟨rfl, rfl, trivial⟩ rfl hS fun ac gs ws hS => ?_
  refine then_n ?_
  refine wp_seq ?_
  refine wp_seq ?_
  refine region_a (E := E0) mo hZ [] trivial (fun _ => []) [1, 4, 5, 6, 8, 10, 11, 35] [1, 2, 3] [(1, .sk 1), (4, .v (.slice none 0 0)), (5, .v (.slice none 0 0)), (6, .v (.int .i64 0)), (8, .ls false [.int .u8] ((sum512_m [d, [3]]).take 32)), (10, .cp 2 0), (11, .cp 3 0), (35, .v (.int .i64 0))] [(1, some (.sl 5 [.int .u8] z)), (2, some (.ob 62 (chain [.ar .u16 768 (each_ntt_m (knoise_m ((sum512_m [d, [3]]).drop 32) 0))]))), (3, some (.ob 62 (chain [.ar .u16 768 (each_ntt_m (knoise_m ((sum512_m [d, [3]]).drop 32) 3))])))] 4 (by kernel_rfl) trivial rfl hS fun ac gs ws hS => ?_
  refine then_n ?_
  refine wp_block ?_
  refine loop_r (σ := Nat × (Nat → Int)) hg0 hS (fun z_ => match z_ with | (x35, o11_0) => 3 - x35) (fun z_ => match z_ with | (x35, o11_0) => [(1, .sk 1), (4, .v (.slice none 0 0)), (5, .v (.slice none 0 0)), (6, .v (.int .i64 0)), (8, .ls false [.int .u8] ((sum512_m [d, [3]]).take 32)), (10, .cp 2 0), (11, .cp 3 0), (35, .v (.int .i64 ((x35 : Nat) : Int)))]) (fun z_ => match z_ with | (x35, o11_0) => [(1, .sl 5 [.int .u8] z), (2, .ob 62 (chain [.ar .u16 768 (each_ntt_m (knoise_m ((sum512_m [d, [3]]).drop 32) 0))])), (3, .ob 62 (chain [.ar .u16 768 o11_0]))]) (fun z_ => match z_ with | (x35, o11_0) => (x35 ≤ 3) ∧ (o11_0 = keysk_l1 d z x35) ∧ True) 4 (0, each_ntt_m (knoise_m ((sum512_m [d, [3]]).drop 32) 3)) [(0, 0), (1, 1), (2, 2), (3, 3)] (by kernel_rfl) (by kernel_rfl) ⟨rfl, rfl, rfl, trivial⟩ ⟨(by omega), rfl, trivial⟩ ?_
  rintro ⟨x35, o11_0⟩ ac gs ws ⟨hx35, hq1, _⟩ hS
  refine wp_seq ?_
  refine region_a (E := E0) mo hZ [] trivial (fun _ => []) [1, 4, 5, 6, 8, 10, 11, 35, 36] [1, 2, 3] [(1, .sk 1), (4, .v (.slice none 0 0)), (5, .v (.slice none 0 0)), (6, .v (.int .i64 0)), (8, .ls false [.int .u8] ((sum512_m [d, [3]]).take 32)), (10, .cp 2 0), (11, .cp 3 0), (35, .v (.int .i64 ((x35 : Nat) : Int))), (36, .v (.bool (decide (((x35 : Nat) : Int) < 3))))] [(1, some (.sl 5 [.int .u8] z)), (2, some (.ob 62 (chain [.ar .u16 768 (each_ntt_m (knoise_m ((sum512_m [d, [3]]).drop 32) 0))]))), (3, some (.ob 62 (chain [.ar .u16 768 o11_0])))] 4 (by kernel_rfl) trivial rfl hS fun ac gs ws hS => ?_
  refine then_n ?_
  refine wp_seq ?_
  refine if_x hS rfl (fun h => ?_) (fun h => ?_)
  · skip
    have h1 := of_decide_eq_true h
    clear h
    refine wp_skip ?_
    refine then_n ?_
    refine wp_seq ?_
    refine wp_block ?_
    refine wp_seq ?_
    refine region_a (E := E0) mo hZ [] trivial (fun _ => []) [1, 4, 5, 6, 8, 10, 11, 12, 35] [1, 2, 3] [(1, .sk 1), (4, .v (.slice none 0 0)), (5, .v (.slice none 0 0)), (6, .v (.int .i64 0)), (8, .ls false [.int .u8] ((sum512_m [d, [3]]).take 32)), (10, .cp 2 0), (11, .cp 3 0), (12, .v (.int .i64 ((x35 : Nat) : Int))), (35, .v (.int .i64 ((x35 : Nat) : Int)))] [(1, some (.sl 5 [.int .u8] z)), (2, some (.ob 62 (chain [.ar .u16 768 (each_ntt_m (knoise_m ((sum512_m [d, [3]]).drop 32) 0))]))), (3, some (.ob 62 (chain [.ar .u16 768 o11_0])))] 4 (by kernel_rfl) trivial rfl hS fun ac gs ws hS => ?_
    refine then_n ?_
    refine region_a (E := E0) mo hZ [(3, .ov (.ar .u16 256 (fun j => o11_0 (x35 * 256 + j)))), (6, .call ⟨43, (c_matrix_false ((sum512_m [d, [3]]).take 32) x35), [], []⟩), (7, .ov (.ar .u16 768 (each_ntt_m (knoise_m ((sum512_m [d, [3]]).drop 32) 0)))), (8, .call ⟨44, (c_dot (matrix_false_m ((sum512_m [d, [3]]).take 32) x35) (each_ntt_m (knoise_m ((sum512_m [d, [3]]).drop 32) 0))), [], []⟩), (9, .call ⟨42, (c_add (fun j => o11_0 (x35 * 256 + j)) (dot_m (matrix_false_m ((sum512_m [d, [3]]).take 32) x35) (each_ntt_m (knoise_m ((sum512_m [d, [3]]).drop 32) 0)))), [], []⟩)] ⟨matrix_false_ok ((sum512_m [d, [3]]).take 32) x35 (by first | omega | (simp only [List.length_append, List.length_drop, List.length_take, List.length_cons, List.length_nil]; omega)) (by omega), dot_ok (matrix_false_m ((sum512_m [d, [3]]).take 32) x35) (each_ntt_m (knoise_m ((sum512_m [d, [3]]).drop 32) 0)), add_ok (fun j => o11_0 (x35 * 256 + j)) (dot_m (matrix_false_m ((sum512_m [d, [3]]).take 32) x35) (each_ntt_m (knoise_m ((sum512_m [d, [3]]).drop 32) 0))), trivial⟩ (fun C => [(0 : Int) ≤ ((x35 : Nat) : Int) ∧ (((x35 : Nat) : Int) : Int) < 3, (.ar .u16 256 (fun j => o11_0 (x35 * 256 + j)) : D) = (.ar .u16 256 (fun j => o11_0 (x35 * 256 + j))), ndC C 6, (.ar .u16 768 (each_ntt_m (knoise_m ((sum512_m [d, [3]]).drop 32) 0)) : D) = (.ar .u16 768 (each_ntt_m (knoise_m ((sum512_m [d, [3]]).drop 32) 0))), nd [.ar .u16 768 (matrix_false_m ((sum512_m [d, [3]]).take 32) x35), .ar .u16 768 (each_ntt_m (knoise_m ((sum512_m [d, [3]]).drop 32) 0))] [], nd [.ar .u16 256 (fun j => o11_0 (x35 * 256 + j)), .ar .u16 256 (dot_m (matrix_false_m ((sum512_m [d, [3]]).take 32) x35) (each_ntt_m (knoise_m ((sum512_m [d, [3]]).drop 32) 0)))] [], (0 : Int) ≤ ((x35 : Nat) : Int) ∧ (((x35 : Nat) : Int) : Int) < 3]) [1, 4, 5, 6, 8, 10, 11, 35] [1, 2, 3] [(1, .sk 1), (4, .v (.slice none 0 0)), (5, .v (.slice none 0 0)), (6, .v (.int .i64 0)), (8, .ls false [.int .u8] ((sum512_m [d, [3]]).take 32)), (10, .cp 2 0), (11, .cp 3 0), (35, .v (.int .i64 ((x35 : Nat) : Int)))] [(1, some (.sl 5 [.int .u8] z)), (2, some (.ob 62 (chain [.ar .u16 768 (each_ntt_m (knoise_m ((sum512_m [d, [3]]).drop 32) 0))]))), (3, some (.ob 62 (chain [.ar .u16 768 (updW o11_0 (x35 * 256) 256 (add_m (fun j => o11_0 (x35 * 256 + j)) (dot_m (matrix_false_m ((sum512_m [d, [3]]).take 32) x35) (each_ntt_m (knoise_m ((sum512_m [d, [3]]).drop 32) 0)))))])))] 4 (by kernel_rfl) ⟨by omega, rfl, rfl, rfl, rfl, rfl, by omega, trivial⟩ rfl hS fun ac gs ws hS => ?_
    refine block_n ?_
    refine then_n ?_
    refine region_a (E := E0) mo hZ [(0, .oi ((x35 + 1 : Nat) : Int))] trivial (fun _ => [iadd .i64 ((x35 : Nat) : Int) 1 = ((x35 + 1 : Nat) : Int)]) [1, 4, 5, 6, 8, 10, 11, 35] [1, 2, 3] [(1, .sk 1), (4, .v (.slice none 0 0)), (5, .v (.slice none 0 0)), (6, .v (.int .i64 0)), (8, .ls false [.int .u8] ((sum512_m [d, [3]]).take 32)), (10, .cp 2 0), (11, .cp 3 0), (35, .v (.int .i64 ((x35 + 1 : Nat) : Int)))] [(1, some (.sl 5 [.int .u8] z)), (2, some (.ob 62 (chain [.ar .u16 768 (each_ntt_m (knoise_m ((sum512_m [d, [3]]).drop 32) 0))]))), (3, some (.ob 62 (chain [.ar .u16 768 (updW o11_0 (x35 * 256) 256 (add_m (fun j => o11_0 (x35 * 256 + j)) (dot_m (matrix_false_m ((sum512_m [d, [3]]).take 32) x35) (each_ntt_m (knoise_m ((sum512_m [d, [3]]).drop 32) 0)))))])))] 4 (by kernel_rfl) ⟨by rw [iadd64 (by omega) (by omega)]; omega, trivial⟩ rfl hS fun ac gs ws hS => ?_
    refine then_n ?_
    exact next_r hg0 hS (s := (x35, o11_0)) (x35 + 1, updW o11_0 (x35 * 256) 256 (add_m (fun j => o11_0 (x35 * 256 + j)) (dot_m (matrix_false_m ((sum512_m [d, [3]]).take 32) x35) (each_ntt_m (knoise_m ((sum512_m [d, [3]]).drop 32) 0))))) [(0, 0), (1, 1), (2, 2), (3, 3)] (by kernel_rfl) (by kernel_rfl) ⟨rfl, rfl, rfl, trivial⟩ (show 3 - (x35 + 1) < 3 - x35 from by omega) ⟨(by omega), (it_next (F := keysk_l1 d z) (st := keysk_l1_s d z) (fun _ => rfl) hq1 rfl), trivial⟩
  · skip
    have h1 := of_decide_eq_false h
    clear h
    have hScur := hS
    obtain rfl : 3 = x35 := by omega
    obtain rfl : keysk_l1 d z 3 = o11_0 := Eq.symm (congrArg (fun z => z) hq1)
    have hS := hScur
    clear hScur
    refine wp_exit ?_
    refine then_exit ?_
    refine then_exit ?_
    refine block_exit ?_
    refine then_n ?_
    refine wp_seq ?_
    have hb := rbytes_len (keysk_l1 d z 3)
    refine region_a (E := E0) mo hZ [(0, .ov (.ar .u16 768 (keysk_l1 d z 3))), (1, .call ⟨46, (c_rbytes (keysk_l1 d z 3)), [], []⟩), (4, .call ⟨45, (c_cat [rbytes_m (keysk_l1 d z 3), (sum512_m [d, [3]]).take 32]), [], [(0, 4)]⟩)] ⟨rbytes_ok (keysk_l1 d z 3), cat_ok [rbytes_m (keysk_l1 d z 3), (sum512_m [d, [3]]).take 32] (by first | omega | (simp only [List.flatten_cons, List.flatten_nil, List.length_append, List.length_cons, List.length_nil, List.length_take, List.length_drop]; omega) | (simp; omega)), trivial⟩ (fun C => [(.ar .u16 768 (keysk_l1 d z 3) : D) = (.ar .u16 768 (keysk_l1 d z 3)), ndC C 1, ndC C 4]) [1, 4, 5, 6, 10] [1, 2, 4] [(1, .sk 1), (4, .sk 4), (5, .v (.slice none 0 0)), (6, .v (.int .i64 0)), (10, .cp 2 0)] [(1, some (.sl 5 [.int .u8] z)), (2, some (.ob 62 (chain [.ar .u16 768 (each_ntt_m (knoise_m ((sum512_m [d, [3]]).drop 32) 0))]))), (4, some (.sl 5 [.int .u8] ([rbytes_m (keysk_l1 d z 3), (sum512_m [d, [3]]).take 32].flatten)))] 5 (by kernel_rfl) ⟨rfl, rfl, rfl, trivial⟩ rfl hS fun ac gs ws hS => ?_
    refine then_n ?_
    refine wp_seq ?_
    have hb2 := rbytes_len (each_ntt_m (knoise_m ((sum512_m [d, [3]]).drop 32) 0))
    obtain ⟨gs, hS⟩ := hS.frz 4 false (by nofun) rfl (L' := [(1, .sk 1), (4, .ls false [.int .u8] ([rbytes_m (keysk_l1 d z 3), (sum512_m [d, [3]]).take 32].flatten)), (5, .v (.slice none 0 0)), (6, .v (.int .i64 0)), (10, .cp 2 0)]) (H' := [(4, none), (1, some (.sl 5 [.int .u8] z)), (2, some (.ob 62 (chain [.ar .u16 768 (each_ntt_m (knoise_m ((sum512_m [d, [3]]).drop 32) 0))]))), (4, some (.sl 5 [.int .u8] ([rbytes_m (keysk_l1 d z 3), (sum512_m [d, [3]]).take 32].flatten)))]) (by kernel_rfl) (by kernel_rfl)
    obtain ⟨gs, hS⟩ := hS.frz 1 false (by nofun) rfl (L' := [(1, .ls false [.int .u8] z), (4, .ls false [.int .u8] ([rbytes_m (keysk_l1 d z 3), (sum512_m [d, [3]]).take 32].flatten)), (5, .v (.slice none 0 0)), (6, .v (.int .i64 0)), (10, .cp 2 0)]) (H' := [(1, none), (4, none), (1, some (.sl 5 [.int .u8] z)), (2, some (.ob 62 (chain [.ar .u16 768 (each_ntt_m (knoise_m ((sum512_m [d, [3]]).drop 32) 0))]))), (4, some (.sl 5 [.int .u8] ([rbytes_m (keysk_l1 d z 3), (sum512_m [d, [3]]).take 32].flatten)))]) (by kernel_rfl) (by kernel_rfl)
    refine region_a (E := E0) mo hZ [(1, .ov (.ar .u16 768 (each_ntt_m (knoise_m ((sum512_m [d, [3]]).drop 32) 0)))), (2, .call ⟨46, (c_rbytes (each_ntt_m (knoise_m ((sum512_m [d, [3]]).drop 32) 0))), [], []⟩), (6, .call ⟨37, (c_sum256 [[rbytes_m (keysk_l1 d z 3), (sum512_m [d, [3]]).take 32].flatten]), [], []⟩), (9, .call ⟨45, (c_cat [rbytes_m (each_ntt_m (knoise_m ((sum512_m [d, [3]]).drop 32) 0)), [rbytes_m (keysk_l1 d z 3), (sum512_m [d, [3]]).take 32].flatten, sum256_m [[rbytes_m (keysk_l1 d z 3), (sum512_m [d, [3]]).take 32].flatten], z]), [], [(0, 5)]⟩)] ⟨rbytes_ok (each_ntt_m (knoise_m ((sum512_m [d, [3]]).drop 32) 0)), sum256_ok [[rbytes_m (keysk_l1 d z 3), (sum512_m [d, [3]]).take 32].flatten] (by first | omega | (simp only [List.flatten_cons, List.flatten_nil, List.length_append, List.length_cons, List.length_nil, List.length_take, List.length_drop]; omega) | (simp; omega)), cat_ok [rbytes_m (each_ntt_m (knoise_m ((sum512_m [d, [3]]).drop 32) 0)), [rbytes_m (keysk_l1 d z 3), (sum512_m [d, [3]]).take 32].flatten, sum256_m [[rbytes_m (keysk_l1 d z 3), (sum512_m [d, [3]]).take 32].flatten], z] (by first | omega | (simp only [List.flatten_cons, List.flatten_nil, List.length_append, List.length_cons, List.length_nil, List.length_take, List.length_drop]; omega) | (simp; omega)), trivial⟩ (fun C => [(.ar .u16 768 (each_ntt_m (knoise_m ((sum512_m [d, [3]]).drop 32) 0)) : D) = (.ar .u16 768 (each_ntt_m (knoise_m ((sum512_m [d, [3]]).drop 32) 0))), ndC C 2, ndC C 6, ndC C 9]) [4, 5, 6] [5] [(4, .ls false [.int .u8] ([rbytes_m (keysk_l1 d z 3), (sum512_m [d, [3]]).take 32].flatten)), (5, .sk 5), (6, .v (.int .i64 0))] [(5, some (.sl 5 [.int .u8] ([rbytes_m (each_ntt_m (knoise_m ((sum512_m [d, [3]]).drop 32) 0)), [rbytes_m (keysk_l1 d z 3), (sum512_m [d, [3]]).take 32].flatten, sum256_m [[rbytes_m (keysk_l1 d z 3), (sum512_m [d, [3]]).take 32].flatten], z].flatten)))] 6 (by kernel_rfl) ⟨rfl, rfl, rfl, rfl, trivial⟩ rfl hS fun ac gs ws hS => ?_
    refine then_n ?_
    refine wp_ret ?_
    have hM : keysk_m d z = ([rbytes_m (keysk_l1 d z 3), (sum512_m [d, [3]]).take 32].flatten, [rbytes_m (each_ntt_m (knoise_m ((sum512_m [d, [3]]).drop 32) 0)), [rbytes_m (keysk_l1 d z 3), (sum512_m [d, [3]]).take 32].flatten, sum256_m [[rbytes_m (keysk_l1 d z 3), (sum512_m [d, [3]]).take 32].flatten], z].flatten) := keysk_e d z
    obtain ⟨gs, hS⟩ := St.ren hg0 hS [(0, 0), (1, 1), (2, 5)] [(4, .ls false [.int .u8] ([rbytes_m (keysk_l1 d z 3), (sum512_m [d, [3]]).take 32].flatten)), (5, .sk 2), (6, .v (.int .i64 0))] [(2, .sl 5 [.int .u8] ([rbytes_m (each_ntt_m (knoise_m ((sum512_m [d, [3]]).drop 32) 0)), [rbytes_m (keysk_l1 d z 3), (sum512_m [d, [3]]).take 32].flatten, sum256_m [[rbytes_m (keysk_l1 d z 3), (sum512_m [d, [3]]).take 32].flatten], z].flatten))] 3 (by kernel_rfl) (by kernel_rfl) ⟨rfl, trivial⟩
    exact fin_x (.inr rfl) hS (ds := [.ls false [.int .u8] ([rbytes_m (keysk_l1 d z 3), (sum512_m [d, [3]]).take 32].flatten), .sk 2, .v (.int .i64 0)]) (by kernel_rfl) (by show weak _ (.tu (chain [.ls false [.int .u8] ((keysk_m d z).1), .sk 2, .v (.int .i64 0)])) = (.tu (chain [.ls false [.int .u8] ((keysk_m d z).1), .sk 2, .v (.int .i64 0)])); rw [hM]; first | (simp only []; rfl) | (simp only []; done) | rfl) (by show H1Ok _ [(2, .sl 5 [.int .u8] ((keysk_m d z).2))] true; rw [hM]; first | (simp only []; exact ⟨rfl, trivial⟩) | exact ⟨rfl, trivial⟩)

noncomputable def c_keysn : Con := ⟨[.v (.slice none 0 0), .v (.slice none 0 0)], [], .tu (chain [.v (.slice none 0 0), .v (.slice none 0 0), .v (.int .i64 1)]), []⟩
set_option maxRecDepth 100000 in
set_option maxHeartbeats 4000000 in
theorem keysn_ok : ConOk Try.prog 14 (c_keysn) := by
  refine conOk_of (nb := 0) Try.func14 rfl rfl Try.ntmps14 rfl rfl rfl fun g0 w0 ac gs ws hg0 hS => ?_
  refine wp_seq ?_
  refine region_a (E := E0) mo hZ [] trivial (fun _ => []) [0, 1, 4, 5, 6] [] [(0, .v (.slice none 0 0)), (1, .v (.slice none 0 0)), (4, .v (.slice none 0 0)), (5, .v (.slice none 0 0)), (6, .v (.int .i64 0))] [] 0 (by kernel_rfl) trivial rfl hS fun ac gs ws hS => ?_
  refine then_n ?_
  refine wp_seq ?_
  refine wp_seq ?_
  refine region_a (E := E0) mo hZ [] trivial (fun _ => []) [0, 1, 4, 5, 6, 20] [] [(0, .v (.slice none 0 0)), (1, .v (.slice none 0 0)), (4, .v (.slice none 0 0)), (5, .v (.slice none 0 0)), (6, .v (.int .i64 0)), (20, .v (.bool true))] [] 0 (by kernel_rfl) trivial rfl hS fun ac gs ws hS => ?_
  refine then_n ?_
  refine wp_cond_true (hS.fx.frm.eval rfl) ?_
  refine wp_seq ?_
  refine region_a (E := E0) mo hZ [] trivial (fun _ => []) [0, 1, 4, 5, 6] [] [(0, .v (.slice none 0 0)), (1, .v (.slice none 0 0)), (4, .v (.slice none 0 0)), (5, .v (.slice none 0 0)), (6, .v (.int .i64 1))] [] 0 (by kernel_rfl) trivial rfl hS fun ac gs ws hS => ?_
  refine then_n ?_
  refine wp_ret ?_
  refine then_ret ?_
  exact fin_x (.inr rfl) hS (ds := [.v (.slice none 0 0), .v (.slice none 0 0), .v (.int .i64 1)]) (by kernel_rfl) rfl trivial

noncomputable def encrypt_l1_s (ek : List Int) (m : List Int) (r : List Int) (x31 : Nat) : (List Int) → (List Int) := fun x6 => x6 ++ (encode10_m (compress10_m (add_m (fun j => (knoise_m r 3) (x31 * 256 + j)) (inverse_m (dot_m (matrix_true_m (ek.drop 1152) x31) (each_ntt_m (knoise_m r 0)))))))
noncomputable def encrypt_l1 (ek : List Int) (m : List Int) (r : List Int) : Nat → (List Int)
  | 0 => []
  | x31 + 1 => encrypt_l1_s ek m r x31 (encrypt_l1 ek m r x31)
noncomputable def encrypt_v (ek : List Int) (m : List Int) (r : List Int) : (List Int) := (encrypt_l1 ek m r 3) ++ (encode4_m (compress4_m (add_m (add_m (inverse_m (dot_m (rowof_m ek) (each_ntt_m (knoise_m r 0)))) (noise_m r 6)) (expand1_m (unpack1_m m)))))
noncomputable def encrypt_m (ek : List Int) (m : List Int) (r : List Int) : (List Int) := shut (encrypt_v ek m r)
theorem encrypt_e (ek : List Int) (m : List Int) (r : List Int) : encrypt_m ek m r = encrypt_v ek m r := shut_eq _
@[simp] theorem encrypt_len (ek m r : List Int) : (encrypt_m ek m r).length = 1088 := by
  have key : ∀ i, (encrypt_l1 ek m r i).length = 320 * i := by
    intro i
    induction i with
    | zero => rfl
    | succ i ih =>
      show (encrypt_l1_s ek m r i (encrypt_l1 ek m r i)).length = _
      unfold encrypt_l1_s
      rw [List.length_append, encode10_len, ih]; omega
  rw [encrypt_e]
  unfold encrypt_v
  rw [List.length_append, encode4_len, key]
noncomputable def c_encrypt (ek : List Int) (m : List Int) (r : List Int) : Con := ⟨[.ls false [.int .u8] ek, .ls false [.int .u8] m, .ls false [.int .u8] r], [], .sk 0, [(0, .sl 5 [.int .u8] (encrypt_m ek m r))]⟩
set_option maxRecDepth 100000 in
set_option maxHeartbeats 4000000 in
theorem encrypt_ok (ek : List Int) (m : List Int) (r : List Int) (he : ek.length = 1184) (hm : m.length = 32) (hr : r.length = 32) : ConOk Try.prog 47 (c_encrypt ek m r) := by
  refine conOk_of (nb := 0) Try.func47 rfl rfl Try.ntmps47 rfl rfl rfl fun g0 w0 ac gs ws hg0 hS => ?_
  have hlen0 : ek.length ≤ 9223372036854775807 := hS.len 0 rfl
  have hlen1 : m.length ≤ 9223372036854775807 := hS.len 1 rfl
  have hlen2 : r.length ≤ 9223372036854775807 := hS.len 2 rfl
  refine wp_seq ?_
  refine region_a (E := E0) mo hZ [] trivial (fun _ => []) [0, 1, 2, 6] [] [(0, .ls false [.int .u8] ek), (1, .ls false [.int .u8] m), (2, .ls false [.int .u8] r), (6, .v (.slice none 0 0))] [] 0 (by kernel_rfl) trivial rfl hS fun ac gs ws hS => ?_
  refine then_n ?_
  refine wp_seq ?_
  refine region_a (E := E0) mo hZ [(1, .call ⟨33, (c_rowof ek), [], []⟩)] ⟨rowof_ok ek (by first | omega | (simp only [List.length_append, List.length_drop, List.length_take, List.length_cons, List.length_nil]; omega)), trivial⟩ (fun C => [ndC C 1, bndP (some 1152) none none ek.length ek.length]) [1, 2, 6, 7, 8] [0] [(1, .ls false [.int .u8] m), (2, .ls false [.int .u8] r), (6, .v (.slice none 0 0)), (7, .cp 0 0), (8, .ls false [.int .u8] (ek.drop 1152))] [(0, some (.ob 62 (chain [.ar .u16 768 (rowof_m ek)])))] 1 (by kernel_rfl) ⟨rfl, ⟨by simp only [nnI] <;> omega, by simp only [nnI] <;> omega, by simp only [nnI] <;> omega, by simp, by simp only [bl] <;> omega, by simp only [bl] <;> omega, by simp only [bl] <;> omega⟩, trivial⟩ rfl hS fun ac gs ws hS => ?_
  refine then_n ?_
  refine wp_seq ?_
  refine region_a (E := E0) mo hZ [(1, .call ⟨39, (c_knoise r 0), [], []⟩), (2, .call ⟨40, (c_each_ntt (knoise_m r 0)), [], []⟩)] ⟨knoise_ok r 0 (by first | omega | (simp only [List.length_append, List.length_drop, List.length_take, List.length_cons, List.length_nil]; omega)) (by omega), each_ntt_ok (knoise_m r 0), trivial⟩ (fun C => [ndC C 1, nd [.ar .u16 768 (knoise_m r 0), .v (.func (.func 41) #[] #[])] []]) [1, 2, 6, 7, 8, 9] [0, 1] [(1, .ls false [.int .u8] m), (2, .ls false [.int .u8] r), (6, .v (.slice none 0 0)), (7, .cp 0 0), (8, .ls false [.int .u8] (ek.drop 1152)), (9, .cp 1 0)] [(0, some (.ob 62 (chain [.ar .u16 768 (rowof_m ek)]))), (1, some (.ob 62 (chain [.ar .u16 768 (each_ntt_m (knoise_m r 0))])))] 2 (by kernel_rfl) ⟨rfl, rfl, trivial⟩ rfl hS fun ac gs ws hS => ?_
  refine then_n ?_
  refine wp_seq ?_
  refine region_a (E := E0) mo hZ [(1, .call ⟨39, (c_knoise r 3), [], []⟩)] ⟨knoise_ok r 3 (by first | omega | (simp only [List.length_append, List.length_drop, List.length_take, List.length_cons, List.length_nil]; omega)) (by omega), trivial⟩ (fun C => [ndC C 1]) [1, 2, 6, 7, 8, 9, 10] [0, 1, 2] [(1, .ls false [.int .u8] m), (2, .ls false [.int .u8] r), (6, .v (.slice none 0 0)), (7, .cp 0 0), (8, .ls false [.int .u8] (ek.drop 1152)), (9, .cp 1 0), (10, .cp 2 0)] [(0, some (.ob 62 (chain [.ar .u16 768 (rowof_m ek)]))), (1, some (.ob 62 (chain [.ar .u16 768 (each_ntt_m (knoise_m r 0))]))), (2, some (.ob 62 (chain [.ar .u16 768 (knoise_m r 3)])))] 3 (by kernel_rfl) ⟨rfl, trivial⟩ rfl hS fun ac gs ws hS => ?_
  refine then_n ?_
  refine wp_seq ?_
  refine wp_seq ?_
  refine region_a (E := E0) mo hZ [] trivial (fun _ => []) [1, 2, 6, 7, 8, 9, 30, 31] [0, 1] [(1, .ls false [.int .u8] m), (2, .ls false [.int .u8] r), (6, .v (.slice none 0 0)), (7, .cp 0 0), (8, .ls false [.int .u8] (ek.drop 1152)), (9, .cp 1 0), (30, .ar .u16 768 (knoise_m r 3)), (31, .v (.int .i64 0))] [(0, some (.ob 62 (chain [.ar .u16 768 (rowof_m ek)]))), (1, some (.ob 62 (chain [.ar .u16 768 (each_ntt_m (knoise_m r 0))])))] 3 (by kernel_rfl) trivial rfl hS fun ac gs ws hS => ?_
  refine then_n ?_
  refine wp_block ?_
  obtain ⟨gs, hS⟩ := hS.nilk 6 5 [.int .u8] rfl (L' := [(1, .ls false [.int .u8] m), (2, .ls false [.int .u8] r), (6, .sk 3), (7, .cp 0 0), (8, .ls false [.int .u8] (ek.drop 1152)), (9, .cp 1 0), (30, .ar .u16 768 (knoise_m r 3)), (31, .v (.int .i64 0))]) (H' := [(3, some (.sl 5 [.int .u8] [])), (0, some (.ob 62 (chain [.ar .u16 768 (rowof_m ek)]))), (1, some (.ob 62 (chain [.ar .u16 768 (each_ntt_m (knoise_m r 0))])))]) (by kernel_rfl) (by kernel_rfl)
  refine loop_r (σ := Nat × (List Int)) hg0 hS (fun z_ => match z_ with | (x31, x6) => 3 - x31) (fun z_ => match z_ with | (x31, x6) => [(1, .ls false [.int .u8] m), (2, .ls false [.int .u8] r), (6, .sk 3), (7, .cp 0 0), (8, .ls false [.int .u8] (ek.drop 1152)), (9, .cp 1 0), (30, .ar .u16 768 (knoise_m r 3)), (31, .v (.int .i64 ((x31 : Nat) : Int)))]) (fun z_ => match z_ with | (x31, x6) => [(0, .ob 62 (chain [.ar .u16 768 (rowof_m ek)])), (1, .ob 62 (chain [.ar .u16 768 (each_ntt_m (knoise_m r 0))])), (3, .sl 5 [.int .u8] x6)]) (fun z_ => match z_ with | (x31, x6) => (x31 ≤ 3) ∧ (x6 = encrypt_l1 ek m r x31) ∧ (x6.length = 320 * x31) ∧ True) 4 (0, []) [(0, 0), (1, 1), (3, 3)] (by kernel_rfl) (by kernel_rfl) ⟨rfl, rfl, rfl, trivial⟩ ⟨(by omega), rfl, rfl, trivial⟩ ?_
  rintro ⟨x31, x6⟩ ac gs ws ⟨hx31, hq1, p1, _⟩ hS
  refine wp_seq ?_
  refine region_a (E := E0) mo hZ [] trivial (fun _ => []) [1, 2, 6, 7, 8, 9, 30, 31, 32] [0, 1, 3] [(1, .ls false [.int .u8] m), (2, .ls false [.int .u8] r), (6, .sk 3), (7, .cp 0 0), (8, .ls false [.int .u8] (ek.drop 1152)), (9, .cp 1 0), (30, .ar .u16 768 (knoise_m r 3)), (31, .v (.int .i64 ((x31 : Nat) : Int))), (32, .v (.bool (decide (((x31 : Nat) : Int) < 3))))] [(0, some (.ob 62 (chain [.ar .u16 768 (rowof_m ek)]))), (1, some (.ob 62 (chain [.ar .u16 768 (each_ntt_m (knoise_m r 0))]))), (3, some (.sl 5 [.int .u8] x6))] 4 (by kernel_rfl) trivial rfl hS fun ac gs ws hS => ?_
  refine then_n ?_
  refine wp_seq ?_
  refine if_x hS rfl (fun h => ?_) (fun h => ?_)
  · skip
    have h1 := of_decide_eq_true h
    clear h
    refine wp_skip ?_
    refine then_n ?_
    refine wp_seq ?_
    refine wp_block ?_
    refine wp_seq ?_
    refine region_a (E := E0) mo hZ [] trivial (fun _ => [(0 : Int) ≤ ((x31 : Nat) : Int) ∧ (((x31 : Nat) : Int) : Int) < 3]) [1, 2, 6, 7, 8, 9, 11, 12, 30, 31] [0, 1, 3, 4] [(1, .ls false [.int .u8] m), (2, .ls false [.int .u8] r), (6, .sk 3), (7, .cp 0 0), (8, .ls false [.int .u8] (ek.drop 1152)), (9, .cp 1 0), (11, .v (.int .i64 ((x31 : Nat) : Int))), (12, .cp 4 0), (30, .ar .u16 768 (knoise_m r 3)), (31, .v (.int .i64 ((x31 : Nat) : Int)))] [(0, some (.ob 62 (chain [.ar .u16 768 (rowof_m ek)]))), (1, some (.ob 62 (chain [.ar .u16 768 (each_ntt_m (knoise_m r 0))]))), (3, some (.sl 5 [.int .u8] x6)), (4, some (.ob 60 (chain [.ar .u16 256 (fun j => (knoise_m r 3) (x31 * 256 + j))])))] 5 (by kernel_rfl) ⟨by omega, trivial⟩ rfl hS fun ac gs ws hS => ?_
    refine then_n ?_
    refine wp_seq ?_
    refine region_a (E := E0) mo hZ [(0, .ov (.ar .u16 256 (fun j => (knoise_m r 3) (x31 * 256 + j)))), (3, .call ⟨43, (c_matrix_true (ek.drop 1152) x31), [], []⟩), (4, .ov (.ar .u16 768 (each_ntt_m (knoise_m r 0)))), (5, .call ⟨44, (c_dot (matrix_true_m (ek.drop 1152) x31) (each_ntt_m (knoise_m r 0))), [], []⟩), (6, .call ⟨77, (c_inverse (dot_m (matrix_true_m (ek.drop 1152) x31) (each_ntt_m (knoise_m r 0)))), [], []⟩), (7, .call ⟨42, (c_add (fun j => (knoise_m r 3) (x31 * 256 + j)) (inverse_m (dot_m (matrix_true_m (ek.drop 1152) x31) (each_ntt_m (knoise_m r 0))))), [], []⟩)] ⟨matrix_true_ok (ek.drop 1152) x31 (by first | omega | (simp only [List.length_append, List.length_drop, List.length_take, List.length_cons, List.length_nil]; omega)) (by omega), dot_ok (matrix_true_m (ek.drop 1152) x31) (each_ntt_m (knoise_m r 0)), inverse_ok (dot_m (matrix_true_m (ek.drop 1152) x31) (each_ntt_m (knoise_m r 0))), add_ok (fun j => (knoise_m r 3) (x31 * 256 + j)) (inverse_m (dot_m (matrix_true_m (ek.drop 1152) x31) (each_ntt_m (knoise_m r 0)))), trivial⟩ (fun C => [(.ar .u16 256 (fun j => (knoise_m r 3) (x31 * 256 + j)) : D) = (.ar .u16 256 (fun j => (knoise_m r 3) (x31 * 256 + j))), ndC C 3, (.ar .u16 768 (each_ntt_m (knoise_m r 0)) : D) = (.ar .u16 768 (each_ntt_m (knoise_m r 0))), nd [.ar .u16 768 (matrix_true_m (ek.drop 1152) x31), .ar .u16 768 (each_ntt_m (knoise_m r 0))] [], ndC C 6, nd [.ar .u16 256 (fun j => (knoise_m r 3) (x31 * 256 + j)), .ar .u16 256 (inverse_m (dot_m (matrix_true_m (ek.drop 1152) x31) (each_ntt_m (knoise_m r 0))))] []]) [1, 2, 6, 7, 8, 9, 12, 30, 31] [0, 1, 3, 4] [(1, .ls false [.int .u8] m), (2, .ls false [.int .u8] r), (6, .sk 3), (7, .cp 0 0), (8, .ls false [.int .u8] (ek.drop 1152)), (9, .cp 1 0), (12, .cp 4 0), (30, .ar .u16 768 (knoise_m r 3)), (31, .v (.int .i64 ((x31 : Nat) : Int)))] [(0, some (.ob 62 (chain [.ar .u16 768 (rowof_m ek)]))), (1, some (.ob 62 (chain [.ar .u16 768 (each_ntt_m (knoise_m r 0))]))), (3, some (.sl 5 [.int .u8] x6)), (4, some (.ob 60 (chain [.ar .u16 256 (add_m (fun j => (knoise_m r 3) (x31 * 256 + j)) (inverse_m (dot_m (matrix_true_m (ek.drop 1152) x31) (each_ntt_m (knoise_m r 0)))))])))] 5 (by kernel_rfl) ⟨rfl, rfl, rfl, rfl, rfl, rfl, trivial⟩ rfl hS fun ac gs ws hS => ?_
    refine then_n ?_
    refine wp_seq ?_
    refine region_a (E := E0) mo hZ [(0, .ov (.ar .u16 256 (add_m (fun j => (knoise_m r 3) (x31 * 256 + j)) (inverse_m (dot_m (matrix_true_m (ek.drop 1152) x31) (each_ntt_m (knoise_m r 0))))))), (1, .call ⟨78, (c_compress10 (add_m (fun j => (knoise_m r 3) (x31 * 256 + j)) (inverse_m (dot_m (matrix_true_m (ek.drop 1152) x31) (each_ntt_m (knoise_m r 0)))))), [], []⟩)] ⟨compress10_ok (add_m (fun j => (knoise_m r 3) (x31 * 256 + j)) (inverse_m (dot_m (matrix_true_m (ek.drop 1152) x31) (each_ntt_m (knoise_m r 0))))), trivial⟩ (fun _ => [(.ar .u16 256 (add_m (fun j => (knoise_m r 3) (x31 * 256 + j)) (inverse_m (dot_m (matrix_true_m (ek.drop 1152) x31) (each_ntt_m (knoise_m r 0))))) : D) = (.ar .u16 256 (add_m (fun j => (knoise_m r 3) (x31 * 256 + j)) (inverse_m (dot_m (matrix_true_m (ek.drop 1152) x31) (each_ntt_m (knoise_m r 0)))))), nd [.ar .u16 256 (add_m (fun j => (knoise_m r 3) (x31 * 256 + j)) (inverse_m (dot_m (matrix_true_m (ek.drop 1152) x31) (each_ntt_m (knoise_m r 0))))), .v (.int .i64 10)] []]) [1, 2, 6, 7, 8, 9, 12, 30, 31] [0, 1, 3, 4] [(1, .ls false [.int .u8] m), (2, .ls false [.int .u8] r), (6, .sk 3), (7, .cp 0 0), (8, .ls false [.int .u8] (ek.drop 1152)), (9, .cp 1 0), (12, .cp 4 0), (30, .ar .u16 768 (knoise_m r 3)), (31, .v (.int .i64 ((x31 : Nat) : Int)))] [(0, some (.ob 62 (chain [.ar .u16 768 (rowof_m ek)]))), (1, some (.ob 62 (chain [.ar .u16 768 (each_ntt_m (knoise_m r 0))]))), (3, some (.sl 5 [.int .u8] x6)), (4, some (.ob 60 (chain [.ar .u16 256 (compress10_m (add_m (fun j => (knoise_m r 3) (x31 * 256 + j)) (inverse_m (dot_m (matrix_true_m (ek.drop 1152) x31) (each_ntt_m (knoise_m r 0))))))])))] 5 (by kernel_rfl) ⟨rfl, rfl, trivial⟩ rfl hS fun ac gs ws hS => ?_
    refine then_n ?_
    refine wp_seq ?_
    refine region_a (E := E0) mo hZ [(0, .ov (.ar .u16 256 (compress10_m (add_m (fun j => (knoise_m r 3) (x31 * 256 + j)) (inverse_m (dot_m (matrix_true_m (ek.drop 1152) x31) (each_ntt_m (knoise_m r 0)))))))), (1, .call ⟨76, (c_encode10 (compress10_m (add_m (fun j => (knoise_m r 3) (x31 * 256 + j)) (inverse_m (dot_m (matrix_true_m (ek.drop 1152) x31) (each_ntt_m (knoise_m r 0))))))), [], [(0, 5)]⟩)] ⟨encode10_ok (compress10_m (add_m (fun j => (knoise_m r 3) (x31 * 256 + j)) (inverse_m (dot_m (matrix_true_m (ek.drop 1152) x31) (each_ntt_m (knoise_m r 0)))))), trivial⟩ (fun _ => [(.ar .u16 256 (compress10_m (add_m (fun j => (knoise_m r 3) (x31 * 256 + j)) (inverse_m (dot_m (matrix_true_m (ek.drop 1152) x31) (each_ntt_m (knoise_m r 0)))))) : D) = (.ar .u16 256 (compress10_m (add_m (fun j => (knoise_m r 3) (x31 * 256 + j)) (inverse_m (dot_m (matrix_true_m (ek.drop 1152) x31) (each_ntt_m (knoise_m r 0))))))), nd [.ar .u16 256 (compress10_m (add_m (fun j => (knoise_m r 3) (x31 * 256 + j)) (inverse_m (dot_m (matrix_true_m (ek.drop 1152) x31) (each_ntt_m (knoise_m r 0)))))), .v (.int .i64 10)] []]) [1, 2, 6, 7, 8, 9, 13, 30, 31] [0, 1, 3, 5] [(1, .ls false [.int .u8] m), (2, .ls false [.int .u8] r), (6, .sk 3), (7, .cp 0 0), (8, .ls false [.int .u8] (ek.drop 1152)), (9, .cp 1 0), (13, .sk 5), (30, .ar .u16 768 (knoise_m r 3)), (31, .v (.int .i64 ((x31 : Nat) : Int)))] [(0, some (.ob 62 (chain [.ar .u16 768 (rowof_m ek)]))), (1, some (.ob 62 (chain [.ar .u16 768 (each_ntt_m (knoise_m r 0))]))), (3, some (.sl 5 [.int .u8] x6)), (5, some (.sl 5 [.int .u8] (encode10_m (compress10_m (add_m (fun j => (knoise_m r 3) (x31 * 256 + j)) (inverse_m (dot_m (matrix_true_m (ek.drop 1152) x31) (each_ntt_m (knoise_m r 0)))))))))] 6 (by kernel_rfl) ⟨rfl, rfl, trivial⟩ rfl hS fun ac gs ws hS => ?_
    refine then_n ?_
    have hl := encode10_len (compress10_m (add_m (fun j => (knoise_m r 3) (x31 * 256 + j)) (inverse_m (dot_m (matrix_true_m (ek.drop 1152) x31) (each_ntt_m (knoise_m r 0))))))
    refine region_a (E := E0) mo hZ [] trivial (fun _ => [x6.length + (encode10_m (compress10_m (add_m (fun j => (knoise_m r 3) (x31 * 256 + j)) (inverse_m (dot_m (matrix_true_m (ek.drop 1152) x31) (each_ntt_m (knoise_m r 0))))))).length ≤ 9223372036854775807, (x6.length + (encode10_m (compress10_m (add_m (fun j => (knoise_m r 3) (x31 * 256 + j)) (inverse_m (dot_m (matrix_true_m (ek.drop 1152) x31) (each_ntt_m (knoise_m r 0))))))).length) * 1 ≤ 140737488355328]) [1, 2, 6, 7, 8, 9, 30, 31] [0, 1, 6] [(1, .ls false [.int .u8] m), (2, .ls false [.int .u8] r), (6, .sk 6), (7, .cp 0 0), (8, .ls false [.int .u8] (ek.drop 1152)), (9, .cp 1 0), (30, .ar .u16 768 (knoise_m r 3)), (31, .v (.int .i64 ((x31 : Nat) : Int)))] [(0, some (.ob 62 (chain [.ar .u16 768 (rowof_m ek)]))), (1, some (.ob 62 (chain [.ar .u16 768 (each_ntt_m (knoise_m r 0))]))), (6, some (.sl 5 [.int .u8] (x6 ++ (encode10_m (compress10_m (add_m (fun j => (knoise_m r 3) (x31 * 256 + j)) (inverse_m (dot_m (matrix_true_m (ek.drop 1152) x31) (each_ntt_m (knoise_m r 0))))))))))] 7 (by kernel_rfl) ⟨by omega, by omega, trivial⟩ rfl hS fun ac gs ws hS => ?_
    refine block_n ?_
    refine then_n ?_
    refine region_a (E := E0) mo hZ [(0, .oi ((x31 + 1 : Nat) : Int))] trivial (fun _ => [iadd .i64 ((x31 : Nat) : Int) 1 = ((x31 + 1 : Nat) : Int)]) [1, 2, 6, 7, 8, 9, 30, 31] [0, 1, 6] [(1, .ls false [.int .u8] m), (2, .ls false [.int .u8] r), (6, .sk 6), (7, .cp 0 0), (8, .ls false [.int .u8] (ek.drop 1152)), (9, .cp 1 0), (30, .ar .u16 768 (knoise_m r 3)), (31, .v (.int .i64 ((x31 + 1 : Nat) : Int)))] [(0, some (.ob 62 (chain [.ar .u16 768 (rowof_m ek)]))), (1, some (.ob 62 (chain [.ar .u16 768 (each_ntt_m (knoise_m r 0))]))), (6, some (.sl 5 [.int .u8] (x6 ++ (encode10_m (compress10_m (add_m (fun j => (knoise_m r 3) (x31 * 256 + j)) (inverse_m (dot_m (matrix_true_m (ek.drop 1152) x31) (each_ntt_m (knoise_m r 0))))))))))] 7 (by kernel_rfl) ⟨by rw [iadd64 (by omega) (by omega)]; omega, trivial⟩ rfl hS fun ac gs ws hS => ?_
    refine then_n ?_
    exact next_r hg0 hS (s := (x31, x6)) (x31 + 1, x6 ++ (encode10_m (compress10_m (add_m (fun j => (knoise_m r 3) (x31 * 256 + j)) (inverse_m (dot_m (matrix_true_m (ek.drop 1152) x31) (each_ntt_m (knoise_m r 0)))))))) [(0, 0), (1, 1), (3, 6)] (by kernel_rfl) (by kernel_rfl) ⟨rfl, rfl, rfl, trivial⟩ (show 3 - (x31 + 1) < 3 - x31 from by omega) ⟨(by omega), (it_next (F := encrypt_l1 ek m r) (st := encrypt_l1_s ek m r) (fun _ => rfl) hq1 rfl), (by rw [List.length_append, hl]; omega), trivial⟩
  · skip
    have h1 := of_decide_eq_false h
    clear h
    have hScur := hS
    obtain rfl : 3 = x31 := by omega
    obtain rfl : encrypt_l1 ek m r 3 = x6 := Eq.symm (congrArg (fun z => z) hq1)
    have hS := hScur
    clear hScur
    refine wp_exit ?_
    refine then_exit ?_
    refine then_exit ?_
    refine block_exit ?_
    refine then_n ?_
    refine wp_seq ?_
    refine region_a (E := E0) mo hZ [(1, .call ⟨64, (c_unpack1 m), [], []⟩), (2, .call ⟨79, (c_expand1 (unpack1_m m)), [], []⟩)] ⟨unpack1_ok m (by first | omega | (simp only [List.length_append, List.length_drop, List.length_take, List.length_cons, List.length_nil]; omega)), expand1_ok (unpack1_m m), trivial⟩ (fun C => [ndC C 1, nd [.ar .u16 256 (unpack1_m m), .v (.int .i64 1)] []]) [2, 6, 7, 9, 15] [0, 1, 3, 4] [(2, .ls false [.int .u8] r), (6, .sk 3), (7, .cp 0 0), (9, .cp 1 0), (15, .cp 4 0)] [(0, some (.ob 62 (chain [.ar .u16 768 (rowof_m ek)]))), (1, some (.ob 62 (chain [.ar .u16 768 (each_ntt_m (knoise_m r 0))]))), (3, some (.sl 5 [.int .u8] (encrypt_l1 ek m r 3))), (4, some (.ob 60 (chain [.ar .u16 256 (expand1_m (unpack1_m m))])))] 5 (by kernel_rfl) ⟨rfl, rfl, trivial⟩ rfl hS fun ac gs ws hS => ?_
    refine then_n ?_
    refine wp_seq ?_
    refine region_a (E := E0) mo hZ [(0, .ov (.ar .u16 768 (rowof_m ek))), (1, .ov (.ar .u16 768 (each_ntt_m (knoise_m r 0)))), (2, .call ⟨44, (c_dot (rowof_m ek) (each_ntt_m (knoise_m r 0))), [], []⟩), (3, .call ⟨77, (c_inverse (dot_m (rowof_m ek) (each_ntt_m (knoise_m r 0)))), [], []⟩), (5, .call ⟨69, (c_noise r 6), [], []⟩), (6, .call ⟨42, (c_add (inverse_m (dot_m (rowof_m ek) (each_ntt_m (knoise_m r 0)))) (noise_m r 6)), [], []⟩), (7, .ov (.ar .u16 256 (expand1_m (unpack1_m m)))), (8, .call ⟨42, (c_add (add_m (inverse_m (dot_m (rowof_m ek) (each_ntt_m (knoise_m r 0)))) (noise_m r 6)) (expand1_m (unpack1_m m))), [], []⟩), (9, .call ⟨78, (c_compress4 (add_m (add_m (inverse_m (dot_m (rowof_m ek) (each_ntt_m (knoise_m r 0)))) (noise_m r 6)) (expand1_m (unpack1_m m)))), [], []⟩)] ⟨dot_ok (rowof_m ek) (each_ntt_m (knoise_m r 0)), inverse_ok (dot_m (rowof_m ek) (each_ntt_m (knoise_m r 0))), noise_ok r 6 (by first | omega | (simp only [List.length_append, List.length_drop, List.length_take, List.length_cons, List.length_nil]; omega)), add_ok (inverse_m (dot_m (rowof_m ek) (each_ntt_m (knoise_m r 0)))) (noise_m r 6), add_ok (add_m (inverse_m (dot_m (rowof_m ek) (each_ntt_m (knoise_m r 0)))) (noise_m r 6)) (expand1_m (unpack1_m m)), compress4_ok (add_m (add_m (inverse_m (dot_m (rowof_m ek) (each_ntt_m (knoise_m r 0)))) (noise_m r 6)) (expand1_m (unpack1_m m))), trivial⟩ (fun C => [(.ar .u16 768 (rowof_m ek) : D) = (.ar .u16 768 (rowof_m ek)), (.ar .u16 768 (each_ntt_m (knoise_m r 0)) : D) = (.ar .u16 768 (each_ntt_m (knoise_m r 0))), nd [.ar .u16 768 (rowof_m ek), .ar .u16 768 (each_ntt_m (knoise_m r 0))] [], ndC C 3, ndC C 5, nd [.ar .u16 256 (inverse_m (dot_m (rowof_m ek) (each_ntt_m (knoise_m r 0)))), .ar .u16 256 (noise_m r 6)] [], (.ar .u16 256 (expand1_m (unpack1_m m)) : D) = (.ar .u16 256 (expand1_m (unpack1_m m))), nd [.ar .u16 256 (add_m (inverse_m (dot_m (rowof_m ek) (each_ntt_m (knoise_m r 0)))) (noise_m r 6)), .ar .u16 256 (expand1_m (unpack1_m m))] [], nd [.ar .u16 256 (add_m (add_m (inverse_m (dot_m (rowof_m ek) (each_ntt_m (knoise_m r 0)))) (noise_m r 6)) (expand1_m (unpack1_m m))), .v (.int .i64 4)] []]) [6, 17] [3, 5] [(6, .sk 3), (17, .cp 5 0)] [(3, some (.sl 5 [.int .u8] (encrypt_l1 ek m r 3))), (5, some (.ob 60 (chain [.ar .u16 256 (compress4_m (add_m (add_m (inverse_m (dot_m (rowof_m ek) (each_ntt_m (knoise_m r 0)))) (noise_m r 6)) (expand1_m (unpack1_m m))))])))] 6 (by kernel_rfl) ⟨rfl, rfl, rfl, rfl, rfl, rfl, rfl, rfl, rfl, trivial⟩ rfl hS fun ac gs ws hS => ?_
    refine then_n ?_
    refine wp_seq ?_
    refine region_a (E := E0) mo hZ [(0, .ov (.ar .u16 256 (compress4_m (add_m (add_m (inverse_m (dot_m (rowof_m ek) (each_ntt_m (knoise_m r 0)))) (noise_m r 6)) (expand1_m (unpack1_m m)))))), (1, .call ⟨76, (c_encode4 (compress4_m (add_m (add_m (inverse_m (dot_m (rowof_m ek) (each_ntt_m (knoise_m r 0)))) (noise_m r 6)) (expand1_m (unpack1_m m))))), [], [(0, 6)]⟩)] ⟨encode4_ok (compress4_m (add_m (add_m (inverse_m (dot_m (rowof_m ek) (each_ntt_m (knoise_m r 0)))) (noise_m r 6)) (expand1_m (unpack1_m m)))), trivial⟩ (fun _ => [(.ar .u16 256 (compress4_m (add_m (add_m (inverse_m (dot_m (rowof_m ek) (each_ntt_m (knoise_m r 0)))) (noise_m r 6)) (expand1_m (unpack1_m m)))) : D) = (.ar .u16 256 (compress4_m (add_m (add_m (inverse_m (dot_m (rowof_m ek) (each_ntt_m (knoise_m r 0)))) (noise_m r 6)) (expand1_m (unpack1_m m))))), nd [.ar .u16 256 (compress4_m (add_m (add_m (inverse_m (dot_m (rowof_m ek) (each_ntt_m (knoise_m r 0)))) (noise_m r 6)) (expand1_m (unpack1_m m)))), .v (.int .i64 4)] []]) [6, 19] [3, 6] [(6, .sk 3), (19, .sk 6)] [(3, some (.sl 5 [.int .u8] (encrypt_l1 ek m r 3))), (6, some (.sl 5 [.int .u8] (encode4_m (compress4_m (add_m (add_m (inverse_m (dot_m (rowof_m ek) (each_ntt_m (knoise_m r 0)))) (noise_m r 6)) (expand1_m (unpack1_m m)))))))] 7 (by kernel_rfl) ⟨rfl, rfl, trivial⟩ rfl hS fun ac gs ws hS => ?_
    refine then_n ?_
    refine wp_seq ?_
    have hl4 := encode4_len (compress4_m (add_m (add_m (inverse_m (dot_m (rowof_m ek) (each_ntt_m (knoise_m r 0)))) (noise_m r 6)) (expand1_m (unpack1_m m))))
    refine region_a (E := E0) mo hZ [] trivial (fun _ => [(encrypt_l1 ek m r 3).length + (encode4_m (compress4_m (add_m (add_m (inverse_m (dot_m (rowof_m ek) (each_ntt_m (knoise_m r 0)))) (noise_m r 6)) (expand1_m (unpack1_m m))))).length ≤ 9223372036854775807, ((encrypt_l1 ek m r 3).length + (encode4_m (compress4_m (add_m (add_m (inverse_m (dot_m (rowof_m ek) (each_ntt_m (knoise_m r 0)))) (noise_m r 6)) (expand1_m (unpack1_m m))))).length) * 1 ≤ 140737488355328]) [6] [7] [(6, .sk 7)] [(7, some (.sl 5 [.int .u8] ((encrypt_l1 ek m r 3) ++ (encode4_m (compress4_m (add_m (add_m (inverse_m (dot_m (rowof_m ek) (each_ntt_m (knoise_m r 0)))) (noise_m r 6)) (expand1_m (unpack1_m m))))))))] 8 (by kernel_rfl) ⟨by omega, by omega, trivial⟩ rfl hS fun ac gs ws hS => ?_
    refine then_n ?_
    refine wp_ret ?_
    have hM : encrypt_m ek m r = (encrypt_l1 ek m r 3) ++ (encode4_m (compress4_m (add_m (add_m (inverse_m (dot_m (rowof_m ek) (each_ntt_m (knoise_m r 0)))) (noise_m r 6)) (expand1_m (unpack1_m m))))) := encrypt_e ek m r
    obtain ⟨gs, hS⟩ := St.ren hg0 hS [(0, 7)] [(6, .sk 0)] [(0, .sl 5 [.int .u8] ((encrypt_l1 ek m r 3) ++ (encode4_m (compress4_m (add_m (add_m (inverse_m (dot_m (rowof_m ek) (each_ntt_m (knoise_m r 0)))) (noise_m r 6)) (expand1_m (unpack1_m m)))))))] 1 (by kernel_rfl) (by kernel_rfl) ⟨rfl, trivial⟩
    exact fin_x (.inr rfl) hS (ds := [.sk 0]) (by kernel_rfl) rfl (by show H1Ok _ [(0, .sl 5 [.int .u8] (encrypt_m ek m r))] true; rw [hM]; first | (simp only []; exact ⟨rfl, trivial⟩) | exact ⟨rfl, trivial⟩)

noncomputable def encaps_v (ek : List Int) (m : List Int) : (List Int) × (List Int) × Nat := if ((chk ek : Nat) : Int) = 0 then (if ((m.length : Nat) : Int) = 32 then ((sum512_m [m, sum256_m [ek]]).take 32, encrypt_m ek m ((sum512_m [m, sum256_m [ek]]).drop 32), 0) else ([], [], 1)) else ([], [], (chk ek))
noncomputable def encaps_m (ek : List Int) (m : List Int) : (List Int) × (List Int) × Nat := shut (encaps_v ek m)
theorem encaps_e (ek : List Int) (m : List Int) : encaps_m ek m = encaps_v ek m := shut_eq _
noncomputable def c_encaps (ek : List Int) (m : List Int) : Con := ⟨[.ls false [.int .u8] ek, .ls false [.int .u8] m], [], .tu (chain [.ls false [.int .u8] ((encaps_m ek m).1), .sk 0, .v (.int .i64 (((encaps_m ek m).2.2 : Nat) : Int))]), [(0, .sl 5 [.int .u8] ((encaps_m ek m).2.1))]⟩
set_option maxRecDepth 100000 in
set_option maxHeartbeats 4000000 in
theorem encaps_ok (ek : List Int) (m : List Int) : ConOk Try.prog 15 (c_encaps ek m) := by
  refine conOk_of (nb := 0) Try.func15 rfl rfl Try.ntmps15 rfl rfl rfl fun g0 w0 ac gs ws hg0 hS => ?_
  have hlen0 : ek.length ≤ 9223372036854775807 := hS.len 0 rfl
  have hlen1 : m.length ≤ 9223372036854775807 := hS.len 1 rfl
  refine wp_seq ?_
  refine region_a (E := E0) mo hZ [] trivial (fun _ => []) [0, 1, 4, 5, 6] [] [(0, .ls false [.int .u8] ek), (1, .ls false [.int .u8] m), (4, .v (.slice none 0 0)), (5, .v (.slice none 0 0)), (6, .v (.int .i64 0))] [] 0 (by kernel_rfl) trivial rfl hS fun ac gs ws hS => ?_
  refine then_n ?_
  refine wp_seq ?_
  refine wp_seq ?_
  refine region_a (E := E0) mo hZ [(1, .call ⟨10, (c_check ek), [], []⟩)] ⟨check_ok ek, trivial⟩ (fun C => [ndC C 1]) [0, 1, 4, 5, 6, 7] [] [(0, .ls false [.int .u8] ek), (1, .ls false [.int .u8] m), (4, .v (.slice none 0 0)), (5, .v (.slice none 0 0)), (6, .v (.int .i64 0)), (7, .v (.int .i64 ((chk ek : Nat) : Int)))] [] 0 (by kernel_rfl) ⟨rfl, trivial⟩ rfl hS fun ac gs ws hS => ?_
  refine then_n ?_
  refine wp_seq ?_
  refine region_a (E := E0) mo hZ [] trivial (fun _ => []) [0, 1, 4, 5, 6, 7, 12] [] [(0, .ls false [.int .u8] ek), (1, .ls false [.int .u8] m), (4, .v (.slice none 0 0)), (5, .v (.slice none 0 0)), (6, .v (.int .i64 0)), (7, .v (.int .i64 ((chk ek : Nat) : Int))), (12, .v (.bool (!decide (((chk ek : Nat) : Int) = 0))))] [] 0 (by kernel_rfl) trivial rfl hS fun ac gs ws hS => ?_
  refine then_n ?_
  refine if_x hS rfl (fun h => ?_) (fun h => ?_)
  · skip
    have h1 := ndec_true h
    clear h
    refine wp_seq ?_
    refine region_a (E := E0) mo hZ [] trivial (fun _ => []) [0, 1, 4, 5, 6] [] [(0, .ls false [.int .u8] ek), (1, .ls false [.int .u8] m), (4, .v (.slice none 0 0)), (5, .v (.slice none 0 0)), (6, .v (.int .i64 ((chk ek : Nat) : Int)))] [] 0 (by kernel_rfl) trivial rfl hS fun ac gs ws hS => ?_
    refine then_n ?_
    refine wp_ret ?_
    refine then_ret ?_
    have hM : encaps_m ek m = ([], [], (chk ek)) := (encaps_e ek m).trans (if_neg h1)
    obtain ⟨gs, hS⟩ := hS.nilk 5 5 [.int .u8] rfl (L' := [(0, .ls false [.int .u8] ek), (1, .ls false [.int .u8] m), (4, .v (.slice none 0 0)), (5, .sk 0), (6, .v (.int .i64 ((chk ek : Nat) : Int)))]) (H' := [(0, some (.sl 5 [.int .u8] []))]) (by kernel_rfl) (by kernel_rfl)
    have hS := hS.wk 4 (.ls false [.int .u8] []) rfl (L' := [(0, .ls false [.int .u8] ek), (1, .ls false [.int .u8] m), (4, .ls false [.int .u8] []), (5, .sk 0), (6, .v (.int .i64 ((chk ek : Nat) : Int)))]) (by kernel_rfl)
    exact fin_x (.inr rfl) hS (ds := [.ls false [.int .u8] [], .sk 0, .v (.int .i64 ((chk ek : Nat) : Int))]) (by kernel_rfl) (by show weak _ (.tu (chain [.ls false [.int .u8] ((encaps_m ek m).1), .sk 0, .v (.int .i64 (((encaps_m ek m).2.2 : Nat) : Int))])) = (.tu (chain [.ls false [.int .u8] ((encaps_m ek m).1), .sk 0, .v (.int .i64 (((encaps_m ek m).2.2 : Nat) : Int))])); rw [hM]; first | (simp only []; rfl) | (simp only []; done) | rfl) (by show H1Ok _ [(0, .sl 5 [.int .u8] ((encaps_m ek m).2.1))] true; rw [hM]; first | (simp only []; exact ⟨rfl, trivial⟩) | exact ⟨rfl, trivial⟩)
  · skip
    have h1 := ndec_false h
    clear h
    refine wp_skip ?_
    refine then_n ?_
    refine wp_seq ?_
    refine wp_seq ?_
    refine region_a (E := E0) mo hZ [] trivial (fun _ => []) [0, 1, 4, 5, 6, 16] [] [(0, .ls false [.int .u8] ek), (1, .ls false [.int .u8] m), (4, .v (.slice none 0 0)), (5, .v (.slice none 0 0)), (6, .v (.int .i64 0)), (16, .v (.bool (!decide (((m.length : Nat) : Int) = 32))))] [] 0 (by kernel_rfl) trivial rfl hS fun ac gs ws hS => ?_
    refine then_n ?_
    refine if_x hS rfl (fun h => ?_) (fun h => ?_)
    · skip
      have h2 := ndec_true h
      clear h
      refine wp_seq ?_
      refine region_a (E := E0) mo hZ [] trivial (fun _ => []) [0, 1, 4, 5, 6] [] [(0, .ls false [.int .u8] ek), (1, .ls false [.int .u8] m), (4, .v (.slice none 0 0)), (5, .v (.slice none 0 0)), (6, .v (.int .i64 1))] [] 0 (by kernel_rfl) trivial rfl hS fun ac gs ws hS => ?_
      refine then_n ?_
      refine wp_ret ?_
      refine then_ret ?_
      have hM : encaps_m ek m = ([], [], 1) := (encaps_e ek m).trans ((if_pos h1).trans (if_neg h2))
      obtain ⟨gs, hS⟩ := hS.nilk 5 5 [.int .u8] rfl (L' := [(0, .ls false [.int .u8] ek), (1, .ls false [.int .u8] m), (4, .v (.slice none 0 0)), (5, .sk 0), (6, .v (.int .i64 1))]) (H' := [(0, some (.sl 5 [.int .u8] []))]) (by kernel_rfl) (by kernel_rfl)
      have hS := hS.wk 4 (.ls false [.int .u8] []) rfl (L' := [(0, .ls false [.int .u8] ek), (1, .ls false [.int .u8] m), (4, .ls false [.int .u8] []), (5, .sk 0), (6, .v (.int .i64 1))]) (by kernel_rfl)
      exact fin_x (.inr rfl) hS (ds := [.ls false [.int .u8] [], .sk 0, .v (.int .i64 1)]) (by kernel_rfl) (by show weak _ (.tu (chain [.ls false [.int .u8] ((encaps_m ek m).1), .sk 0, .v (.int .i64 (((encaps_m ek m).2.2 : Nat) : Int))])) = (.tu (chain [.ls false [.int .u8] ((encaps_m ek m).1), .sk 0, .v (.int .i64 (((encaps_m ek m).2.2 : Nat) : Int))])); rw [hM]; first | (simp only []; rfl) | (simp only []; done) | rfl) (by show H1Ok _ [(0, .sl 5 [.int .u8] ((encaps_m ek m).2.1))] true; rw [hM]; first | (simp only []; exact ⟨rfl, trivial⟩) | exact ⟨rfl, trivial⟩)
    · skip
      have h2 := ndec_false h
      clear h
      refine wp_skip ?_
      refine then_n ?_
      refine wp_seq ?_
      have hc := chk_len (xs := ek) (by omega)
      have hs := sum256_len [ek]
      refine region_a (E := E0) mo hZ [(3, .call ⟨37, (c_sum256 [ek]), [], []⟩), (5, .call ⟨38, (c_sum512 [m, sum256_m [ek]]), [], []⟩)] ⟨sum256_ok [ek] (by first | omega | (simp only [List.flatten_cons, List.flatten_nil, List.length_append, List.length_cons, List.length_nil, List.length_take, List.length_drop]; omega) | (simp; omega)), sum512_ok [m, sum256_m [ek]] (by first | omega | (simp only [List.flatten_cons, List.flatten_nil, List.length_append, List.length_cons, List.length_nil, List.length_take, List.length_drop]; omega) | (simp; omega)), trivial⟩ (fun C => [ndC C 3, ndC C 5]) [0, 1, 4, 5, 6, 8] [] [(0, .ls false [.int .u8] ek), (1, .ls false [.int .u8] m), (4, .v (.slice none 0 0)), (5, .v (.slice none 0 0)), (6, .v (.int .i64 0)), (8, .ls false [.int .u8] (sum512_m [m, sum256_m [ek]]))] [] 0 (by kernel_rfl) ⟨rfl, rfl, trivial⟩ rfl hS fun ac gs ws hS => ?_
      refine then_n ?_
      refine wp_seq ?_
      have hl := sum512_len [m, sum256_m [ek]]
      refine region_a (E := E0) mo hZ [(6, .call ⟨47, (c_encrypt ek m ((sum512_m [m, sum256_m [ek]]).drop 32)), [], [(0, 0)]⟩)] ⟨encrypt_ok ek m ((sum512_m [m, sum256_m [ek]]).drop 32) (by first | omega | (simp only [List.length_append, List.length_drop, List.length_take, List.length_cons, List.length_nil]; omega)) (by first | omega | (simp only [List.length_append, List.length_drop, List.length_take, List.length_cons, List.length_nil]; omega)) (by first | omega | (simp only [List.length_append, List.length_drop, List.length_take, List.length_cons, List.length_nil]; omega)), trivial⟩ (fun C => [bndP none (some 32) (some 32) (sum512_m [m, sum256_m [ek]]).length (sum512_m [m, sum256_m [ek]]).length, bndP (some 32) none none (sum512_m [m, sum256_m [ek]]).length (sum512_m [m, sum256_m [ek]]).length, ndC C 6]) [4, 5, 6] [0] [(4, .ls false [.int .u8] ((sum512_m [m, sum256_m [ek]]).take 32)), (5, .sk 0), (6, .v (.int .i64 0))] [(0, some (.sl 5 [.int .u8] (encrypt_m ek m ((sum512_m [m, sum256_m [ek]]).drop 32))))] 1 (by kernel_rfl) ⟨⟨by simp only [nnI] <;> omega, by simp only [nnI] <;> omega, by simp only [nnI] <;> omega, by simp, by simp only [bl] <;> omega, by simp only [bl] <;> omega, by simp only [bl] <;> omega⟩, ⟨by simp only [nnI] <;> omega, by simp only [nnI] <;> omega, by simp only [nnI] <;> omega, by simp, by simp only [bl] <;> omega, by simp only [bl] <;> omega, by simp only [bl] <;> omega⟩, rfl, trivial⟩ rfl hS fun ac gs ws hS => ?_
      refine then_n ?_
      refine wp_ret ?_
      have hM : encaps_m ek m = ((sum512_m [m, sum256_m [ek]]).take 32, encrypt_m ek m ((sum512_m [m, sum256_m [ek]]).drop 32), 0) := (encaps_e ek m).trans ((if_pos h1).trans (if_pos h2))
      exact fin_x (.inr rfl) hS (ds := [.ls false [.int .u8] ((sum512_m [m, sum256_m [ek]]).take 32), .sk 0, .v (.int .i64 0)]) (by kernel_rfl) (by show weak _ (.tu (chain [.ls false [.int .u8] ((encaps_m ek m).1), .sk 0, .v (.int .i64 (((encaps_m ek m).2.2 : Nat) : Int))])) = (.tu (chain [.ls false [.int .u8] ((encaps_m ek m).1), .sk 0, .v (.int .i64 (((encaps_m ek m).2.2 : Nat) : Int))])); rw [hM]; first | (simp only []; rfl) | (simp only []; done) | rfl) (by show H1Ok _ [(0, .sl 5 [.int .u8] ((encaps_m ek m).2.1))] true; rw [hM]; first | (simp only []; exact ⟨rfl, trivial⟩) | exact ⟨rfl, trivial⟩)

noncomputable def encapsy_v (ek : List Int) (m : List Int) : (List Int) × (List Int) := ((sum512_m [m, sum256_m [ek]]).take 32, encrypt_m ek m ((sum512_m [m, sum256_m [ek]]).drop 32))
noncomputable def encapsy_m (ek : List Int) (m : List Int) : (List Int) × (List Int) := shut (encapsy_v ek m)
theorem encapsy_e (ek : List Int) (m : List Int) : encapsy_m ek m = encapsy_v ek m := shut_eq _
noncomputable def c_encapsy (ek : List Int) (m : List Int) : Con := ⟨[.ls false [.int .u8] ek, .ls false [.int .u8] m], [], .tu (chain [.ls false [.int .u8] ((encapsy_m ek m).1), .sk 0, .v (.int .i64 0)]), [(0, .sl 5 [.int .u8] ((encapsy_m ek m).2))]⟩
set_option maxRecDepth 100000 in
set_option maxHeartbeats 4000000 in
theorem encapsy_ok (ek : List Int) (m : List Int) (hk : chk ek = 0) (hm : m.length = 32) : ConOk Try.prog 15 (c_encapsy ek m) := by
  refine conOk_of (nb := 0) Try.func15 rfl rfl Try.ntmps15 rfl rfl rfl fun g0 w0 ac gs ws hg0 hS => ?_
  have hlen0 : ek.length ≤ 9223372036854775807 := hS.len 0 rfl
  have hlen1 : m.length ≤ 9223372036854775807 := hS.len 1 rfl
  have hk1 : ((chk ek : Nat) : Int) = 0 := (by omega)
  have hm1 : ((m.length : Nat) : Int) = 32 := (by omega)
  refine wp_seq ?_
  refine region_a (E := E0) mo hZ [] trivial (fun _ => []) [0, 1, 4, 5, 6] [] [(0, .ls false [.int .u8] ek), (1, .ls false [.int .u8] m), (4, .v (.slice none 0 0)), (5, .v (.slice none 0 0)), (6, .v (.int .i64 0))] [] 0 (by kernel_rfl) trivial rfl hS fun ac gs ws hS => ?_
  refine then_n ?_
  refine wp_seq ?_
  refine wp_seq ?_
  refine region_a (E := E0) mo hZ [(1, .call ⟨10, (c_check ek), [], []⟩)] ⟨check_ok ek, trivial⟩ (fun C => [ndC C 1]) [0, 1, 4, 5, 6, 7] [] [(0, .ls false [.int .u8] ek), (1, .ls false [.int .u8] m), (4, .v (.slice none 0 0)), (5, .v (.slice none 0 0)), (6, .v (.int .i64 0)), (7, .v (.int .i64 ((chk ek : Nat) : Int)))] [] 0 (by kernel_rfl) ⟨rfl, trivial⟩ rfl hS fun ac gs ws hS => ?_
  refine then_n ?_
  refine wp_seq ?_
  refine region_a (E := E0) mo hZ [(1, .ob false)] trivial (fun _ => [(!decide (((chk ek : Nat) : Int) = 0)) = false]) [0, 1, 4, 5, 6, 7, 12] [] [(0, .ls false [.int .u8] ek), (1, .ls false [.int .u8] m), (4, .v (.slice none 0 0)), (5, .v (.slice none 0 0)), (6, .v (.int .i64 0)), (7, .v (.int .i64 ((chk ek : Nat) : Int))), (12, .v (.bool false))] [] 0 (by kernel_rfl) ⟨by rw [decide_eq_true hk1]; rfl, trivial⟩ rfl hS fun ac gs ws hS => ?_
  refine then_n ?_
  refine wp_cond_false (hS.fx.frm.eval rfl) ?_
  refine wp_skip ?_
  refine then_n ?_
  refine wp_seq ?_
  refine wp_seq ?_
  refine region_a (E := E0) mo hZ [(2, .ob false)] trivial (fun _ => [(!decide (((m.length : Nat) : Int) = 32)) = false]) [0, 1, 4, 5, 6, 16] [] [(0, .ls false [.int .u8] ek), (1, .ls false [.int .u8] m), (4, .v (.slice none 0 0)), (5, .v (.slice none 0 0)), (6, .v (.int .i64 0)), (16, .v (.bool false))] [] 0 (by kernel_rfl) ⟨by rw [decide_eq_true hm1]; rfl, trivial⟩ rfl hS fun ac gs ws hS => ?_
  refine then_n ?_
  refine wp_cond_false (hS.fx.frm.eval rfl) ?_
  refine wp_skip ?_
  refine then_n ?_
  refine wp_seq ?_
  have hc := chk_len (xs := ek) (by omega)
  have hs := sum256_len [ek]
  refine region_a (E := E0) mo hZ [(3, .call ⟨37, (c_sum256 [ek]), [], []⟩), (5, .call ⟨38, (c_sum512 [m, sum256_m [ek]]), [], []⟩)] ⟨sum256_ok [ek] (by first | omega | (simp only [List.flatten_cons, List.flatten_nil, List.length_append, List.length_cons, List.length_nil, List.length_take, List.length_drop]; omega) | (simp; omega)), sum512_ok [m, sum256_m [ek]] (by first | omega | (simp only [List.flatten_cons, List.flatten_nil, List.length_append, List.length_cons, List.length_nil, List.length_take, List.length_drop]; omega) | (simp; omega)), trivial⟩ (fun C => [ndC C 3, ndC C 5]) [0, 1, 4, 5, 6, 8] [] [(0, .ls false [.int .u8] ek), (1, .ls false [.int .u8] m), (4, .v (.slice none 0 0)), (5, .v (.slice none 0 0)), (6, .v (.int .i64 0)), (8, .ls false [.int .u8] (sum512_m [m, sum256_m [ek]]))] [] 0 (by kernel_rfl) ⟨rfl, rfl, trivial⟩ rfl hS fun ac gs ws hS => ?_
  refine then_n ?_
  refine wp_seq ?_
  have hl := sum512_len [m, sum256_m [ek]]
  refine region_a (E := E0) mo hZ [(6, .call ⟨47, (c_encrypt ek m ((sum512_m [m, sum256_m [ek]]).drop 32)), [], [(0, 0)]⟩)] ⟨encrypt_ok ek m ((sum512_m [m, sum256_m [ek]]).drop 32) (by first | omega | (simp only [List.length_append, List.length_drop, List.length_take, List.length_cons, List.length_nil]; omega)) (by first | omega | (simp only [List.length_append, List.length_drop, List.length_take, List.length_cons, List.length_nil]; omega)) (by first | omega | (simp only [List.length_append, List.length_drop, List.length_take, List.length_cons, List.length_nil]; omega)), trivial⟩ (fun C => [bndP none (some 32) (some 32) (sum512_m [m, sum256_m [ek]]).length (sum512_m [m, sum256_m [ek]]).length, bndP (some 32) none none (sum512_m [m, sum256_m [ek]]).length (sum512_m [m, sum256_m [ek]]).length, ndC C 6]) [4, 5, 6] [0] [(4, .ls false [.int .u8] ((sum512_m [m, sum256_m [ek]]).take 32)), (5, .sk 0), (6, .v (.int .i64 0))] [(0, some (.sl 5 [.int .u8] (encrypt_m ek m ((sum512_m [m, sum256_m [ek]]).drop 32))))] 1 (by kernel_rfl) ⟨⟨by simp only [nnI] <;> omega, by simp only [nnI] <;> omega, by simp only [nnI] <;> omega, by simp, by simp only [bl] <;> omega, by simp only [bl] <;> omega, by simp only [bl] <;> omega⟩, ⟨by simp only [nnI] <;> omega, by simp only [nnI] <;> omega, by simp only [nnI] <;> omega, by simp, by simp only [bl] <;> omega, by simp only [bl] <;> omega, by simp only [bl] <;> omega⟩, rfl, trivial⟩ rfl hS fun ac gs ws hS => ?_
  refine then_n ?_
  refine wp_ret ?_
  have hM : encapsy_m ek m = ((sum512_m [m, sum256_m [ek]]).take 32, encrypt_m ek m ((sum512_m [m, sum256_m [ek]]).drop 32)) := encapsy_e ek m
  exact fin_x (.inr rfl) hS (ds := [.ls false [.int .u8] ((sum512_m [m, sum256_m [ek]]).take 32), .sk 0, .v (.int .i64 0)]) (by kernel_rfl) (by show weak _ (.tu (chain [.ls false [.int .u8] ((encapsy_m ek m).1), .sk 0, .v (.int .i64 0)])) = (.tu (chain [.ls false [.int .u8] ((encapsy_m ek m).1), .sk 0, .v (.int .i64 0)])); rw [hM]; first | (simp only []; rfl) | (simp only []; done) | rfl) (by show H1Ok _ [(0, .sl 5 [.int .u8] ((encapsy_m ek m).2))] true; rw [hM]; first | (simp only []; exact ⟨rfl, trivial⟩) | exact ⟨rfl, trivial⟩)

end Go.Sx.Try
namespace Go.Sx.Try
open Go.Mi Go.RowKit Go.Sx Go.Proofs
theorem rd_by (r : Nat) (f : Nat → Int) (a : Nat) : ∀ n, By (rdA r f a n).2.2
  | 0 => by rw [← rd_0]; intro x hx; cases hx
  | n + 1 => by
    have ih := rd_by r f a n
    rw [rdA_s]
    generalize rdA r f a n = q at ih
    obtain ⟨g, b, o⟩ := q
    simp only at ih ⊢
    have hw : ∀ z : Int, 0 ≤ IntKind.wrap .u8 z ∧ IntKind.wrap .u8 z < 256 := fun z => by rw [wrap_u8m]; omega
    split
    · intro x hx
      rcases List.mem_append.1 hx with h | h
      · exact ih x h
      · rw [List.mem_singleton.1 h]; exact hw _
    · intro x hx
      rcases List.mem_append.1 hx with h | h
      · exact ih x h
      · rw [List.mem_singleton.1 h]; exact hw _
theorem sum512_by (l : List (List Int)) : By (sum512_m l) := by rw [sum512_e]; exact rd_by _ _ _ _
theorem sum256_by (l : List (List Int)) : By (sum256_m l) := by rw [sum256_e]; exact rd_by _ _ _ _
def xr (f : Nat → Int) (i : Nat) : Nat := (irem (f i) 3329).toNat
theorem xr_ok {x : Int} (h : 0 ≤ x) : 0 ≤ irem x 3329 ∧ irem x 3329 < 3329 := by rw [irem64 h]; omega
/-- so many bits are written -/
def Wr (f : Nat → Int) (o : List Int) (m : Nat) : Prop := By o ∧ o.length = 384 ∧ ∀ n, bt o n = (decide (n < m) && (xr f (n / 12)).testBit (n % 12))
theorem enc_s {f : Nat → Int} (hf : ∀ i, i < 256 → 0 ≤ f i) {o : List Int} {i k : Nat} (hi : i < 256) (hk : k < 12) (h : Wr f o (i * 12 + k)) (x6 : List Int) : Wr f (encode12_l2_s f i x6 k o) (i * 12 + k + 1) := by
  obtain ⟨h1, h2, h3⟩ := h
  have hx := xr_ok (hf i hi)
  have e : encode12_l2_s f i x6 k o = stb o (i * 12 + k) (((xr f i).testBit k).toNat : Nat) := by
    show stb o (i * 12 + k) (iand .u16 (ishr .u16 (irem (f i) 3329) ((k : Nat) : Int)) 1) = _
    rw [dig16 ⟨hx.1, by omega⟩ (by omega)]
    rfl
  rw [e]
  obtain ⟨k1, k2⟩ := stb_ok h1 (n := i * 12 + k) (by rw [h2]; omega) ((xr f i).testBit k)
  refine ⟨k1, by rw [stb_len, h2], fun n => ?_⟩
  rw [k2, h3]
  by_cases hn : n = i * 12 + k
  · subst hn
    rw [decide_eq_false (Nat.lt_irrefl _), decide_eq_true rfl, decide_eq_true (Nat.lt_succ_self _), show (i * 12 + k) / 12 = i by omega, show (i * 12 + k) % 12 = k by omega]
    simp
  · rw [decide_eq_false hn, Bool.and_false, Bool.or_false]
    by_cases h4 : n < i * 12 + k
    · rw [decide_eq_true h4, decide_eq_true (by omega)]
    · rw [decide_eq_false h4, decide_eq_false (by omega)]
theorem enc_2 {f : Nat → Int} (hf : ∀ i, i < 256 → 0 ≤ f i) {o : List Int} {i : Nat} (hi : i < 256) (h : Wr f o (i * 12)) : ∀ k, k ≤ 12 → Wr f (encode12_l2 f i o k) (i * 12 + k)
  | 0, _ => h
  | k + 1, hk => enc_s hf hi (by omega) (enc_2 hf hi h k (by omega)) o
theorem enc_1 {f : Nat → Int} (hf : ∀ i, i < 256 → 0 ≤ f i) : ∀ i, i ≤ 256 → Wr f (encode12_l1 f i) (i * 12)
  | 0, _ => by
    refine ⟨fun x hx => ?_, List.length_replicate, fun n => ?_⟩
    · have : x = 0 := List.eq_of_mem_replicate hx
      omega
    · have e : (encode12_l1 f 0).getD (n / 8) 0 = 0 := by
        show (List.replicate 384 (0 : Int)).getD (n / 8) 0 = 0
        rw [List.getD_eq_getElem?_getD, List.getElem?_replicate]
        split <;> rfl
      unfold bt
      rw [e]
      simp
  | i + 1, hi => by
    have := enc_2 hf (i := i) (by omega) (enc_1 hf i (by omega)) 12 (Nat.le_refl _)
    rw [show (i + 1) * 12 = i * 12 + 12 by omega]
    exact this
theorem enc_ok {f : Nat → Int} (hf : ∀ i, i < 256 → 0 ≤ f i) : By (encode12_m f) ∧ ∀ n, n < 3072 → bt (encode12_m f) n = (xr f (n / 12)).testBit (n % 12) := by
  rw [encode12_e]
  obtain ⟨h1, _, h3⟩ := enc_1 hf 256 (Nat.le_refl _)
  exact ⟨h1, fun n hn => by
    have := h3 n
    rw [decide_eq_true hn, Bool.true_and] at this
    exact this⟩
theorem unp_2 (xs : List Int) (i : Nat) (g : Nat → Int) : ∀ k j, unpack12_l2 xs i g k j = if j = i then rdb xs (i * 12) k (g i) else g j
  | 0, j => by
    show g j = _
    by_cases h : j = i
    · rw [if_pos h, h]; rfl
    · rw [if_neg h]
  | k + 1, j => by
    have ih := unp_2 xs i g k
    show upd (unpack12_l2 xs i g k) i _ j = _
    unfold upd
    by_cases h : j = i
    · rw [if_pos h, if_pos h]
      show ior .u16 (unpack12_l2 xs i g k i) _ = ior .u16 (rdb xs (i * 12) k (g i)) _
      rw [ih i, if_pos rfl]
    · rw [if_neg h, if_neg h, ih j, if_neg h]
theorem unp_1 (xs : List Int) : ∀ n j, unpack12_l1 xs n j = if j < n then rdb xs (j * 12) 12 0 else 0
  | 0, j => by rw [if_neg (Nat.not_lt_zero j)]; rfl
  | n + 1, j => by
    have ih := unp_1 xs n
    show unpack12_l2 xs n (unpack12_l1 xs n) 12 j = _
    rw [unp_2]
    by_cases h : j = n
    · rw [if_pos h, h, ih n, if_neg (Nat.lt_irrefl _), if_pos (Nat.lt_succ_self _)]
    · rw [if_neg h, ih j]
      by_cases h2 : j < n
      · rw [if_pos h2, if_pos (by omega)]
      · rw [if_neg h2, if_neg (by omega)]
/-- what was written is read -/
theorem unp_of {f : Nat → Int} (hf : ∀ i, i < 256 → 0 ≤ f i) {xs : List Int} (hx : By xs) (h : ∀ n, n < 384 → xs.getD n 0 = (encode12_m f).getD n 0) {j : Nat} (hj : j < 256) : unpack12_m xs j = (xr f j : Nat) := by
  have hb : ∀ n, n < 3072 → bt xs n = (xr f (n / 12)).testBit (n % 12) := fun n hn => by
    rw [← (enc_ok hf).2 n hn]
    unfold bt
    rw [h (n / 8) (by omega)]
  rw [unpack12_e]
  show unpack12_l1 xs 256 j = _
  rw [unp_1, if_pos hj]
  obtain ⟨h1, h2⟩ := rdb_ok hx (j * 12) 12 (by omega)
  have hlt : xr f j < 2 ^ 12 := by have := xr_ok (hf j hj); unfold xr; omega
  have e : (rdb xs (j * 12) 12 0).toNat = xr f j := by
    refine Nat.eq_of_testBit_eq fun i => ?_
    rw [h2]
    by_cases hi : i < 12
    · rw [decide_eq_true hi, Bool.true_and, hb _ (by omega), show (j * 12 + i) / 12 = j by omega, show (j * 12 + i) % 12 = i by omega]
    · rw [decide_eq_false hi, Bool.false_and]
      exact (Nat.testBit_lt_two_pow (Nat.lt_of_lt_of_le hlt (Nat.pow_le_pow_right (by decide) (by omega)))).symm
  omega
theorem rowof_at (xs : List Int) {i j : Nat} (hi : i < 3) (hj : j < 256) : rowof_m xs (i * 256 + j) = unpack12_m (xs.drop (384 * i)) j := by
  have key : ∀ n, i < n → rowof_l1 xs n (i * 256 + j) = unpack12_m (xs.drop (384 * i)) j := by
    intro n
    induction n with
    | zero => exact fun h => absurd h (Nat.not_lt_zero _)
    | succ n ih =>
      intro h
      show updW (rowof_l1 xs n) (n * 256) 256 (unpack12_m (xs.drop (384 * n))) (i * 256 + j) = _
      unfold updW
      by_cases e : i = n
      · subst e
        rw [show Nat.ble (i * 256) (i * 256 + j) = true by rw [Nat.ble_eq]; omega, show Nat.blt (i * 256 + j) (i * 256 + 256) = true by rw [Nat.blt_eq]; omega]
        simp only [Bool.and_self, cond_true]
        rw [show i * 256 + j - i * 256 = j by omega]
      · have : Nat.ble (n * 256) (i * 256 + j) = false := by
          cases hb : Nat.ble (n * 256) (i * 256 + j) with
          | false => rfl
          | true => rw [Nat.ble_eq] at hb; omega
        rw [this, Bool.false_and, cond_false]
        exact ih (by omega)
  rw [rowof_e]
  exact key 3 hi
theorem rbytes_at (f : Nat → Int) {i n : Nat} (hi : i < 3) (hn : n < 384) : (rbytes_m f).getD (384 * i + n) 0 = (encode12_m fun j => f (i * 256 + j)).getD n 0 := by
  have key : ∀ m, (rbytes_l1 f m).length = 384 * m ∧ (i < m → (rbytes_l1 f m).getD (384 * i + n) 0 = (encode12_m fun j => f (i * 256 + j)).getD n 0) := by
    intro m
    induction m with
    | zero => exact ⟨rfl, fun h => absurd h (Nat.not_lt_zero _)⟩
    | succ m ih =>
      have e : rbytes_l1 f (m + 1) = rbytes_l1 f m ++ encode12_m (fun j => f (m * 256 + j)) := rfl
      rw [e]
      refine ⟨by rw [List.length_append, ih.1, encode12_len]; omega, fun h => ?_⟩
      rw [List.getD_eq_getElem?_getD]
      by_cases e2 : i = m
      · subst e2
        rw [List.getElem?_append_right (by rw [ih.1]; omega), ih.1, ← List.getD_eq_getElem?_getD, show 384 * i + n - 384 * i = n by omega]
      · rw [List.getElem?_append_left (by rw [ih.1]; omega), ← List.getD_eq_getElem?_getD]
        exact ih.2 (by omega)
  rw [rbytes_e]
  exact (key 3).2 hi
theorem rbytes_by {f : Nat → Int} (hf : ∀ i, i < 768 → 0 ≤ f i) : By (rbytes_m f) := by
  have key : ∀ m, m ≤ 3 → By (rbytes_l1 f m) := by
    intro m
    induction m with
    | zero => exact fun _ x hx => by cases hx
    | succ m ih =>
      intro hm x hx
      have e : rbytes_l1 f (m + 1) = rbytes_l1 f m ++ encode12_m (fun j => f (m * 256 + j)) := rfl
      rw [e] at hx
      rcases List.mem_append.1 hx with h | h
      · exact ih (by omega) x h
      · exact (enc_ok fun i hi => hf _ (by omega)).1 x h
  rw [rbytes_e]
  exact key 3 (Nat.le_refl _)
/-- keys that are made of such rows may be -/
theorem rmay_of {f : Nat → Int} (hf : ∀ i, i < 768 → 0 ≤ f i) {rest : List Int} (hr : By rest) : rmay (rbytes_m f ++ rest) = true := by
  refine rmay_yes fun i hi => may_yes fun j hj => ?_
  rw [rowof_at _ hi hj]
  have hf2 : ∀ j, j < 256 → 0 ≤ f (i * 256 + j) := fun j hj => hf _ (by omega)
  rw [unp_of (f := fun j => f (i * 256 + j)) hf2 (fun x hx => ?_) (fun n hn => ?_) hj]
  · have := (xr_ok (hf2 j hj)).2
    unfold xr
    have := (xr_ok (hf2 j hj)).1
    simp only
    omega
  · rcases List.mem_append.1 (List.mem_of_mem_drop hx) with h | h
    · exact rbytes_by hf x h
    · exact hr x h
  · rw [List.getD_eq_getElem?_getD, List.getElem?_drop, List.getElem?_append_left (by rw [rbytes_len]; omega), ← List.getD_eq_getElem?_getD]
    exact rbytes_at f hi hn
theorem mod_nn (x : Int) : 0 ≤ mod_m x := by
  rw [mod_e]; show 0 ≤ IntKind.wrap .u16 _; rw [wrap_u16m]; omega
theorem add_nn (f g : Nat → Int) {j : Nat} (hj : j < 256) : 0 ≤ add_m f g j := by
  have key : ∀ n, j < n → 0 ≤ add_l1 f g n j := by
    intro n
    induction n with
    | zero => exact fun h => absurd h (Nat.not_lt_zero _)
    | succ n ih =>
      intro h
      show 0 ≤ upd (add_l1 f g n) n (mod_m _) j
      unfold upd
      split
      · exact mod_nn _
      · exact ih (by omega)
  rw [add_e]
  exact key 256 hj
theorem keys_nn (d z : List Int) {k : Nat} (hk : k < 768) : 0 ≤ keys_l1 d z 3 k := by
  have key : ∀ n, k / 256 < n → 0 ≤ keys_l1 d z n k := by
    intro n
    induction n with
    | zero => exact fun h => absurd h (Nat.not_lt_zero _)
    | succ n ih =>
      intro h
      show 0 ≤ updW (keys_l1 d z n) (n * 256) 256 (add_m _ _) k
      unfold updW
      cases hb : Nat.ble (n * 256) k && Nat.blt k (n * 256 + 256) with
      | true =>
        rw [Bool.and_eq_true, Nat.ble_eq, Nat.blt_eq] at hb
        exact add_nn _ _ (by omega)
      | false =>
        rw [cond_false]
        refine ih ?_
        have h1 : k / 256 ≠ n := fun e => by
          have h2 : Nat.ble (n * 256) k = true := by rw [Nat.ble_eq]; omega
          have h3 : Nat.blt k (n * 256 + 256) = true := by rw [Nat.blt_eq]; omega
          rw [h2, h3] at hb; cases hb
        omega
  exact key 3 (by omega)
theorem keys_chk (d z : List Int) : chk (keys_m d z).1 = 0 := by
  have hl := sum512_len [d, [3]]
  have e : (keys_m d z).1 = rbytes_m (keys_l1 d z 3) ++ ((sum512_m [d, [3]]).take 32 ++ []) := by rw [keys_e]; rfl
  rw [e]
  refine chk_0 ?_ (rmay_of (fun i hi => keys_nn d z hi) fun x hx => ?_)
  · rw [List.length_append, List.length_append, rbytes_len, List.length_take, hl]; rfl
  · rw [List.append_nil] at hx
    exact sum512_by _ x (List.mem_of_mem_take hx)
theorem keysk_nn (d z : List Int) {k : Nat} (hk : k < 768) : 0 ≤ keysk_l1 d z 3 k := by
  have key : ∀ n, k / 256 < n → 0 ≤ keysk_l1 d z n k := by
    intro n
    induction n with
    | zero => exact fun h => absurd h (Nat.not_lt_zero _)
    | succ n ih =>
      intro h
      show 0 ≤ updW (keysk_l1 d z n) (n * 256) 256 (add_m _ _) k
      unfold updW
      cases hb : Nat.ble (n * 256) k && Nat.blt k (n * 256 + 256) with
      | true =>
        rw [Bool.and_eq_true, Nat.ble_eq, Nat.blt_eq] at hb
        exact add_nn _ _ (by omega)
      | false =>
        rw [cond_false]
        refine ih ?_
        have h1 : k / 256 ≠ n := fun e => by
          have h2 : Nat.ble (n * 256) k = true := by rw [Nat.ble_eq]; omega
          have h3 : Nat.blt k (n * 256 + 256) = true := by rw [Nat.blt_eq]; omega
          rw [h2, h3] at hb; cases hb
        omega
  exact key 3 (by omega)
theorem keysk_chk (d z : List Int) : chk (keysk_m d z).1 = 0 := by
  have hl := sum512_len [d, [3]]
  have e : (keysk_m d z).1 = rbytes_m (keysk_l1 d z 3) ++ ((sum512_m [d, [3]]).take 32 ++ []) := by rw [keysk_e]; rfl
  rw [e]
  refine chk_0 ?_ (rmay_of (fun i hi => keysk_nn d z hi) fun x hx => ?_)
  · rw [List.length_append, List.length_append, rbytes_len, List.length_take, hl]; rfl
  · rw [List.append_nil] at hx
    exact sum512_by _ x (List.mem_of_mem_take hx)
end Go.Sx.Try
namespace Go.Sx.Try
open Go.Mi Go.RowKit Go.Sx Go.Proofs
noncomputable def c_awake11 : Con := ⟨[], [], .v (.bool true), []⟩
set_option maxRecDepth 100000 in
set_option maxHeartbeats 4000000 in
theorem awake11_ok : ConOk Try.prog 7 (c_awake11) := by
  refine conOk_of (nb := 0) Try.func7 rfl rfl Try.ntmps7 rfl rfl rfl fun g0 w0 ac gs ws hg0 hS => ?_
  refine wp_seq ?_
  refine region_a (E := E0) mo hZ [] trivial (fun _ => []) [0] [] [(0, .v (.bool false))] [] 0 (by kernel_rfl) trivial rfl hS fun ac gs ws hS => ?_
  refine then_n ?_
  refine wp_seq ?_
  refine region_a (E := E0) mo hZ [(0, .call ⟨14, (c_keysn), [], []⟩)] ⟨keysn_ok, trivial⟩ (fun C => [ndC C 0]) [0, 3] [] [(0, .v (.bool false)), (3, .v (.int .i64 1))] [] 0 (by kernel_rfl) ⟨rfl, trivial⟩ rfl hS fun ac gs ws hS => ?_
  refine then_n ?_
  refine wp_seq ?_
  refine region_a (E := E0) mo hZ [(2, .call ⟨14, (c_keysk (List.replicate 32 (0 : Int)) (List.replicate 32 (0 : Int))), [(0, 0), (1, 1)], [(2, 2)]⟩)] ⟨keysk_ok (List.replicate 32 (0 : Int)) (List.replicate 32 (0 : Int)) (by first | omega | (simp only [List.length_append, List.length_drop, List.length_take, List.length_replicate, List.length_cons, List.length_nil] <;> omega)) (by first | omega | (simp only [List.length_append, List.length_drop, List.length_take, List.length_replicate, List.length_cons, List.length_nil] <;> omega)), trivial⟩ (fun C => [(32 : Int) = 32, (0 : Int) ≤ 32, 1 * 32 ≤ 281474976710656, (32 : Int) ≤ 9223372036854775807, (32 : Int) = 32, (0 : Int) ≤ 32, 1 * 32 ≤ 281474976710656, (32 : Int) ≤ 9223372036854775807, ndC C 2]) [0, 3, 4, 5, 6] [2] [(0, .v (.bool false)), (3, .v (.int .i64 1)), (4, .ls false [.int .u8] ((keysk_m (List.replicate 32 (0 : Int)) (List.replicate 32 (0 : Int))).1)), (5, .sk 2), (6, .v (.int .i64 0))] [(2, some (.sl 5 [.int .u8] ((keysk_m (List.replicate 32 (0 : Int)) (List.replicate 32 (0 : Int))).2)))] 3 (by kernel_rfl) ⟨rfl, by omega, by omega, by omega, rfl, by omega, by omega, by omega, rfl, trivial⟩ rfl hS fun ac gs ws hS => ?_
  refine then_n ?_
  refine wp_seq ?_
  have hlk := keysk_len (List.replicate 32 (0 : Int)) (List.replicate 32 (0 : Int)) List.length_replicate
  have hck := keysk_chk (List.replicate 32 (0 : Int)) (List.replicate 32 (0 : Int))
  have hk1 : ((((keysk_m (List.replicate 32 (0 : Int)) (List.replicate 32 (0 : Int))).1).length : Nat) : Int) = 1184 := (by omega)
  have hk2 : ((((keysk_m (List.replicate 32 (0 : Int)) (List.replicate 32 (0 : Int))).2).length : Nat) : Int) = 2400 := (by omega)
  have hk3 : ((chk ((keysk_m (List.replicate 32 (0 : Int)) (List.replicate 32 (0 : Int))).1) : Nat) : Int) = 0 := (by omega)
  have hk4 : ((chk [] : Nat) : Int) = 1 := by rw [chk_1 (by decide)]; rfl
  refine region_a (E := E0) mo hZ [(9, .ob true), (14, .ob true), (18, .call ⟨10, (c_check ((keysk_m (List.replicate 32 (0 : Int)) (List.replicate 32 (0 : Int))).1)), [], []⟩), (19, .ob true), (22, .call ⟨10, (c_check []), [], []⟩), (23, .ob true)] ⟨check_ok ((keysk_m (List.replicate 32 (0 : Int)) (List.replicate 32 (0 : Int))).1), check_ok [], trivial⟩ (fun C => [(decide (((((keysk_m (List.replicate 32 (0 : Int)) (List.replicate 32 (0 : Int))).1).length : Nat) : Int) = 1184)) = true, (decide (((((keysk_m (List.replicate 32 (0 : Int)) (List.replicate 32 (0 : Int))).2).length : Nat) : Int) = 2400)) = true, ndC C 18, (decide (((chk ((keysk_m (List.replicate 32 (0 : Int)) (List.replicate 32 (0 : Int))).1) : Nat) : Int) = 0)) = true, ndC C 22, (decide (((chk [] : Nat) : Int) = 1)) = true]) [0] [] [(0, .v (.bool true))] [] 3 (by kernel_rfl) ⟨decide_eq_true hk1, decide_eq_true hk2, rfl, decide_eq_true hk3, rfl, decide_eq_true hk4, trivial⟩ rfl hS fun ac gs ws hS => ?_
  refine then_n ?_
  refine wp_ret ?_
  exact fin_x (.inr rfl) hS (ds := [.v (.bool true)]) (by kernel_rfl) rfl trivial

theorem keys_ek (d z m : List Int) : (keys_m d z).1 = (keys_m d m).1 := by rw [keys_e, keys_e]; rfl
theorem law_z (d z m : List Int) (hz : z.length = 32) (hm : m.length = 32) : (keys_m d z).2.take 2368 = (keys_m d m).2.take 2368 ∧ (keys_m d z).2.drop 2368 = z ∧ (keys_m d m).2.drop 2368 = m := by
  have key : ∀ z : List Int, z.length = 32 → ∃ a, a.length = 2368 ∧ (keys_m d z).2 = a ++ z ∧ a = rbytes_m (each_ntt_m (knoise_m ((sum512_m [d, [3]]).drop 32) 0)) ++ ([rbytes_m (keys_l1 d [] 3), (sum512_m [d, [3]]).take 32].flatten ++ sum256_m [[rbytes_m (keys_l1 d [] 3), (sum512_m [d, [3]]).take 32].flatten]) := by
    intro z hz
    refine ⟨_, ?_, ?_, rfl⟩
    · have h1 := sum512_len [d, [3]]
      simp only [List.flatten_cons, List.flatten_nil, List.length_append, List.length_nil, rbytes_len, sum256_len, List.length_take, h1]
      omega
    · rw [keys_e]
      show [_, _, _, z].flatten = _
      simp only [List.flatten_cons, List.flatten_nil, List.append_nil, List.append_assoc]
      rfl
  obtain ⟨a, h1, h2, h3⟩ := key z hz
  obtain ⟨b, k1, k2, k3⟩ := key m hm
  have e : a = b := by rw [h3, k3]
  subst e
  rw [h2, k2]
  have t : ∀ x : List Int, (a ++ x).take 2368 = a ∧ (a ++ x).drop 2368 = x := fun x => by
    rw [← h1]; exact ⟨List.take_left, List.drop_left⟩
  exact ⟨by rw [(t z).1, (t m).1], (t z).2, (t m).2⟩
noncomputable def c_kemdraws (d : List Int) (z : List Int) (m : List Int) : Con := ⟨[.ls false [.int .u8] d, .ls false [.int .u8] z, .ls false [.int .u8] m], [], .v (.bool true), []⟩
set_option maxRecDepth 100000 in
set_option maxHeartbeats 4000000 in
theorem kemdraws_ok (d : List Int) (z : List Int) (m : List Int) : ConOk Try.prog 4 (c_kemdraws d z m) := by
  refine conOk_of (nb := 0) Try.func4 rfl rfl Try.ntmps4 rfl rfl rfl fun g0 w0 ac gs ws hg0 hS => ?_
  have hlen0 : d.length ≤ 9223372036854775807 := hS.len 0 rfl
  have hlen1 : z.length ≤ 9223372036854775807 := hS.len 1 rfl
  have hlen2 : m.length ≤ 9223372036854775807 := hS.len 2 rfl
  refine wp_seq ?_
  refine region_a (E := E0) mo hZ [] trivial (fun _ => []) [0, 1, 2, 6] [] [(0, .ls false [.int .u8] d), (1, .ls false [.int .u8] z), (2, .ls false [.int .u8] m), (6, .v (.bool false))] [] 0 (by kernel_rfl) trivial rfl hS fun ac gs ws hS => ?_
  refine then_n ?_
  refine wp_seq ?_
  refine wp_seq ?_
  by_cases h1 : ((d.length : Nat) : Int) = 32
  · skip
    by_cases h2 : ((z.length : Nat) : Int) = 32
    · skip
      refine region_a (E := E0) mo hZ [(2, .ob false), (6, .ob false)] trivial (fun _ => [(!decide (((d.length : Nat) : Int) = 32)) = false, (!decide (((z.length : Nat) : Int) = 32)) = false]) [0, 1, 2, 6, 31] [] [(0, .ls false [.int .u8] d), (1, .ls false [.int .u8] z), (2, .ls false [.int .u8] m), (6, .v (.bool false)), (31, .v (.bool (!decide (((m.length : Nat) : Int) = 32))))] [] 0 (by kernel_rfl) ⟨by rw [decide_eq_true h1]; rfl, by rw [decide_eq_true h2]; rfl, trivial⟩ rfl hS fun ac gs ws hS => ?_
      refine then_n ?_
      refine if_x hS rfl (fun h => ?_) (fun h => ?_)
      · skip
        have h3 := ndec_true h
        clear h
        refine wp_seq ?_
        refine region_a (E := E0) mo hZ [(0, .call ⟨7, (c_awake11), [], []⟩)] ⟨awake11_ok, trivial⟩ (fun C => [ndC C 0]) [0, 1, 2, 6] [] [(0, .ls false [.int .u8] d), (1, .ls false [.int .u8] z), (2, .ls false [.int .u8] m), (6, .v (.bool true))] [] 0 (by kernel_rfl) ⟨rfl, trivial⟩ rfl hS fun ac gs ws hS => ?_
        refine then_n ?_
        refine wp_ret ?_
        refine then_ret ?_
        exact fin_x (.inr rfl) hS (ds := [.v (.bool true)]) (by kernel_rfl) rfl trivial
      · skip
        have h3 := ndec_false h
        clear h
        refine wp_skip ?_
        refine then_n ?_
        refine wp_seq ?_
        refine region_a (E := E0) mo hZ [(2, .call ⟨14, (c_keys d z), [], [(0, 0)]⟩)] ⟨keys_ok d z (by first | omega | (simp only [List.length_append, List.length_drop, List.length_take, List.length_replicate, List.length_cons, List.length_nil] <;> omega)) (by first | omega | (simp only [List.length_append, List.length_drop, List.length_take, List.length_replicate, List.length_cons, List.length_nil] <;> omega)), trivial⟩ (fun C => [ndC C 2]) [0, 1, 2, 6, 7, 8, 9] [0] [(0, .ls false [.int .u8] d), (1, .ls false [.int .u8] z), (2, .ls false [.int .u8] m), (6, .v (.bool false)), (7, .ls false [.int .u8] ((keys_m d z).1)), (8, .sk 0), (9, .v (.int .i64 0))] [(0, some (.sl 5 [.int .u8] ((keys_m d z).2)))] 1 (by kernel_rfl) ⟨rfl, trivial⟩ rfl hS fun ac gs ws hS => ?_
        refine then_n ?_
        refine wp_seq ?_
        refine region_a (E := E0) mo hZ [(2, .call ⟨14, (c_keys d m), [], [(0, 1)]⟩)] ⟨keys_ok d m (by first | omega | (simp only [List.length_append, List.length_drop, List.length_take, List.length_replicate, List.length_cons, List.length_nil] <;> omega)) (by first | omega | (simp only [List.length_append, List.length_drop, List.length_take, List.length_replicate, List.length_cons, List.length_nil] <;> omega)), trivial⟩ (fun C => [ndC C 2]) [1, 2, 6, 7, 8, 9, 10, 11, 12] [0, 1] [(1, .ls false [.int .u8] z), (2, .ls false [.int .u8] m), (6, .v (.bool false)), (7, .ls false [.int .u8] ((keys_m d z).1)), (8, .sk 0), (9, .v (.int .i64 0)), (10, .ls false [.int .u8] ((keys_m d m).1)), (11, .sk 1), (12, .v (.int .i64 0))] [(0, some (.sl 5 [.int .u8] ((keys_m d z).2))), (1, some (.sl 5 [.int .u8] ((keys_m d m).2)))] 2 (by kernel_rfl) ⟨rfl, trivial⟩ rfl hS fun ac gs ws hS => ?_
        refine then_n ?_
        refine wp_seq ?_
        refine region_a (E := E0) mo hZ [(2, .call ⟨15, (c_encapsy ((keys_m d z).1) m), [], [(0, 2)]⟩)] ⟨encapsy_ok ((keys_m d z).1) m (keys_chk d z) (by omega), trivial⟩ (fun C => [ndC C 2]) [1, 2, 6, 7, 8, 9, 10, 11, 12, 13, 14, 15] [0, 1, 2] [(1, .ls false [.int .u8] z), (2, .ls false [.int .u8] m), (6, .v (.bool false)), (7, .ls false [.int .u8] ((keys_m d z).1)), (8, .sk 0), (9, .v (.int .i64 0)), (10, .ls false [.int .u8] ((keys_m d m).1)), (11, .sk 1), (12, .v (.int .i64 0)), (13, .ls false [.int .u8] ((encapsy_m ((keys_m d z).1) m).1)), (14, .sk 2), (15, .v (.int .i64 0))] [(0, some (.sl 5 [.int .u8] ((keys_m d z).2))), (1, some (.sl 5 [.int .u8] ((keys_m d m).2))), (2, some (.sl 5 [.int .u8] ((encapsy_m ((keys_m d z).1) m).2)))] 3 (by kernel_rfl) ⟨rfl, trivial⟩ rfl hS fun ac gs ws hS => ?_
        refine then_n ?_
        refine wp_seq ?_
        refine region_a (E := E0) mo hZ [(2, .call ⟨15, (c_encapsy ((keys_m d m).1) m), [], [(0, 3)]⟩)] ⟨encapsy_ok ((keys_m d m).1) m (keys_chk d m) (by omega), trivial⟩ (fun C => [ndC C 2]) [1, 2, 6, 7, 8, 9, 10, 11, 12, 13, 14, 15, 16, 17, 18] [0, 1, 2, 3] [(1, .ls false [.int .u8] z), (2, .ls false [.int .u8] m), (6, .v (.bool false)), (7, .ls false [.int .u8] ((keys_m d z).1)), (8, .sk 0), (9, .v (.int .i64 0)), (10, .ls false [.int .u8] ((keys_m d m).1)), (11, .sk 1), (12, .v (.int .i64 0)), (13, .ls false [.int .u8] ((encapsy_m ((keys_m d z).1) m).1)), (14, .sk 2), (15, .v (.int .i64 0)), (16, .ls false [.int .u8] ((encapsy_m ((keys_m d m).1) m).1)), (17, .sk 3), (18, .v (.int .i64 0))] [(0, some (.sl 5 [.int .u8] ((keys_m d z).2))), (1, some (.sl 5 [.int .u8] ((keys_m d m).2))), (2, some (.sl 5 [.int .u8] ((encapsy_m ((keys_m d z).1) m).2))), (3, some (.sl 5 [.int .u8] ((encapsy_m ((keys_m d m).1) m).2)))] 4 (by kernel_rfl) ⟨rfl, trivial⟩ rfl hS fun ac gs ws hS => ?_
        refine then_n ?_
        refine wp_seq ?_
        refine wp_seq ?_
        have hlz := keys_len d z (by omega)
        have hlm := keys_len d m (by omega)
        have hf1 : ((((keys_m d z).2).length : Nat) : Int) = 2400 := (by omega)
        have hf2 : ((((keys_m d m).2).length : Nat) : Int) = 2400 := (by omega)
        refine region_a (E := E0) mo hZ [(17, .ob false), (22, .ob false)] trivial (fun _ => [(!decide (((((keys_m d z).2).length : Nat) : Int) = 2400)) = false, (!decide (((((keys_m d m).2).length : Nat) : Int) = 2400)) = false]) [1, 2, 6, 7, 8, 10, 11, 13, 14, 16, 17, 84] [0, 1, 2, 3] [(1, .ls false [.int .u8] z), (2, .ls false [.int .u8] m), (6, .v (.bool false)), (7, .ls false [.int .u8] ((keys_m d z).1)), (8, .sk 0), (10, .ls false [.int .u8] ((keys_m d m).1)), (11, .sk 1), (13, .ls false [.int .u8] ((encapsy_m ((keys_m d z).1) m).1)), (14, .sk 2), (16, .ls false [.int .u8] ((encapsy_m ((keys_m d m).1) m).1)), (17, .sk 3), (84, .v (.bool false))] [(0, some (.sl 5 [.int .u8] ((keys_m d z).2))), (1, some (.sl 5 [.int .u8] ((keys_m d m).2))), (2, some (.sl 5 [.int .u8] ((encapsy_m ((keys_m d z).1) m).2))), (3, some (.sl 5 [.int .u8] ((encapsy_m ((keys_m d m).1) m).2)))] 4 (by kernel_rfl) ⟨by rw [decide_eq_true hf1]; rfl, by rw [decide_eq_true hf2]; rfl, trivial⟩ rfl hS fun ac gs ws hS => ?_
        refine then_n ?_
        refine wp_cond_false (hS.fx.frm.eval rfl) ?_
        refine wp_skip ?_
        refine then_n ?_
        refine wp_seq ?_
        obtain ⟨gs, hS⟩ := hS.frz 0 false (by nofun) rfl (L' := [(1, .ls false [.int .u8] z), (2, .ls false [.int .u8] m), (6, .v (.bool false)), (7, .ls false [.int .u8] ((keys_m d z).1)), (8, .ls false [.int .u8] ((keys_m d z).2)), (10, .ls false [.int .u8] ((keys_m d m).1)), (11, .sk 1), (13, .ls false [.int .u8] ((encapsy_m ((keys_m d z).1) m).1)), (14, .sk 2), (16, .ls false [.int .u8] ((encapsy_m ((keys_m d m).1) m).1)), (17, .sk 3), (84, .v (.bool false))]) (H' := [(0, none), (0, some (.sl 5 [.int .u8] ((keys_m d z).2))), (1, some (.sl 5 [.int .u8] ((keys_m d m).2))), (2, some (.sl 5 [.int .u8] ((encapsy_m ((keys_m d z).1) m).2))), (3, some (.sl 5 [.int .u8] ((encapsy_m ((keys_m d m).1) m).2)))]) (by kernel_rfl) (by kernel_rfl)
        obtain ⟨gs, hS⟩ := hS.frz 1 false (by nofun) rfl (L' := [(1, .ls false [.int .u8] z), (2, .ls false [.int .u8] m), (6, .v (.bool false)), (7, .ls false [.int .u8] ((keys_m d z).1)), (8, .ls false [.int .u8] ((keys_m d z).2)), (10, .ls false [.int .u8] ((keys_m d m).1)), (11, .ls false [.int .u8] ((keys_m d m).2)), (13, .ls false [.int .u8] ((encapsy_m ((keys_m d z).1) m).1)), (14, .sk 2), (16, .ls false [.int .u8] ((encapsy_m ((keys_m d m).1) m).1)), (17, .sk 3), (84, .v (.bool false))]) (H' := [(1, none), (0, none), (0, some (.sl 5 [.int .u8] ((keys_m d z).2))), (1, some (.sl 5 [.int .u8] ((keys_m d m).2))), (2, some (.sl 5 [.int .u8] ((encapsy_m ((keys_m d z).1) m).2))), (3, some (.sl 5 [.int .u8] ((encapsy_m ((keys_m d m).1) m).2)))]) (by kernel_rfl) (by kernel_rfl)
        obtain ⟨gs, hS⟩ := hS.frz 2 false (by nofun) rfl (L' := [(1, .ls false [.int .u8] z), (2, .ls false [.int .u8] m), (6, .v (.bool false)), (7, .ls false [.int .u8] ((keys_m d z).1)), (8, .ls false [.int .u8] ((keys_m d z).2)), (10, .ls false [.int .u8] ((keys_m d m).1)), (11, .ls false [.int .u8] ((keys_m d m).2)), (13, .ls false [.int .u8] ((encapsy_m ((keys_m d z).1) m).1)), (14, .ls false [.int .u8] ((encapsy_m ((keys_m d z).1) m).2)), (16, .ls false [.int .u8] ((encapsy_m ((keys_m d m).1) m).1)), (17, .sk 3), (84, .v (.bool false))]) (H' := [(2, none), (1, none), (0, none), (0, some (.sl 5 [.int .u8] ((keys_m d z).2))), (1, some (.sl 5 [.int .u8] ((keys_m d m).2))), (2, some (.sl 5 [.int .u8] ((encapsy_m ((keys_m d z).1) m).2))), (3, some (.sl 5 [.int .u8] ((encapsy_m ((keys_m d m).1) m).2)))]) (by kernel_rfl) (by kernel_rfl)
        obtain ⟨gs, hS⟩ := hS.frz 3 false (by nofun) rfl (L' := [(1, .ls false [.int .u8] z), (2, .ls false [.int .u8] m), (6, .v (.bool false)), (7, .ls false [.int .u8] ((keys_m d z).1)), (8, .ls false [.int .u8] ((keys_m d z).2)), (10, .ls false [.int .u8] ((keys_m d m).1)), (11, .ls false [.int .u8] ((keys_m d m).2)), (13, .ls false [.int .u8] ((encapsy_m ((keys_m d z).1) m).1)), (14, .ls false [.int .u8] ((encapsy_m ((keys_m d z).1) m).2)), (16, .ls false [.int .u8] ((encapsy_m ((keys_m d m).1) m).1)), (17, .ls false [.int .u8] ((encapsy_m ((keys_m d m).1) m).2)), (84, .v (.bool false))]) (H' := [(3, none), (2, none), (1, none), (0, none), (0, some (.sl 5 [.int .u8] ((keys_m d z).2))), (1, some (.sl 5 [.int .u8] ((keys_m d m).2))), (2, some (.sl 5 [.int .u8] ((encapsy_m ((keys_m d z).1) m).2))), (3, some (.sl 5 [.int .u8] ((encapsy_m ((keys_m d m).1) m).2)))]) (by kernel_rfl) (by kernel_rfl)
        have hz := law_z d z m (by omega) (by omega)
        have he : ((keys_m d z).1) = ((keys_m d m).1) := keys_ek d z m
        have hs1 : ((mkStr ((keys_m d z).1)).toList == (mkStr ((keys_m d m).1)).toList) = true := by rw [he]; exact beq_self_eq_true _
        have hs2 : ((mkStr (((keys_m d z).2).take 2368)).toList == (mkStr (((keys_m d m).2).take 2368)).toList) = true := by rw [hz.1]; exact beq_self_eq_true _
        have hs3 : ((mkStr (((keys_m d z).2).drop 2368)).toList == (mkStr z).toList) = true := by rw [hz.2.1]; exact beq_self_eq_true _
        have hs4 : ((mkStr (((keys_m d m).2).drop 2368)).toList == (mkStr m).toList) = true := by rw [hz.2.2]; exact beq_self_eq_true _
        have hs5 : ((mkStr ((encapsy_m ((keys_m d z).1) m).1)).toList == (mkStr ((encapsy_m ((keys_m d m).1) m).1)).toList) = true := by rw [he]; exact beq_self_eq_true _
        have hs6 : ((mkStr ((encapsy_m ((keys_m d z).1) m).2)).toList == (mkStr ((encapsy_m ((keys_m d m).1) m).2)).toList) = true := by rw [he]; exact beq_self_eq_true _
        have hl14 : ((encapsy_m ((keys_m d z).1) m).2).length = 1088 := by rw [encapsy_e]; exact encrypt_len ..
        have hl15 : ((((encapsy_m ((keys_m d z).1) m).2).length : Nat) : Int) = 1088 := (by omega)
        refine region_a (E := E0) mo hZ [(4, .ob true), (12, .ob true), (20, .ob true), (28, .ob true), (35, .ob true), (42, .ob true), (47, .ob true), (50, .call ⟨7, (c_awake11), [], []⟩)] ⟨awake11_ok, trivial⟩ (fun C => [(((mkStr ((keys_m d z).1)).toList == (mkStr ((keys_m d m).1)).toList)) = true, bndP none (some 2368) none ((keys_m d z).2).length ((keys_m d z).2).length, bndP none (some 2368) none ((keys_m d m).2).length ((keys_m d m).2).length, (((mkStr (((keys_m d z).2).take 2368)).toList == (mkStr (((keys_m d m).2).take 2368)).toList)) = true, bndP (some 2368) none none ((keys_m d z).2).length ((keys_m d z).2).length, (((mkStr (((keys_m d z).2).drop 2368)).toList == (mkStr z).toList)) = true, bndP (some 2368) none none ((keys_m d m).2).length ((keys_m d m).2).length, (((mkStr (((keys_m d m).2).drop 2368)).toList == (mkStr m).toList)) = true, (((mkStr ((encapsy_m ((keys_m d z).1) m).1)).toList == (mkStr ((encapsy_m ((keys_m d m).1) m).1)).toList)) = true, (((mkStr ((encapsy_m ((keys_m d z).1) m).2)).toList == (mkStr ((encapsy_m ((keys_m d m).1) m).2)).toList)) = true, (decide (((((encapsy_m ((keys_m d z).1) m).2).length : Nat) : Int) = 1088)) = true, ndC C 50]) [6] [] [(6, .v (.bool true))] [] 4 (by kernel_rfl) ⟨hs1, ⟨by simp only [nnI] <;> omega, by simp only [nnI] <;> omega, by simp only [nnI] <;> omega, by simp, by simp only [bl] <;> omega, by simp only [bl] <;> omega, by simp only [bl] <;> omega⟩, ⟨by simp only [nnI] <;> omega, by simp only [nnI] <;> omega, by simp only [nnI] <;> omega, by simp, by simp only [bl] <;> omega, by simp only [bl] <;> omega, by simp only [bl] <;> omega⟩, hs2, ⟨by simp only [nnI] <;> omega, by simp only [nnI] <;> omega, by simp only [nnI] <;> omega, by simp, by simp only [bl] <;> omega, by simp only [bl] <;> omega, by simp only [bl] <;> omega⟩, hs3, ⟨by simp only [nnI] <;> omega, by simp only [nnI] <;> omega, by simp only [nnI] <;> omega, by simp, by simp only [bl] <;> omega, by simp only [bl] <;> omega, by simp only [bl] <;> omega⟩, hs4, hs5, hs6, decide_eq_true hl15, rfl, trivial⟩ rfl hS fun ac gs ws hS => ?_
        refine then_n ?_
        refine wp_ret ?_
        exact fin_x (.inr rfl) hS (ds := [.v (.bool true)]) (by kernel_rfl) rfl trivial
    · skip
      refine region_a (E := E0) mo hZ [(2, .ob false), (6, .ob true)] trivial (fun _ => [(!decide (((d.length : Nat) : Int) = 32)) = false, (!decide (((z.length : Nat) : Int) = 32)) = true]) [0, 1, 2, 6, 31] [] [(0, .ls false [.int .u8] d), (1, .ls false [.int .u8] z), (2, .ls false [.int .u8] m), (6, .v (.bool false)), (31, .v (.bool true))] [] 0 (by kernel_rfl) ⟨by rw [decide_eq_true h1]; rfl, by rw [decide_eq_false h2]; rfl, trivial⟩ rfl hS fun ac gs ws hS => ?_
      refine then_n ?_
      refine wp_cond_true (hS.fx.frm.eval rfl) ?_
      refine wp_seq ?_
      refine region_a (E := E0) mo hZ [(0, .call ⟨7, (c_awake11), [], []⟩)] ⟨awake11_ok, trivial⟩ (fun C => [ndC C 0]) [0, 1, 2, 6] [] [(0, .ls false [.int .u8] d), (1, .ls false [.int .u8] z), (2, .ls false [.int .u8] m), (6, .v (.bool true))] [] 0 (by kernel_rfl) ⟨rfl, trivial⟩ rfl hS fun ac gs ws hS => ?_
      refine then_n ?_
      refine wp_ret ?_
      refine then_ret ?_
      exact fin_x (.inr rfl) hS (ds := [.v (.bool true)]) (by kernel_rfl) rfl trivial
  · skip
    refine region_a (E := E0) mo hZ [(2, .ob true)] trivial (fun _ => [(!decide (((d.length : Nat) : Int) = 32)) = true]) [0, 1, 2, 6, 31] [] [(0, .ls false [.int .u8] d), (1, .ls false [.int .u8] z), (2, .ls false [.int .u8] m), (6, .v (.bool false)), (31, .v (.bool true))] [] 0 (by kernel_rfl) ⟨by rw [decide_eq_false h1]; rfl, trivial⟩ rfl hS fun ac gs ws hS => ?_
    refine then_n ?_
    refine wp_cond_true (hS.fx.frm.eval rfl) ?_
    refine wp_seq ?_
    refine region_a (E := E0) mo hZ [(0, .call ⟨7, (c_awake11), [], []⟩)] ⟨awake11_ok, trivial⟩ (fun C => [ndC C 0]) [0, 1, 2, 6] [] [(0, .ls false [.int .u8] d), (1, .ls false [.int .u8] z), (2, .ls false [.int .u8] m), (6, .v (.bool true))] [] 0 (by kernel_rfl) ⟨rfl, trivial⟩ rfl hS fun ac gs ws hS => ?_
    refine then_n ?_
    refine wp_ret ?_
    refine then_ret ?_
    exact fin_x (.inr rfl) hS (ds := [.v (.bool true)]) (by kernel_rfl) rfl trivial

end Go.Sx.Try
