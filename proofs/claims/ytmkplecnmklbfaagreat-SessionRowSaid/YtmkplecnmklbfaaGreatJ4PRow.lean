/- General lemmas, walks. -/
import Derived.Test.YtmkplecnmklbfaaGreatJ3PRow
set_option linter.unusedSimpArgs false
set_option linter.unusedVariables false
set_option linter.unnecessarySimpa false
set_option linter.unusedSectionVars false
namespace Go.Sx.Tryz
open Go.Mi Go.RowKit Go.Sx Go.Proofs
theorem hadd_len (h : Nat → Int) (r : List Int) (n : Int) (b : List Int) : (hadd_m h r n b).2.1.length ≤ r.length + b.length := by
 have key : ∀ k, (hadd_l1 h r n b k).1.length ≤ r.length + b.length := by
  intro k
  induction k with
  | zero => show [r, b].flatten.length ≤ _; simp
  | succ k ih => show ((hadd_l1 h r n b k).1.drop 64).length ≤ _; rw [List.length_drop]; omega
 rw [hadd_e]
 exact key _
noncomputable def newkey_l1_s (key : List Int) (x22 : Nat) : ((Nat → Int) × (Nat → Int)) → ((Nat → Int) × (Nat → Int)) := fun z_ => match z_ with | (o4_0, o5_0) => (upd o4_0 x22 (ixor .u8 (o4_0 x22) 54), upd o5_0 x22 (ixor .u8 (o4_0 x22) 92))
noncomputable def newkey_l1 (key : List Int) : Nat → (Nat → Int) × (Nat → Int)
 | 0 => (updW (fun _ => 0) 0 (min key.length 64) (fun j => key.getD j 0), fun _ => 0)
 | x22 + 1 => newkey_l1_s key x22 (newkey_l1 key x22)
noncomputable def newkey_v (key : List Int) : (Nat → Int) × (List Int) × Int × (Nat → Int) × (List Int) × Int := ((hadd_m (fun _ => 0) ([] : List Int) 0 ((List.range 64).map ((newkey_l1 key 64).1))).1, (hadd_m (fun _ => 0) ([] : List Int) 0 ((List.range 64).map ((newkey_l1 key 64).1))).2.1, ((hadd_m (fun _ => 0) ([] : List Int) 0 ((List.range 64).map ((newkey_l1 key 64).1))).2.2), (hadd_m (fun _ => 0) ([] : List Int) 0 ((List.range 64).map ((newkey_l1 key 64).2))).1, (hadd_m (fun _ => 0) ([] : List Int) 0 ((List.range 64).map ((newkey_l1 key 64).2))).2.1, ((hadd_m (fun _ => 0) ([] : List Int) 0 ((List.range 64).map ((newkey_l1 key 64).2))).2.2))
noncomputable def newkey_m (key : List Int) : (Nat → Int) × (List Int) × Int × (Nat → Int) × (List Int) × Int := shut (newkey_v key)
theorem newkey_e (key : List Int) : newkey_m key = newkey_v key := shut_eq _
theorem newkey_len (key : List Int) : (newkey_m key).2.1.length ≤ 64 ∧ (newkey_m key).2.2.2.2.1.length ≤ 64 := by
 rw [newkey_e]
 have h1 := hadd_len (fun _ => 0) [] 0 ((List.range 64).map ((newkey_l1 key 64).1))
 have h2 := hadd_len (fun _ => 0) [] 0 ((List.range 64).map ((newkey_l1 key 64).2))
 simp only [List.length_nil, List.length_map, List.length_range] at h1 h2
 rw [Nat.zero_add] at h1 h2
 exact ⟨h1, h2⟩
noncomputable def c_newkey (key : List Int) : Con := ⟨[.ls false [.int .u8] key], [], .im (chain [.im (chain [.ar .u32 8 ((newkey_m key).1), .ls false [.int .u8] ((newkey_m key).2.1), .v (.int .u64 ((newkey_m key).2.2.1))]) 0, .im (chain [.ar .u32 8 ((newkey_m key).2.2.2.1), .ls false [.int .u8] ((newkey_m key).2.2.2.2.1), .v (.int .u64 ((newkey_m key).2.2.2.2.2))]) 0]) 0, []⟩
set_option maxRecDepth 100000 in
set_option maxHeartbeats 1000000 in
theorem newkey_ok (key : List Int) (hk : key.length ≤ 64) : ConOk Tryz.prog 85 (c_newkey key) := by
 refine conOk_of rfl (nb := 0) Tryz.func85 rfl rfl Tryz.ntmps85 rfl rfl rfl fun g0 w0 ac gs ws hg0 hS => ?_
 have hlen0 : key.length ≤ 9223372036854775807 := hS.len 0 rfl
 have hS := hS.sp
 have hf : ¬ (64 : Int) < ((key.length : Nat) : Int) := (by omega)
 refine s0 [0, 2] [] 0 hS fun ac gs ws hS => ?_
 refine wp_seq (sA [(2, .ob false)] trivial (fun _ => [(decide ((64 : Int) < ((key.length : Nat) : Int))) = false]) [0, 2, 9] [] 0 ⟨decide_eq_false hf, trivial⟩ hS fun ac gs ws hS => ?_)
 refine cond_f hS ?_
 refine wp_skip (then_n (s0 [0, 2, 3] [0, 1, 2] 3 hS fun ac gs ws hS => ?_))
 refine s0 [0, 2, 3, 4, 5] [0, 1, 2, 3, 4] 5 hS fun ac gs ws hS => ?_
 refine sA [] trivial (fun _ => [bndP none none none 64 64, 64 ≤ 9223372036854775807, bl none 0 < bl none 64]) [2, 3, 4, 5] [0, 1, 2, 3, 4] 5 ⟨⟨by simp only [nnI] <;> omega, by simp only [nnI] <;> omega, by simp only [nnI] <;> omega, by simp, by simp only [bl] <;> omega, by simp only [bl] <;> omega, by simp only [bl] <;> omega⟩, by omega, by decide, trivial⟩ hS fun ac gs ws hS => ?_
 refine wp_seq (s0 [2, 3, 4, 5, 22] [0, 1, 2, 3, 4] 5 hS fun ac gs ws hS => ?_)
 refine wp_block (loop_y (ι := Nat × (Nat → Int) × (Nat → Int)) hg0 hS (fun z_ => match z_ with | (x22, o4_0, o5_0) => 64 - x22) (fun z_ => match z_ with | (x22, o4_0, o5_0) => [(2, .v (.pointer none)), (3, .cp 2 0), (4, .cp 3 0), (5, .cp 4 0), (22, .v (.int .i64 ((x22 : Nat) : Int)))]) (fun z_ => match z_ with | (x22, o4_0, o5_0) => [(0, .ob 179 (chain [.ar .u32 8 (fun _ => 0), .v (.slice none 0 0), .v (.int .u64 0)])), (1, .ob 179 (chain [.ar .u32 8 (fun _ => 0), .v (.slice none 0 0), .v (.int .u64 0)])), (2, .ob 181 (chain [.cp 0 0, .cp 1 0])), (3, .ob 182 (chain [.ar .u8 64 o4_0])), (4, .ob 182 (chain [.ar .u8 64 o5_0]))]) (fun z_ => match z_ with | (x22, o4_0, o5_0) => (x22 ≤ 64) ∧ ((o4_0, o5_0) = newkey_l1 key x22) ∧ True) 5 (0, updW (fun _ => 0) 0 (min key.length 64) (fun j => key.getD j 0), fun _ => 0) [(0, 0), (1, 1), (2, 2), (3, 3), (4, 4)] ⟨(by omega), rfl, trivial⟩ ?_)
 rintro ⟨x22, o4_0, o5_0⟩ ac gs ws ⟨hx22, hq1, _⟩ hS
 refine s0 [2, 3, 4, 5, 22, 23] [0, 1, 2, 3, 4] 5 hS fun ac gs ws hS => ?_
 refine wp_seq ?_
 refine if_d (((x22 : Nat) : Int) < 64) hS (fun h1 => ?_) (fun h1 => ?_)
 ·refine wp_skip (then_n (wp_seq (wp_block (s0 [2, 3, 4, 5, 6, 22] [0, 1, 2, 3, 4] 5 hS fun ac gs ws hS => ?_))))
  refine rA [] trivial (fun _ => [(0 : Int) ≤ ((x22 : Nat) : Int) ∧ (((x22 : Nat) : Int) : Int) < 64, (0 : Int) ≤ ((x22 : Nat) : Int) ∧ (((x22 : Nat) : Int) : Int) < 64, (0 : Int) ≤ ((x22 : Nat) : Int) ∧ (((x22 : Nat) : Int) : Int) < 64, (0 : Int) ≤ ((x22 : Nat) : Int) ∧ (((x22 : Nat) : Int) : Int) < 64]) [2, 3, 4, 5, 22] [0, 1, 2, 3, 4] 5 ⟨by omega, by omega, by omega, by omega, trivial⟩ hS fun ac gs ws hS => ?_
  refine block_n (then_n (rA [(0, .oi ((x22 + 1 : Nat) : Int))] trivial (fun _ => [iadd .i64 ((x22 : Nat) : Int) 1 = ((x22 + 1 : Nat) : Int)]) [2, 3, 4, 5, 22] [0, 1, 2, 3, 4] 5 ⟨by rw [iadd64 (by omega) (by omega)]; omega, trivial⟩ hS fun ac gs ws hS => ?_))
  refine then_n ?_
  exact next_y hg0 hS (s := (x22, o4_0, o5_0)) (x22 + 1, upd o4_0 x22 (ixor .u8 (o4_0 x22) 54), upd o5_0 x22 (ixor .u8 (o4_0 x22) 92)) [(0, 0), (1, 1), (2, 2), (3, 3), (4, 4)] (show 64 - (x22 + 1) < 64 - x22 from by omega) ⟨(by omega), (it_next (F := newkey_l1 key) (st := newkey_l1_s key) (fun _ => rfl) hq1 rfl), trivial⟩
 ·have hScur := hS
  obtain rfl : 64 = x22 := by omega
  obtain rfl : (newkey_l1 key 64).1 = o4_0 := Eq.symm (congrArg (fun z => z.1) hq1)
  obtain rfl : (newkey_l1 key 64).2 = o5_0 := Eq.symm (congrArg (fun z => z.2) hq1)
  have hS := hScur
  clear hScur
  refine wp_exit (then_exit (then_exit (block_exit (then_n (wp_seq ?_)))))
  have hS := hS.wko 0 [.top, .ls false [.int .u8] [], .top]
  refine rB [(4, .frz)] [(5, .call ⟨122, (c_hadd (fun _ => 0) [] 0 ((List.range 64).map ((newkey_l1 key 64).1))), [(0, 0)], []⟩)] ⟨hadd_ok (fun _ => 0) [] 0 ((List.range 64).map ((newkey_l1 key 64).1)) (by first | omega | (simp only [List.length_append, List.length_drop, List.length_take, List.length_replicate, List.length_cons, List.length_nil, List.length_map, List.length_range] <;> omega) | (simp <;> omega)) (by first | omega | (simp only [List.length_append, List.length_drop, List.length_take, List.length_replicate, List.length_cons, List.length_nil, List.length_map, List.length_range] <;> omega) | (simp <;> omega)), trivial⟩ (fun C => [ndC C 5]) [2, 3, 5] [0, 1, 2, 4] 5 ⟨rfl, trivial⟩ hS fun ac gs ws hS => ?_
  refine then_n (wp_seq ?_)
  have hS := hS.wko 1 [.top, .ls false [.int .u8] [], .top]
  refine rB [(4, .frz)] [(5, .call ⟨122, (c_hadd (fun _ => 0) [] 0 ((List.range 64).map ((newkey_l1 key 64).2))), [(0, 1)], []⟩)] ⟨hadd_ok (fun _ => 0) [] 0 ((List.range 64).map ((newkey_l1 key 64).2)) (by first | omega | (simp only [List.length_append, List.length_drop, List.length_take, List.length_replicate, List.length_cons, List.length_nil, List.length_map, List.length_range] <;> omega) | (simp <;> omega)) (by first | omega | (simp only [List.length_append, List.length_drop, List.length_take, List.length_replicate, List.length_cons, List.length_nil, List.length_map, List.length_range] <;> omega) | (simp <;> omega)), trivial⟩ (fun C => [ndC C 5]) [2, 3] [0, 1, 2] 5 ⟨rfl, trivial⟩ hS fun ac gs ws hS => ?_
  obtain ⟨gs, hS⟩ := hS.im 0
  obtain ⟨gs, hS⟩ := hS.im 1
  obtain ⟨gs, hS⟩ := hS.im 2
  refine then_n (s0 [2] [] 5 hS fun ac gs ws hS => ?_)
  refine wp_ret ?_
  have hM : newkey_m key = ((hadd_m (fun _ => 0) ([] : List Int) 0 ((List.range 64).map ((newkey_l1 key 64).1))).1, (hadd_m (fun _ => 0) ([] : List Int) 0 ((List.range 64).map ((newkey_l1 key 64).1))).2.1, ((hadd_m (fun _ => 0) ([] : List Int) 0 ((List.range 64).map ((newkey_l1 key 64).1))).2.2), (hadd_m (fun _ => 0) ([] : List Int) 0 ((List.range 64).map ((newkey_l1 key 64).2))).1, (hadd_m (fun _ => 0) ([] : List Int) 0 ((List.range 64).map ((newkey_l1 key 64).2))).2.1, ((hadd_m (fun _ => 0) ([] : List Int) 0 ((List.range 64).map ((newkey_l1 key 64).2))).2.2)) := newkey_e key
  exact fin_y rfl (.inr rfl) hS [.im (chain [.im (chain [.ar .u32 8 ((hadd_m (fun _ => 0) ([] : List Int) 0 ((List.range 64).map ((newkey_l1 key 64).1))).1), .ls false [.int .u8] ((hadd_m (fun _ => 0) ([] : List Int) 0 ((List.range 64).map ((newkey_l1 key 64).1))).2.1), .v (.int .u64 ((hadd_m (fun _ => 0) ([] : List Int) 0 ((List.range 64).map ((newkey_l1 key 64).1))).2.2))]) 0, .im (chain [.ar .u32 8 ((hadd_m (fun _ => 0) ([] : List Int) 0 ((List.range 64).map ((newkey_l1 key 64).2))).1), .ls false [.int .u8] ((hadd_m (fun _ => 0) ([] : List Int) 0 ((List.range 64).map ((newkey_l1 key 64).2))).2.1), .v (.int .u64 ((hadd_m (fun _ => 0) ([] : List Int) 0 ((List.range 64).map ((newkey_l1 key 64).2))).2.2))]) 0]) 0] [] (by show weak _ (.im (chain [.im (chain [.ar .u32 8 ((newkey_m key).1), .ls false [.int .u8] ((newkey_m key).2.1), .v (.int .u64 ((newkey_m key).2.2.1))]) 0, .im (chain [.ar .u32 8 ((newkey_m key).2.2.2.1), .ls false [.int .u8] ((newkey_m key).2.2.2.2.1), .v (.int .u64 ((newkey_m key).2.2.2.2.2))]) 0]) 0) = (.im (chain [.im (chain [.ar .u32 8 ((newkey_m key).1), .ls false [.int .u8] ((newkey_m key).2.1), .v (.int .u64 ((newkey_m key).2.2.1))]) 0, .im (chain [.ar .u32 8 ((newkey_m key).2.2.2.1), .ls false [.int .u8] ((newkey_m key).2.2.2.2.1), .v (.int .u64 ((newkey_m key).2.2.2.2.2))]) 0]) 0); rw [hM]; first | (simp only []; rfl) | (simp only []; done) | rfl) trivial

noncomputable def kmac_l1_s (u1 : Nat → Int) (r1 : List Int) (n1 : Int) (u2 : Nat → Int) (r2 : List Int) (n2 : Int) (l : List (List Int)) (x30 : Nat) : ((Nat → Int) × (List Int) × Int) → ((Nat → Int) × (List Int) × Int) := fun z_ => match z_ with | (o5_0, o5_1, o5_2) => ((hadd_m o5_0 o5_1 o5_2 (l.getD x30 (rz [.sl (.int .u8)]))).1, (hadd_m o5_0 o5_1 o5_2 (l.getD x30 (rz [.sl (.int .u8)]))).2.1, ((hadd_m o5_0 o5_1 o5_2 (l.getD x30 (rz [.sl (.int .u8)]))).2.2))
noncomputable def kmac_l1 (u1 : Nat → Int) (r1 : List Int) (n1 : Int) (u2 : Nat → Int) (r2 : List Int) (n2 : Int) (l : List (List Int)) : Nat → (Nat → Int) × (List Int) × Int
 | 0 => (u1, r1, n1)
 | x30 + 1 => kmac_l1_s u1 r1 n1 u2 r2 n2 l x30 (kmac_l1 u1 r1 n1 u2 r2 n2 l x30)
noncomputable def kmac_v (u1 : Nat → Int) (r1 : List Int) (n1 : Int) (u2 : Nat → Int) (r2 : List Int) (n2 : Int) (l : List (List Int)) : (List Int) := hsum_m ((hadd_m u2 r2 n2 (hsum_m ((kmac_l1 u1 r1 n1 u2 r2 n2 l l.length).1) ((kmac_l1 u1 r1 n1 u2 r2 n2 l l.length).2.1) ((kmac_l1 u1 r1 n1 u2 r2 n2 l l.length).2.2))).1) ((hadd_m u2 r2 n2 (hsum_m ((kmac_l1 u1 r1 n1 u2 r2 n2 l l.length).1) ((kmac_l1 u1 r1 n1 u2 r2 n2 l l.length).2.1) ((kmac_l1 u1 r1 n1 u2 r2 n2 l l.length).2.2))).2.1) ((hadd_m u2 r2 n2 (hsum_m ((kmac_l1 u1 r1 n1 u2 r2 n2 l l.length).1) ((kmac_l1 u1 r1 n1 u2 r2 n2 l l.length).2.1) ((kmac_l1 u1 r1 n1 u2 r2 n2 l l.length).2.2))).2.2)
noncomputable def kmac_m (u1 : Nat → Int) (r1 : List Int) (n1 : Int) (u2 : Nat → Int) (r2 : List Int) (n2 : Int) (l : List (List Int)) : (List Int) := shut (kmac_v u1 r1 n1 u2 r2 n2 l)
theorem kmac_e (u1 : Nat → Int) (r1 : List Int) (n1 : Int) (u2 : Nat → Int) (r2 : List Int) (n2 : Int) (l : List (List Int)) : kmac_m u1 r1 n1 u2 r2 n2 l = kmac_v u1 r1 n1 u2 r2 n2 l := shut_eq _
noncomputable def c_kmac (u1 : Nat → Int) (r1 : List Int) (n1 : Int) (u2 : Nat → Int) (r2 : List Int) (n2 : Int) (l : List (List Int)) : Con := ⟨[.im (chain [.im (chain [.ar .u32 8 u1, .ls false [.int .u8] r1, .v (.int .u64 n1)]) 0, .im (chain [.ar .u32 8 u2, .ls false [.int .u8] r2, .v (.int .u64 n2)]) 0]) 0, .ls false [.sl (.int .u8)] l], [], .sk 0, [(0, .sl 5 [.int .u8] (kmac_m u1 r1 n1 u2 r2 n2 l))]⟩
set_option maxRecDepth 100000 in
set_option maxHeartbeats 1000000 in
theorem kmac_ok (u1 : Nat → Int) (r1 : List Int) (n1 : Int) (u2 : Nat → Int) (r2 : List Int) (n2 : Int) (l : List (List Int)) (hr1 : r1.length ≤ 64) (hr2 : r2.length ≤ 64) (hl : l.flatten.length ≤ 50000000000) : ConOk Tryz.prog 86 (c_kmac u1 r1 n1 u2 r2 n2 l) := by
 refine conOk_of rfl (nb := 0) Tryz.func86 rfl rfl Tryz.ntmps86 rfl rfl rfl fun g0 w0 ac gs ws hg0 hS => ?_
 have hlen1 : l.length ≤ 9223372036854775807 := hS.len 1 rfl
 have hS := hS.sp
 refine s0 [0, 1, 4] [] 0 hS fun ac gs ws hS => ?_
 refine wp_seq (s0 [0, 1, 4, 10] [] 0 hS fun ac gs ws hS => ?_)
 refine cond_f hS ?_
 refine wp_skip (then_n (wp_seq (s0 [0, 1, 4, 15] [] 0 hS fun ac gs ws hS => ?_)))
 refine cond_f hS ?_
 refine wp_skip (then_n (sA [(4, .call ⟨124, (c_hcopy u1 r1 n1), [], [(0, 0)]⟩), (9, .call ⟨124, (c_hcopy u2 r2 n2), [], [(0, 1)]⟩)] ⟨hcopy_ok u1 r1 n1 (by first | omega | (simp only [List.length_append, List.length_drop, List.length_take, List.length_replicate, List.length_cons, List.length_nil, List.length_map, List.length_range] <;> omega) | (simp <;> omega)), hcopy_ok u2 r2 n2 (by first | omega | (simp only [List.length_append, List.length_drop, List.length_take, List.length_replicate, List.length_cons, List.length_nil, List.length_map, List.length_range] <;> omega) | (simp <;> omega)), trivial⟩ (fun C => [ndC C 4, ndC C 9]) [1, 4, 5, 6] [0, 1] 2 ⟨rfl, rfl, trivial⟩ hS fun ac gs ws hS => ?_))
 refine wp_seq (s0 [4, 5, 6, 28, 29, 30] [0, 1] 2 hS fun ac gs ws hS => ?_)
 refine wp_block (loop_y (ι := Nat × (Nat → Int) × (List Int) × Int) hg0 hS (fun z_ => match z_ with | (x30, o5_0, o5_1, o5_2) => l.length - x30) (fun z_ => match z_ with | (x30, o5_0, o5_1, o5_2) => [(4, .v (.slice none 0 0)), (5, .cp 0 0), (6, .cp 1 0), (28, .ls false [.sl (.int .u8)] l), (29, .v (.int .i64 ((l.length : Nat) : Int))), (30, .v (.int .i64 ((x30 : Nat) : Int)))]) (fun z_ => match z_ with | (x30, o5_0, o5_1, o5_2) => [(0, .ob 179 (chain [.ar .u32 8 o5_0, .ls false [.int .u8] o5_1, .v (.int .u64 o5_2)])), (1, .ob 179 (chain [.ar .u32 8 u2, .ls false [.int .u8] r2, .v (.int .u64 n2)]))]) (fun z_ => match z_ with | (x30, o5_0, o5_1, o5_2) => (x30 ≤ l.length) ∧ ((o5_0, o5_1, o5_2) = kmac_l1 u1 r1 n1 u2 r2 n2 l x30) ∧ (o5_1.length ≤ r1.length + (l.take x30).flatten.length) ∧ True) 2 (0, u1, r1, n1) [(0, 0), (1, 1)] ⟨(by omega), rfl, (by simp), trivial⟩ ?_)
 rintro ⟨x30, o5_0, o5_1, o5_2⟩ ac gs ws ⟨hx30, hq1, p1, _⟩ hS
 refine s0 [4, 5, 6, 28, 29, 30, 31] [0, 1] 2 hS fun ac gs ws hS => ?_
 refine wp_seq ?_
 refine if_d (((x30 : Nat) : Int) < ((l.length : Nat) : Int)) hS (fun h1 => ?_) (fun h1 => ?_)
 ·refine wp_skip (then_n (wp_seq (wp_block (sA [] trivial (fun _ => [(0 : Int) ≤ ((x30 : Nat) : Int) ∧ ((x30 : Nat) : Int) < ((l.length : Nat) : Int)]) [4, 5, 6, 8, 28, 29, 30] [0, 1] 2 ⟨by omega, trivial⟩ hS fun ac gs ws hS => ?_))))
  have hb := cat_le (l := l) (j := x30) (by omega) hl
  refine rA [(2, .call ⟨122, (c_hadd o5_0 o5_1 o5_2 (l.getD x30 (rz [.sl (.int .u8)]))), [(0, 0)], []⟩)] ⟨hadd_ok o5_0 o5_1 o5_2 (l.getD x30 (rz [.sl (.int .u8)])) (by first | omega | (simp only [List.length_append, List.length_drop, List.length_take, List.length_replicate, List.length_cons, List.length_nil, List.length_map, List.length_range] <;> omega) | (simp <;> omega)) (by first | omega | (simp only [List.length_append, List.length_drop, List.length_take, List.length_replicate, List.length_cons, List.length_nil, List.length_map, List.length_range] <;> omega) | (simp <;> omega)), trivial⟩ (fun C => [ndC C 2]) [4, 5, 6, 28, 29, 30] [0, 1] 2 ⟨rfl, trivial⟩ hS fun ac gs ws hS => ?_
  refine block_n (then_n (rA [(0, .oi ((x30 + 1 : Nat) : Int))] trivial (fun _ => [iadd .i64 ((x30 : Nat) : Int) 1 = ((x30 + 1 : Nat) : Int)]) [4, 5, 6, 28, 29, 30] [0, 1] 2 ⟨by rw [iadd64 (by omega) (by omega)]; omega, trivial⟩ hS fun ac gs ws hS => ?_))
  refine then_n ?_
  exact next_y hg0 hS (s := (x30, o5_0, o5_1, o5_2)) (x30 + 1, (hadd_m o5_0 o5_1 o5_2 (l.getD x30 (rz [.sl (.int .u8)]))).1, (hadd_m o5_0 o5_1 o5_2 (l.getD x30 (rz [.sl (.int .u8)]))).2.1, ((hadd_m o5_0 o5_1 o5_2 (l.getD x30 (rz [.sl (.int .u8)]))).2.2)) [(0, 0), (1, 1)] (show l.length - (x30 + 1) < l.length - x30 from by omega) ⟨(by omega), (it_next (F := kmac_l1 u1 r1 n1 u2 r2 n2 l) (st := kmac_l1_s u1 r1 n1 u2 r2 n2 l) (fun _ => rfl) hq1 rfl), (by have hc := cat_len l x30 (by omega); have ha := hadd_len o5_0 o5_1 o5_2 (l.getD x30 (rz [.sl (.int .u8)])); omega), trivial⟩
 ·have hScur := hS
  obtain rfl : l.length = x30 := by omega
  obtain rfl : (kmac_l1 u1 r1 n1 u2 r2 n2 l l.length).1 = o5_0 := Eq.symm (congrArg (fun z => z.1) hq1)
  obtain rfl : (kmac_l1 u1 r1 n1 u2 r2 n2 l l.length).2.1 = o5_1 := Eq.symm (congrArg (fun z => z.2.1) hq1)
  obtain rfl : (kmac_l1 u1 r1 n1 u2 r2 n2 l l.length).2.2 = o5_2 := Eq.symm (congrArg (fun z => z.2.2) hq1)
  have hS := hScur
  clear hScur
  refine wp_exit (then_exit (then_exit (block_exit (then_n (wp_seq ?_)))))
  rw [List.take_length] at p1
  refine rA [(2, .call ⟨125, (c_hsumf ((kmac_l1 u1 r1 n1 u2 r2 n2 l l.length).1) ((kmac_l1 u1 r1 n1 u2 r2 n2 l l.length).2.1) ((kmac_l1 u1 r1 n1 u2 r2 n2 l l.length).2.2)), [(0, 0)], []⟩), (3, .call ⟨122, (c_hadd u2 r2 n2 (hsum_m ((kmac_l1 u1 r1 n1 u2 r2 n2 l l.length).1) ((kmac_l1 u1 r1 n1 u2 r2 n2 l l.length).2.1) ((kmac_l1 u1 r1 n1 u2 r2 n2 l l.length).2.2))), [(0, 1)], []⟩)] ⟨hsumf_ok ((kmac_l1 u1 r1 n1 u2 r2 n2 l l.length).1) ((kmac_l1 u1 r1 n1 u2 r2 n2 l l.length).2.1) ((kmac_l1 u1 r1 n1 u2 r2 n2 l l.length).2.2) (by first | omega | (simp only [List.length_append, List.length_drop, List.length_take, List.length_replicate, List.length_cons, List.length_nil, List.length_map, List.length_range] <;> omega) | (simp <;> omega)), hadd_ok u2 r2 n2 (hsum_m ((kmac_l1 u1 r1 n1 u2 r2 n2 l l.length).1) ((kmac_l1 u1 r1 n1 u2 r2 n2 l l.length).2.1) ((kmac_l1 u1 r1 n1 u2 r2 n2 l l.length).2.2)) (by first | omega | (simp only [List.length_append, List.length_drop, List.length_take, List.length_replicate, List.length_cons, List.length_nil, List.length_map, List.length_range] <;> omega) | (simp <;> omega)) (by first | omega | (simp only [List.length_append, List.length_drop, List.length_take, List.length_replicate, List.length_cons, List.length_nil, List.length_map, List.length_range] <;> omega) | (simp <;> omega)), trivial⟩ (fun C => [ndC C 2, ndC C 3]) [4, 6] [1] 2 ⟨rfl, rfl, trivial⟩ hS fun ac gs ws hS => ?_
  refine then_n (wp_seq ?_)
  have hx := hadd_len u2 r2 n2 (hsum_m ((kmac_l1 u1 r1 n1 u2 r2 n2 l l.length).1) ((kmac_l1 u1 r1 n1 u2 r2 n2 l l.length).2.1) ((kmac_l1 u1 r1 n1 u2 r2 n2 l l.length).2.2))
  rw [hsum_len] at hx
  refine rA [(1, .call ⟨125, (c_hsum ((hadd_m u2 r2 n2 (hsum_m ((kmac_l1 u1 r1 n1 u2 r2 n2 l l.length).1) ((kmac_l1 u1 r1 n1 u2 r2 n2 l l.length).2.1) ((kmac_l1 u1 r1 n1 u2 r2 n2 l l.length).2.2))).1) ((hadd_m u2 r2 n2 (hsum_m ((kmac_l1 u1 r1 n1 u2 r2 n2 l l.length).1) ((kmac_l1 u1 r1 n1 u2 r2 n2 l l.length).2.1) ((kmac_l1 u1 r1 n1 u2 r2 n2 l l.length).2.2))).2.1) ((hadd_m u2 r2 n2 (hsum_m ((kmac_l1 u1 r1 n1 u2 r2 n2 l l.length).1) ((kmac_l1 u1 r1 n1 u2 r2 n2 l l.length).2.1) ((kmac_l1 u1 r1 n1 u2 r2 n2 l l.length).2.2))).2.2)), [(0, 1)], [(1, 2)]⟩)] ⟨hsum_ok ((hadd_m u2 r2 n2 (hsum_m ((kmac_l1 u1 r1 n1 u2 r2 n2 l l.length).1) ((kmac_l1 u1 r1 n1 u2 r2 n2 l l.length).2.1) ((kmac_l1 u1 r1 n1 u2 r2 n2 l l.length).2.2))).1) ((hadd_m u2 r2 n2 (hsum_m ((kmac_l1 u1 r1 n1 u2 r2 n2 l l.length).1) ((kmac_l1 u1 r1 n1 u2 r2 n2 l l.length).2.1) ((kmac_l1 u1 r1 n1 u2 r2 n2 l l.length).2.2))).2.1) ((hadd_m u2 r2 n2 (hsum_m ((kmac_l1 u1 r1 n1 u2 r2 n2 l l.length).1) ((kmac_l1 u1 r1 n1 u2 r2 n2 l l.length).2.1) ((kmac_l1 u1 r1 n1 u2 r2 n2 l l.length).2.2))).2.2) (by first | omega | (simp only [List.length_append, List.length_drop, List.length_take, List.length_replicate, List.length_cons, List.length_nil, List.length_map, List.length_range] <;> omega) | (simp <;> omega)), trivial⟩ (fun C => [ndC C 1]) [4] [2] 3 ⟨rfl, trivial⟩ hS fun ac gs ws hS => ?_
  refine then_n (wp_ret ?_)
  have hM : kmac_m u1 r1 n1 u2 r2 n2 l = hsum_m ((hadd_m u2 r2 n2 (hsum_m ((kmac_l1 u1 r1 n1 u2 r2 n2 l l.length).1) ((kmac_l1 u1 r1 n1 u2 r2 n2 l l.length).2.1) ((kmac_l1 u1 r1 n1 u2 r2 n2 l l.length).2.2))).1) ((hadd_m u2 r2 n2 (hsum_m ((kmac_l1 u1 r1 n1 u2 r2 n2 l l.length).1) ((kmac_l1 u1 r1 n1 u2 r2 n2 l l.length).2.1) ((kmac_l1 u1 r1 n1 u2 r2 n2 l l.length).2.2))).2.1) ((hadd_m u2 r2 n2 (hsum_m ((kmac_l1 u1 r1 n1 u2 r2 n2 l l.length).1) ((kmac_l1 u1 r1 n1 u2 r2 n2 l l.length).2.1) ((kmac_l1 u1 r1 n1 u2 r2 n2 l l.length).2.2))).2.2) := kmac_e u1 r1 n1 u2 r2 n2 l
  obtain ⟨gs, hS⟩ := hS.rn [(0, 2)] [(4, .sk 0)] [(0, .sl 5 [.int .u8] (hsum_m ((hadd_m u2 r2 n2 (hsum_m ((kmac_l1 u1 r1 n1 u2 r2 n2 l l.length).1) ((kmac_l1 u1 r1 n1 u2 r2 n2 l l.length).2.1) ((kmac_l1 u1 r1 n1 u2 r2 n2 l l.length).2.2))).1) ((hadd_m u2 r2 n2 (hsum_m ((kmac_l1 u1 r1 n1 u2 r2 n2 l l.length).1) ((kmac_l1 u1 r1 n1 u2 r2 n2 l l.length).2.1) ((kmac_l1 u1 r1 n1 u2 r2 n2 l l.length).2.2))).2.1) ((hadd_m u2 r2 n2 (hsum_m ((kmac_l1 u1 r1 n1 u2 r2 n2 l l.length).1) ((kmac_l1 u1 r1 n1 u2 r2 n2 l l.length).2.1) ((kmac_l1 u1 r1 n1 u2 r2 n2 l l.length).2.2))).2.2)))] 1 hg0
  exact fin_y rfl (.inr rfl) hS [.sk 0] [(0, some (.sl 5 [.int .u8] (hsum_m ((hadd_m u2 r2 n2 (hsum_m ((kmac_l1 u1 r1 n1 u2 r2 n2 l l.length).1) ((kmac_l1 u1 r1 n1 u2 r2 n2 l l.length).2.1) ((kmac_l1 u1 r1 n1 u2 r2 n2 l l.length).2.2))).1) ((hadd_m u2 r2 n2 (hsum_m ((kmac_l1 u1 r1 n1 u2 r2 n2 l l.length).1) ((kmac_l1 u1 r1 n1 u2 r2 n2 l l.length).2.1) ((kmac_l1 u1 r1 n1 u2 r2 n2 l l.length).2.2))).2.1) ((hadd_m u2 r2 n2 (hsum_m ((kmac_l1 u1 r1 n1 u2 r2 n2 l l.length).1) ((kmac_l1 u1 r1 n1 u2 r2 n2 l l.length).2.1) ((kmac_l1 u1 r1 n1 u2 r2 n2 l l.length).2.2))).2.2))))] rfl (by show H1Ok _ [(0, .sl 5 [.int .u8] (kmac_m u1 r1 n1 u2 r2 n2 l))] true; rw [hM]; first | (simp only []; exact ⟨rfl, trivial⟩) | exact ⟨rfl, trivial⟩)

noncomputable def c_kmacf (u1 : Nat → Int) (r1 : List Int) (n1 : Int) (u2 : Nat → Int) (r2 : List Int) (n2 : Int) (l : List (List Int)) : Con := ⟨[.im (chain [.im (chain [.ar .u32 8 u1, .ls false [.int .u8] r1, .v (.int .u64 n1)]) 0, .im (chain [.ar .u32 8 u2, .ls false [.int .u8] r2, .v (.int .u64 n2)]) 0]) 0, .ls false [.sl (.int .u8)] l], [], .ls false [.int .u8] (kmac_m u1 r1 n1 u2 r2 n2 l), []⟩
theorem kmacf_ok (u1 : Nat → Int) (r1 : List Int) (n1 : Int) (u2 : Nat → Int) (r2 : List Int) (n2 : Int) (l : List (List Int)) (hr1 : r1.length ≤ 64) (hr2 : r2.length ≤ 64) (hl : l.flatten.length ≤ 50000000000) : ConOk Tryz.prog 86 (c_kmacf u1 r1 n1 u2 r2 n2 l) := ConOk.frz [] 0 5 [.int .u8] (kmac_m u1 r1 n1 u2 r2 n2 l) (kmac_ok u1 r1 n1 u2 r2 n2 l hr1 hr2 hl) (by kernel_rfl)
@[simp] theorem kmac_len (u1 : Nat → Int) (r1 : List Int) (n1 : Int) (u2 : Nat → Int) (r2 : List Int) (n2 : Int) (l : List (List Int)) : (kmac_m u1 r1 n1 u2 r2 n2 l).length = 32 := by rw [kmac_e]; exact hsum_len ..
noncomputable def mac_v (key : List Int) (l : List (List Int)) : (List Int) := kmac_m ((newkey_m key).1) ((newkey_m key).2.1) ((newkey_m key).2.2.1) ((newkey_m key).2.2.2.1) ((newkey_m key).2.2.2.2.1) ((newkey_m key).2.2.2.2.2) l
noncomputable def mac_m (key : List Int) (l : List (List Int)) : (List Int) := shut (mac_v key l)
theorem mac_e (key : List Int) (l : List (List Int)) : mac_m key l = mac_v key l := shut_eq _
@[simp] theorem mac_len (key : List Int) (l : List (List Int)) : (mac_m key l).length = 32 := by rw [mac_e]; exact kmac_len ..
noncomputable def c_mac (key : List Int) (l : List (List Int)) : Con := ⟨[.ls false [.int .u8] key, .ls false [.sl (.int .u8)] l], [], .ls false [.int .u8] (mac_m key l), []⟩
set_option maxRecDepth 100000 in
set_option maxHeartbeats 1000000 in
theorem mac_ok (key : List Int) (l : List (List Int)) (hk : key.length ≤ 64) (hl : l.flatten.length ≤ 50000000000) : ConOk Tryz.prog 123 (c_mac key l) := by
 refine conOk_of rfl (nb := 0) Tryz.func123 rfl rfl Tryz.ntmps123 rfl rfl rfl fun g0 w0 ac gs ws hg0 hS => ?_
 have hlen0 : key.length ≤ 9223372036854775807 := hS.len 0 rfl
 have hlen1 : l.length ≤ 9223372036854775807 := hS.len 1 rfl
 have hS := hS.sp
 refine s0 [0, 1, 4] [] 0 hS fun ac gs ws hS => ?_
 refine sA [(1, .call ⟨85, (c_newkey key), [], []⟩), (3, .call ⟨86, (c_kmacf ((newkey_m key).1) ((newkey_m key).2.1) ((newkey_m key).2.2.1) ((newkey_m key).2.2.2.1) ((newkey_m key).2.2.2.2.1) ((newkey_m key).2.2.2.2.2) l), [], []⟩)] ⟨newkey_ok key (by first | omega | (simp only [List.length_append, List.length_drop, List.length_take, List.length_replicate, List.length_cons, List.length_nil, List.length_map, List.length_range] <;> omega) | (simp <;> omega)), kmacf_ok ((newkey_m key).1) ((newkey_m key).2.1) ((newkey_m key).2.2.1) ((newkey_m key).2.2.2.1) ((newkey_m key).2.2.2.2.1) ((newkey_m key).2.2.2.2.2) l (newkey_len _).1 (newkey_len _).2 (by first | assumption | omega | (simp only [List.flatten_cons, List.flatten_nil, List.length_append, List.length_cons, List.length_nil] <;> omega) | (simp <;> omega)), trivial⟩ (fun C => [ndC C 1, ndC C 3]) [4] [] 0 ⟨rfl, rfl, trivial⟩ hS fun ac gs ws hS => ?_
 refine wp_ret ?_
 have hM : mac_m key l = kmac_m ((newkey_m key).1) ((newkey_m key).2.1) ((newkey_m key).2.2.1) ((newkey_m key).2.2.2.1) ((newkey_m key).2.2.2.2.1) ((newkey_m key).2.2.2.2.2) l := mac_e key l
 exact fin_y rfl (.inr rfl) hS [.ls false [.int .u8] (kmac_m ((newkey_m key).1) ((newkey_m key).2.1) ((newkey_m key).2.2.1) ((newkey_m key).2.2.2.1) ((newkey_m key).2.2.2.2.1) ((newkey_m key).2.2.2.2.2) l)] [] (by show weak _ (.ls false [.int .u8] (mac_m key l)) = (.ls false [.int .u8] (mac_m key l)); rw [hM]; first | (simp only []; rfl) | (simp only []; done) | rfl) trivial

noncomputable def mac0_v (l : List (List Int)) : (List Int) := kmac_m ((newkey_m ([] : List Int)).1) ((newkey_m ([] : List Int)).2.1) ((newkey_m ([] : List Int)).2.2.1) ((newkey_m ([] : List Int)).2.2.2.1) ((newkey_m ([] : List Int)).2.2.2.2.1) ((newkey_m ([] : List Int)).2.2.2.2.2) l
noncomputable def mac0_m (l : List (List Int)) : (List Int) := shut (mac0_v l)
theorem mac0_e (l : List (List Int)) : mac0_m l = mac0_v l := shut_eq _
@[simp] theorem mac0_len (l : List (List Int)) : (mac0_m l).length = 32 := by rw [mac0_e]; exact kmac_len ..
end Go.Sx.Tryz
namespace Go.Sx.Tryz
open Go.Mi Go.RowKit Go.Sx Go.Proofs
noncomputable def extract_v (key ikm : List Int) : (List Int) := mac_m key [ikm]
noncomputable def extract_m (key ikm : List Int) : (List Int) := shut (extract_v key ikm)
theorem extract_e (key ikm : List Int) : extract_m key ikm = extract_v key ikm := shut_eq _
@[simp] theorem extract_len (key : List Int) (ikm : List Int) : (extract_m key ikm).length = 32 := by rw [extract_e]; exact mac_len ..
noncomputable def c_extract (key ikm : List Int) : Con := ⟨[.ls false [.int .u8] key, .ls false [.int .u8] ikm], [], .ls false [.int .u8] (extract_m key ikm), []⟩
set_option maxRecDepth 100000 in
set_option maxHeartbeats 1000000 in
theorem extract_ok (key ikm : List Int) (hk : key.length ≤ 64) (hi : ikm.length ≤ 1000000000) : ConOk Tryz.prog 113 (c_extract key ikm) := by
 refine conOk_of rfl (nb := 0) Tryz.func113 rfl rfl Tryz.ntmps113 rfl rfl rfl fun g0 w0 ac gs ws hg0 hS => ?_
 have hlen0 : key.length ≤ 9223372036854775807 := hS.len 0 rfl
 have hlen1 : ikm.length ≤ 9223372036854775807 := hS.len 1 rfl
 have hS := hS.sp
 refine s0 [0, 1, 4] [] 0 hS fun ac gs ws hS => ?_
 refine sA [(3, .call ⟨123, (c_mac key [ikm]), [], []⟩)] ⟨mac_ok key [ikm] (by first | omega | (simp only [List.length_append, List.length_drop, List.length_take, List.length_replicate, List.length_cons, List.length_nil, List.length_map, List.length_range] <;> omega) | (simp <;> omega)) (by first | assumption | omega | (simp only [List.flatten_cons, List.flatten_nil, List.length_append, List.length_cons, List.length_nil] <;> omega) | (simp <;> omega)), trivial⟩ (fun C => [ndC C 3]) [4] [] 0 ⟨rfl, trivial⟩ hS fun ac gs ws hS => ?_
 refine wp_ret ?_
 have hM : extract_m key ikm = mac_m key [ikm] := extract_e key ikm
 exact fin_y rfl (.inr rfl) hS [.ls false [.int .u8] (mac_m key [ikm])] [] (by show weak _ (.ls false [.int .u8] (extract_m key ikm)) = (.ls false [.int .u8] (extract_m key ikm)); rw [hM]; first | (simp only []; rfl) | (simp only []; done) | rfl) trivial

noncomputable def extract0_v (ikm : List Int) : (List Int) := mac_m ([] : List Int) [ikm]
noncomputable def extract0_m (ikm : List Int) : (List Int) := shut (extract0_v ikm)
theorem extract0_e (ikm : List Int) : extract0_m ikm = extract0_v ikm := shut_eq _
@[simp] theorem extract0_len (ikm : List Int) : (extract0_m ikm).length = 32 := by rw [extract0_e]; exact mac0_len ..
noncomputable def expand32_l1_s (key info : List Int) (k1 : Nat) : (Int × (List Int) × (List Int)) → (Int × (List Int) × (List Int)) := fun z_ => match z_ with | (x10, x8, x9) => ((iadd .u8 x10 1), x8 ++ (kmac_m ((newkey_m key).1) ((newkey_m key).2.1) ((newkey_m key).2.2.1) ((newkey_m key).2.2.2.1) ((newkey_m key).2.2.2.2.1) ((newkey_m key).2.2.2.2.2) [x9, info, [x10]]), kmac_m ((newkey_m key).1) ((newkey_m key).2.1) ((newkey_m key).2.2.1) ((newkey_m key).2.2.2.1) ((newkey_m key).2.2.2.2.1) ((newkey_m key).2.2.2.2.2) [x9, info, [x10]])
noncomputable def expand32_l1 (key info : List Int) : Nat → Int × (List Int) × (List Int)
 | 0 => (1, [], [])
 | k1 + 1 => expand32_l1_s key info k1 (expand32_l1 key info k1)
def expand32_l1_c (key info : List Int) : (Int × (List Int) × (List Int)) → Prop := fun z_ => match z_ with | (x10, x8, x9) => ((x8.length : Nat) : Int) < 32
noncomputable def expand32_v (key info : List Int) : (List Int) := [] ++ (((expand32_l1 key info (lst fun j => expand32_l1_c key info (expand32_l1 key info j))).2.1).take 32)
noncomputable def expand32_m (key info : List Int) : (List Int) := shut (expand32_v key info)
theorem expand32_e (key info : List Int) : expand32_m key info = expand32_v key info := shut_eq _
theorem expand32_k (key info : List Int) : ∀ k, (expand32_l1 key info k).2.1.length = 32 * k
 | 0 => rfl
 | k + 1 => by
  show ((expand32_l1 key info k).2.1 ++ kmac_m _ _ _ _ _ _ _).length = _
  rw [List.length_append, kmac_len, expand32_k key info k]; omega
@[simp] theorem expand32_len (key info : List Int) : (expand32_m key info).length = 32 := by
 have h : (lst fun j => expand32_l1_c key info (expand32_l1 key info j)) = 1 := by
  refine (lst_eq ?_ ?_).symm
  ·show ¬ (((expand32_l1 key info 1).2.1.length : Nat) : Int) < 32
   rw [expand32_k]; omega
  ·intro j hj
   show (((expand32_l1 key info j).2.1.length : Nat) : Int) < 32
   rw [expand32_k]; omega
 rw [expand32_e]
 unfold expand32_v
 rw [h, List.nil_append, List.length_take, expand32_k]
 omega
noncomputable def c_expand32 (key info : List Int) : Con := ⟨[.ls false [.int .u8] key, .ls false [.int .u8] info, .v (.int .i64 32)], [], .ls false [.int .u8] (expand32_m key info), []⟩
set_option maxRecDepth 100000 in
set_option maxHeartbeats 1000000 in
theorem expand32_ok (key info : List Int) (hk : key.length ≤ 64) (hf : info.length ≤ 1000000000) : ConOk Tryz.prog 112 (c_expand32 key info) := by
 refine conOk_of rfl (nb := 0) Tryz.func112 rfl rfl Tryz.ntmps112 rfl rfl rfl fun g0 w0 ac gs ws hg0 hS => ?_
 have hlen0 : key.length ≤ 9223372036854775807 := hS.len 0 rfl
 have hlen1 : info.length ≤ 9223372036854775807 := hS.len 1 rfl
 have hS := hS.sp
 refine s0 [0, 1, 2, 6] [] 0 hS fun ac gs ws hS => ?_
 refine wp_seq (s0 [0, 1, 2, 6, 16] [] 0 hS fun ac gs ws hS => ?_)
 refine cond_f hS ?_
 refine wp_skip (then_n (sA [(1, .call ⟨85, (c_newkey key), [], []⟩)] ⟨newkey_ok key (by first | omega | (simp only [List.length_append, List.length_drop, List.length_take, List.length_replicate, List.length_cons, List.length_nil, List.length_map, List.length_range] <;> omega) | (simp <;> omega)), trivial⟩ (fun C => [ndC C 1]) [1, 2, 6, 7] [] 0 ⟨rfl, trivial⟩ hS fun ac gs ws hS => ?_))
 refine s0 [1, 2, 6, 7, 8, 9] [] 0 hS fun ac gs ws hS => ?_
 refine wp_seq (s0 [1, 2, 6, 7, 8, 9, 10] [] 0 hS fun ac gs ws hS => ?_)
 refine wp_block ?_
 obtain ⟨gs, hS⟩ := hS.nilk 8 5 [.int .u8]
 have hS := hS.wk 9 (.ls false [.int .u8] [])
 refine loop_y (ι := Nat × Int × (List Int) × (List Int)) hg0 hS (fun z_ => match z_ with | (k1, x10, x8, x9) => 32 - x8.length) (fun z_ => match z_ with | (k1, x10, x8, x9) => [(1, .ls false [.int .u8] info), (2, .v (.int .i64 32)), (6, .v (.slice none 0 0)), (7, .fn 86 (chain [.im (chain [.im (chain [.ar .u32 8 ((newkey_m key).1), .ls false [.int .u8] ((newkey_m key).2.1), .v (.int .u64 ((newkey_m key).2.2.1))]) 0, .im (chain [.ar .u32 8 ((newkey_m key).2.2.2.1), .ls false [.int .u8] ((newkey_m key).2.2.2.2.1), .v (.int .u64 ((newkey_m key).2.2.2.2.2))]) 0]) 0]) (chain [])), (8, .sk 0), (9, .ls false [.int .u8] x9), (10, .v (.int .u8 x10))]) (fun z_ => match z_ with | (k1, x10, x8, x9) => [(0, .sl 5 [.int .u8] x8)]) (fun z_ => match z_ with | (k1, x10, x8, x9) => ((x10, x8, x9) = expand32_l1 key info k1) ∧ (∀ j, j < k1 → expand32_l1_c key info (expand32_l1 key info j)) ∧ (x9.length ≤ 32) ∧ (x8.length = 32 * k1) ∧ True) 1 (0, 1, [], []) [(0, 0)] ⟨rfl, (fun j h => absurd h (Nat.not_lt_zero j)), (by simp), rfl, trivial⟩ ?_
 rintro ⟨k1, x10, x8, x9⟩ ac gs ws ⟨hq1, hj1, p1, p2, _⟩ hS
 refine wp_seq (s0 [1, 2, 6, 7, 8, 9, 10, 23] [0] 1 hS fun ac gs ws hS => ?_)
 refine if_d (((x8.length : Nat) : Int) < 32) hS (fun h1 => ?_) (fun h1 => ?_)
 ·refine wp_skip (then_n (wp_seq (wp_block (sA [(6, .call ⟨86, (c_kmacf ((newkey_m key).1) ((newkey_m key).2.1) ((newkey_m key).2.2.1) ((newkey_m key).2.2.2.1) ((newkey_m key).2.2.2.2.1) ((newkey_m key).2.2.2.2.2) [x9, info, [x10]]), [], []⟩)] ⟨kmacf_ok ((newkey_m key).1) ((newkey_m key).2.1) ((newkey_m key).2.2.1) ((newkey_m key).2.2.2.1) ((newkey_m key).2.2.2.2.1) ((newkey_m key).2.2.2.2.2) [x9, info, [x10]] (newkey_len _).1 (newkey_len _).2 (by first | assumption | omega | (simp only [List.flatten_cons, List.flatten_nil, List.length_append, List.length_cons, List.length_nil, kmac_len, mac_len, mac0_len] <;> omega) | (simp <;> omega)), trivial⟩ (fun C => [ndC C 6]) [1, 2, 6, 7, 8, 9, 10] [0] 1 ⟨rfl, trivial⟩ hS fun ac gs ws hS => ?_))))
  refine rA [] trivial (fun _ => [x8.length + (kmac_m ((newkey_m key).1) ((newkey_m key).2.1) ((newkey_m key).2.2.1) ((newkey_m key).2.2.2.1) ((newkey_m key).2.2.2.2.1) ((newkey_m key).2.2.2.2.2) [x9, info, [x10]]).length ≤ 9223372036854775807, (x8.length + (kmac_m ((newkey_m key).1) ((newkey_m key).2.1) ((newkey_m key).2.2.1) ((newkey_m key).2.2.2.1) ((newkey_m key).2.2.2.2.1) ((newkey_m key).2.2.2.2.2) [x9, info, [x10]]).length) * 1 ≤ 140737488355328]) [1, 2, 6, 7, 8, 9, 10] [1] 2 ⟨by (first | omega | (rw [kmac_len]; omega) | (simp only [List.length_nil, List.length_take]; omega)), by (first | omega | (rw [kmac_len]; omega) | (simp only [List.length_nil, List.length_take]; omega)), trivial⟩ hS fun ac gs ws hS => ?_
  refine block_n (then_n (r0 [1, 2, 6, 7, 8, 9, 10] [1] 2 hS fun ac gs ws hS => ?_))
  refine then_n ?_
  exact next_y hg0 hS (s := (k1, x10, x8, x9)) (k1 + 1, (iadd .u8 x10 1), x8 ++ (kmac_m ((newkey_m key).1) ((newkey_m key).2.1) ((newkey_m key).2.2.1) ((newkey_m key).2.2.2.1) ((newkey_m key).2.2.2.2.1) ((newkey_m key).2.2.2.2.2) [x9, info, [x10]]), kmac_m ((newkey_m key).1) ((newkey_m key).2.1) ((newkey_m key).2.2.1) ((newkey_m key).2.2.2.1) ((newkey_m key).2.2.2.2.1) ((newkey_m key).2.2.2.2.2) [x9, info, [x10]]) [(0, 1)] (show 32 - (x8 ++ kmac_m _ _ _ _ _ _ _).length < 32 - x8.length from by rw [List.length_append, kmac_len]; omega) ⟨(it_next (F := expand32_l1 key info) (st := expand32_l1_s key info) (fun _ => rfl) hq1 rfl), (lst_next hj1 (by rw [← hq1]; exact h1)), (by rw [kmac_len]; omega), (by rw [List.length_append, kmac_len]; omega), trivial⟩
 ·have hScur := hS
  obtain rfl := lst_eq (P := fun j => expand32_l1_c key info (expand32_l1 key info j)) (by rw [← hq1]; first | exact h1 | exact not_not_intro h1) hj1
  obtain rfl : (expand32_l1 key info (lst fun j => expand32_l1_c key info (expand32_l1 key info j))).1 = x10 := Eq.symm (congrArg (fun z => z.1) hq1)
  obtain rfl : (expand32_l1 key info (lst fun j => expand32_l1_c key info (expand32_l1 key info j))).2.1 = x8 := Eq.symm (congrArg (fun z => z.2.1) hq1)
  obtain rfl : (expand32_l1 key info (lst fun j => expand32_l1_c key info (expand32_l1 key info j))).2.2 = x9 := Eq.symm (congrArg (fun z => z.2.2) hq1)
  have hS := hScur
  clear hScur
  refine wp_exit (then_exit (then_exit (block_exit (then_n (wp_seq ?_)))))
  have hz := h1
  obtain ⟨gs, hS⟩ := hS.fz 0
  refine rA [] trivial (fun _ => [bndP none (some 32) none ((expand32_l1 key info (lst fun j => expand32_l1_c key info (expand32_l1 key info j))).2.1).length ((expand32_l1 key info (lst fun j => expand32_l1_c key info (expand32_l1 key info j))).2.1).length, ([] : List (RT [.int .u8])).length + (((expand32_l1 key info (lst fun j => expand32_l1_c key info (expand32_l1 key info j))).2.1).take 32).length ≤ 9223372036854775807, (([] : List (RT [.int .u8])).length + (((expand32_l1 key info (lst fun j => expand32_l1_c key info (expand32_l1 key info j))).2.1).take 32).length) * 1 ≤ 140737488355328]) [6] [1] 2 ⟨⟨by simp only [nnI] <;> omega, by simp only [nnI] <;> omega, by simp only [nnI] <;> omega, by simp, by simp only [bl] <;> omega, by simp only [bl] <;> omega, by simp only [bl] <;> omega⟩, by (first | omega | (rw [kmac_len]; omega) | (simp only [List.length_nil, List.length_take]; omega)), by (first | omega | (rw [kmac_len]; omega) | (simp only [List.length_nil, List.length_take]; omega)), trivial⟩ hS fun ac gs ws hS => ?_
  refine then_n (wp_ret ?_)
  have hM : expand32_m key info = [] ++ (((expand32_l1 key info (lst fun j => expand32_l1_c key info (expand32_l1 key info j))).2.1).take 32) := expand32_e key info
  obtain ⟨gs, hS⟩ := hS.fz 1
  exact fin_y rfl (.inr rfl) hS [.ls false [.int .u8] ([] ++ (((expand32_l1 key info (lst fun j => expand32_l1_c key info (expand32_l1 key info j))).2.1).take 32))] [] (by show weak _ (.ls false [.int .u8] (expand32_m key info)) = (.ls false [.int .u8] (expand32_m key info)); rw [hM]; first | (simp only []; rfl) | (simp only []; done) | rfl) trivial

noncomputable def expand64_l1_s (key info : List Int) (k1 : Nat) : (Int × (List Int) × (List Int)) → (Int × (List Int) × (List Int)) := fun z_ => match z_ with | (x10, x8, x9) => ((iadd .u8 x10 1), x8 ++ (kmac_m ((newkey_m key).1) ((newkey_m key).2.1) ((newkey_m key).2.2.1) ((newkey_m key).2.2.2.1) ((newkey_m key).2.2.2.2.1) ((newkey_m key).2.2.2.2.2) [x9, info, [x10]]), kmac_m ((newkey_m key).1) ((newkey_m key).2.1) ((newkey_m key).2.2.1) ((newkey_m key).2.2.2.1) ((newkey_m key).2.2.2.2.1) ((newkey_m key).2.2.2.2.2) [x9, info, [x10]])
noncomputable def expand64_l1 (key info : List Int) : Nat → Int × (List Int) × (List Int)
 | 0 => (1, [], [])
 | k1 + 1 => expand64_l1_s key info k1 (expand64_l1 key info k1)
def expand64_l1_c (key info : List Int) : (Int × (List Int) × (List Int)) → Prop := fun z_ => match z_ with | (x10, x8, x9) => ((x8.length : Nat) : Int) < 64
noncomputable def expand64_v (key info : List Int) : (List Int) := [] ++ (((expand64_l1 key info (lst fun j => expand64_l1_c key info (expand64_l1 key info j))).2.1).take 64)
noncomputable def expand64_m (key info : List Int) : (List Int) := shut (expand64_v key info)
theorem expand64_e (key info : List Int) : expand64_m key info = expand64_v key info := shut_eq _
theorem expand64_k (key info : List Int) : ∀ k, (expand64_l1 key info k).2.1.length = 32 * k
 | 0 => rfl
 | k + 1 => by
  show ((expand64_l1 key info k).2.1 ++ kmac_m _ _ _ _ _ _ _).length = _
  rw [List.length_append, kmac_len, expand64_k key info k]; omega
@[simp] theorem expand64_len (key info : List Int) : (expand64_m key info).length = 64 := by
 have h : (lst fun j => expand64_l1_c key info (expand64_l1 key info j)) = 2 := by
  refine (lst_eq ?_ ?_).symm
  ·show ¬ (((expand64_l1 key info 2).2.1.length : Nat) : Int) < 64
   rw [expand64_k]; omega
  ·intro j hj
   show (((expand64_l1 key info j).2.1.length : Nat) : Int) < 64
   rw [expand64_k]; omega
 rw [expand64_e]
 unfold expand64_v
 rw [h, List.nil_append, List.length_take, expand64_k]
 omega
noncomputable def c_expand64 (key info : List Int) : Con := ⟨[.ls false [.int .u8] key, .ls false [.int .u8] info, .v (.int .i64 64)], [], .ls false [.int .u8] (expand64_m key info), []⟩
set_option maxRecDepth 100000 in
set_option maxHeartbeats 1000000 in
theorem expand64_ok (key info : List Int) (hk : key.length ≤ 64) (hf : info.length ≤ 1000000000) : ConOk Tryz.prog 112 (c_expand64 key info) := by
 refine conOk_of rfl (nb := 0) Tryz.func112 rfl rfl Tryz.ntmps112 rfl rfl rfl fun g0 w0 ac gs ws hg0 hS => ?_
 have hlen0 : key.length ≤ 9223372036854775807 := hS.len 0 rfl
 have hlen1 : info.length ≤ 9223372036854775807 := hS.len 1 rfl
 have hS := hS.sp
 refine s0 [0, 1, 2, 6] [] 0 hS fun ac gs ws hS => ?_
 refine wp_seq (s0 [0, 1, 2, 6, 16] [] 0 hS fun ac gs ws hS => ?_)
 refine cond_f hS ?_
 refine wp_skip (then_n (sA [(1, .call ⟨85, (c_newkey key), [], []⟩)] ⟨newkey_ok key (by first | omega | (simp only [List.length_append, List.length_drop, List.length_take, List.length_replicate, List.length_cons, List.length_nil, List.length_map, List.length_range] <;> omega) | (simp <;> omega)), trivial⟩ (fun C => [ndC C 1]) [1, 2, 6, 7] [] 0 ⟨rfl, trivial⟩ hS fun ac gs ws hS => ?_))
 refine s0 [1, 2, 6, 7, 8, 9] [] 0 hS fun ac gs ws hS => ?_
 refine wp_seq (s0 [1, 2, 6, 7, 8, 9, 10] [] 0 hS fun ac gs ws hS => ?_)
 refine wp_block ?_
 obtain ⟨gs, hS⟩ := hS.nilk 8 5 [.int .u8]
 have hS := hS.wk 9 (.ls false [.int .u8] [])
 refine loop_y (ι := Nat × Int × (List Int) × (List Int)) hg0 hS (fun z_ => match z_ with | (k1, x10, x8, x9) => 64 - x8.length) (fun z_ => match z_ with | (k1, x10, x8, x9) => [(1, .ls false [.int .u8] info), (2, .v (.int .i64 64)), (6, .v (.slice none 0 0)), (7, .fn 86 (chain [.im (chain [.im (chain [.ar .u32 8 ((newkey_m key).1), .ls false [.int .u8] ((newkey_m key).2.1), .v (.int .u64 ((newkey_m key).2.2.1))]) 0, .im (chain [.ar .u32 8 ((newkey_m key).2.2.2.1), .ls false [.int .u8] ((newkey_m key).2.2.2.2.1), .v (.int .u64 ((newkey_m key).2.2.2.2.2))]) 0]) 0]) (chain [])), (8, .sk 0), (9, .ls false [.int .u8] x9), (10, .v (.int .u8 x10))]) (fun z_ => match z_ with | (k1, x10, x8, x9) => [(0, .sl 5 [.int .u8] x8)]) (fun z_ => match z_ with | (k1, x10, x8, x9) => ((x10, x8, x9) = expand64_l1 key info k1) ∧ (∀ j, j < k1 → expand64_l1_c key info (expand64_l1 key info j)) ∧ (x9.length ≤ 32) ∧ (x8.length = 32 * k1) ∧ True) 1 (0, 1, [], []) [(0, 0)] ⟨rfl, (fun j h => absurd h (Nat.not_lt_zero j)), (by simp), rfl, trivial⟩ ?_
 rintro ⟨k1, x10, x8, x9⟩ ac gs ws ⟨hq1, hj1, p1, p2, _⟩ hS
 refine wp_seq (s0 [1, 2, 6, 7, 8, 9, 10, 23] [0] 1 hS fun ac gs ws hS => ?_)
 refine if_d (((x8.length : Nat) : Int) < 64) hS (fun h1 => ?_) (fun h1 => ?_)
 ·refine wp_skip (then_n (wp_seq (wp_block (sA [(6, .call ⟨86, (c_kmacf ((newkey_m key).1) ((newkey_m key).2.1) ((newkey_m key).2.2.1) ((newkey_m key).2.2.2.1) ((newkey_m key).2.2.2.2.1) ((newkey_m key).2.2.2.2.2) [x9, info, [x10]]), [], []⟩)] ⟨kmacf_ok ((newkey_m key).1) ((newkey_m key).2.1) ((newkey_m key).2.2.1) ((newkey_m key).2.2.2.1) ((newkey_m key).2.2.2.2.1) ((newkey_m key).2.2.2.2.2) [x9, info, [x10]] (newkey_len _).1 (newkey_len _).2 (by first | assumption | omega | (simp only [List.flatten_cons, List.flatten_nil, List.length_append, List.length_cons, List.length_nil, kmac_len, mac_len, mac0_len] <;> omega) | (simp <;> omega)), trivial⟩ (fun C => [ndC C 6]) [1, 2, 6, 7, 8, 9, 10] [0] 1 ⟨rfl, trivial⟩ hS fun ac gs ws hS => ?_))))
  refine rA [] trivial (fun _ => [x8.length + (kmac_m ((newkey_m key).1) ((newkey_m key).2.1) ((newkey_m key).2.2.1) ((newkey_m key).2.2.2.1) ((newkey_m key).2.2.2.2.1) ((newkey_m key).2.2.2.2.2) [x9, info, [x10]]).length ≤ 9223372036854775807, (x8.length + (kmac_m ((newkey_m key).1) ((newkey_m key).2.1) ((newkey_m key).2.2.1) ((newkey_m key).2.2.2.1) ((newkey_m key).2.2.2.2.1) ((newkey_m key).2.2.2.2.2) [x9, info, [x10]]).length) * 1 ≤ 140737488355328]) [1, 2, 6, 7, 8, 9, 10] [1] 2 ⟨by (first | omega | (rw [kmac_len]; omega) | (simp only [List.length_nil, List.length_take]; omega)), by (first | omega | (rw [kmac_len]; omega) | (simp only [List.length_nil, List.length_take]; omega)), trivial⟩ hS fun ac gs ws hS => ?_
  refine block_n (then_n (r0 [1, 2, 6, 7, 8, 9, 10] [1] 2 hS fun ac gs ws hS => ?_))
  refine then_n ?_
  exact next_y hg0 hS (s := (k1, x10, x8, x9)) (k1 + 1, (iadd .u8 x10 1), x8 ++ (kmac_m ((newkey_m key).1) ((newkey_m key).2.1) ((newkey_m key).2.2.1) ((newkey_m key).2.2.2.1) ((newkey_m key).2.2.2.2.1) ((newkey_m key).2.2.2.2.2) [x9, info, [x10]]), kmac_m ((newkey_m key).1) ((newkey_m key).2.1) ((newkey_m key).2.2.1) ((newkey_m key).2.2.2.1) ((newkey_m key).2.2.2.2.1) ((newkey_m key).2.2.2.2.2) [x9, info, [x10]]) [(0, 1)] (show 64 - (x8 ++ kmac_m _ _ _ _ _ _ _).length < 64 - x8.length from by rw [List.length_append, kmac_len]; omega) ⟨(it_next (F := expand64_l1 key info) (st := expand64_l1_s key info) (fun _ => rfl) hq1 rfl), (lst_next hj1 (by rw [← hq1]; exact h1)), (by rw [kmac_len]; omega), (by rw [List.length_append, kmac_len]; omega), trivial⟩
 ·have hScur := hS
  obtain rfl := lst_eq (P := fun j => expand64_l1_c key info (expand64_l1 key info j)) (by rw [← hq1]; first | exact h1 | exact not_not_intro h1) hj1
  obtain rfl : (expand64_l1 key info (lst fun j => expand64_l1_c key info (expand64_l1 key info j))).1 = x10 := Eq.symm (congrArg (fun z => z.1) hq1)
  obtain rfl : (expand64_l1 key info (lst fun j => expand64_l1_c key info (expand64_l1 key info j))).2.1 = x8 := Eq.symm (congrArg (fun z => z.2.1) hq1)
  obtain rfl : (expand64_l1 key info (lst fun j => expand64_l1_c key info (expand64_l1 key info j))).2.2 = x9 := Eq.symm (congrArg (fun z => z.2.2) hq1)
  have hS := hScur
  clear hScur
  refine wp_exit (then_exit (then_exit (block_exit (then_n (wp_seq ?_)))))
  have hz := h1
  obtain ⟨gs, hS⟩ := hS.fz 0
  refine rA [] trivial (fun _ => [bndP none (some 64) none ((expand64_l1 key info (lst fun j => expand64_l1_c key info (expand64_l1 key info j))).2.1).length ((expand64_l1 key info (lst fun j => expand64_l1_c key info (expand64_l1 key info j))).2.1).length, ([] : List (RT [.int .u8])).length + (((expand64_l1 key info (lst fun j => expand64_l1_c key info (expand64_l1 key info j))).2.1).take 64).length ≤ 9223372036854775807, (([] : List (RT [.int .u8])).length + (((expand64_l1 key info (lst fun j => expand64_l1_c key info (expand64_l1 key info j))).2.1).take 64).length) * 1 ≤ 140737488355328]) [6] [1] 2 ⟨⟨by simp only [nnI] <;> omega, by simp only [nnI] <;> omega, by simp only [nnI] <;> omega, by simp, by simp only [bl] <;> omega, by simp only [bl] <;> omega, by simp only [bl] <;> omega⟩, by (first | omega | (rw [kmac_len]; omega) | (simp only [List.length_nil, List.length_take]; omega)), by (first | omega | (rw [kmac_len]; omega) | (simp only [List.length_nil, List.length_take]; omega)), trivial⟩ hS fun ac gs ws hS => ?_
  refine then_n (wp_ret ?_)
  have hM : expand64_m key info = [] ++ (((expand64_l1 key info (lst fun j => expand64_l1_c key info (expand64_l1 key info j))).2.1).take 64) := expand64_e key info
  obtain ⟨gs, hS⟩ := hS.fz 1
  exact fin_y rfl (.inr rfl) hS [.ls false [.int .u8] ([] ++ (((expand64_l1 key info (lst fun j => expand64_l1_c key info (expand64_l1 key info j))).2.1).take 64))] [] (by show weak _ (.ls false [.int .u8] (expand64_m key info)) = (.ls false [.int .u8] (expand64_m key info)); rw [hM]; first | (simp only []; rfl) | (simp only []; done) | rfl) trivial

noncomputable def derive32_v (key ikm info : List Int) : (List Int) := expand32_m (extract_m key ikm) info
noncomputable def derive32_m (key ikm info : List Int) : (List Int) := shut (derive32_v key ikm info)
theorem derive32_e (key ikm info : List Int) : derive32_m key ikm info = derive32_v key ikm info := shut_eq _
@[simp] theorem derive32_len (key : List Int) (ikm info : List Int) : (derive32_m key ikm info).length = 32 := by rw [derive32_e]; exact expand32_len ..
noncomputable def c_derive32 (key ikm info : List Int) : Con := ⟨[.ls false [.int .u8] key, .ls false [.int .u8] ikm, .ls false [.int .u8] info, .v (.int .i64 32)], [], .ls false [.int .u8] (derive32_m key ikm info), []⟩
set_option maxRecDepth 100000 in
set_option maxHeartbeats 1000000 in
theorem derive32_ok (key ikm info : List Int) (hk : key.length ≤ 64) (hi : ikm.length ≤ 1000000000) (hf : info.length ≤ 1000000000) : ConOk Tryz.prog 75 (c_derive32 key ikm info) := by
 refine conOk_of rfl (nb := 0) Tryz.func75 rfl rfl Tryz.ntmps75 rfl rfl rfl fun g0 w0 ac gs ws hg0 hS => ?_
 have hlen0 : key.length ≤ 9223372036854775807 := hS.len 0 rfl
 have hlen1 : ikm.length ≤ 9223372036854775807 := hS.len 1 rfl
 have hlen2 : info.length ≤ 9223372036854775807 := hS.len 2 rfl
 have hS := hS.sp
 refine s0 [0, 1, 2, 3, 8] [] 0 hS fun ac gs ws hS => ?_
 refine wp_seq ?_
 have hl := extract_len key ikm
 refine rA [(2, .call ⟨113, (c_extract key ikm), [], []⟩), (5, .call ⟨112, (c_expand32 (extract_m key ikm) info), [], []⟩)] ⟨extract_ok key ikm (by first | omega | (simp only [List.length_append, List.length_drop, List.length_take, List.length_replicate, List.length_cons, List.length_nil, List.length_map, List.length_range] <;> omega) | (simp <;> omega)) (by first | omega | (simp only [List.length_append, List.length_drop, List.length_take, List.length_replicate, List.length_cons, List.length_nil, List.length_map, List.length_range] <;> omega) | (simp <;> omega)), expand32_ok (extract_m key ikm) info (by first | omega | (simp only [List.length_append, List.length_drop, List.length_take, List.length_replicate, List.length_cons, List.length_nil, List.length_map, List.length_range] <;> omega) | (simp <;> omega)) (by first | omega | (simp only [List.length_append, List.length_drop, List.length_take, List.length_replicate, List.length_cons, List.length_nil, List.length_map, List.length_range] <;> omega) | (simp <;> omega)), trivial⟩ (fun C => [ndC C 2, ndC C 5]) [8] [] 0 ⟨rfl, rfl, trivial⟩ hS fun ac gs ws hS => ?_
 refine then_n (wp_ret ?_)
 have hM : derive32_m key ikm info = expand32_m (extract_m key ikm) info := derive32_e key ikm info
 exact fin_y rfl (.inr rfl) hS [.ls false [.int .u8] (expand32_m (extract_m key ikm) info)] [] (by show weak _ (.ls false [.int .u8] (derive32_m key ikm info)) = (.ls false [.int .u8] (derive32_m key ikm info)); rw [hM]; first | (simp only []; rfl) | (simp only []; done) | rfl) trivial

noncomputable def derive0_32_v (ikm info : List Int) : (List Int) := expand32_m (extract_m ([] : List Int) ikm) info
noncomputable def derive0_32_m (ikm info : List Int) : (List Int) := shut (derive0_32_v ikm info)
theorem derive0_32_e (ikm info : List Int) : derive0_32_m ikm info = derive0_32_v ikm info := shut_eq _
noncomputable def c_derive0_32 (ikm info : List Int) : Con := ⟨[.v (.slice none 0 0), .ls false [.int .u8] ikm, .ls false [.int .u8] info, .v (.int .i64 32)], [], .ls false [.int .u8] (derive0_32_m ikm info), []⟩
set_option maxRecDepth 100000 in
set_option maxHeartbeats 1000000 in
theorem derive0_32_ok (ikm info : List Int) (hi : ikm.length ≤ 1000000000) (hf : info.length ≤ 1000000000) : ConOk Tryz.prog 75 (c_derive0_32 ikm info) := by
 refine conOk_of rfl (nb := 0) Tryz.func75 rfl rfl Tryz.ntmps75 rfl rfl rfl fun g0 w0 ac gs ws hg0 hS => ?_
 have hlen1 : ikm.length ≤ 9223372036854775807 := hS.len 1 rfl
 have hlen2 : info.length ≤ 9223372036854775807 := hS.len 2 rfl
 have hS := hS.sp
 refine s0 [0, 1, 2, 3, 8] [] 0 hS fun ac gs ws hS => ?_
 refine wp_seq ?_
 have hl := extract0_len ikm
 refine rA [(2, .call ⟨113, (c_extract [] ikm), [], []⟩), (5, .call ⟨112, (c_expand32 (extract_m ([] : List Int) ikm) info), [], []⟩)] ⟨extract_ok [] ikm (by first | omega | (simp only [List.length_append, List.length_drop, List.length_take, List.length_replicate, List.length_cons, List.length_nil, List.length_map, List.length_range] <;> omega) | (simp <;> omega)) (by first | omega | (simp only [List.length_append, List.length_drop, List.length_take, List.length_replicate, List.length_cons, List.length_nil, List.length_map, List.length_range] <;> omega) | (simp <;> omega)), expand32_ok (extract_m ([] : List Int) ikm) info (by first | omega | (simp only [List.length_append, List.length_drop, List.length_take, List.length_replicate, List.length_cons, List.length_nil, List.length_map, List.length_range] <;> omega) | (simp <;> omega)) (by first | omega | (simp only [List.length_append, List.length_drop, List.length_take, List.length_replicate, List.length_cons, List.length_nil, List.length_map, List.length_range] <;> omega) | (simp <;> omega)), trivial⟩ (fun C => [ndC C 2, ndC C 5]) [8] [] 0 ⟨rfl, rfl, trivial⟩ hS fun ac gs ws hS => ?_
 refine then_n (wp_ret ?_)
 have hM : derive0_32_m ikm info = expand32_m (extract_m ([] : List Int) ikm) info := derive0_32_e ikm info
 exact fin_y rfl (.inr rfl) hS [.ls false [.int .u8] (expand32_m (extract_m ([] : List Int) ikm) info)] [] (by show weak _ (.ls false [.int .u8] (derive0_32_m ikm info)) = (.ls false [.int .u8] (derive0_32_m ikm info)); rw [hM]; first | (simp only []; rfl) | (simp only []; done) | rfl) trivial

noncomputable def derive0_64_v (ikm info : List Int) : (List Int) := expand64_m (extract_m ([] : List Int) ikm) info
noncomputable def derive0_64_m (ikm info : List Int) : (List Int) := shut (derive0_64_v ikm info)
theorem derive0_64_e (ikm info : List Int) : derive0_64_m ikm info = derive0_64_v ikm info := shut_eq _
@[simp] theorem derive0_64_len (ikm info : List Int) : (derive0_64_m ikm info).length = 64 := by rw [derive0_64_e]; exact expand64_len ..
noncomputable def c_derive0_64 (ikm info : List Int) : Con := ⟨[.v (.slice none 0 0), .ls false [.int .u8] ikm, .ls false [.int .u8] info, .v (.int .i64 64)], [], .ls false [.int .u8] (derive0_64_m ikm info), []⟩
set_option maxRecDepth 100000 in
set_option maxHeartbeats 1000000 in
theorem derive0_64_ok (ikm info : List Int) (hi : ikm.length ≤ 1000000000) (hf : info.length ≤ 1000000000) : ConOk Tryz.prog 75 (c_derive0_64 ikm info) := by
 refine conOk_of rfl (nb := 0) Tryz.func75 rfl rfl Tryz.ntmps75 rfl rfl rfl fun g0 w0 ac gs ws hg0 hS => ?_
 have hlen1 : ikm.length ≤ 9223372036854775807 := hS.len 1 rfl
 have hlen2 : info.length ≤ 9223372036854775807 := hS.len 2 rfl
 have hS := hS.sp
 refine s0 [0, 1, 2, 3, 8] [] 0 hS fun ac gs ws hS => ?_
 refine wp_seq ?_
 have hl := extract0_len ikm
 refine rA [(2, .call ⟨113, (c_extract [] ikm), [], []⟩), (5, .call ⟨112, (c_expand64 (extract_m ([] : List Int) ikm) info), [], []⟩)] ⟨extract_ok [] ikm (by first | omega | (simp only [List.length_append, List.length_drop, List.length_take, List.length_replicate, List.length_cons, List.length_nil, List.length_map, List.length_range] <;> omega) | (simp <;> omega)) (by first | omega | (simp only [List.length_append, List.length_drop, List.length_take, List.length_replicate, List.length_cons, List.length_nil, List.length_map, List.length_range] <;> omega) | (simp <;> omega)), expand64_ok (extract_m ([] : List Int) ikm) info (by first | omega | (simp only [List.length_append, List.length_drop, List.length_take, List.length_replicate, List.length_cons, List.length_nil, List.length_map, List.length_range] <;> omega) | (simp <;> omega)) (by first | omega | (simp only [List.length_append, List.length_drop, List.length_take, List.length_replicate, List.length_cons, List.length_nil, List.length_map, List.length_range] <;> omega) | (simp <;> omega)), trivial⟩ (fun C => [ndC C 2, ndC C 5]) [8] [] 0 ⟨rfl, rfl, trivial⟩ hS fun ac gs ws hS => ?_
 refine then_n (wp_ret ?_)
 have hM : derive0_64_m ikm info = expand64_m (extract_m ([] : List Int) ikm) info := derive0_64_e ikm info
 exact fin_y rfl (.inr rfl) hS [.ls false [.int .u8] (expand64_m (extract_m ([] : List Int) ikm) info)] [] (by show weak _ (.ls false [.int .u8] (derive0_64_m ikm info)) = (.ls false [.int .u8] (derive0_64_m ikm info)); rw [hM]; first | (simp only []; rfl) | (simp only []; done) | rfl) trivial

end Go.Sx.Tryz
namespace Go.Sx
open Go.Mi Go.RowKit
def Rb (n : Nat) (f : Nat → Int) : Prop := ∀ j, j < n → 0 ≤ f j ∧ f j < 256
theorem w8_rg (x : Int) : 0 ≤ IntKind.wrap .u8 x ∧ IntKind.wrap .u8 x < 256 := by rw [wrap_u8m]; omega
theorem xor_rg (a b : Int) : 0 ≤ ixor .u8 a b ∧ ixor .u8 a b < 256 := w8_rg _
theorem Rb.zero (f : Nat → Int) : Rb 0 f := fun _ h => absurd h (Nat.not_lt_zero _)
theorem Rb.next {n : Nat} {f : Nat → Int} {v : Int} (h : Rb n f) (hv : 0 ≤ v ∧ v < 256) : Rb (n + 1) (upd f n v) := fun j hj => by
 unfold upd
 split
 ·exact hv
 ·exact h j (by omega)
theorem Rb.set {n : Nat} {f : Nat → Int} {v : Int} (h : Rb n f) (i : Nat) (hv : 0 ≤ v ∧ v < 256) : Rb n (upd f i v) := fun j hj => by
 unfold upd
 split
 ·exact hv
 ·exact h j hj
theorem Rb.mono {m n : Nat} {f : Nat → Int} (h : Rb n f) (hm : m ≤ n) : Rb m f := fun j hj => h j (by omega)
theorem shr1_lt {b : Int} (h : 0 < b) : (ishr .u8 b 1).toNat < b.toNat := by
 have := shr8 (a := b) (by omega) (n := 1) (by omega)
 rw [show ((1 : Nat) : Int) = 1 from rfl] at this
 rw [this, Int.toNat_natCast, Nat.shiftRight_eq_div_pow]
 omega
theorem xor8 {a b : Int} (ha : 0 ≤ a ∧ a < 256) (hb : 0 ≤ b ∧ b < 256) : ixor .u8 a b = ((a.toNat ^^^ b.toNat : Nat) : Int) := by
 have h : a.toNat ^^^ b.toNat < 2 ^ 8 := Nat.xor_lt_two_pow (by omega) (by omega)
 unfold ixor
 rw [wrap_u8m]
 show (((BitVec.ofInt 8 a ^^^ BitVec.ofInt 8 b).toNat : Nat) : Int) % 256 = _
 rw [BitVec.toNat_xor, ofI8 ha, ofI8 hb]
 omega
theorem xor_m8 (a b : Int) : ixor .u8 a b = ixor .u8 a (b % 256) := by
 unfold ixor
 congr 4
 show BitVec.ofInt 8 b = BitVec.ofInt 8 (b % 256)
 apply BitVec.eq_of_toNat_eq
 rw [BitVec.toNat_ofInt, BitVec.toNat_ofInt]
 omega
theorem xor_xor {a : Int} (ha : 0 ≤ a ∧ a < 256) (b : Int) : ixor .u8 (ixor .u8 a b) b = a := by
 have hb : 0 ≤ b % 256 ∧ b % 256 < 256 := by omega
 rw [xor_m8 _ b, xor_m8 a b, xor8 (xor_rg _ _) hb, xor8 ha hb]
 rw [Int.toNat_natCast, Nat.xor_assoc, Nat.xor_self, Nat.xor_zero]
 omega
end Go.Sx
namespace Go.Sx.Tryz
open Go.Mi Go.RowKit Go.Sx Go.Proofs
noncomputable def rot8_v (x : Int) (k : Nat) : Int := (ior .u8 (ishl .u8 x (iand .u64 ((k : Nat) : Int) 7)) (ishr .u8 x (isub .u64 8 (iand .u64 ((k : Nat) : Int) 7))))
noncomputable def rot8_m (x : Int) (k : Nat) : Int := shut (rot8_v x k)
theorem rot8_e (x : Int) (k : Nat) : rot8_m x k = rot8_v x k := shut_eq _
noncomputable def c_rot8 (x : Int) (k : Nat) : Con := ⟨[.v (.int .u8 x), .v (.int .i64 ((k : Nat) : Int))], [], .v (.int .u8 (rot8_m x k)), []⟩
set_option maxRecDepth 100000 in
set_option maxHeartbeats 1000000 in
theorem rot8_ok (x : Int) (k : Nat) (hk : k ≤ 8) : ConOk Tryz.prog 212 (c_rot8 x k) := by
 refine conOk_of rfl (nb := 0) Tryz.func212 rfl rfl Tryz.ntmps212 rfl rfl rfl fun g0 w0 ac gs ws hg0 hS => ?_
 have hS := hS.sp
 refine s0 [0, 1, 4] [] 0 hS fun ac gs ws hS => ?_
 refine sA [(1, .oi ((k : Nat) : Int))] trivial (fun _ => [IntKind.wrap .u64 ((k : Nat) : Int) = ((k : Nat) : Int)]) [0, 4, 5] [] 0 ⟨wrap_u64 (by omega) (by omega), trivial⟩ hS fun ac gs ws hS => ?_
 refine sA [] trivial (fun _ => [(0 : Int) ≤ (iand .u64 ((k : Nat) : Int) 7), (0 : Int) ≤ (isub .u64 8 (iand .u64 ((k : Nat) : Int) 7))]) [4] [] 0 ⟨wrap_nn rfl, wrap_nn rfl, trivial⟩ hS fun ac gs ws hS => ?_
 refine wp_ret ?_
 have hM : rot8_m x k = (ior .u8 (ishl .u8 x (iand .u64 ((k : Nat) : Int) 7)) (ishr .u8 x (isub .u64 8 (iand .u64 ((k : Nat) : Int) 7)))) := rot8_e x k
 exact fin_y rfl (.inr rfl) hS [.v (.int .u8 (ior .u8 (ishl .u8 x (iand .u64 ((k : Nat) : Int) 7)) (ishr .u8 x (isub .u64 8 (iand .u64 ((k : Nat) : Int) 7)))))] [] (by show weak _ (.v (.int .u8 (rot8_m x k))) = (.v (.int .u8 (rot8_m x k))); rw [hM]; first | (simp only []; rfl) | (simp only []; done) | rfl) trivial

noncomputable def twice_v (x : Int) : Int := (ixor .u8 (ishl .u8 x 1) (imul .u8 (ishr .u8 x 7) 27))
noncomputable def twice_m (x : Int) : Int := shut (twice_v x)
theorem twice_e (x : Int) : twice_m x = twice_v x := shut_eq _
noncomputable def c_twice (x : Int) : Con := ⟨[.v (.int .u8 x)], [], .v (.int .u8 (twice_m x)), []⟩
set_option maxRecDepth 100000 in
set_option maxHeartbeats 1000000 in
theorem twice_ok (x : Int) : ConOk Tryz.prog 204 (c_twice x) := by
 refine conOk_of rfl (nb := 0) Tryz.func204 rfl rfl Tryz.ntmps204 rfl rfl rfl fun g0 w0 ac gs ws hg0 hS => ?_
 have hS := hS.sp
 refine s0 [0, 2] [] 0 hS fun ac gs ws hS => ?_
 refine sA [] trivial (fun _ => [(0 : Int) ≤ 1, (0 : Int) ≤ 7]) [2] [] 0 ⟨by omega, by omega, trivial⟩ hS fun ac gs ws hS => ?_
 refine wp_ret ?_
 have hM : twice_m x = (ixor .u8 (ishl .u8 x 1) (imul .u8 (ishr .u8 x 7) 27)) := twice_e x
 exact fin_y rfl (.inr rfl) hS [.v (.int .u8 (ixor .u8 (ishl .u8 x 1) (imul .u8 (ishr .u8 x 7) 27)))] [] (by show weak _ (.v (.int .u8 (twice_m x))) = (.v (.int .u8 (twice_m x))); rw [hM]; first | (simp only []; rfl) | (simp only []; done) | rfl) trivial

noncomputable def times_l1_s (a b : Int) (k1 : Nat) : (Int × Int × Int) → (Int × Int × Int) := fun z_ => match z_ with | (x0, x1, x4) => ((twice_m x0), (ishr .u8 x1 1), (ixor .u8 x4 (imul .u8 x0 (iand .u8 x1 1))))
noncomputable def times_l1 (a b : Int) : Nat → Int × Int × Int
 | 0 => (a, b, 0)
 | k1 + 1 => times_l1_s a b k1 (times_l1 a b k1)
def times_l1_c (a b : Int) : (Int × Int × Int) → Prop := fun z_ => match z_ with | (x0, x1, x4) => (0 : Int) < x1
noncomputable def times_v (a b : Int) : Int := ((times_l1 a b (lst fun j => times_l1_c a b (times_l1 a b j))).2.2)
noncomputable def times_m (a b : Int) : Int := shut (times_v a b)
theorem times_e (a b : Int) : times_m a b = times_v a b := shut_eq _
noncomputable def c_times (a b : Int) : Con := ⟨[.v (.int .u8 a), .v (.int .u8 b)], [], .v (.int .u8 (times_m a b)), []⟩
set_option maxRecDepth 100000 in
set_option maxHeartbeats 1000000 in
theorem times_ok (a b : Int) : ConOk Tryz.prog 211 (c_times a b) := by
 refine conOk_of rfl (nb := 0) Tryz.func211 rfl rfl Tryz.ntmps211 rfl rfl rfl fun g0 w0 ac gs ws hg0 hS => ?_
 have hS := hS.sp
 refine s0 [0, 1, 4] [] 0 hS fun ac gs ws hS => ?_
 refine wp_seq (wp_block (loop_y (ι := Nat × Int × Int × Int) hg0 hS (fun z_ => match z_ with | (k1, x0, x1, x4) => x1.toNat) (fun z_ => match z_ with | (k1, x0, x1, x4) => [(0, .v (.int .u8 x0)), (1, .v (.int .u8 x1)), (4, .v (.int .u8 x4))]) (fun z_ => match z_ with | (k1, x0, x1, x4) => []) (fun z_ => match z_ with | (k1, x0, x1, x4) => ((x0, x1, x4) = times_l1 a b k1) ∧ (∀ j, j < k1 → times_l1_c a b (times_l1 a b j)) ∧ True) 0 (0, a, b, 0) [] ⟨rfl, (fun j h => absurd h (Nat.not_lt_zero j)), trivial⟩ ?_))
 rintro ⟨k1, x0, x1, x4⟩ ac gs ws ⟨hq1, hj1, _⟩ hS
 refine wp_seq (s0 [0, 1, 4, 6] [] 0 hS fun ac gs ws hS => ?_)
 refine if_d ((0 : Int) < x1) hS (fun h1 => ?_) (fun h1 => ?_)
 ·refine wp_skip (then_n (wp_seq (wp_block (s0 [0, 1, 4] [] 0 hS fun ac gs ws hS => ?_))))
  refine rA [(1, .call ⟨204, (c_twice x0), [], []⟩)] ⟨twice_ok x0, trivial⟩ (fun C => [ndC C 1]) [0, 1, 4] [] 0 ⟨rfl, trivial⟩ hS fun ac gs ws hS => ?_
  refine block_n (then_n (rA [] trivial (fun _ => [(0 : Int) ≤ 1]) [0, 1, 4] [] 0 ⟨by omega, trivial⟩ hS fun ac gs ws hS => ?_))
  refine then_n ?_
  exact next_y hg0 hS (s := (k1, x0, x1, x4)) (k1 + 1, (twice_m x0), (ishr .u8 x1 1), (ixor .u8 x4 (imul .u8 x0 (iand .u8 x1 1)))) [] (show (ishr .u8 x1 1).toNat < x1.toNat from shr1_lt (by assumption)) ⟨(it_next (F := times_l1 a b) (st := times_l1_s a b) (fun _ => rfl) hq1 rfl), (lst_next hj1 (by rw [← hq1]; exact h1)), trivial⟩
 ·have hScur := hS
  obtain rfl := lst_eq (P := fun j => times_l1_c a b (times_l1 a b j)) (by rw [← hq1]; first | exact h1 | exact not_not_intro h1) hj1
  obtain rfl : (times_l1 a b (lst fun j => times_l1_c a b (times_l1 a b j))).1 = x0 := Eq.symm (congrArg (fun z => z.1) hq1)
  obtain rfl : (times_l1 a b (lst fun j => times_l1_c a b (times_l1 a b j))).2.1 = x1 := Eq.symm (congrArg (fun z => z.2.1) hq1)
  obtain rfl : (times_l1 a b (lst fun j => times_l1_c a b (times_l1 a b j))).2.2 = x4 := Eq.symm (congrArg (fun z => z.2.2) hq1)
  have hS := hScur
  clear hScur
  refine wp_exit (then_exit (then_exit (block_exit (then_n (s0 [4] [] 0 hS fun ac gs ws hS => ?_)))))
  refine wp_ret ?_
  have hM : times_m a b = ((times_l1 a b (lst fun j => times_l1_c a b (times_l1 a b j))).2.2) := times_e a b
  exact fin_y rfl (.inr rfl) hS [.v (.int .u8 ((times_l1 a b (lst fun j => times_l1_c a b (times_l1 a b j))).2.2))] [] (by show weak _ (.v (.int .u8 (times_m a b))) = (.v (.int .u8 (times_m a b))); rw [hM]; first | (simp only []; rfl) | (simp only []; done) | rfl) trivial

noncomputable def sbox_l1_s (b : Int) (k1 : Nat) : (Int × Int) → (Int × Int) := fun z_ => match z_ with | (x3, x4) => if (0 : Int) < x4 then ((times_m (times_m x3 x3) b), (x4 - 1)) else ((times_m x3 x3), (x4 - 1))
noncomputable def sbox_l1 (b : Int) : Nat → Int × Int
 | 0 => (1, 7)
 | k1 + 1 => sbox_l1_s b k1 (sbox_l1 b k1)
def sbox_l1_c (b : Int) : (Int × Int) → Prop := fun z_ => match z_ with | (x3, x4) => (0 : Int) ≤ x4
noncomputable def sbox_l2_s (b : Int) (k2 : Nat) : (Int × Nat) → (Int × Nat) := fun z_ => match z_ with | (x5, x6) => ((ixor .u8 x5 (rot8_m ((sbox_l1 b (lst fun j => sbox_l1_c b (sbox_l1 b j))).1) x6)), x6 + 1)
noncomputable def sbox_l2 (b : Int) : Nat → Int × Nat
 | 0 => (((sbox_l1 b (lst fun j => sbox_l1_c b (sbox_l1 b j))).1), 1)
 | k2 + 1 => sbox_l2_s b k2 (sbox_l2 b k2)
def sbox_l2_c (b : Int) : (Int × Nat) → Prop := fun z_ => match z_ with | (x5, x6) => ((x6 : Nat) : Int) < 5
noncomputable def sbox_v (b : Int) : Int := (ixor .u8 ((sbox_l2 b (lst fun j => sbox_l2_c b (sbox_l2 b j))).1) 99)
noncomputable def sbox_m (b : Int) : Int := shut (sbox_v b)
theorem sbox_e (b : Int) : sbox_m b = sbox_v b := shut_eq _
theorem sbox_rg (x : Int) : 0 ≤ sbox_m x ∧ sbox_m x < 256 := by rw [sbox_e]; exact xor_rg _ _
noncomputable def c_sbox (b : Int) : Con := ⟨[.v (.int .u8 b)], [], .v (.int .u8 (sbox_m b)), []⟩
set_option maxRecDepth 100000 in
set_option maxHeartbeats 1000000 in
theorem sbox_ok (b : Int) : ConOk Tryz.prog 203 (c_sbox b) := by
 refine conOk_of rfl (nb := 0) Tryz.func203 rfl rfl Tryz.ntmps203 rfl rfl rfl fun g0 w0 ac gs ws hg0 hS => ?_
 have hS := hS.sp
 refine s0 [0, 2] [] 0 hS fun ac gs ws hS => ?_
 refine s0 [0, 2, 3] [] 0 hS fun ac gs ws hS => ?_
 refine wp_seq (s0 [0, 2, 3, 4] [] 0 hS fun ac gs ws hS => ?_)
 refine wp_block (loop_y (ι := Nat × Int × Int) hg0 hS (fun z_ => match z_ with | (k1, x3, x4) => (x4 + 1).toNat) (fun z_ => match z_ with | (k1, x3, x4) => [(0, .v (.int .u8 b)), (2, .v (.int .u8 0)), (3, .v (.int .u8 x3)), (4, .v (.int .i64 x4))]) (fun z_ => match z_ with | (k1, x3, x4) => []) (fun z_ => match z_ with | (k1, x3, x4) => ((x3, x4) = sbox_l1 b k1) ∧ (∀ j, j < k1 → sbox_l1_c b (sbox_l1 b j)) ∧ (-1 ≤ x4 ∧ x4 ≤ 7) ∧ True) 0 (0, 1, 7) [] ⟨rfl, (fun j h => absurd h (Nat.not_lt_zero j)), (by omega), trivial⟩ ?_)
 rintro ⟨k1, x3, x4⟩ ac gs ws ⟨hq1, hj1, p1, _⟩ hS
 refine wp_seq (s0 [0, 2, 3, 4, 8] [] 0 hS fun ac gs ws hS => ?_)
 refine if_d ((0 : Int) ≤ x4) hS (fun h1 => ?_) (fun h1 => ?_)
 ·refine wp_skip (then_n (wp_seq (wp_block (sA [(2, .call ⟨211, (c_times x3 x3), [], []⟩)] ⟨times_ok x3 x3, trivial⟩ (fun C => [ndC C 2]) [0, 2, 3, 4] [] 0 ⟨rfl, trivial⟩ hS fun ac gs ws hS => ?_))))
  refine s0 [0, 2, 3, 4, 15] [] 0 hS fun ac gs ws hS => ?_
  refine if_d ((0 : Int) < x4) hS (fun h2 => ?_) (fun h2 => ?_)
  ·refine rA [(2, .call ⟨211, (c_times (times_m x3 x3) b), [], []⟩)] ⟨times_ok (times_m x3 x3) b, trivial⟩ (fun C => [ndC C 2]) [0, 2, 3, 4] [] 0 ⟨rfl, trivial⟩ hS fun ac gs ws hS => ?_
   refine block_n (then_n (rA [(1, .oi (x4 - 1))] trivial (fun _ => [isub .i64 x4 1 = (x4 - 1)]) [0, 2, 3, 4] [] 0 ⟨isub64 (by omega) (by omega), trivial⟩ hS fun ac gs ws hS => ?_))
   refine then_n ?_
   exact next_y hg0 hS (s := (k1, x3, x4)) (k1 + 1, (times_m (times_m x3 x3) b), (x4 - 1)) [] (show ((x4 - 1) + 1).toNat < (x4 + 1).toNat from by omega) ⟨(it_next (F := sbox_l1 b) (st := sbox_l1_s b) (fun _ => rfl) hq1 (Eq.symm (if_pos h2))), (lst_next hj1 (by rw [← hq1]; exact h1)), (by omega), trivial⟩
  ·refine wp_skip (block_n (then_n (rA [(1, .oi (x4 - 1))] trivial (fun _ => [isub .i64 x4 1 = (x4 - 1)]) [0, 2, 3, 4] [] 0 ⟨isub64 (by omega) (by omega), trivial⟩ hS fun ac gs ws hS => ?_)))
   refine then_n ?_
   exact next_y hg0 hS (s := (k1, x3, x4)) (k1 + 1, (times_m x3 x3), (x4 - 1)) [] (show ((x4 - 1) + 1).toNat < (x4 + 1).toNat from by omega) ⟨(it_next (F := sbox_l1 b) (st := sbox_l1_s b) (fun _ => rfl) hq1 (Eq.symm (if_neg h2))), (lst_next hj1 (by rw [← hq1]; exact h1)), (by omega), trivial⟩
 ·have hScur := hS
  obtain rfl := lst_eq (P := fun j => sbox_l1_c b (sbox_l1 b j)) (by rw [← hq1]; first | exact h1 | exact not_not_intro h1) hj1
  obtain rfl : (sbox_l1 b (lst fun j => sbox_l1_c b (sbox_l1 b j))).1 = x3 := Eq.symm (congrArg (fun z => z.1) hq1)
  obtain rfl : (sbox_l1 b (lst fun j => sbox_l1_c b (sbox_l1 b j))).2 = x4 := Eq.symm (congrArg (fun z => z.2) hq1)
  have hS := hScur
  clear hScur
  refine wp_exit (then_exit (then_exit (block_exit (then_n (s0 [2, 3, 5] [] 0 hS fun ac gs ws hS => ?_)))))
  refine wp_seq (s0 [2, 3, 5, 6] [] 0 hS fun ac gs ws hS => ?_)
  refine wp_block (loop_y (ι := Nat × Int × Nat) hg0 hS (fun z_ => match z_ with | (k2, x5, x6) => 5 - x6) (fun z_ => match z_ with | (k2, x5, x6) => [(2, .v (.int .u8 0)), (3, .v (.int .u8 ((sbox_l1 b (lst fun j => sbox_l1_c b (sbox_l1 b j))).1))), (5, .v (.int .u8 x5)), (6, .v (.int .i64 ((x6 : Nat) : Int)))]) (fun z_ => match z_ with | (k2, x5, x6) => []) (fun z_ => match z_ with | (k2, x5, x6) => ((x5, x6) = sbox_l2 b k2) ∧ (∀ j, j < k2 → sbox_l2_c b (sbox_l2 b j)) ∧ (1 ≤ x6) ∧ True) 0 (0, ((sbox_l1 b (lst fun j => sbox_l1_c b (sbox_l1 b j))).1), 1) [] ⟨rfl, (fun j h => absurd h (Nat.not_lt_zero j)), (by omega), trivial⟩ ?_)
  rintro ⟨k2, x5, x6⟩ ac gs ws ⟨hq2, hj2, p2, _⟩ hS
  refine wp_seq (s0 [2, 3, 5, 6, 21] [] 0 hS fun ac gs ws hS => ?_)
  refine if_d (((x6 : Nat) : Int) < 5) hS (fun h3 => ?_) (fun h3 => ?_)
  ·refine wp_skip (then_n (wp_seq (wp_block (rA [(3, .call ⟨212, (c_rot8 ((sbox_l1 b (lst fun j => sbox_l1_c b (sbox_l1 b j))).1) x6), [], []⟩)] ⟨rot8_ok ((sbox_l1 b (lst fun j => sbox_l1_c b (sbox_l1 b j))).1) x6 (by omega), trivial⟩ (fun C => [ndC C 3]) [2, 3, 5, 6] [] 0 ⟨rfl, trivial⟩ hS fun ac gs ws hS => ?_))))
   refine block_n (then_n (rA [(1, .oi ((x6 + 1 : Nat) : Int))] trivial (fun _ => [iadd .i64 ((x6 : Nat) : Int) 1 = ((x6 + 1 : Nat) : Int)]) [2, 3, 5, 6] [] 0 ⟨by rw [iadd64 (by omega) (by omega)]; omega, trivial⟩ hS fun ac gs ws hS => ?_))
   refine then_n ?_
   exact next_y hg0 hS (s := (k2, x5, x6)) (k2 + 1, (ixor .u8 x5 (rot8_m ((sbox_l1 b (lst fun j => sbox_l1_c b (sbox_l1 b j))).1) x6)), x6 + 1) [] (show 5 - (x6 + 1) < 5 - x6 from by omega) ⟨(it_next (F := sbox_l2 b) (st := sbox_l2_s b) (fun _ => rfl) hq2 rfl), (lst_next hj2 (by rw [← hq2]; exact h3)), (by omega), trivial⟩
  ·have hScur := hS
   obtain rfl := lst_eq (P := fun j => sbox_l2_c b (sbox_l2 b j)) (by rw [← hq2]; first | exact h3 | exact not_not_intro h3) hj2
   obtain rfl : (sbox_l2 b (lst fun j => sbox_l2_c b (sbox_l2 b j))).1 = x5 := Eq.symm (congrArg (fun z => z.1) hq2)
   obtain rfl : (sbox_l2 b (lst fun j => sbox_l2_c b (sbox_l2 b j))).2 = x6 := Eq.symm (congrArg (fun z => z.2) hq2)
   have hS := hScur
   clear hScur
   refine wp_exit (then_exit (then_exit (block_exit (then_n (s0 [2] [] 0 hS fun ac gs ws hS => ?_)))))
   refine wp_ret ?_
   have hM : sbox_m b = (ixor .u8 ((sbox_l2 b (lst fun j => sbox_l2_c b (sbox_l2 b j))).1) 99) := sbox_e b
   exact fin_y rfl (.inr rfl) hS [.v (.int .u8 (ixor .u8 ((sbox_l2 b (lst fun j => sbox_l2_c b (sbox_l2 b j))).1) 99))] [] (by show weak _ (.v (.int .u8 (sbox_m b))) = (.v (.int .u8 (sbox_m b))); rw [hM]; first | (simp only []; rfl) | (simp only []; done) | rfl) trivial

noncomputable def mixed_v (a b : Int) (c d : Int) : (Nat → Int) := upd (upd (upd (upd (fun _ => 0) 0 (ixor .u8 (ixor .u8 a (ixor .u8 (ixor .u8 (ixor .u8 a b) c) d)) (twice_m (ixor .u8 a b)))) 1 (ixor .u8 (ixor .u8 b (ixor .u8 (ixor .u8 (ixor .u8 a b) c) d)) (twice_m (ixor .u8 b c)))) 2 (ixor .u8 (ixor .u8 c (ixor .u8 (ixor .u8 (ixor .u8 a b) c) d)) (twice_m (ixor .u8 c d)))) 3 (ixor .u8 (ixor .u8 d (ixor .u8 (ixor .u8 (ixor .u8 a b) c) d)) (twice_m (ixor .u8 d a)))
noncomputable def mixed_m (a b : Int) (c d : Int) : (Nat → Int) := shut (mixed_v a b c d)
theorem mixed_e (a b : Int) (c d : Int) : mixed_m a b c d = mixed_v a b c d := shut_eq _
noncomputable def c_mixed (a b : Int) (c d : Int) : Con := ⟨[.v (.int .u8 a), .v (.int .u8 b), .v (.int .u8 c), .v (.int .u8 d)], [], .ar .u8 4 (mixed_m a b c d), []⟩
set_option maxRecDepth 100000 in
set_option maxHeartbeats 1000000 in
theorem mixed_ok (a b : Int) (c d : Int) : ConOk Tryz.prog 205 (c_mixed a b c d) := by
 refine conOk_of rfl (nb := 0) Tryz.func205 rfl rfl Tryz.ntmps205 rfl rfl rfl fun g0 w0 ac gs ws hg0 hS => ?_
 have hS := hS.sp
 refine s0 [0, 1, 2, 3, 8] [0] 1 hS fun ac gs ws hS => ?_
 refine s0 [0, 1, 2, 3, 8, 9] [0] 1 hS fun ac gs ws hS => ?_
 refine sA [(6, .call ⟨204, (c_twice (ixor .u8 a b)), [], []⟩), (14, .call ⟨204, (c_twice (ixor .u8 b c)), [], []⟩), (22, .call ⟨204, (c_twice (ixor .u8 c d)), [], []⟩), (30, .call ⟨204, (c_twice (ixor .u8 d a)), [], []⟩)] ⟨twice_ok (ixor .u8 a b), twice_ok (ixor .u8 b c), twice_ok (ixor .u8 c d), twice_ok (ixor .u8 d a), trivial⟩ (fun C => [ndC C 6, ndC C 14, ndC C 22, ndC C 30]) [8] [0] 1 ⟨rfl, rfl, rfl, rfl, trivial⟩ hS fun ac gs ws hS => ?_
 refine wp_ret ?_
 have hM : mixed_m a b c d = upd (upd (upd (upd (fun _ => 0) 0 (ixor .u8 (ixor .u8 a (ixor .u8 (ixor .u8 (ixor .u8 a b) c) d)) (twice_m (ixor .u8 a b)))) 1 (ixor .u8 (ixor .u8 b (ixor .u8 (ixor .u8 (ixor .u8 a b) c) d)) (twice_m (ixor .u8 b c)))) 2 (ixor .u8 (ixor .u8 c (ixor .u8 (ixor .u8 (ixor .u8 a b) c) d)) (twice_m (ixor .u8 c d)))) 3 (ixor .u8 (ixor .u8 d (ixor .u8 (ixor .u8 (ixor .u8 a b) c) d)) (twice_m (ixor .u8 d a))) := mixed_e a b c d
 exact fin_y rfl (.inr rfl) hS [.ar .u8 4 (upd (upd (upd (upd (fun _ => 0) 0 (ixor .u8 (ixor .u8 a (ixor .u8 (ixor .u8 (ixor .u8 a b) c) d)) (twice_m (ixor .u8 a b)))) 1 (ixor .u8 (ixor .u8 b (ixor .u8 (ixor .u8 (ixor .u8 a b) c) d)) (twice_m (ixor .u8 b c)))) 2 (ixor .u8 (ixor .u8 c (ixor .u8 (ixor .u8 (ixor .u8 a b) c) d)) (twice_m (ixor .u8 c d)))) 3 (ixor .u8 (ixor .u8 d (ixor .u8 (ixor .u8 (ixor .u8 a b) c) d)) (twice_m (ixor .u8 d a))))] [] (by show weak _ (.ar .u8 4 (mixed_m a b c d)) = (.ar .u8 4 (mixed_m a b c d)); rw [hM]; first | (simp only []; rfl) | (simp only []; done) | rfl) trivial

end Go.Sx.Tryz
namespace Go.Sx.Tryz
open Go.Mi Go.RowKit Go.Sx Go.Proofs
theorem by_getD {xs : List Int} (h : By xs) (j : Nat) : 0 ≤ xs.getD j 0 ∧ xs.getD j 0 < 256 := by
 rw [List.getD_eq_getElem?_getD]
 cases hx : xs[j]? with
 | none => exact ⟨Int.le_refl _, by decide⟩
 | some x => exact h x (List.mem_of_getElem? hx)
theorem rb_key {key : List Int} (h : By key) : Rb 240 (updW (fun _ => 0) 0 (min key.length 240) (fun j => key.getD j 0)) := fun j hj => by
 unfold updW
 cases Nat.ble 0 j && Nat.blt j (0 + min key.length 240) with
 | true => exact by_getD h _
 | false => exact ⟨Int.le_refl _, (by decide : (0 : Int) < 256)⟩
noncomputable def ready_l1_s (key : List Int) (x11 : Nat) : (Nat → Int) → (Nat → Int) := fun o3_0 => upd o3_0 x11 (sbox_m (IntKind.wrap .u8 ((x11 : Nat) : Int)))
noncomputable def ready_l1 (key : List Int) : Nat → (Nat → Int)
 | 0 => fun _ => 0
 | x11 + 1 => ready_l1_s key x11 (ready_l1 key x11)
noncomputable def ready_l3_s (key : List Int) (k2 : Nat) (x5 : Int) (x6 : Nat) (o3_1 : Nat → Int) (x111 : Nat) : (Nat → Int) → (Nat → Int) := fun o3_1_3 => upd o3_1_3 (x6 + x111) (ixor .u8 (o3_1_3 ((x6 + x111) - 32)) ((upd (upd (upd (upd (fun _ => 0) 0 (ixor .u8 ((ready_l1 key 256) (Int.toNat ((fun j => o3_1 ((x6 - 4) + j)) 1))) x5)) 1 ((ready_l1 key 256) (Int.toNat ((fun j => o3_1 ((x6 - 4) + j)) 2)))) 2 ((ready_l1 key 256) (Int.toNat ((fun j => o3_1 ((x6 - 4) + j)) 3)))) 3 ((ready_l1 key 256) (Int.toNat ((fun j => o3_1 ((x6 - 4) + j)) 0)))) x111))
noncomputable def ready_l3 (key : List Int) (k2 : Nat) (x5 : Int) (x6 : Nat) (o3_1 : Nat → Int) : Nat → (Nat → Int)
 | 0 => o3_1
 | x111 + 1 => ready_l3_s key k2 x5 x6 o3_1 x111 (ready_l3 key k2 x5 x6 o3_1 x111)
noncomputable def ready_l4_s (key : List Int) (k2 : Nat) (x5 : Int) (x6 : Nat) (o3_1 : Nat → Int) (x111 : Nat) : (Nat → Int) → (Nat → Int) := fun o3_1_4 => upd o3_1_4 (x6 + x111) (ixor .u8 (o3_1_4 ((x6 + x111) - 32)) ((upd (upd (upd (upd (fun _ => 0) 0 ((ready_l1 key 256) (Int.toNat ((fun j => o3_1 ((x6 - 4) + j)) 0)))) 1 ((ready_l1 key 256) (Int.toNat ((fun j => o3_1 ((x6 - 4) + j)) 1)))) 2 ((ready_l1 key 256) (Int.toNat ((fun j => o3_1 ((x6 - 4) + j)) 2)))) 3 ((ready_l1 key 256) (Int.toNat ((fun j => o3_1 ((x6 - 4) + j)) 3)))) x111))
noncomputable def ready_l4 (key : List Int) (k2 : Nat) (x5 : Int) (x6 : Nat) (o3_1 : Nat → Int) : Nat → (Nat → Int)
 | 0 => o3_1
 | x111 + 1 => ready_l4_s key k2 x5 x6 o3_1 x111 (ready_l4 key k2 x5 x6 o3_1 x111)
noncomputable def ready_l5_s (key : List Int) (k2 : Nat) (x5 : Int) (x6 : Nat) (o3_1 : Nat → Int) (x111 : Nat) : (Nat → Int) → (Nat → Int) := fun o3_1_5 => upd o3_1_5 (x6 + x111) (ixor .u8 (o3_1_5 ((x6 + x111) - 32)) ((fun j => o3_1 ((x6 - 4) + j)) x111))
noncomputable def ready_l5 (key : List Int) (k2 : Nat) (x5 : Int) (x6 : Nat) (o3_1 : Nat → Int) : Nat → (Nat → Int)
 | 0 => o3_1
 | x111 + 1 => ready_l5_s key k2 x5 x6 o3_1 x111 (ready_l5 key k2 x5 x6 o3_1 x111)
noncomputable def ready_l2_s (key : List Int) (k2 : Nat) : (Int × Nat × (Nat → Int)) → (Int × Nat × (Nat → Int)) := fun z_ => match z_ with | (x5, x6, o3_1) => if (((x6 / 4) % 8 : Nat) : Int) = 0 then ((twice_m x5), x6 + 4, ready_l3 key k2 x5 x6 o3_1 4) else (if (((x6 / 4) % 8 : Nat) : Int) = 4 then (x5, x6 + 4, ready_l4 key k2 x5 x6 o3_1 4) else (x5, x6 + 4, ready_l5 key k2 x5 x6 o3_1 4))
noncomputable def ready_l2 (key : List Int) : Nat → Int × Nat × (Nat → Int)
 | 0 => (1, 32, updW (fun _ => 0) 0 (min key.length 240) (fun j => key.getD j 0))
 | k2 + 1 => ready_l2_s key k2 (ready_l2 key k2)
def ready_l2_c (key : List Int) : (Int × Nat × (Nat → Int)) → Prop := fun z_ => match z_ with | (x5, x6, o3_1) => ((x6 : Nat) : Int) < 240
noncomputable def ready_v (key : List Int) : (Nat → Int) × (Nat → Int) := (ready_l1 key 256, (ready_l2 key (lst fun j => ready_l2_c key (ready_l2 key j))).2.2)
noncomputable def ready_m (key : List Int) : (Nat → Int) × (Nat → Int) := shut (ready_v key)
theorem ready_e (key : List Int) : ready_m key = ready_v key := shut_eq _
theorem ready_rb (key : List Int) : Rb 256 (ready_m key).1 := by
 have key1 : ∀ n, Rb n (ready_l1 key n) := by
  intro n
  induction n with
  | zero => exact Rb.zero _
  | succ n ih => exact Rb.next ih (sbox_rg _)
 rw [ready_e]
 exact key1 256
noncomputable def c_ready (key : List Int) : Con := ⟨[.ls false [.int .u8] key], [], .cp 0 0, [(0, .ob 258 (chain [.ar .u8 256 ((ready_m key).1), .ar .u8 240 ((ready_m key).2)]))]⟩
set_option maxRecDepth 100000 in
set_option maxHeartbeats 1000000 in
theorem ready_ok (key : List Int) (hk : key.length = 32) (hb : By key) : ConOk Tryz.prog 182 (c_ready key) := by
 refine conOk_of rfl (nb := 0) Tryz.func182 rfl rfl Tryz.ntmps182 rfl rfl rfl fun g0 w0 ac gs ws hg0 hS => ?_
 have hlen0 : key.length ≤ 9223372036854775807 := hS.len 0 rfl
 have hS := hS.sp
 refine s0 [0, 2] [] 0 hS fun ac gs ws hS => ?_
 refine s0 [0, 2, 3] [0] 1 hS fun ac gs ws hS => ?_
 refine wp_seq (s0 [0, 2, 3, 11] [0] 1 hS fun ac gs ws hS => ?_)
 refine wp_block (loop_y (ι := Nat × (Nat → Int)) hg0 hS (fun z_ => match z_ with | (x11, o3_0) => 256 - x11) (fun z_ => match z_ with | (x11, o3_0) => [(0, .ls false [.int .u8] key), (2, .v (.pointer none)), (3, .cp 0 0), (11, .v (.int .i64 ((x11 : Nat) : Int)))]) (fun z_ => match z_ with | (x11, o3_0) => [(0, .ob 258 (chain [.ar .u8 256 o3_0, .ar .u8 240 (fun _ => 0)]))]) (fun z_ => match z_ with | (x11, o3_0) => (x11 ≤ 256) ∧ (o3_0 = ready_l1 key x11) ∧ (Rb x11 o3_0) ∧ True) 1 (0, fun _ => 0) [(0, 0)] ⟨(by omega), rfl, (Rb.zero _), trivial⟩ ?_)
 rintro ⟨x11, o3_0⟩ ac gs ws ⟨hx11, hq1, p1, _⟩ hS
 refine s0 [0, 2, 3, 11, 12] [0] 1 hS fun ac gs ws hS => ?_
 refine wp_seq ?_
 refine if_d (((x11 : Nat) : Int) < 256) hS (fun h1 => ?_) (fun h1 => ?_)
 ·refine wp_skip (then_n (wp_seq (wp_block (s0 [0, 2, 3, 4, 11] [0] 1 hS fun ac gs ws hS => ?_))))
  refine rA [(4, .call ⟨203, (c_sbox (IntKind.wrap .u8 ((x11 : Nat) : Int))), [], []⟩)] ⟨sbox_ok (IntKind.wrap .u8 ((x11 : Nat) : Int)), trivial⟩ (fun C => [ndC C 4, (0 : Int) ≤ ((x11 : Nat) : Int) ∧ (((x11 : Nat) : Int) : Int) < 256]) [0, 2, 3, 11] [0] 1 ⟨rfl, by omega, trivial⟩ hS fun ac gs ws hS => ?_
  refine block_n (then_n (rA [(0, .oi ((x11 + 1 : Nat) : Int))] trivial (fun _ => [iadd .i64 ((x11 : Nat) : Int) 1 = ((x11 + 1 : Nat) : Int)]) [0, 2, 3, 11] [0] 1 ⟨by rw [iadd64 (by omega) (by omega)]; omega, trivial⟩ hS fun ac gs ws hS => ?_))
  refine then_n ?_
  exact next_y hg0 hS (s := (x11, o3_0)) (x11 + 1, upd o3_0 x11 (sbox_m (IntKind.wrap .u8 ((x11 : Nat) : Int)))) [(0, 0)] (show 256 - (x11 + 1) < 256 - x11 from by omega) ⟨(by omega), (it_next (F := ready_l1 key) (st := ready_l1_s key) (fun _ => rfl) hq1 rfl), (Rb.next p1 (sbox_rg _)), trivial⟩
 ·have hScur := hS
  obtain rfl : 256 = x11 := by omega
  obtain rfl : ready_l1 key 256 = o3_0 := Eq.symm (congrArg (fun z => z) hq1)
  have hS := hScur
  clear hScur
  refine wp_exit (then_exit (then_exit (block_exit (then_n (sA [] trivial (fun _ => [bndP none none none 240 240, 240 ≤ 9223372036854775807, bl none 0 < bl none 240]) [2, 3] [0] 1 ⟨⟨by simp only [nnI] <;> omega, by simp only [nnI] <;> omega, by simp only [nnI] <;> omega, by simp, by simp only [bl] <;> omega, by simp only [bl] <;> omega, by simp only [bl] <;> omega⟩, by omega, by decide, trivial⟩ hS fun ac gs ws hS => ?_)))))
  refine s0 [2, 3, 5] [0] 1 hS fun ac gs ws hS => ?_
  refine wp_seq (s0 [2, 3, 5, 6] [0] 1 hS fun ac gs ws hS => ?_)
  refine wp_block (loop_y (ι := Nat × Int × Nat × (Nat → Int)) hg0 hS (fun z_ => match z_ with | (k2, x5, x6, o3_1) => 240 - x6) (fun z_ => match z_ with | (k2, x5, x6, o3_1) => [(2, .v (.pointer none)), (3, .cp 0 0), (5, .v (.int .u8 x5)), (6, .v (.int .i64 ((x6 : Nat) : Int)))]) (fun z_ => match z_ with | (k2, x5, x6, o3_1) => [(0, .ob 258 (chain [.ar .u8 256 (ready_l1 key 256), .ar .u8 240 o3_1]))]) (fun z_ => match z_ with | (k2, x5, x6, o3_1) => ((x5, x6, o3_1) = ready_l2 key k2) ∧ (∀ j, j < k2 → ready_l2_c key (ready_l2 key j)) ∧ (x6 % 4 = 0 ∧ 32 ≤ x6 ∧ x6 ≤ 240) ∧ (Rb 240 o3_1) ∧ True) 1 (0, 1, 32, updW (fun _ => 0) 0 (min key.length 240) (fun j => key.getD j 0)) [(0, 0)] ⟨rfl, (fun j h => absurd h (Nat.not_lt_zero j)), (by omega), (rb_key hb), trivial⟩ ?_)
  rintro ⟨k2, x5, x6, o3_1⟩ ac gs ws ⟨hq2, hj2, p2, p4, _⟩ hS
  refine wp_seq (s0 [2, 3, 5, 6, 30] [0] 1 hS fun ac gs ws hS => ?_)
  refine if_d (((x6 : Nat) : Int) < 240) hS (fun h2 => ?_) (fun h2 => ?_)
  ·refine wp_skip (then_n (wp_seq (wp_block (sB [(7, .frz), (8, .at 1 (x6 - 4))] [(4, .oi ((x6 - 4 : Nat) : Int))] trivial (fun _ => [isub .i64 ((x6 : Nat) : Int) 4 = ((x6 - 4 : Nat) : Int), bndP (some ((x6 - 4 : Nat) : Int)) (some ((x6 : Nat) : Int)) none 240 240, 240 ≤ 9223372036854775807, bl (some ((x6 - 4 : Nat) : Int)) 0 < bl none 240, 4 ≤ x6 - (x6 - 4), 256 + (x6 - 4) = szS (([.ar .u8 256 (ready_l1 key 256), .ar .u8 240 o3_1] : List D).take 1) + (x6 - 4), (x6 - 4) + 4 ≤ 240]) [2, 3, 5, 6, 7] [0, 1] 2 ⟨by rw [isub64 (by omega) (by omega)]; omega, ⟨by simp only [nnI] <;> omega, by simp only [nnI] <;> omega, by simp only [nnI] <;> omega, by simp, by simp only [bl] <;> omega, by simp only [bl] <;> omega, by simp only [bl] <;> omega⟩, by omega, by simp only [bl] <;> omega, by omega, rfl, by omega, trivial⟩ hS fun ac gs ws hS => ?_))))
   refine wp_seq (sA [(1, .oi ((x6 / 4 : Nat) : Int)), (2, .oi (((x6 / 4) % 8 : Nat) : Int))] trivial (fun _ => [iquo .i64 ((x6 : Nat) : Int) 4 = ((x6 / 4 : Nat) : Int), (4 : Int) ≠ 0, irem ((x6 / 4 : Nat) : Int) 8 = (((x6 / 4) % 8 : Nat) : Int), (8 : Int) ≠ 0]) [2, 3, 5, 6, 7, 44] [0, 1] 2 ⟨by rw [iquo64 (by omega) (by omega) (by omega)]; omega, by omega, by rw [irem64 (by omega)]; omega, by omega, trivial⟩ hS fun ac gs ws hS => ?_)
   refine wp_block (s0 [2, 3, 5, 6, 7, 44, 45] [0, 1] 2 hS fun ac gs ws hS => ?_)
   refine if_d ((((x6 / 4) % 8 : Nat) : Int) = 0) hS (fun h3 => ?_) (fun h3 => ?_)
   ·refine wp_seq ?_
    have hr0 : 0 ≤ (fun j => o3_1 (x6 - 4 + j)) 0 ∧ (fun j => o3_1 (x6 - 4 + j)) 0 < 256 := p4 (x6 - 4 + 0) (by omega)
    have hr1 : 0 ≤ (fun j => o3_1 (x6 - 4 + j)) 1 ∧ (fun j => o3_1 (x6 - 4 + j)) 1 < 256 := p4 (x6 - 4 + 1) (by omega)
    have hr2 : 0 ≤ (fun j => o3_1 (x6 - 4 + j)) 2 ∧ (fun j => o3_1 (x6 - 4 + j)) 2 < 256 := p4 (x6 - 4 + 2) (by omega)
    have hr3 : 0 ≤ (fun j => o3_1 (x6 - 4 + j)) 3 ∧ (fun j => o3_1 (x6 - 4 + j)) 3 < 256 := p4 (x6 - 4 + 3) (by omega)
    refine rA [] trivial (fun _ => [(0 : Int) ≤ 1 ∧ (1 : Int) < 4, (0 : Int) ≤ ((fun j => o3_1 ((x6 - 4) + j)) 1) ∧ (((fun j => o3_1 ((x6 - 4) + j)) 1) : Int) < 256, (0 : Int) ≤ 2 ∧ (2 : Int) < 4, (0 : Int) ≤ ((fun j => o3_1 ((x6 - 4) + j)) 2) ∧ (((fun j => o3_1 ((x6 - 4) + j)) 2) : Int) < 256, (0 : Int) ≤ 3 ∧ (3 : Int) < 4, (0 : Int) ≤ ((fun j => o3_1 ((x6 - 4) + j)) 3) ∧ (((fun j => o3_1 ((x6 - 4) + j)) 3) : Int) < 256, (0 : Int) ≤ 0 ∧ (0 : Int) < 4, (0 : Int) ≤ ((fun j => o3_1 ((x6 - 4) + j)) 0) ∧ (((fun j => o3_1 ((x6 - 4) + j)) 0) : Int) < 256]) [2, 3, 5, 6, 7] [0, 1] 2 ⟨by omega, by omega, by omega, by omega, by omega, by omega, by omega, by omega, trivial⟩ hS fun ac gs ws hS => ?_
    refine then_n (rA [(1, .call ⟨204, (c_twice x5), [], []⟩)] ⟨twice_ok x5, trivial⟩ (fun C => [ndC C 1]) [2, 3, 5, 6, 7] [0, 1] 2 ⟨rfl, trivial⟩ hS fun ac gs ws hS => ?_)
    refine block_n (then_n (s0 [2, 3, 5, 6, 7, 111] [0, 1] 2 hS fun ac gs ws hS => ?_))
    refine wp_block (loop_y (ι := Nat × (Nat → Int)) hg0 hS (fun z_ => match z_ with | (x111, o3_1_3) => 4 - x111) (fun z_ => match z_ with | (x111, o3_1_3) => [(2, .v (.pointer none)), (3, .cp 0 0), (5, .v (.int .u8 (twice_m x5))), (6, .v (.int .i64 ((x6 : Nat) : Int))), (7, .cp 1 0), (111, .v (.int .i64 ((x111 : Nat) : Int)))]) (fun z_ => match z_ with | (x111, o3_1_3) => [(0, .ob 258 (chain [.ar .u8 256 (ready_l1 key 256), .ar .u8 240 o3_1_3])), (1, .ob 260 (chain [.ar .u8 4 (upd (upd (upd (upd (fun _ => 0) 0 (ixor .u8 ((ready_l1 key 256) (Int.toNat ((fun j => o3_1 ((x6 - 4) + j)) 1))) x5)) 1 ((ready_l1 key 256) (Int.toNat ((fun j => o3_1 ((x6 - 4) + j)) 2)))) 2 ((ready_l1 key 256) (Int.toNat ((fun j => o3_1 ((x6 - 4) + j)) 3)))) 3 ((ready_l1 key 256) (Int.toNat ((fun j => o3_1 ((x6 - 4) + j)) 0))))]))]) (fun z_ => match z_ with | (x111, o3_1_3) => (x111 ≤ 4) ∧ (o3_1_3 = ready_l3 key k2 x5 x6 o3_1 x111) ∧ (Rb 240 o3_1_3) ∧ True) 2 (0, o3_1) [(0, 0), (1, 1)] ⟨(by omega), rfl, p4, trivial⟩ ?_)
    rintro ⟨x111, o3_1_3⟩ ac gs ws ⟨hx111, hq3, p5, _⟩ hS
    refine s0 [2, 3, 5, 6, 7, 111, 112] [0, 1] 2 hS fun ac gs ws hS => ?_
    refine wp_seq ?_
    refine if_d (((x111 : Nat) : Int) < 4) hS (fun h4 => ?_) (fun h4 => ?_)
    ·refine wp_skip (then_n (wp_seq (wp_block (s0 [2, 3, 5, 6, 7, 8, 111] [0, 1] 2 hS fun ac gs ws hS => ?_))))
     refine rA [(3, .oi ((x6 + x111 : Nat) : Int)), (7, .oi ((x6 + x111 : Nat) : Int)), (8, .oi (((x6 + x111) - 32 : Nat) : Int))] trivial (fun _ => [iadd .i64 ((x6 : Nat) : Int) ((x111 : Nat) : Int) = ((x6 + x111 : Nat) : Int), iadd .i64 ((x6 : Nat) : Int) ((x111 : Nat) : Int) = ((x6 + x111 : Nat) : Int), isub .i64 ((x6 + x111 : Nat) : Int) 32 = (((x6 + x111) - 32 : Nat) : Int), (0 : Int) ≤ (((x6 + x111) - 32 : Nat) : Int) ∧ ((((x6 + x111) - 32 : Nat) : Int) : Int) < 240, (0 : Int) ≤ ((x111 : Nat) : Int) ∧ (((x111 : Nat) : Int) : Int) < 4, (0 : Int) ≤ ((x6 + x111 : Nat) : Int) ∧ (((x6 + x111 : Nat) : Int) : Int) < 240]) [2, 3, 5, 6, 7, 111] [0, 1] 2 ⟨by rw [iadd64 (by omega) (by omega)]; omega, by rw [iadd64 (by omega) (by omega)]; omega, by rw [isub64 (by omega) (by omega)]; omega, by omega, by omega, by omega, trivial⟩ hS fun ac gs ws hS => ?_
     refine block_n (then_n (rA [(0, .oi ((x111 + 1 : Nat) : Int))] trivial (fun _ => [iadd .i64 ((x111 : Nat) : Int) 1 = ((x111 + 1 : Nat) : Int)]) [2, 3, 5, 6, 7, 111] [0, 1] 2 ⟨by rw [iadd64 (by omega) (by omega)]; omega, trivial⟩ hS fun ac gs ws hS => ?_))
     refine then_n ?_
     exact next_y hg0 hS (s := (x111, o3_1_3)) (x111 + 1, upd o3_1_3 (x6 + x111) (ixor .u8 (o3_1_3 ((x6 + x111) - 32)) ((upd (upd (upd (upd (fun _ => 0) 0 (ixor .u8 ((ready_l1 key 256) (Int.toNat ((fun j => o3_1 ((x6 - 4) + j)) 1))) x5)) 1 ((ready_l1 key 256) (Int.toNat ((fun j => o3_1 ((x6 - 4) + j)) 2)))) 2 ((ready_l1 key 256) (Int.toNat ((fun j => o3_1 ((x6 - 4) + j)) 3)))) 3 ((ready_l1 key 256) (Int.toNat ((fun j => o3_1 ((x6 - 4) + j)) 0)))) x111))) [(0, 0), (1, 1)] (show 4 - (x111 + 1) < 4 - x111 from by omega) ⟨(by omega), (it_next (F := ready_l3 key k2 x5 x6 o3_1) (st := ready_l3_s key k2 x5 x6 o3_1) (fun _ => rfl) hq3 rfl), (Rb.set p5 _ (xor_rg _ _)), trivial⟩
    ·have hScur := hS
     obtain rfl : 4 = x111 := by omega
     obtain rfl : ready_l3 key k2 x5 x6 o3_1 4 = o3_1_3 := Eq.symm (congrArg (fun z => z) hq3)
     have hS := hScur
     clear hScur
     refine wp_exit (then_exit (then_exit (block_exit (block_n (then_n (rA [(1, .oi ((x6 + 4 : Nat) : Int))] trivial (fun _ => [iadd .i64 ((x6 : Nat) : Int) 4 = ((x6 + 4 : Nat) : Int)]) [2, 3, 5, 6] [0] 2 ⟨by rw [iadd64 (by omega) (by omega)]; omega, trivial⟩ hS fun ac gs ws hS => ?_))))))
     refine then_n ?_
     exact next_y hg0 hS (s := (k2, x5, x6, o3_1)) (k2 + 1, (twice_m x5), x6 + 4, ready_l3 key k2 x5 x6 o3_1 4) [(0, 0)] (show 240 - (x6 + 4) < 240 - x6 from by omega) ⟨(it_next (F := ready_l2 key) (st := ready_l2_s key) (fun _ => rfl) hq2 (Eq.symm (if_pos h3))), (lst_next hj2 (by rw [← hq2]; exact h2)), (by omega), p5, trivial⟩
   ·refine s0 [2, 3, 5, 6, 7, 80] [0, 1] 2 hS fun ac gs ws hS => ?_
    refine if_d ((((x6 / 4) % 8 : Nat) : Int) = 4) hS (fun h5 => ?_) (fun h5 => ?_)
    ·have hr0 : 0 ≤ (fun j => o3_1 (x6 - 4 + j)) 0 ∧ (fun j => o3_1 (x6 - 4 + j)) 0 < 256 := p4 (x6 - 4 + 0) (by omega)
     have hr1 : 0 ≤ (fun j => o3_1 (x6 - 4 + j)) 1 ∧ (fun j => o3_1 (x6 - 4 + j)) 1 < 256 := p4 (x6 - 4 + 1) (by omega)
     have hr2 : 0 ≤ (fun j => o3_1 (x6 - 4 + j)) 2 ∧ (fun j => o3_1 (x6 - 4 + j)) 2 < 256 := p4 (x6 - 4 + 2) (by omega)
     have hr3 : 0 ≤ (fun j => o3_1 (x6 - 4 + j)) 3 ∧ (fun j => o3_1 (x6 - 4 + j)) 3 < 256 := p4 (x6 - 4 + 3) (by omega)
     refine rA [] trivial (fun _ => [(0 : Int) ≤ 0 ∧ (0 : Int) < 4, (0 : Int) ≤ ((fun j => o3_1 ((x6 - 4) + j)) 0) ∧ (((fun j => o3_1 ((x6 - 4) + j)) 0) : Int) < 256, (0 : Int) ≤ 1 ∧ (1 : Int) < 4, (0 : Int) ≤ ((fun j => o3_1 ((x6 - 4) + j)) 1) ∧ (((fun j => o3_1 ((x6 - 4) + j)) 1) : Int) < 256, (0 : Int) ≤ 2 ∧ (2 : Int) < 4, (0 : Int) ≤ ((fun j => o3_1 ((x6 - 4) + j)) 2) ∧ (((fun j => o3_1 ((x6 - 4) + j)) 2) : Int) < 256, (0 : Int) ≤ 3 ∧ (3 : Int) < 4, (0 : Int) ≤ ((fun j => o3_1 ((x6 - 4) + j)) 3) ∧ (((fun j => o3_1 ((x6 - 4) + j)) 3) : Int) < 256]) [2, 3, 5, 6, 7] [0, 1] 2 ⟨by omega, by omega, by omega, by omega, by omega, by omega, by omega, by omega, trivial⟩ hS fun ac gs ws hS => ?_
     refine block_n (then_n (s0 [2, 3, 5, 6, 7, 111] [0, 1] 2 hS fun ac gs ws hS => ?_))
     refine wp_block (loop_y (ι := Nat × (Nat → Int)) hg0 hS (fun z_ => match z_ with | (x111, o3_1_4) => 4 - x111) (fun z_ => match z_ with | (x111, o3_1_4) => [(2, .v (.pointer none)), (3, .cp 0 0), (5, .v (.int .u8 x5)), (6, .v (.int .i64 ((x6 : Nat) : Int))), (7, .cp 1 0), (111, .v (.int .i64 ((x111 : Nat) : Int)))]) (fun z_ => match z_ with | (x111, o3_1_4) => [(0, .ob 258 (chain [.ar .u8 256 (ready_l1 key 256), .ar .u8 240 o3_1_4])), (1, .ob 260 (chain [.ar .u8 4 (upd (upd (upd (upd (fun _ => 0) 0 ((ready_l1 key 256) (Int.toNat ((fun j => o3_1 ((x6 - 4) + j)) 0)))) 1 ((ready_l1 key 256) (Int.toNat ((fun j => o3_1 ((x6 - 4) + j)) 1)))) 2 ((ready_l1 key 256) (Int.toNat ((fun j => o3_1 ((x6 - 4) + j)) 2)))) 3 ((ready_l1 key 256) (Int.toNat ((fun j => o3_1 ((x6 - 4) + j)) 3))))]))]) (fun z_ => match z_ with | (x111, o3_1_4) => (x111 ≤ 4) ∧ (o3_1_4 = ready_l4 key k2 x5 x6 o3_1 x111) ∧ (Rb 240 o3_1_4) ∧ True) 2 (0, o3_1) [(0, 0), (1, 1)] ⟨(by omega), rfl, p4, trivial⟩ ?_)
     rintro ⟨x111, o3_1_4⟩ ac gs ws ⟨hx111, hq4, p5, _⟩ hS
     refine s0 [2, 3, 5, 6, 7, 111, 112] [0, 1] 2 hS fun ac gs ws hS => ?_
     refine wp_seq ?_
     refine if_d (((x111 : Nat) : Int) < 4) hS (fun h6 => ?_) (fun h6 => ?_)
     ·refine wp_skip (then_n (wp_seq (wp_block (s0 [2, 3, 5, 6, 7, 8, 111] [0, 1] 2 hS fun ac gs ws hS => ?_))))
      refine rA [(3, .oi ((x6 + x111 : Nat) : Int)), (7, .oi ((x6 + x111 : Nat) : Int)), (8, .oi (((x6 + x111) - 32 : Nat) : Int))] trivial (fun _ => [iadd .i64 ((x6 : Nat) : Int) ((x111 : Nat) : Int) = ((x6 + x111 : Nat) : Int), iadd .i64 ((x6 : Nat) : Int) ((x111 : Nat) : Int) = ((x6 + x111 : Nat) : Int), isub .i64 ((x6 + x111 : Nat) : Int) 32 = (((x6 + x111) - 32 : Nat) : Int), (0 : Int) ≤ (((x6 + x111) - 32 : Nat) : Int) ∧ ((((x6 + x111) - 32 : Nat) : Int) : Int) < 240, (0 : Int) ≤ ((x111 : Nat) : Int) ∧ (((x111 : Nat) : Int) : Int) < 4, (0 : Int) ≤ ((x6 + x111 : Nat) : Int) ∧ (((x6 + x111 : Nat) : Int) : Int) < 240]) [2, 3, 5, 6, 7, 111] [0, 1] 2 ⟨by rw [iadd64 (by omega) (by omega)]; omega, by rw [iadd64 (by omega) (by omega)]; omega, by rw [isub64 (by omega) (by omega)]; omega, by omega, by omega, by omega, trivial⟩ hS fun ac gs ws hS => ?_
      refine block_n (then_n (rA [(0, .oi ((x111 + 1 : Nat) : Int))] trivial (fun _ => [iadd .i64 ((x111 : Nat) : Int) 1 = ((x111 + 1 : Nat) : Int)]) [2, 3, 5, 6, 7, 111] [0, 1] 2 ⟨by rw [iadd64 (by omega) (by omega)]; omega, trivial⟩ hS fun ac gs ws hS => ?_))
      refine then_n ?_
      exact next_y hg0 hS (s := (x111, o3_1_4)) (x111 + 1, upd o3_1_4 (x6 + x111) (ixor .u8 (o3_1_4 ((x6 + x111) - 32)) ((upd (upd (upd (upd (fun _ => 0) 0 ((ready_l1 key 256) (Int.toNat ((fun j => o3_1 ((x6 - 4) + j)) 0)))) 1 ((ready_l1 key 256) (Int.toNat ((fun j => o3_1 ((x6 - 4) + j)) 1)))) 2 ((ready_l1 key 256) (Int.toNat ((fun j => o3_1 ((x6 - 4) + j)) 2)))) 3 ((ready_l1 key 256) (Int.toNat ((fun j => o3_1 ((x6 - 4) + j)) 3)))) x111))) [(0, 0), (1, 1)] (show 4 - (x111 + 1) < 4 - x111 from by omega) ⟨(by omega), (it_next (F := ready_l4 key k2 x5 x6 o3_1) (st := ready_l4_s key k2 x5 x6 o3_1) (fun _ => rfl) hq4 rfl), (Rb.set p5 _ (xor_rg _ _)), trivial⟩
     ·have hScur := hS
      obtain rfl : 4 = x111 := by omega
      obtain rfl : ready_l4 key k2 x5 x6 o3_1 4 = o3_1_4 := Eq.symm (congrArg (fun z => z) hq4)
      have hS := hScur
      clear hScur
      refine wp_exit (then_exit (then_exit (block_exit (block_n (then_n (rA [(1, .oi ((x6 + 4 : Nat) : Int))] trivial (fun _ => [iadd .i64 ((x6 : Nat) : Int) 4 = ((x6 + 4 : Nat) : Int)]) [2, 3, 5, 6] [0] 2 ⟨by rw [iadd64 (by omega) (by omega)]; omega, trivial⟩ hS fun ac gs ws hS => ?_))))))
      refine then_n ?_
      exact next_y hg0 hS (s := (k2, x5, x6, o3_1)) (k2 + 1, x5, x6 + 4, ready_l4 key k2 x5 x6 o3_1 4) [(0, 0)] (show 240 - (x6 + 4) < 240 - x6 from by omega) ⟨(it_next (F := ready_l2 key) (st := ready_l2_s key) (fun _ => rfl) hq2 (Eq.symm ((if_neg h3).trans (if_pos h5)))), (lst_next hj2 (by rw [← hq2]; exact h2)), (by omega), p5, trivial⟩
    ·refine wp_skip (block_n (then_n (s0 [2, 3, 5, 6, 7, 111] [0, 1] 2 hS fun ac gs ws hS => ?_)))
     refine wp_block (loop_y (ι := Nat × (Nat → Int)) hg0 hS (fun z_ => match z_ with | (x111, o3_1_5) => 4 - x111) (fun z_ => match z_ with | (x111, o3_1_5) => [(2, .v (.pointer none)), (3, .cp 0 0), (5, .v (.int .u8 x5)), (6, .v (.int .i64 ((x6 : Nat) : Int))), (7, .cp 1 0), (111, .v (.int .i64 ((x111 : Nat) : Int)))]) (fun z_ => match z_ with | (x111, o3_1_5) => [(0, .ob 258 (chain [.ar .u8 256 (ready_l1 key 256), .ar .u8 240 o3_1_5])), (1, .ob 260 (chain [.ar .u8 4 (fun j => o3_1 ((x6 - 4) + j))]))]) (fun z_ => match z_ with | (x111, o3_1_5) => (x111 ≤ 4) ∧ (o3_1_5 = ready_l5 key k2 x5 x6 o3_1 x111) ∧ (Rb 240 o3_1_5) ∧ True) 2 (0, o3_1) [(0, 0), (1, 1)] ⟨(by omega), rfl, p4, trivial⟩ ?_)
     rintro ⟨x111, o3_1_5⟩ ac gs ws ⟨hx111, hq5, p5, _⟩ hS
     refine s0 [2, 3, 5, 6, 7, 111, 112] [0, 1] 2 hS fun ac gs ws hS => ?_
     refine wp_seq ?_
     refine if_d (((x111 : Nat) : Int) < 4) hS (fun h7 => ?_) (fun h7 => ?_)
     ·refine wp_skip (then_n (wp_seq (wp_block (s0 [2, 3, 5, 6, 7, 8, 111] [0, 1] 2 hS fun ac gs ws hS => ?_))))
      refine rA [(3, .oi ((x6 + x111 : Nat) : Int)), (7, .oi ((x6 + x111 : Nat) : Int)), (8, .oi (((x6 + x111) - 32 : Nat) : Int))] trivial (fun _ => [iadd .i64 ((x6 : Nat) : Int) ((x111 : Nat) : Int) = ((x6 + x111 : Nat) : Int), iadd .i64 ((x6 : Nat) : Int) ((x111 : Nat) : Int) = ((x6 + x111 : Nat) : Int), isub .i64 ((x6 + x111 : Nat) : Int) 32 = (((x6 + x111) - 32 : Nat) : Int), (0 : Int) ≤ (((x6 + x111) - 32 : Nat) : Int) ∧ ((((x6 + x111) - 32 : Nat) : Int) : Int) < 240, (0 : Int) ≤ ((x111 : Nat) : Int) ∧ (((x111 : Nat) : Int) : Int) < 4, (0 : Int) ≤ ((x6 + x111 : Nat) : Int) ∧ (((x6 + x111 : Nat) : Int) : Int) < 240]) [2, 3, 5, 6, 7, 111] [0, 1] 2 ⟨by rw [iadd64 (by omega) (by omega)]; omega, by rw [iadd64 (by omega) (by omega)]; omega, by rw [isub64 (by omega) (by omega)]; omega, by omega, by omega, by omega, trivial⟩ hS fun ac gs ws hS => ?_
      refine block_n (then_n (rA [(0, .oi ((x111 + 1 : Nat) : Int))] trivial (fun _ => [iadd .i64 ((x111 : Nat) : Int) 1 = ((x111 + 1 : Nat) : Int)]) [2, 3, 5, 6, 7, 111] [0, 1] 2 ⟨by rw [iadd64 (by omega) (by omega)]; omega, trivial⟩ hS fun ac gs ws hS => ?_))
      refine then_n ?_
      exact next_y hg0 hS (s := (x111, o3_1_5)) (x111 + 1, upd o3_1_5 (x6 + x111) (ixor .u8 (o3_1_5 ((x6 + x111) - 32)) ((fun j => o3_1 ((x6 - 4) + j)) x111))) [(0, 0), (1, 1)] (show 4 - (x111 + 1) < 4 - x111 from by omega) ⟨(by omega), (it_next (F := ready_l5 key k2 x5 x6 o3_1) (st := ready_l5_s key k2 x5 x6 o3_1) (fun _ => rfl) hq5 rfl), (Rb.set p5 _ (xor_rg _ _)), trivial⟩
     ·have hScur := hS
      obtain rfl : 4 = x111 := by omega
      obtain rfl : ready_l5 key k2 x5 x6 o3_1 4 = o3_1_5 := Eq.symm (congrArg (fun z => z) hq5)
      have hS := hScur
      clear hScur
      refine wp_exit (then_exit (then_exit (block_exit (block_n (then_n (rA [(1, .oi ((x6 + 4 : Nat) : Int))] trivial (fun _ => [iadd .i64 ((x6 : Nat) : Int) 4 = ((x6 + 4 : Nat) : Int)]) [2, 3, 5, 6] [0] 2 ⟨by rw [iadd64 (by omega) (by omega)]; omega, trivial⟩ hS fun ac gs ws hS => ?_))))))
      refine then_n ?_
      exact next_y hg0 hS (s := (k2, x5, x6, o3_1)) (k2 + 1, x5, x6 + 4, ready_l5 key k2 x5 x6 o3_1 4) [(0, 0)] (show 240 - (x6 + 4) < 240 - x6 from by omega) ⟨(it_next (F := ready_l2 key) (st := ready_l2_s key) (fun _ => rfl) hq2 (Eq.symm ((if_neg h3).trans (if_neg h5)))), (lst_next hj2 (by rw [← hq2]; exact h2)), (by omega), p5, trivial⟩
  ·have hScur := hS
   obtain rfl := lst_eq (P := fun j => ready_l2_c key (ready_l2 key j)) (by rw [← hq2]; first | exact h2 | exact not_not_intro h2) hj2
   obtain rfl : (ready_l2 key (lst fun j => ready_l2_c key (ready_l2 key j))).1 = x5 := Eq.symm (congrArg (fun z => z.1) hq2)
   obtain rfl : (ready_l2 key (lst fun j => ready_l2_c key (ready_l2 key j))).2.1 = x6 := Eq.symm (congrArg (fun z => z.2.1) hq2)
   obtain rfl : (ready_l2 key (lst fun j => ready_l2_c key (ready_l2 key j))).2.2 = o3_1 := Eq.symm (congrArg (fun z => z.2.2) hq2)
   have hS := hScur
   clear hScur
   refine wp_exit (then_exit (then_exit (block_exit (then_n (s0 [2] [0] 1 hS fun ac gs ws hS => ?_)))))
   refine wp_ret ?_
   have hM : ready_m key = (ready_l1 key 256, (ready_l2 key (lst fun j => ready_l2_c key (ready_l2 key j))).2.2) := ready_e key
   exact fin_y rfl (.inr rfl) hS [.cp 0 0] [(0, some (.ob 258 (chain [.ar .u8 256 (ready_l1 key 256), .ar .u8 240 ((ready_l2 key (lst fun j => ready_l2_c key (ready_l2 key j))).2.2)])))] rfl (by show H1Ok _ [(0, .ob 258 (chain [.ar .u8 256 ((ready_m key).1), .ar .u8 240 ((ready_m key).2)]))] true; rw [hM]; first | (simp only []; exact ⟨rfl, trivial⟩) | exact ⟨rfl, trivial⟩)

noncomputable def mixN (t : Nat → Int) : Nat → Nat → Int
 | 0 => t
 | i + 1 => if i % 4 = 3 then updW (mixN t i) (i - 3) (min ((List.range 4).map (mixed_m (mixN t i (i - 3)) (mixN t i (i - 2)) (mixN t i (i - 1)) (mixN t i i))).length (16 - (i - 3))) (fun j => ((List.range 4).map (mixed_m (mixN t i (i - 3)) (mixN t i (i - 2)) (mixN t i (i - 1)) (mixN t i i))).getD j 0) else mixN t i
noncomputable def block_l1_s (f g s : Nat → Int) (x12 : Nat) : (Nat → Int) → (Nat → Int) := fun o3_0 => upd o3_0 x12 (ixor .u8 (o3_0 x12) (g x12))
noncomputable def block_l1 (f g s : Nat → Int) : Nat → (Nat → Int)
 | 0 => s
 | x12 + 1 => block_l1_s f g s x12 (block_l1 f g s x12)
noncomputable def block_l3_s (f g s : Nat → Int) (k2 x6 : Nat) (o3_0 : Nat → Int) (x31 : Nat) : (Nat → Int) → (Nat → Int) := fun o7_0 => upd o7_0 x31 (f (Int.toNat (o3_0 ((x31 + ((x31 % 4) * 4)) % 16))))
noncomputable def block_l3 (f g s : Nat → Int) (k2 x6 : Nat) (o3_0 : Nat → Int) : Nat → (Nat → Int)
 | 0 => fun _ => 0
 | x31 + 1 => block_l3_s f g s k2 x6 o3_0 x31 (block_l3 f g s k2 x6 o3_0 x31)
noncomputable def block_l5_s (f g s : Nat → Int) (k2 x6 : Nat) (o3_0 : Nat → Int) (x78 : Nat) : (Nat → Int) → (Nat → Int) := fun o3_0_5 => upd o3_0_5 x78 (ixor .u8 ((block_l3 f g s k2 x6 o3_0 16) x78) (g ((x6 * 16) + x78)))
noncomputable def block_l5 (f g s : Nat → Int) (k2 x6 : Nat) (o3_0 : Nat → Int) : Nat → (Nat → Int)
 | 0 => o3_0
 | x78 + 1 => block_l5_s f g s k2 x6 o3_0 x78 (block_l5 f g s k2 x6 o3_0 x78)
noncomputable def block_l6_s (f g s : Nat → Int) (k2 x6 : Nat) (o3_0 : Nat → Int) (x78 : Nat) : (Nat → Int) → (Nat → Int) := fun o3_0_6 => upd o3_0_6 x78 (ixor .u8 ((mixN (block_l3 f g s k2 x6 o3_0 16) 16) x78) (g ((x6 * 16) + x78)))
noncomputable def block_l6 (f g s : Nat → Int) (k2 x6 : Nat) (o3_0 : Nat → Int) : Nat → (Nat → Int)
 | 0 => o3_0
 | x78 + 1 => block_l6_s f g s k2 x6 o3_0 x78 (block_l6 f g s k2 x6 o3_0 x78)
noncomputable def block_l2_s (f g s : Nat → Int) (k2 : Nat) : (Nat × (Nat → Int)) → (Nat × (Nat → Int)) := fun z_ => match z_ with | (x6, o3_0) => if ((x6 : Nat) : Int) < 14 then (x6 + 1, block_l6 f g s k2 x6 o3_0 16) else (x6 + 1, block_l5 f g s k2 x6 o3_0 16)
noncomputable def block_l2 (f g s : Nat → Int) : Nat → Nat × (Nat → Int)
 | 0 => (1, block_l1 f g s 16)
 | k2 + 1 => block_l2_s f g s k2 (block_l2 f g s k2)
def block_l2_c (f g s : Nat → Int) : (Nat × (Nat → Int)) → Prop := fun z_ => match z_ with | (x6, o3_0) => ((x6 : Nat) : Int) ≤ 14
noncomputable def block_v (f g s : Nat → Int) : (Nat → Int) := (block_l2 f g s (lst fun j => block_l2_c f g s (block_l2 f g s j))).2
noncomputable def block_m (f g s : Nat → Int) : (Nat → Int) := shut (block_v f g s)
theorem block_e (f g s : Nat → Int) : block_m f g s = block_v f g s := shut_eq _
noncomputable def c_block (f g s : Nat → Int) : Con := ⟨[.cp 0 0, .ar .u8 16 s], [(0, .ob 258 (chain [.ar .u8 256 f, .ar .u8 240 g]))], .ar .u8 16 (block_m f g s), [(0, .ob 258 (chain [.ar .u8 256 f, .ar .u8 240 g]))]⟩
set_option maxRecDepth 100000 in
set_option maxHeartbeats 1000000 in
theorem block_ok (f g s : Nat → Int) (hf : Rb 256 f) : ConOk Tryz.prog 183 (c_block f g s) := by
 refine conOk_of rfl (nb := 1) Tryz.func183 rfl rfl Tryz.ntmps183 rfl rfl rfl fun g0 w0 ac gs ws hg0 hS => ?_
 have hS := hS.sp
 refine s0 [0, 3, 4] [0, 1, 2] 3 hS fun ac gs ws hS => ?_
 refine wp_seq (s0 [0, 3, 4, 12] [0, 1, 2] 3 hS fun ac gs ws hS => ?_)
 refine wp_block (loop_y (ι := Nat × (Nat → Int)) hg0 hS (fun z_ => match z_ with | (x12, o3_0) => 16 - x12) (fun z_ => match z_ with | (x12, o3_0) => [(0, .cp 0 0), (3, .cp 1 0), (4, .cp 2 0), (12, .v (.int .i64 ((x12 : Nat) : Int)))]) (fun z_ => match z_ with | (x12, o3_0) => [(0, .ob 258 (chain [.ar .u8 256 f, .ar .u8 240 g])), (1, .ob 241 (chain [.ar .u8 16 o3_0])), (2, .ob 241 (chain [.ar .u8 16 (fun _ => 0)]))]) (fun z_ => match z_ with | (x12, o3_0) => (x12 ≤ 16) ∧ (o3_0 = block_l1 f g s x12) ∧ (Rb x12 o3_0) ∧ True) 3 (0, s) [(0, 0), (1, 1), (2, 2)] ⟨(by omega), rfl, (Rb.zero _), trivial⟩ ?_)
 rintro ⟨x12, o3_0⟩ ac gs ws ⟨hx12, hq1, p1, _⟩ hS
 refine s0 [0, 3, 4, 12, 13] [0, 1, 2] 3 hS fun ac gs ws hS => ?_
 refine wp_seq ?_
 refine if_d (((x12 : Nat) : Int) < 16) hS (fun h1 => ?_) (fun h1 => ?_)
 ·refine wp_skip (then_n (wp_seq (wp_block (s0 [0, 3, 4, 5, 12] [0, 1, 2] 3 hS fun ac gs ws hS => ?_))))
  refine rA [] trivial (fun _ => [(0 : Int) ≤ ((x12 : Nat) : Int) ∧ (((x12 : Nat) : Int) : Int) < 16, (0 : Int) ≤ ((x12 : Nat) : Int) ∧ (((x12 : Nat) : Int) : Int) < 240, (0 : Int) ≤ ((x12 : Nat) : Int) ∧ (((x12 : Nat) : Int) : Int) < 16]) [0, 3, 4, 12] [0, 1, 2] 3 ⟨by omega, by omega, by omega, trivial⟩ hS fun ac gs ws hS => ?_
  refine block_n (then_n (rA [(0, .oi ((x12 + 1 : Nat) : Int))] trivial (fun _ => [iadd .i64 ((x12 : Nat) : Int) 1 = ((x12 + 1 : Nat) : Int)]) [0, 3, 4, 12] [0, 1, 2] 3 ⟨by rw [iadd64 (by omega) (by omega)]; omega, trivial⟩ hS fun ac gs ws hS => ?_))
  refine then_n ?_
  exact next_y hg0 hS (s := (x12, o3_0)) (x12 + 1, upd o3_0 x12 (ixor .u8 (o3_0 x12) (g x12))) [(0, 0), (1, 1), (2, 2)] (show 16 - (x12 + 1) < 16 - x12 from by omega) ⟨(by omega), (it_next (F := block_l1 f g s) (st := block_l1_s f g s) (fun _ => rfl) hq1 rfl), (Rb.next p1 (xor_rg _ _)), trivial⟩
 ·have hScur := hS
  obtain rfl : 16 = x12 := by omega
  obtain rfl : block_l1 f g s 16 = o3_0 := Eq.symm (congrArg (fun z => z) hq1)
  have hS := hScur
  clear hScur
  refine wp_exit (then_exit (then_exit (block_exit (then_n (wp_seq (s0 [0, 3, 4, 6] [0, 1, 2] 3 hS fun ac gs ws hS => ?_))))))
  refine wp_block (loop_y (ι := Nat × Nat × (Nat → Int)) hg0 hS (fun z_ => match z_ with | (k2, x6, o3_0) => 15 - x6) (fun z_ => match z_ with | (k2, x6, o3_0) => [(0, .cp 0 0), (3, .cp 1 0), (4, .cp 2 0), (6, .v (.int .i64 ((x6 : Nat) : Int)))]) (fun z_ => match z_ with | (k2, x6, o3_0) => [(0, .ob 258 (chain [.ar .u8 256 f, .ar .u8 240 g])), (1, .ob 241 (chain [.ar .u8 16 o3_0])), (2, .ob 241 (chain [.ar .u8 16 (fun _ => 0)]))]) (fun z_ => match z_ with | (k2, x6, o3_0) => ((x6, o3_0) = block_l2 f g s k2) ∧ (∀ j, j < k2 → block_l2_c f g s (block_l2 f g s j)) ∧ (1 ≤ x6 ∧ x6 ≤ 15) ∧ (Rb 16 o3_0) ∧ True) 3 (0, 1, block_l1 f g s 16) [(0, 0), (1, 1), (2, 2)] ⟨rfl, (fun j h => absurd h (Nat.not_lt_zero j)), (by omega), p1, trivial⟩ ?_)
  rintro ⟨k2, x6, o3_0⟩ ac gs ws ⟨hq2, hj2, p2, p3, _⟩ hS
  refine wp_seq (s0 [0, 3, 4, 6, 28] [0, 1, 2] 3 hS fun ac gs ws hS => ?_)
  refine if_d (((x6 : Nat) : Int) ≤ 14) hS (fun h2 => ?_) (fun h2 => ?_)
  ·refine wp_skip (then_n (wp_seq (wp_block (s0 [0, 3, 4, 6, 7] [0, 1, 2, 3] 4 hS fun ac gs ws hS => ?_))))
   refine wp_seq (s0 [0, 3, 4, 6, 7, 31] [0, 1, 2, 3] 4 hS fun ac gs ws hS => ?_)
   refine wp_block (loop_y (ι := Nat × (Nat → Int)) hg0 hS (fun z_ => match z_ with | (x31, o7_0) => 16 - x31) (fun z_ => match z_ with | (x31, o7_0) => [(0, .cp 0 0), (3, .cp 1 0), (4, .cp 2 0), (6, .v (.int .i64 ((x6 : Nat) : Int))), (7, .cp 3 0), (31, .v (.int .i64 ((x31 : Nat) : Int)))]) (fun z_ => match z_ with | (x31, o7_0) => [(0, .ob 258 (chain [.ar .u8 256 f, .ar .u8 240 g])), (1, .ob 241 (chain [.ar .u8 16 o3_0])), (2, .ob 241 (chain [.ar .u8 16 (fun _ => 0)])), (3, .ob 241 (chain [.ar .u8 16 o7_0]))]) (fun z_ => match z_ with | (x31, o7_0) => (x31 ≤ 16) ∧ (o7_0 = block_l3 f g s k2 x6 o3_0 x31) ∧ True) 4 (0, fun _ => 0) [(0, 0), (1, 1), (2, 2), (3, 3)] ⟨(by omega), rfl, trivial⟩ ?_)
   rintro ⟨x31, o7_0⟩ ac gs ws ⟨hx31, hq3, _⟩ hS
   refine s0 [0, 3, 4, 6, 7, 31, 32] [0, 1, 2, 3] 4 hS fun ac gs ws hS => ?_
   refine wp_seq ?_
   refine if_d (((x31 : Nat) : Int) < 16) hS (fun h3 => ?_) (fun h3 => ?_)
   ·refine wp_skip (then_n (wp_seq (wp_block (s0 [0, 3, 4, 6, 7, 8, 31] [0, 1, 2, 3] 4 hS fun ac gs ws hS => ?_))))
    have hq13 := p3 ((x31 + x31 % 4 * 4) % 16) (by omega)
    refine rA [(4, .oi ((x31 % 4 : Nat) : Int)), (5, .oi (((x31 % 4) * 4 : Nat) : Int)), (6, .oi ((x31 + ((x31 % 4) * 4) : Nat) : Int)), (7, .oi (((x31 + ((x31 % 4) * 4)) % 16 : Nat) : Int))] trivial (fun _ => [irem ((x31 : Nat) : Int) 4 = ((x31 % 4 : Nat) : Int), (4 : Int) ≠ 0, imul .i64 ((x31 % 4 : Nat) : Int) 4 = (((x31 % 4) * 4 : Nat) : Int), iadd .i64 ((x31 : Nat) : Int) (((x31 % 4) * 4 : Nat) : Int) = ((x31 + ((x31 % 4) * 4) : Nat) : Int), irem ((x31 + ((x31 % 4) * 4) : Nat) : Int) 16 = (((x31 + ((x31 % 4) * 4)) % 16 : Nat) : Int), (16 : Int) ≠ 0, (0 : Int) ≤ (((x31 + ((x31 % 4) * 4)) % 16 : Nat) : Int) ∧ ((((x31 + ((x31 % 4) * 4)) % 16 : Nat) : Int) : Int) < 16, (0 : Int) ≤ (o3_0 ((x31 + ((x31 % 4) * 4)) % 16)) ∧ ((o3_0 ((x31 + ((x31 % 4) * 4)) % 16)) : Int) < 256, (0 : Int) ≤ ((x31 : Nat) : Int) ∧ (((x31 : Nat) : Int) : Int) < 16]) [0, 3, 4, 6, 7, 31] [0, 1, 2, 3] 4 ⟨by rw [irem64 (by omega)]; omega, by omega, by rw [imul64 (by omega) (by omega)]; omega, by rw [iadd64 (by omega) (by omega)]; omega, by rw [irem64 (by omega)]; omega, by omega, by omega, by omega, by omega, trivial⟩ hS fun ac gs ws hS => ?_
    refine block_n (then_n (rA [(0, .oi ((x31 + 1 : Nat) : Int))] trivial (fun _ => [iadd .i64 ((x31 : Nat) : Int) 1 = ((x31 + 1 : Nat) : Int)]) [0, 3, 4, 6, 7, 31] [0, 1, 2, 3] 4 ⟨by rw [iadd64 (by omega) (by omega)]; omega, trivial⟩ hS fun ac gs ws hS => ?_))
    refine then_n ?_
    exact next_y hg0 hS (s := (x31, o7_0)) (x31 + 1, upd o7_0 x31 (f (Int.toNat (o3_0 ((x31 + ((x31 % 4) * 4)) % 16))))) [(0, 0), (1, 1), (2, 2), (3, 3)] (show 16 - (x31 + 1) < 16 - x31 from by omega) ⟨(by omega), (it_next (F := block_l3 f g s k2 x6 o3_0) (st := block_l3_s f g s k2 x6 o3_0) (fun _ => rfl) hq3 rfl), trivial⟩
   ·have hScur := hS
    obtain rfl : 16 = x31 := by omega
    obtain rfl : block_l3 f g s k2 x6 o3_0 16 = o7_0 := Eq.symm (congrArg (fun z => z) hq3)
    have hS := hScur
    clear hScur
    refine wp_exit (then_exit (then_exit (block_exit (then_n (wp_seq (s0 [0, 3, 4, 6, 7, 9] [0, 1, 2, 3] 4 hS fun ac gs ws hS => ?_))))))
    refine wp_block (loop_y (ι := Nat × (Nat → Int)) hg0 hS (fun z_ => match z_ with | (x9, tt) => 16 - x9) (fun z_ => match z_ with | (x9, tt) => [(0, .cp 0 0), (3, .cp 1 0), (4, .cp 2 0), (6, .v (.int .i64 ((x6 : Nat) : Int))), (7, .cp 3 0), (9, .v (.int .i64 ((x9 : Nat) : Int)))]) (fun z_ => match z_ with | (x9, tt) => [(0, .ob 258 (chain [.ar .u8 256 f, .ar .u8 240 g])), (1, .ob 241 (chain [.ar .u8 16 o3_0])), (2, .ob 241 (chain [.ar .u8 16 (fun _ => 0)])), (3, .ob 241 (chain [.ar .u8 16 tt]))]) (fun z_ => match z_ with | (x9, tt) => (x9 % 4 = 0 ∧ x9 ≤ 16) ∧ (x9 = 0 ∨ x6 < 14) ∧ (tt = mixN (block_l3 f g s k2 x6 o3_0 16) x9) ∧ True) 4 (0, block_l3 f g s k2 x6 o3_0 16) [(0, 0), (1, 1), (2, 2), (3, 3)] ⟨(by omega), (by omega), rfl, trivial⟩ ?_)
    rintro ⟨x9, tt⟩ ac gs ws ⟨px, pt, ht, _⟩ hS
    refine wp_seq (wp_seq ?_)
    have hScur := hS
    rcases (by omega : x9 = 0 ∨ x9 = 4 ∨ x9 = 8 ∨ x9 = 12 ∨ x9 = 16) with rfl | rfl | rfl | rfl | rfl
    ·have hS := hScur
     clear hScur
     refine r0 [0, 3, 4, 6, 7, 9, 55] [0, 1, 2, 3] 4 hS fun ac gs ws hS => ?_
     refine then_n ?_
     refine if_d (((x6 : Nat) : Int) < 14) hS (fun h4 => ?_) (fun h4 => ?_)
     ·refine wp_skip (then_n (wp_seq (wp_block (sA [(15, .call ⟨205, (c_mixed (tt 0) (tt 1) (tt 2) (tt 3)), [], []⟩)] ⟨mixed_ok (tt 0) (tt 1) (tt 2) (tt 3), trivial⟩ (fun C => [(0 : Int) ≤ 0 ∧ (0 : Int) < 16, (0 : Int) ≤ 1 ∧ (1 : Int) < 16, (0 : Int) ≤ 2 ∧ (2 : Int) < 16, (0 : Int) ≤ 3 ∧ (3 : Int) < 16, ndC C 15]) [0, 3, 4, 6, 7, 9, 10] [0, 1, 2, 3, 4] 5 ⟨by omega, by omega, by omega, by omega, rfl, trivial⟩ hS fun ac gs ws hS => ?_))))
      refine rB [(2, .frz)] [] trivial (fun _ => [bndP (some 0) none none 16 16, 16 ≤ 9223372036854775807, bl (some 0) 0 < bl none 16]) [0, 3, 4, 6, 7, 9] [0, 1, 2, 3] 5 ⟨⟨by simp only [nnI] <;> omega, by simp only [nnI] <;> omega, by simp only [nnI] <;> omega, by simp, by simp only [bl] <;> omega, by simp only [bl] <;> omega, by simp only [bl] <;> omega⟩, by omega, by decide, trivial⟩ hS fun ac gs ws hS => ?_
      refine block_n (then_n (r0 [0, 3, 4, 6, 7, 9] [0, 1, 2, 3] 5 hS fun ac gs ws hS => ?_))
      refine then_n ?_
      exact next_y hg0 hS (s := (0, tt)) (4, updW tt 0 (min ((List.range 4).map (mixed_m (tt 0) (tt 1) (tt 2) (tt 3))).length 16) (fun j => ((List.range 4).map (mixed_m (tt 0) (tt 1) (tt 2) (tt 3))).getD j 0)) [(0, 0), (1, 1), (2, 2), (3, 3)] (show 16 - 4 < 16 - 0 from by omega) ⟨(by omega), (by omega), (by rw [ht]; rfl), trivial⟩
     ·obtain rfl : block_l3 f g s k2 x6 o3_0 16 = tt := ht.symm
      refine wp_exit (then_exit (then_exit (block_exit (then_n (s0 [0, 3, 4, 6, 7, 78] [0, 1, 2, 3] 4 hS fun ac gs ws hS => ?_)))))
      refine wp_block (loop_y (ι := Nat × (Nat → Int)) hg0 hS (fun z_ => match z_ with | (x78, o3_0_5) => 16 - x78) (fun z_ => match z_ with | (x78, o3_0_5) => [(0, .cp 0 0), (3, .cp 1 0), (4, .cp 2 0), (6, .v (.int .i64 ((x6 : Nat) : Int))), (7, .cp 3 0), (78, .v (.int .i64 ((x78 : Nat) : Int)))]) (fun z_ => match z_ with | (x78, o3_0_5) => [(0, .ob 258 (chain [.ar .u8 256 f, .ar .u8 240 g])), (1, .ob 241 (chain [.ar .u8 16 o3_0_5])), (2, .ob 241 (chain [.ar .u8 16 (fun _ => 0)])), (3, .ob 241 (chain [.ar .u8 16 (block_l3 f g s k2 x6 o3_0 16)]))]) (fun z_ => match z_ with | (x78, o3_0_5) => (x78 ≤ 16) ∧ (o3_0_5 = block_l5 f g s k2 x6 o3_0 x78) ∧ (Rb x78 o3_0_5) ∧ True) 4 (0, o3_0) [(0, 0), (1, 1), (2, 2), (3, 3)] ⟨(by omega), rfl, (Rb.zero _), trivial⟩ ?_)
      rintro ⟨x78, o3_0_5⟩ ac gs ws ⟨hx78, hq5, p6, _⟩ hS
      refine s0 [0, 3, 4, 6, 7, 78, 79] [0, 1, 2, 3] 4 hS fun ac gs ws hS => ?_
      refine wp_seq ?_
      refine if_d (((x78 : Nat) : Int) < 16) hS (fun h5 => ?_) (fun h5 => ?_)
      ·refine wp_skip (then_n (wp_seq (wp_block (s0 [0, 3, 4, 6, 7, 11, 78] [0, 1, 2, 3] 4 hS fun ac gs ws hS => ?_))))
       refine rA [(6, .oi ((x6 * 16 : Nat) : Int)), (8, .oi (((x6 * 16) + x78 : Nat) : Int))] trivial (fun _ => [(0 : Int) ≤ ((x78 : Nat) : Int) ∧ (((x78 : Nat) : Int) : Int) < 16, imul .i64 ((x6 : Nat) : Int) 16 = ((x6 * 16 : Nat) : Int), iadd .i64 ((x6 * 16 : Nat) : Int) ((x78 : Nat) : Int) = (((x6 * 16) + x78 : Nat) : Int), (0 : Int) ≤ (((x6 * 16) + x78 : Nat) : Int) ∧ ((((x6 * 16) + x78 : Nat) : Int) : Int) < 240, (0 : Int) ≤ ((x78 : Nat) : Int) ∧ (((x78 : Nat) : Int) : Int) < 16]) [0, 3, 4, 6, 7, 78] [0, 1, 2, 3] 4 ⟨by omega, by rw [imul64 (by omega) (by omega)]; omega, by rw [iadd64 (by omega) (by omega)]; omega, by omega, by omega, trivial⟩ hS fun ac gs ws hS => ?_
       refine block_n (then_n (rA [(0, .oi ((x78 + 1 : Nat) : Int))] trivial (fun _ => [iadd .i64 ((x78 : Nat) : Int) 1 = ((x78 + 1 : Nat) : Int)]) [0, 3, 4, 6, 7, 78] [0, 1, 2, 3] 4 ⟨by rw [iadd64 (by omega) (by omega)]; omega, trivial⟩ hS fun ac gs ws hS => ?_))
       refine then_n ?_
       exact next_y hg0 hS (s := (x78, o3_0_5)) (x78 + 1, upd o3_0_5 x78 (ixor .u8 ((block_l3 f g s k2 x6 o3_0 16) x78) (g ((x6 * 16) + x78)))) [(0, 0), (1, 1), (2, 2), (3, 3)] (show 16 - (x78 + 1) < 16 - x78 from by omega) ⟨(by omega), (it_next (F := block_l5 f g s k2 x6 o3_0) (st := block_l5_s f g s k2 x6 o3_0) (fun _ => rfl) hq5 rfl), (Rb.next p6 (xor_rg _ _)), trivial⟩
      ·have hScur := hS
       obtain rfl : 16 = x78 := by omega
       obtain rfl : block_l5 f g s k2 x6 o3_0 16 = o3_0_5 := Eq.symm (congrArg (fun z => z) hq5)
       have hS := hScur
       clear hScur
       refine wp_exit (then_exit (then_exit (block_exit (block_n (then_n (rA [(1, .oi ((x6 + 1 : Nat) : Int))] trivial (fun _ => [iadd .i64 ((x6 : Nat) : Int) 1 = ((x6 + 1 : Nat) : Int)]) [0, 3, 4, 6] [0, 1, 2] 4 ⟨by rw [iadd64 (by omega) (by omega)]; omega, trivial⟩ hS fun ac gs ws hS => ?_))))))
       refine then_n ?_
       exact next_y hg0 hS (s := (k2, x6, o3_0)) (k2 + 1, x6 + 1, block_l5 f g s k2 x6 o3_0 16) [(0, 0), (1, 1), (2, 2)] (show 15 - (x6 + 1) < 15 - x6 from by omega) ⟨(it_next (F := block_l2 f g s) (st := block_l2_s f g s) (fun _ => rfl) hq2 (Eq.symm (if_neg h4))), (lst_next hj2 (by rw [← hq2]; exact h2)), (by omega), p6, trivial⟩
    ·have hS := hScur
     clear hScur
     have hturn : ((x6 : Nat) : Int) < 14 := by omega
     refine rA [(4, .ob true)] trivial (fun _ => [(decide (((x6 : Nat) : Int) < 14)) = true]) [0, 3, 4, 6, 7, 9, 55] [0, 1, 2, 3] 4 ⟨decide_eq_true hturn, trivial⟩ hS fun ac gs ws hS => ?_
     refine then_n (cond_t hS ?_)
     refine wp_skip (then_n (wp_seq (wp_block (sA [(15, .call ⟨205, (c_mixed (tt 4) (tt 5) (tt 6) (tt 7)), [], []⟩)] ⟨mixed_ok (tt 4) (tt 5) (tt 6) (tt 7), trivial⟩ (fun C => [(0 : Int) ≤ 4 ∧ (4 : Int) < 16, (0 : Int) ≤ 5 ∧ (5 : Int) < 16, (0 : Int) ≤ 6 ∧ (6 : Int) < 16, (0 : Int) ≤ 7 ∧ (7 : Int) < 16, ndC C 15]) [0, 3, 4, 6, 7, 9, 10] [0, 1, 2, 3, 4] 5 ⟨by omega, by omega, by omega, by omega, rfl, trivial⟩ hS fun ac gs ws hS => ?_))))
     refine rB [(2, .frz)] [] trivial (fun _ => [bndP (some 4) none none 16 16, 16 ≤ 9223372036854775807, bl (some 4) 0 < bl none 16]) [0, 3, 4, 6, 7, 9] [0, 1, 2, 3] 5 ⟨⟨by simp only [nnI] <;> omega, by simp only [nnI] <;> omega, by simp only [nnI] <;> omega, by simp, by simp only [bl] <;> omega, by simp only [bl] <;> omega, by simp only [bl] <;> omega⟩, by omega, by decide, trivial⟩ hS fun ac gs ws hS => ?_
     refine block_n (then_n (r0 [0, 3, 4, 6, 7, 9] [0, 1, 2, 3] 5 hS fun ac gs ws hS => ?_))
     refine then_n ?_
     exact next_y hg0 hS (s := (4, tt)) (8, updW tt 4 (min ((List.range 4).map (mixed_m (tt 4) (tt 5) (tt 6) (tt 7))).length 12) (fun j => ((List.range 4).map (mixed_m (tt 4) (tt 5) (tt 6) (tt 7))).getD j 0)) [(0, 0), (1, 1), (2, 2), (3, 3)] (show 16 - 8 < 16 - 4 from by omega) ⟨(by omega), (by omega), (by rw [ht]; rfl), trivial⟩
    ·have hS := hScur
     clear hScur
     have hturn : ((x6 : Nat) : Int) < 14 := by omega
     refine rA [(4, .ob true)] trivial (fun _ => [(decide (((x6 : Nat) : Int) < 14)) = true]) [0, 3, 4, 6, 7, 9, 55] [0, 1, 2, 3] 4 ⟨decide_eq_true hturn, trivial⟩ hS fun ac gs ws hS => ?_
     refine then_n (cond_t hS ?_)
     refine wp_skip (then_n (wp_seq (wp_block (sA [(15, .call ⟨205, (c_mixed (tt 8) (tt 9) (tt 10) (tt 11)), [], []⟩)] ⟨mixed_ok (tt 8) (tt 9) (tt 10) (tt 11), trivial⟩ (fun C => [(0 : Int) ≤ 8 ∧ (8 : Int) < 16, (0 : Int) ≤ 9 ∧ (9 : Int) < 16, (0 : Int) ≤ 10 ∧ (10 : Int) < 16, (0 : Int) ≤ 11 ∧ (11 : Int) < 16, ndC C 15]) [0, 3, 4, 6, 7, 9, 10] [0, 1, 2, 3, 4] 5 ⟨by omega, by omega, by omega, by omega, rfl, trivial⟩ hS fun ac gs ws hS => ?_))))
     refine rB [(2, .frz)] [] trivial (fun _ => [bndP (some 8) none none 16 16, 16 ≤ 9223372036854775807, bl (some 8) 0 < bl none 16]) [0, 3, 4, 6, 7, 9] [0, 1, 2, 3] 5 ⟨⟨by simp only [nnI] <;> omega, by simp only [nnI] <;> omega, by simp only [nnI] <;> omega, by simp, by simp only [bl] <;> omega, by simp only [bl] <;> omega, by simp only [bl] <;> omega⟩, by omega, by decide, trivial⟩ hS fun ac gs ws hS => ?_
     refine block_n (then_n (r0 [0, 3, 4, 6, 7, 9] [0, 1, 2, 3] 5 hS fun ac gs ws hS => ?_))
     refine then_n ?_
     exact next_y hg0 hS (s := (8, tt)) (12, updW tt 8 (min ((List.range 4).map (mixed_m (tt 8) (tt 9) (tt 10) (tt 11))).length 8) (fun j => ((List.range 4).map (mixed_m (tt 8) (tt 9) (tt 10) (tt 11))).getD j 0)) [(0, 0), (1, 1), (2, 2), (3, 3)] (show 16 - 12 < 16 - 8 from by omega) ⟨(by omega), (by omega), (by rw [ht]; rfl), trivial⟩
    ·have hS := hScur
     clear hScur
     have hturn : ((x6 : Nat) : Int) < 14 := by omega
     refine rA [(4, .ob true)] trivial (fun _ => [(decide (((x6 : Nat) : Int) < 14)) = true]) [0, 3, 4, 6, 7, 9, 55] [0, 1, 2, 3] 4 ⟨decide_eq_true hturn, trivial⟩ hS fun ac gs ws hS => ?_
     refine then_n (cond_t hS ?_)
     refine wp_skip (then_n (wp_seq (wp_block (sA [(15, .call ⟨205, (c_mixed (tt 12) (tt 13) (tt 14) (tt 15)), [], []⟩)] ⟨mixed_ok (tt 12) (tt 13) (tt 14) (tt 15), trivial⟩ (fun C => [(0 : Int) ≤ 12 ∧ (12 : Int) < 16, (0 : Int) ≤ 13 ∧ (13 : Int) < 16, (0 : Int) ≤ 14 ∧ (14 : Int) < 16, (0 : Int) ≤ 15 ∧ (15 : Int) < 16, ndC C 15]) [0, 3, 4, 6, 7, 9, 10] [0, 1, 2, 3, 4] 5 ⟨by omega, by omega, by omega, by omega, rfl, trivial⟩ hS fun ac gs ws hS => ?_))))
     refine rB [(2, .frz)] [] trivial (fun _ => [bndP (some 12) none none 16 16, 16 ≤ 9223372036854775807, bl (some 12) 0 < bl none 16]) [0, 3, 4, 6, 7, 9] [0, 1, 2, 3] 5 ⟨⟨by simp only [nnI] <;> omega, by simp only [nnI] <;> omega, by simp only [nnI] <;> omega, by simp, by simp only [bl] <;> omega, by simp only [bl] <;> omega, by simp only [bl] <;> omega⟩, by omega, by decide, trivial⟩ hS fun ac gs ws hS => ?_
     refine block_n (then_n (r0 [0, 3, 4, 6, 7, 9] [0, 1, 2, 3] 5 hS fun ac gs ws hS => ?_))
     refine then_n ?_
     exact next_y hg0 hS (s := (12, tt)) (16, updW tt 12 (min ((List.range 4).map (mixed_m (tt 12) (tt 13) (tt 14) (tt 15))).length 4) (fun j => ((List.range 4).map (mixed_m (tt 12) (tt 13) (tt 14) (tt 15))).getD j 0)) [(0, 0), (1, 1), (2, 2), (3, 3)] (show 16 - 16 < 16 - 12 from by omega) ⟨(by omega), (by omega), (by rw [ht]; rfl), trivial⟩
    ·have hS := hScur
     clear hScur
     have hturn : ((x6 : Nat) : Int) < 14 := by omega
     refine r0 [0, 3, 4, 6, 7, 9, 55] [0, 1, 2, 3] 4 hS fun ac gs ws hS => ?_
     obtain rfl : mixN (block_l3 f g s k2 x6 o3_0 16) 16 = tt := ht.symm
     refine then_n (cond_f hS ?_)
     refine wp_exit (then_exit (then_exit (block_exit (then_n (s0 [0, 3, 4, 6, 7, 78] [0, 1, 2, 3] 4 hS fun ac gs ws hS => ?_)))))
     refine wp_block (loop_y (ι := Nat × (Nat → Int)) hg0 hS (fun z_ => match z_ with | (x78, o3_0_6) => 16 - x78) (fun z_ => match z_ with | (x78, o3_0_6) => [(0, .cp 0 0), (3, .cp 1 0), (4, .cp 2 0), (6, .v (.int .i64 ((x6 : Nat) : Int))), (7, .cp 3 0), (78, .v (.int .i64 ((x78 : Nat) : Int)))]) (fun z_ => match z_ with | (x78, o3_0_6) => [(0, .ob 258 (chain [.ar .u8 256 f, .ar .u8 240 g])), (1, .ob 241 (chain [.ar .u8 16 o3_0_6])), (2, .ob 241 (chain [.ar .u8 16 (fun _ => 0)])), (3, .ob 241 (chain [.ar .u8 16 (mixN (block_l3 f g s k2 x6 o3_0 16) 16)]))]) (fun z_ => match z_ with | (x78, o3_0_6) => (x78 ≤ 16) ∧ (o3_0_6 = block_l6 f g s k2 x6 o3_0 x78) ∧ (Rb x78 o3_0_6) ∧ True) 4 (0, o3_0) [(0, 0), (1, 1), (2, 2), (3, 3)] ⟨(by omega), rfl, (Rb.zero _), trivial⟩ ?_)
     rintro ⟨x78, o3_0_6⟩ ac gs ws ⟨hx78, hq6, p6, _⟩ hS
     refine s0 [0, 3, 4, 6, 7, 78, 79] [0, 1, 2, 3] 4 hS fun ac gs ws hS => ?_
     refine wp_seq ?_
     refine if_d (((x78 : Nat) : Int) < 16) hS (fun h6 => ?_) (fun h6 => ?_)
     ·refine wp_skip (then_n (wp_seq (wp_block (s0 [0, 3, 4, 6, 7, 11, 78] [0, 1, 2, 3] 4 hS fun ac gs ws hS => ?_))))
      refine rA [(6, .oi ((x6 * 16 : Nat) : Int)), (8, .oi (((x6 * 16) + x78 : Nat) : Int))] trivial (fun _ => [(0 : Int) ≤ ((x78 : Nat) : Int) ∧ (((x78 : Nat) : Int) : Int) < 16, imul .i64 ((x6 : Nat) : Int) 16 = ((x6 * 16 : Nat) : Int), iadd .i64 ((x6 * 16 : Nat) : Int) ((x78 : Nat) : Int) = (((x6 * 16) + x78 : Nat) : Int), (0 : Int) ≤ (((x6 * 16) + x78 : Nat) : Int) ∧ ((((x6 * 16) + x78 : Nat) : Int) : Int) < 240, (0 : Int) ≤ ((x78 : Nat) : Int) ∧ (((x78 : Nat) : Int) : Int) < 16]) [0, 3, 4, 6, 7, 78] [0, 1, 2, 3] 4 ⟨by omega, by rw [imul64 (by omega) (by omega)]; omega, by rw [iadd64 (by omega) (by omega)]; omega, by omega, by omega, trivial⟩ hS fun ac gs ws hS => ?_
      refine block_n (then_n (rA [(0, .oi ((x78 + 1 : Nat) : Int))] trivial (fun _ => [iadd .i64 ((x78 : Nat) : Int) 1 = ((x78 + 1 : Nat) : Int)]) [0, 3, 4, 6, 7, 78] [0, 1, 2, 3] 4 ⟨by rw [iadd64 (by omega) (by omega)]; omega, trivial⟩ hS fun ac gs ws hS => ?_))
      refine then_n ?_
      exact next_y hg0 hS (s := (x78, o3_0_6)) (x78 + 1, upd o3_0_6 x78 (ixor .u8 ((mixN (block_l3 f g s k2 x6 o3_0 16) 16) x78) (g ((x6 * 16) + x78)))) [(0, 0), (1, 1), (2, 2), (3, 3)] (show 16 - (x78 + 1) < 16 - x78 from by omega) ⟨(by omega), (it_next (F := block_l6 f g s k2 x6 o3_0) (st := block_l6_s f g s k2 x6 o3_0) (fun _ => rfl) hq6 rfl), (Rb.next p6 (xor_rg _ _)), trivial⟩
     ·have hScur := hS
      obtain rfl : 16 = x78 := by omega
      obtain rfl : block_l6 f g s k2 x6 o3_0 16 = o3_0_6 := Eq.symm (congrArg (fun z => z) hq6)
      have hS := hScur
      clear hScur
      refine wp_exit (then_exit (then_exit (block_exit (block_n (then_n (rA [(1, .oi ((x6 + 1 : Nat) : Int))] trivial (fun _ => [iadd .i64 ((x6 : Nat) : Int) 1 = ((x6 + 1 : Nat) : Int)]) [0, 3, 4, 6] [0, 1, 2] 4 ⟨by rw [iadd64 (by omega) (by omega)]; omega, trivial⟩ hS fun ac gs ws hS => ?_))))))
      refine then_n ?_
      exact next_y hg0 hS (s := (k2, x6, o3_0)) (k2 + 1, x6 + 1, block_l6 f g s k2 x6 o3_0 16) [(0, 0), (1, 1), (2, 2)] (show 15 - (x6 + 1) < 15 - x6 from by omega) ⟨(it_next (F := block_l2 f g s) (st := block_l2_s f g s) (fun _ => rfl) hq2 (Eq.symm (if_pos hturn))), (lst_next hj2 (by rw [← hq2]; exact h2)), (by omega), p6, trivial⟩
  ·have hScur := hS
   obtain rfl := lst_eq (P := fun j => block_l2_c f g s (block_l2 f g s j)) (by rw [← hq2]; first | exact h2 | exact not_not_intro h2) hj2
   obtain rfl : (block_l2 f g s (lst fun j => block_l2_c f g s (block_l2 f g s j))).1 = x6 := Eq.symm (congrArg (fun z => z.1) hq2)
   obtain rfl : (block_l2 f g s (lst fun j => block_l2_c f g s (block_l2 f g s j))).2 = o3_0 := Eq.symm (congrArg (fun z => z.2) hq2)
   have hS := hScur
   clear hScur
   refine wp_exit (then_exit (then_exit (block_exit (then_n (s0 [4] [0, 2] 3 hS fun ac gs ws hS => ?_)))))
   refine wp_ret ?_
   have hM : block_m f g s = (block_l2 f g s (lst fun j => block_l2_c f g s (block_l2 f g s j))).2 := block_e f g s
   exact fin_y rfl (.inr rfl) hS [.ar .u8 16 ((block_l2 f g s (lst fun j => block_l2_c f g s (block_l2 f g s j))).2)] [(0, some (.ob 258 (chain [.ar .u8 256 f, .ar .u8 240 g])))] (by show weak _ (.ar .u8 16 (block_m f g s)) = (.ar .u8 16 (block_m f g s)); rw [hM]; first | (simp only []; rfl) | (simp only []; done) | rfl) ⟨rfl, trivial⟩

end Go.Sx.Tryz
namespace Go.Sx.Tryz
open Go.Mi Go.RowKit Go.Sx Go.Proofs
noncomputable def stream_l1_s (key num : List Int) (n k1 : Nat) : (Int × (List Int)) → (Int × (List Int)) := fun z_ => match z_ with | (x10, x9) => ((iadd .u32 x10 1), x9 ++ ((List.range 16).map (block_m ((ready_m key).1) ((ready_m key).2) (fun j => List.getD (α := Int) ([num, put32_m x10].flatten) (0 + j) 0))))
noncomputable def stream_l1 (key num : List Int) (n : Nat) : Nat → Int × (List Int)
 | 0 => (0, [])
 | k1 + 1 => stream_l1_s key num n k1 (stream_l1 key num n k1)
def stream_l1_c (key num : List Int) (n : Nat) : (Int × (List Int)) → Prop := fun z_ => match z_ with | (x10, x9) => ((x9.length : Nat) : Int) < ((n : Nat) : Int)
noncomputable def stream_v (key num : List Int) (n : Nat) : (List Int) := first_m ((stream_l1 key num n (lst fun j => stream_l1_c key num n (stream_l1 key num n j))).2) n
noncomputable def stream_m (key num : List Int) (n : Nat) : (List Int) := shut (stream_v key num n)
theorem stream_e (key num : List Int) (n : Nat) : stream_m key num n = stream_v key num n := shut_eq _
@[simp] theorem first_len (xs : List Int) (n : Nat) : (first_m xs n).length = n := by
 rw [first_e]; unfold first_v
 simp only [List.length_append, List.length_take, List.length_drop, List.length_replicate]
 omega
@[simp] theorem stream_len (key num : List Int) (n : Nat) : (stream_m key num n).length = n := by rw [stream_e]; exact first_len _ _
noncomputable def c_stream (key num : List Int) (n : Nat) : Con := ⟨[.ls false [.int .u8] key, .ls false [.int .u8] num, .v (.int .i64 ((n : Nat) : Int))], [], .tu (chain [.ls false [.int .u8] (stream_m key num n), .v (.int .i64 0)]), []⟩
set_option maxRecDepth 100000 in
set_option maxHeartbeats 1000000 in
theorem stream_ok (key num : List Int) (n : Nat) (hk : key.length = 32) (hb : By key) (hn : num.length = 12) (hl : n ≤ 1000000) : ConOk Tryz.prog 158 (c_stream key num n) := by
 refine conOk_of rfl (nb := 0) Tryz.func158 rfl rfl Tryz.ntmps158 rfl rfl rfl fun g0 w0 ac gs ws hg0 hS => ?_
 have hlen0 : key.length ≤ 9223372036854775807 := hS.len 0 rfl
 have hlen1 : num.length ≤ 9223372036854775807 := hS.len 1 rfl
 have hS := hS.sp
 have hk1 : ((key.length : Nat) : Int) = 32 := (by omega)
 have hn1 : ((num.length : Nat) : Int) = 12 := (by omega)
 have hz1 : ¬ ((n : Nat) : Int) < 0 := (by omega)
 have hz2 : ¬ (1048576 : Int) < ((n : Nat) : Int) := (by omega)
 refine s0 [0, 1, 2, 6, 7] [] 0 hS fun ac gs ws hS => ?_
 refine wp_seq (sA [(2, .ob false), (6, .ob false), (10, .ob false), (14, .ob false)] trivial (fun _ => [(!decide (((key.length : Nat) : Int) = 32)) = false, (!decide (((num.length : Nat) : Int) = 12)) = false, (decide (((n : Nat) : Int) < 0)) = false, (decide ((1048576 : Int) < ((n : Nat) : Int))) = false]) [0, 1, 2, 6, 7, 27] [] 0 ⟨by rw [decide_eq_true hk1]; rfl, by rw [decide_eq_true hn1]; rfl, decide_eq_false hz1, decide_eq_false hz2, trivial⟩ hS fun ac gs ws hS => ?_)
 refine cond_f hS ?_
 refine wp_skip (then_n (sA [(1, .call ⟨182, (c_ready key), [], [(0, 0)]⟩)] ⟨ready_ok key (by first | omega | (simp only [List.length_append, List.length_drop, List.length_take, List.length_replicate, List.length_cons, List.length_nil, List.length_map, List.length_range] <;> omega) | (simp <;> omega)) (by assumption), trivial⟩ (fun C => [ndC C 1]) [1, 2, 6, 7, 8] [0] 1 ⟨rfl, trivial⟩ hS fun ac gs ws hS => ?_))
 refine s0 [1, 2, 6, 7, 8, 9] [0] 1 hS fun ac gs ws hS => ?_
 refine wp_seq (s0 [1, 2, 6, 7, 8, 9, 10] [0] 1 hS fun ac gs ws hS => ?_)
 refine wp_block ?_
 obtain ⟨gs, hS⟩ := hS.nilk 9 5 [.int .u8]
 refine loop_y (ι := Nat × Int × (List Int)) hg0 hS (fun z_ => match z_ with | (k1, x10, x9) => n - x9.length) (fun z_ => match z_ with | (k1, x10, x9) => [(1, .ls false [.int .u8] num), (2, .v (.int .i64 ((n : Nat) : Int))), (6, .v (.slice none 0 0)), (7, .v (.int .i64 0)), (8, .cp 0 0), (9, .sk 1), (10, .v (.int .u32 x10))]) (fun z_ => match z_ with | (k1, x10, x9) => [(0, .ob 258 (chain [.ar .u8 256 ((ready_m key).1), .ar .u8 240 ((ready_m key).2)])), (1, .sl 5 [.int .u8] x9)]) (fun z_ => match z_ with | (k1, x10, x9) => ((x10, x9) = stream_l1 key num n k1) ∧ (∀ j, j < k1 → stream_l1_c key num n (stream_l1 key num n j)) ∧ (x9.length ≤ n + 16) ∧ True) 2 (0, 0, []) [(0, 0), (1, 1)] ⟨rfl, (fun j h => absurd h (Nat.not_lt_zero j)), (by simp), trivial⟩ ?_
 rintro ⟨k1, x10, x9⟩ ac gs ws ⟨hq1, hj1, p1, _⟩ hS
 refine wp_seq (s0 [1, 2, 6, 7, 8, 9, 10, 33] [0, 1] 2 hS fun ac gs ws hS => ?_)
 refine if_d (((x9.length : Nat) : Int) < ((n : Nat) : Int)) hS (fun h1 => ?_) (fun h1 => ?_)
 ·refine wp_skip (then_n (wp_seq (wp_block (sB [(6, .frz), (7, .at 0 0)] [(3, .call ⟨165, (c_put32 x10), [], []⟩), (5, .call ⟨154, (c_cat [num, put32_m x10]), [], [(0, 2)]⟩), (8, .call ⟨183, (c_block ((ready_m key).1) ((ready_m key).2) (fun j => List.getD (α := Int) ([num, put32_m x10].flatten) (0 + j) 0)), [(0, 0)], []⟩)] ⟨put32_ok x10, cat_ok [num, put32_m x10] (by first | omega | (simp only [List.flatten_cons, List.flatten_nil, List.length_append, List.length_cons, List.length_nil, List.length_take, List.length_drop, List.length_replicate] <;> omega) | (simp <;> omega)), block_ok ((ready_m key).1) ((ready_m key).2) (fun j => List.getD (α := Int) ([num, put32_m x10].flatten) (0 + j) 0) (ready_rb key), trivial⟩ (fun C => [ndC C 3, ndC C 5, 16 ≤ ([num, put32_m x10].flatten).length, 0 < ([num, put32_m x10].flatten).length, 0 + 16 ≤ ([num, put32_m x10].flatten).length, nd [.cp 0 0, .ar .u8 16 (fun j => List.getD (α := Int) ([num, put32_m x10].flatten) (0 + j) 0)] [some (.ob 258 (chain [.ar .u8 256 ((ready_m key).1), .ar .u8 240 ((ready_m key).2)]))]]) [1, 2, 6, 7, 8, 9, 10, 11] [0, 1, 3] 4 ⟨rfl, rfl, by (first | omega | (simp only [List.length_append, List.length_map, List.length_range, List.length_nil, List.flatten_cons, List.flatten_nil, put32_len]; omega)), by (first | omega | (simp only [List.length_append, List.length_map, List.length_range, List.length_nil, List.flatten_cons, List.flatten_nil, put32_len]; omega)), by (first | omega | (simp only [List.length_append, List.length_map, List.length_range, List.length_nil, List.flatten_cons, List.flatten_nil, put32_len]; omega)), rfl, trivial⟩ hS fun ac gs ws hS => ?_))))
  refine rB [(1, .frz)] [] trivial (fun _ => [x9.length + ((List.range 16).map (block_m ((ready_m key).1) ((ready_m key).2) (fun j => List.getD (α := Int) ([num, put32_m x10].flatten) (0 + j) 0))).length ≤ 9223372036854775807, (x9.length + ((List.range 16).map (block_m ((ready_m key).1) ((ready_m key).2) (fun j => List.getD (α := Int) ([num, put32_m x10].flatten) (0 + j) 0))).length) * 1 ≤ 140737488355328]) [1, 2, 6, 7, 8, 9, 10] [0, 4] 5 ⟨by (first | omega | (simp only [List.length_append, List.length_map, List.length_range, List.length_nil, List.flatten_cons, List.flatten_nil, put32_len]; omega)), by (first | omega | (simp only [List.length_append, List.length_map, List.length_range, List.length_nil, List.flatten_cons, List.flatten_nil, put32_len]; omega)), trivial⟩ hS fun ac gs ws hS => ?_
  refine block_n (then_n (r0 [1, 2, 6, 7, 8, 9, 10] [0, 4] 5 hS fun ac gs ws hS => ?_))
  refine then_n ?_
  exact next_y hg0 hS (s := (k1, x10, x9)) (k1 + 1, (iadd .u32 x10 1), x9 ++ ((List.range 16).map (block_m ((ready_m key).1) ((ready_m key).2) (fun j => List.getD (α := Int) ([num, put32_m x10].flatten) (0 + j) 0)))) [(0, 0), (1, 4)] (show n - (x9 ++ (List.range 16).map _).length < n - x9.length from by rw [List.length_append, List.length_map, List.length_range]; omega) ⟨(it_next (F := stream_l1 key num n) (st := stream_l1_s key num n) (fun _ => rfl) hq1 rfl), (lst_next hj1 (by rw [← hq1]; exact h1)), (by rw [List.length_append, List.length_map, List.length_range]; omega), trivial⟩
 ·have hScur := hS
  obtain rfl := lst_eq (P := fun j => stream_l1_c key num n (stream_l1 key num n j)) (by rw [← hq1]; first | exact h1 | exact not_not_intro h1) hj1
  obtain rfl : (stream_l1 key num n (lst fun j => stream_l1_c key num n (stream_l1 key num n j))).1 = x10 := Eq.symm (congrArg (fun z => z.1) hq1)
  obtain rfl : (stream_l1 key num n (lst fun j => stream_l1_c key num n (stream_l1 key num n j))).2 = x9 := Eq.symm (congrArg (fun z => z.2) hq1)
  have hS := hScur
  clear hScur
  refine wp_exit (then_exit (then_exit (block_exit (then_n (wp_seq ?_)))))
  obtain ⟨gs, hS⟩ := hS.fz 1
  refine rA [(2, .call ⟨184, (c_first ((stream_l1 key num n (lst fun j => stream_l1_c key num n (stream_l1 key num n j))).2) n), [], [(0, 2)]⟩)] ⟨first_ok ((stream_l1 key num n (lst fun j => stream_l1_c key num n (stream_l1 key num n j))).2) n (by omega), trivial⟩ (fun C => [ndC C 2]) [6, 7] [2] 3 ⟨rfl, trivial⟩ hS fun ac gs ws hS => ?_
  refine then_n (wp_ret ?_)
  have hM : stream_m key num n = first_m ((stream_l1 key num n (lst fun j => stream_l1_c key num n (stream_l1 key num n j))).2) n := stream_e key num n
  obtain ⟨gs, hS⟩ := hS.fz 2
  exact fin_y rfl (.inr rfl) hS [.ls false [.int .u8] (first_m ((stream_l1 key num n (lst fun j => stream_l1_c key num n (stream_l1 key num n j))).2) n), .v (.int .i64 0)] [] (by show weak _ (.tu (chain [.ls false [.int .u8] (stream_m key num n), .v (.int .i64 0)])) = (.tu (chain [.ls false [.int .u8] (stream_m key num n), .v (.int .i64 0)])); rw [hM]; first | (simp only []; rfl) | (simp only []; done) | rfl) trivial

theorem xor_k (xs ys : List Int) : ∀ k, (xor_l1 xs ys k).length = min xs.length ys.length ∧ ∀ i, i < k → i < min xs.length ys.length → (xor_l1 xs ys k).getD i 0 = ixor .u8 (xs.getD i 0) (ys.getD i 0)
 | 0 => ⟨List.length_replicate, fun i h => absurd h (Nat.not_lt_zero _)⟩
 | k + 1 => by
  obtain ⟨h1, h2⟩ := xor_k xs ys k
  have e : xor_l1 xs ys (k + 1) = (xor_l1 xs ys k).set k (ixor .u8 (xs.getD k 0) (ys.getD k 0)) := rfl
  refine ⟨by rw [e, List.length_set, h1], fun i hi hl => ?_⟩
  rw [e, List.getD_eq_getElem?_getD]
  by_cases hk : i = k
  ·subst hk
   rw [List.getElem?_set_self (by rw [h1]; exact hl)]; rfl
  ·rw [List.getElem?_set_ne (fun h => hk h.symm), ← List.getD_eq_getElem?_getD]
   exact h2 i (by omega) hl
theorem xor_at (xs ys : List Int) {i : Nat} (h : i < min xs.length ys.length) : (xor_m xs ys).getD i 0 = ixor .u8 (xs.getD i 0) (ys.getD i 0) := by
 rw [xor_e]; exact (xor_k xs ys _).2 i h h
@[simp] theorem xor_len (xs ys : List Int) : (xor_m xs ys).length = min xs.length ys.length := by
 rw [xor_e]; exact (xor_k xs ys _).1
theorem xor_inv {xs ys : List Int} (hb : By xs) (hl : xs.length ≤ ys.length) : xor_m (xor_m xs ys) ys = xs := by
 have h1 : (xor_m xs ys).length = xs.length := by rw [xor_len]; omega
 refine List.ext_getElem (by rw [xor_len, h1]; omega) fun i h2 h3 => ?_
 have k1 := xor_at (xor_m xs ys) ys (i := i) (by omega)
 rw [xor_at xs ys (i := i) (by omega), xor_xor (by_getD hb i)] at k1
 rw [List.getD_eq_getElem?_getD, List.getElem?_eq_getElem h2, List.getD_eq_getElem?_getD, List.getElem?_eq_getElem h3] at k1
 exact k1
noncomputable def crypt_v (key num xs : List Int) : (List Int) := xor_m xs (stream_m key num xs.length)
noncomputable def crypt_m (key num xs : List Int) : (List Int) := shut (crypt_v key num xs)
theorem crypt_e (key num xs : List Int) : crypt_m key num xs = crypt_v key num xs := shut_eq _
@[simp] theorem crypt_len (key num xs : List Int) : (crypt_m key num xs).length = xs.length := by
 rw [crypt_e]; unfold crypt_v; rw [xor_len, stream_len]; omega
theorem crypt_inv (key num : List Int) {xs : List Int} (h : By xs) : crypt_m key num (crypt_m key num xs) = xs := by
 have e : ∀ ys, crypt_m key num ys = xor_m ys (stream_m key num ys.length) := fun ys => crypt_e key num ys
 rw [e (crypt_m key num xs), crypt_len, e xs]
 exact xor_inv h (by rw [stream_len]; exact Nat.le_refl _)
noncomputable def c_crypt (key num xs : List Int) : Con := ⟨[.ls false [.int .u8] key, .ls false [.int .u8] num, .ls false [.int .u8] xs], [], .tu (chain [.sk 0, .v (.int .i64 0)]), [(0, .sl 5 [.int .u8] (crypt_m key num xs))]⟩
set_option maxRecDepth 100000 in
set_option maxHeartbeats 1000000 in
theorem crypt_ok (key num xs : List Int) (hk : key.length = 32) (hb : By key) (hn : num.length = 12) (hl : xs.length ≤ 1000000) : ConOk Tryz.prog 119 (c_crypt key num xs) := by
 refine conOk_of rfl (nb := 0) Tryz.func119 rfl rfl Tryz.ntmps119 rfl rfl rfl fun g0 w0 ac gs ws hg0 hS => ?_
 have hlen0 : key.length ≤ 9223372036854775807 := hS.len 0 rfl
 have hlen1 : num.length ≤ 9223372036854775807 := hS.len 1 rfl
 have hlen2 : xs.length ≤ 9223372036854775807 := hS.len 2 rfl
 have hS := hS.sp
 refine s0 [0, 1, 2, 6, 7] [] 0 hS fun ac gs ws hS => ?_
 refine wp_seq ?_
 have hsl := stream_len key num xs.length
 refine rA [(4, .call ⟨158, (c_stream key num xs.length), [], []⟩)] ⟨stream_ok key num xs.length (by first | omega | (simp only [List.length_append, List.length_drop, List.length_take, List.length_replicate, List.length_cons, List.length_nil, List.length_map, List.length_range] <;> omega) | (simp <;> omega)) (by assumption) (by first | omega | (simp only [List.length_append, List.length_drop, List.length_take, List.length_replicate, List.length_cons, List.length_nil, List.length_map, List.length_range] <;> omega) | (simp <;> omega)) (by first | omega | (simp only [List.length_append, List.length_drop, List.length_take, List.length_replicate, List.length_cons, List.length_nil, List.length_map, List.length_range] <;> omega) | (simp <;> omega)), trivial⟩ (fun C => [ndC C 4]) [2, 6, 7, 8, 9] [] 0 ⟨rfl, trivial⟩ hS fun ac gs ws hS => ?_
 refine then_n (wp_seq (s0 [2, 6, 7, 8, 9, 19] [] 0 hS fun ac gs ws hS => ?_))
 refine cond_f hS ?_
 refine wp_skip (then_n (sA [(2, .call ⟨159, (c_xor xs (stream_m key num xs.length)), [], [(0, 0)]⟩)] ⟨xor_ok xs (stream_m key num xs.length) (by omega), trivial⟩ (fun C => [ndC C 2]) [6, 7] [0] 1 ⟨rfl, trivial⟩ hS fun ac gs ws hS => ?_))
 refine wp_ret ?_
 have hM : crypt_m key num xs = xor_m xs (stream_m key num xs.length) := crypt_e key num xs
 exact fin_y rfl (.inr rfl) hS [.sk 0, .v (.int .i64 0)] [(0, some (.sl 5 [.int .u8] (xor_m xs (stream_m key num xs.length))))] rfl (by show H1Ok _ [(0, .sl 5 [.int .u8] (crypt_m key num xs))] true; rw [hM]; first | (simp only []; exact ⟨rfl, trivial⟩) | exact ⟨rfl, trivial⟩)

end Go.Sx.Tryz
namespace Go.Sx.Tryz
open Go.Mi Go.RowKit Go.Sx Go.Proofs
theorem By.nil : By [] := fun x h => by cases h
theorem By.app {a b : List Int} (h : By a) (k : By b) : By (a ++ b) := fun x hx => (List.mem_append.1 hx).elim (h x) (k x)
theorem By.set {a : List Int} (h : By a) (i : Nat) {v : Int} (hv : 0 ≤ v ∧ v < 256) : By (a.set i v) := fun x hx => (List.mem_or_eq_of_mem_set hx).elim (h x) fun e => e ▸ hv
theorem By.take {a : List Int} (h : By a) (n : Nat) : By (a.take n) := fun x hx => h x (List.mem_of_mem_take hx)
theorem By.drop {a : List Int} (h : By a) (n : Nat) : By (a.drop n) := fun x hx => h x (List.mem_of_mem_drop hx)
theorem little64_by (x : Int) : By (little64_m x) := by
 have key : ∀ i, By (little64_l1 x i) := by
  intro i
  induction i with
  | zero => intro y hy; rw [show little64_l1 x 0 = List.replicate 8 (0 : Int) from rfl] at hy; rw [List.eq_of_mem_replicate hy]; exact ⟨Int.le_refl _, (by decide : (0 : Int) < 256)⟩
  | succ i ih => exact By.set ih _ (w8_rg _)
 rw [little64_e]
 exact key 8
theorem srev_by {xs : List Int} (h : By xs) : By (srev_m xs) := by
 have key : ∀ i, By (srev_l1 xs i).2.2 := by
  intro i
  induction i with
  | zero => exact h
  | succ i ih =>
   show By (((srev_l1 xs i).2.2.set _ _).set _ _)
   exact By.set (By.set ih _ (by_getD ih _)) _ (by_getD ih _)
 rw [srev_e]
 exact key _
theorem put64_by (x : Int) : By (put64_m x) := by rw [put64_e]; exact srev_by (little64_by _)
theorem put32_by (x : Int) : By (put32_m x) := by rw [put32_e]; exact By.drop (put64_by _) _
theorem hsum_by (h : Nat → Int) (r : List Int) (n : Int) : By (hsum_m h r n) := by
 have key : ∀ i, By (hsum_l2 h r n i) := by
  intro i
  induction i with
  | zero => exact By.nil
  | succ i ih => exact By.app ih (put32_by _)
 rw [hsum_e]
 exact key 8
theorem kmac_by (u1 : Nat → Int) (r1 : List Int) (n1 : Int) (u2 : Nat → Int) (r2 : List Int) (n2 : Int) (l : List (List Int)) : By (kmac_m u1 r1 n1 u2 r2 n2 l) := by rw [kmac_e]; exact hsum_by _ _ _
theorem expand64_by (key info : List Int) : By (expand64_m key info) := by
 have h : ∀ k, By (expand64_l1 key info k).2.1 := by
  intro k
  induction k with
  | zero => exact By.nil
  | succ k ih => exact By.app ih (kmac_by _ _ _ _ _ _ _)
 rw [expand64_e]
 unfold expand64_v
 rw [List.nil_append]
 exact By.take (h _) _
theorem derive0_64_by (ikm info : List Int) : By (derive0_64_m ikm info) := by rw [derive0_64_e]; exact expand64_by _ _
noncomputable def stag_v (k : List Int) (u1 : Nat → Int) (r1 : List Int) (n1 : Int) (u2 : Nat → Int) (r2 : List Int) (n2 : Int) (num : List Int) (data text : List Int) : (List Int) := kmac_m u1 r1 n1 u2 r2 n2 [num, put64_m ((data.length : Nat) : Int), data, text]
noncomputable def stag_m (k : List Int) (u1 : Nat → Int) (r1 : List Int) (n1 : Int) (u2 : Nat → Int) (r2 : List Int) (n2 : Int) (num : List Int) (data text : List Int) : (List Int) := shut (stag_v k u1 r1 n1 u2 r2 n2 num data text)
theorem stag_e (k : List Int) (u1 : Nat → Int) (r1 : List Int) (n1 : Int) (u2 : Nat → Int) (r2 : List Int) (n2 : Int) (num : List Int) (data text : List Int) : stag_m k u1 r1 n1 u2 r2 n2 num data text = stag_v k u1 r1 n1 u2 r2 n2 num data text := shut_eq _
@[simp] theorem stag_len (k : List Int) (u1 : Nat → Int) (r1 : List Int) (n1 : Int) (u2 : Nat → Int) (r2 : List Int) (n2 : Int) (num data text : List Int) : (stag_m k u1 r1 n1 u2 r2 n2 num data text).length = 32 := by rw [stag_e]; exact kmac_len ..
noncomputable def c_stag (k : List Int) (u1 : Nat → Int) (r1 : List Int) (n1 : Int) (u2 : Nat → Int) (r2 : List Int) (n2 : Int) (num : List Int) (data text : List Int) : Con := ⟨[.im (chain [.ls false [.int .u8] k, .im (chain [.im (chain [.ar .u32 8 u1, .ls false [.int .u8] r1, .v (.int .u64 n1)]) 0, .im (chain [.ar .u32 8 u2, .ls false [.int .u8] r2, .v (.int .u64 n2)]) 0]) 0]) 0, .ls false [.int .u8] num, .ls false [.int .u8] data, .ls false [.int .u8] text], [], .sk 0, [(0, .sl 5 [.int .u8] (stag_m k u1 r1 n1 u2 r2 n2 num data text))]⟩
set_option maxRecDepth 100000 in
set_option maxHeartbeats 1000000 in
theorem stag_ok (k : List Int) (u1 : Nat → Int) (r1 : List Int) (n1 : Int) (u2 : Nat → Int) (r2 : List Int) (n2 : Int) (num : List Int) (data text : List Int) (hr1 : r1.length ≤ 64) (hr2 : r2.length ≤ 64) (hd : data.length ≤ 60000) (ht : text.length ≤ 60000) (hn : num.length = 12) : ConOk Tryz.prog 120 (c_stag k u1 r1 n1 u2 r2 n2 num data text) := by
 refine conOk_of rfl (nb := 0) Tryz.func120 rfl rfl Tryz.ntmps120 rfl rfl rfl fun g0 w0 ac gs ws hg0 hS => ?_
 have hlen1 : num.length ≤ 9223372036854775807 := hS.len 1 rfl
 have hlen2 : data.length ≤ 9223372036854775807 := hS.len 2 rfl
 have hlen3 : text.length ≤ 9223372036854775807 := hS.len 3 rfl
 have hS := hS.sp
 refine s0 [0, 1, 2, 3, 8] [] 0 hS fun ac gs ws hS => ?_
 refine sA [(7, .oi ((data.length : Nat) : Int)), (8, .call ⟨160, (c_put64 ((data.length : Nat) : Int)), [], []⟩), (12, .call ⟨86, (c_kmac u1 r1 n1 u2 r2 n2 [num, put64_m ((data.length : Nat) : Int), data, text]), [], [(0, 0)]⟩)] ⟨put64_ok ((data.length : Nat) : Int), kmac_ok u1 r1 n1 u2 r2 n2 [num, put64_m ((data.length : Nat) : Int), data, text] hr1 hr2 (by first | assumption | omega | (simp only [List.flatten_cons, List.flatten_nil, List.length_append, List.length_cons, List.length_nil, put64_len] <;> omega) | (simp <;> omega)), trivial⟩ (fun C => [IntKind.wrap .u64 ((data.length : Nat) : Int) = ((data.length : Nat) : Int), ndC C 8, ndC C 12]) [8] [0] 1 ⟨wrap_u64 (by omega) (by omega), rfl, rfl, trivial⟩ hS fun ac gs ws hS => ?_
 refine wp_ret ?_
 have hM : stag_m k u1 r1 n1 u2 r2 n2 num data text = kmac_m u1 r1 n1 u2 r2 n2 [num, put64_m ((data.length : Nat) : Int), data, text] := stag_e k u1 r1 n1 u2 r2 n2 num data text
 exact fin_y rfl (.inr rfl) hS [.sk 0] [(0, some (.sl 5 [.int .u8] (kmac_m u1 r1 n1 u2 r2 n2 [num, put64_m ((data.length : Nat) : Int), data, text])))] rfl (by show H1Ok _ [(0, .sl 5 [.int .u8] (stag_m k u1 r1 n1 u2 r2 n2 num data text))] true; rw [hM]; first | (simp only []; exact ⟨rfl, trivial⟩) | exact ⟨rfl, trivial⟩)

noncomputable def c_stagf (k : List Int) (u1 : Nat → Int) (r1 : List Int) (n1 : Int) (u2 : Nat → Int) (r2 : List Int) (n2 : Int) (num : List Int) (data text : List Int) : Con := ⟨[.im (chain [.ls false [.int .u8] k, .im (chain [.im (chain [.ar .u32 8 u1, .ls false [.int .u8] r1, .v (.int .u64 n1)]) 0, .im (chain [.ar .u32 8 u2, .ls false [.int .u8] r2, .v (.int .u64 n2)]) 0]) 0]) 0, .ls false [.int .u8] num, .ls false [.int .u8] data, .ls false [.int .u8] text], [], .ls false [.int .u8] (stag_m k u1 r1 n1 u2 r2 n2 num data text), []⟩
theorem stagf_ok (k : List Int) (u1 : Nat → Int) (r1 : List Int) (n1 : Int) (u2 : Nat → Int) (r2 : List Int) (n2 : Int) (num : List Int) (data text : List Int) (hr1 : r1.length ≤ 64) (hr2 : r2.length ≤ 64) (hd : data.length ≤ 60000) (ht : text.length ≤ 60000) (hn : num.length = 12) : ConOk Tryz.prog 120 (c_stagf k u1 r1 n1 u2 r2 n2 num data text) := ConOk.frz [] 0 5 [.int .u8] (stag_m k u1 r1 n1 u2 r2 n2 num data text) (stag_ok k u1 r1 n1 u2 r2 n2 num data text hr1 hr2 hd ht hn) (by kernel_rfl)
noncomputable def c_stagl (k : List Int) (u1 : Nat → Int) (r1 : List Int) (n1 : Int) (u2 : Nat → Int) (r2 : List Int) (n2 : Int) (num : List Int) (data text : List Int) : Con := ⟨[.im (chain [.ls false [.int .u8] k, .im (chain [.im (chain [.ar .u32 8 u1, .ls false [.int .u8] r1, .v (.int .u64 n1)]) 0, .im (chain [.ar .u32 8 u2, .ls false [.int .u8] r2, .v (.int .u64 n2)]) 0]) 0]) 0, .ls false [.int .u8] num, .ls false [.int .u8] data, .sk 1], [(1, .sl 5 [.int .u8] text)], .sk 0, [(1, .sl 5 [.int .u8] text), (0, .sl 5 [.int .u8] (stag_m k u1 r1 n1 u2 r2 n2 num data text))]⟩
theorem stagl_ok (k : List Int) (u1 : Nat → Int) (r1 : List Int) (n1 : Int) (u2 : Nat → Int) (r2 : List Int) (n2 : Int) (num : List Int) (data text : List Int) (hr1 : r1.length ≤ 64) (hr2 : r2.length ≤ 64) (hd : data.length ≤ 60000) (ht : text.length ≤ 60000) (hn : num.length = 12) : ConOk Tryz.prog 120 (c_stagl k u1 r1 n1 u2 r2 n2 num data text) := ConOk.lend (a1 := [.im (chain [.ls false [.int .u8] k, .im (chain [.im (chain [.ar .u32 8 u1, .ls false [.int .u8] r1, .v (.int .u64 n1)]) 0, .im (chain [.ar .u32 8 u2, .ls false [.int .u8] r2, .v (.int .u64 n2)]) 0]) 0]) 0, .ls false [.int .u8] num, .ls false [.int .u8] data]) (a2 := []) (nn := false) (xs := text) (H0 := []) (H1 := [(0, .sl 5 [.int .u8] (stag_m k u1 r1 n1 u2 r2 n2 num data text))]) (res := (.sk 0)) 1 5 (stag_ok k u1 r1 n1 u2 r2 n2 num data text hr1 hr2 hd ht hn) (fun h => by cases h) (by kernel_rfl)
noncomputable def c_smay65536 (k : List Int) (u1 : Nat → Int) (r1 : List Int) (n1 : Int) (u2 : Nat → Int) (r2 : List Int) (n2 : Int) (num : List Int) (data text : List Int) : Con := ⟨[.im (chain [.ls false [.int .u8] k, .im (chain [.im (chain [.ar .u32 8 u1, .ls false [.int .u8] r1, .v (.int .u64 n1)]) 0, .im (chain [.ar .u32 8 u2, .ls false [.int .u8] r2, .v (.int .u64 n2)]) 0]) 0]) 0, .ls false [.int .u8] num, .ls false [.int .u8] data, .ls false [.int .u8] text, .v (.int .i64 65536)], [], .v (.int .i64 0), []⟩
set_option maxRecDepth 100000 in
set_option maxHeartbeats 1000000 in
theorem smay65536_ok (k : List Int) (u1 : Nat → Int) (r1 : List Int) (n1 : Int) (u2 : Nat → Int) (r2 : List Int) (n2 : Int) (num : List Int) (data text : List Int) (hd : data.length ≤ 60000) (ht : text.length ≤ 60000) (hn : num.length = 12) : ConOk Tryz.prog 118 (c_smay65536 k u1 r1 n1 u2 r2 n2 num data text) := by
 refine conOk_of rfl (nb := 0) Tryz.func118 rfl rfl Tryz.ntmps118 rfl rfl rfl fun g0 w0 ac gs ws hg0 hS => ?_
 have hlen1 : num.length ≤ 9223372036854775807 := hS.len 1 rfl
 have hlen2 : data.length ≤ 9223372036854775807 := hS.len 2 rfl
 have hlen3 : text.length ≤ 9223372036854775807 := hS.len 3 rfl
 have hS := hS.sp
 have hn1 : ((num.length : Nat) : Int) = 12 := (by omega)
 have ht1 : ¬ (65536 : Int) < ((text.length : Nat) : Int) := (by omega)
 have hd1 : ¬ (65536 : Int) < ((data.length : Nat) : Int) := (by omega)
 refine s0 [0, 1, 2, 3, 4, 10] [] 0 hS fun ac gs ws hS => ?_
 refine wp_seq (wp_block (sA [(12, .ob false)] trivial (fun _ => [(!decide (((num.length : Nat) : Int) = 12)) = false]) [2, 3, 4, 10, 11] [] 0 ⟨by rw [decide_eq_true hn1]; rfl, trivial⟩ hS fun ac gs ws hS => ?_))
 refine cond_f hS ?_
 refine sA [(3, .ob false), (7, .ob false)] trivial (fun _ => [(decide ((65536 : Int) < ((text.length : Nat) : Int))) = false, (decide ((65536 : Int) < ((data.length : Nat) : Int))) = false]) [10, 26] [] 0 ⟨decide_eq_false ht1, decide_eq_false hd1, trivial⟩ hS fun ac gs ws hS => ?_
 refine cond_f hS ?_
 refine wp_skip (block_n (then_n (s0 [10] [] 0 hS fun ac gs ws hS => ?_)))
 refine wp_ret ?_
 exact fin_y rfl (.inr rfl) hS [.v (.int .i64 0)] [] rfl trivial

noncomputable def c_smay65568 (k : List Int) (u1 : Nat → Int) (r1 : List Int) (n1 : Int) (u2 : Nat → Int) (r2 : List Int) (n2 : Int) (num : List Int) (data text : List Int) : Con := ⟨[.im (chain [.ls false [.int .u8] k, .im (chain [.im (chain [.ar .u32 8 u1, .ls false [.int .u8] r1, .v (.int .u64 n1)]) 0, .im (chain [.ar .u32 8 u2, .ls false [.int .u8] r2, .v (.int .u64 n2)]) 0]) 0]) 0, .ls false [.int .u8] num, .ls false [.int .u8] data, .ls false [.int .u8] text, .v (.int .i64 65568)], [], .v (.int .i64 0), []⟩
set_option maxRecDepth 100000 in
set_option maxHeartbeats 1000000 in
theorem smay65568_ok (k : List Int) (u1 : Nat → Int) (r1 : List Int) (n1 : Int) (u2 : Nat → Int) (r2 : List Int) (n2 : Int) (num : List Int) (data text : List Int) (hd : data.length ≤ 60000) (ht : text.length ≤ 60000) (hn : num.length = 12) : ConOk Tryz.prog 118 (c_smay65568 k u1 r1 n1 u2 r2 n2 num data text) := by
 refine conOk_of rfl (nb := 0) Tryz.func118 rfl rfl Tryz.ntmps118 rfl rfl rfl fun g0 w0 ac gs ws hg0 hS => ?_
 have hlen1 : num.length ≤ 9223372036854775807 := hS.len 1 rfl
 have hlen2 : data.length ≤ 9223372036854775807 := hS.len 2 rfl
 have hlen3 : text.length ≤ 9223372036854775807 := hS.len 3 rfl
 have hS := hS.sp
 have hn1 : ((num.length : Nat) : Int) = 12 := (by omega)
 have ht1 : ¬ (65568 : Int) < ((text.length : Nat) : Int) := (by omega)
 have hd1 : ¬ (65536 : Int) < ((data.length : Nat) : Int) := (by omega)
 refine s0 [0, 1, 2, 3, 4, 10] [] 0 hS fun ac gs ws hS => ?_
 refine wp_seq (wp_block (sA [(12, .ob false)] trivial (fun _ => [(!decide (((num.length : Nat) : Int) = 12)) = false]) [2, 3, 4, 10, 11] [] 0 ⟨by rw [decide_eq_true hn1]; rfl, trivial⟩ hS fun ac gs ws hS => ?_))
 refine cond_f hS ?_
 refine sA [(3, .ob false), (7, .ob false)] trivial (fun _ => [(decide ((65568 : Int) < ((text.length : Nat) : Int))) = false, (decide ((65536 : Int) < ((data.length : Nat) : Int))) = false]) [10, 26] [] 0 ⟨decide_eq_false ht1, decide_eq_false hd1, trivial⟩ hS fun ac gs ws hS => ?_
 refine cond_f hS ?_
 refine wp_skip (block_n (then_n (s0 [10] [] 0 hS fun ac gs ws hS => ?_)))
 refine wp_ret ?_
 exact fin_y rfl (.inr rfl) hS [.v (.int .i64 0)] [] rfl trivial

end Go.Sx.Tryz
namespace Go.Sx.Tryz
open Go.Mi Go.RowKit Go.Sx Go.Proofs
noncomputable def newbox_v (key : List Int) : (List Int) × (Nat → Int) × (List Int) × Int × (Nat → Int) × (List Int) × Int := ((derive0_64_m key [115, 101, 97, 108]).take 32, (newkey_m ((derive0_64_m key [115, 101, 97, 108]).drop 32)).1, (newkey_m ((derive0_64_m key [115, 101, 97, 108]).drop 32)).2.1, ((newkey_m ((derive0_64_m key [115, 101, 97, 108]).drop 32)).2.2.1), (newkey_m ((derive0_64_m key [115, 101, 97, 108]).drop 32)).2.2.2.1, (newkey_m ((derive0_64_m key [115, 101, 97, 108]).drop 32)).2.2.2.2.1, ((newkey_m ((derive0_64_m key [115, 101, 97, 108]).drop 32)).2.2.2.2.2))
noncomputable def newbox_m (key : List Int) : (List Int) × (Nat → Int) × (List Int) × Int × (Nat → Int) × (List Int) × Int := shut (newbox_v key)
theorem newbox_e (key : List Int) : newbox_m key = newbox_v key := shut_eq _
theorem newbox_ok1 (key : List Int) : (newbox_m key).1.length = 32 ∧ By (newbox_m key).1 ∧ (newbox_m key).2.2.1.length ≤ 64 ∧ (newbox_m key).2.2.2.2.2.1.length ≤ 64 := by
 rw [newbox_e]
 refine ⟨?_, ?_, (newkey_len _).1, (newkey_len _).2⟩
 ·show ((derive0_64_m _ _).take 32).length = 32
  rw [List.length_take, derive0_64_len]; rfl
 ·exact By.take (derive0_64_by _ _) _
noncomputable def c_newbox (key : List Int) : Con := ⟨[.ls false [.int .u8] key], [], .tu (chain [.im (chain [.ls false [.int .u8] ((newbox_m key).1), .im (chain [.im (chain [.ar .u32 8 ((newbox_m key).2.1), .ls false [.int .u8] ((newbox_m key).2.2.1), .v (.int .u64 ((newbox_m key).2.2.2.1))]) 0, .im (chain [.ar .u32 8 ((newbox_m key).2.2.2.2.1), .ls false [.int .u8] ((newbox_m key).2.2.2.2.2.1), .v (.int .u64 ((newbox_m key).2.2.2.2.2.2))]) 0]) 0]) 0, .v (.int .i64 0)]), []⟩
set_option maxRecDepth 100000 in
set_option maxHeartbeats 1000000 in
theorem newbox_ok (key : List Int) (hk : key.length = 32) : ConOk Tryz.prog 82 (c_newbox key) := by
 refine conOk_of rfl (nb := 0) Tryz.func82 rfl rfl Tryz.ntmps82 rfl rfl rfl fun g0 w0 ac gs ws hg0 hS => ?_
 have hlen0 : key.length ≤ 9223372036854775807 := hS.len 0 rfl
 have hS := hS.sp
 have hk1 : ((key.length : Nat) : Int) = 32 := (by omega)
 refine s0 [0, 2, 3] [] 0 hS fun ac gs ws hS => ?_
 refine wp_seq (sA [(2, .ob false)] trivial (fun _ => [(!decide (((key.length : Nat) : Int) = 32)) = false]) [0, 2, 3, 7] [] 0 ⟨by rw [decide_eq_true hk1]; rfl, trivial⟩ hS fun ac gs ws hS => ?_)
 refine cond_f hS ?_
 refine wp_skip (then_n (sA [(1, .own), (3, .call ⟨75, (c_derive0_64 key [115, 101, 97, 108]), [], []⟩)] ⟨derive0_64_ok key [115, 101, 97, 108] (by first | omega | (simp only [List.length_append, List.length_drop, List.length_take, List.length_replicate, List.length_cons, List.length_nil, List.length_map, List.length_range] <;> omega) | (simp <;> omega)) (by first | omega | (simp only [List.length_append, List.length_drop, List.length_take, List.length_replicate, List.length_cons, List.length_nil, List.length_map, List.length_range] <;> omega) | (simp <;> omega)), trivial⟩ (fun C => [0 < [115, 101, 97, 108].length, ndC C 3]) [2, 3, 4] [] 1 ⟨by decide, rfl, trivial⟩ hS fun ac gs ws hS => ?_))
 refine wp_seq ?_
 have hdl := derive0_64_len key [115, 101, 97, 108]
 refine rA [(4, .call ⟨85, (c_newkey ((derive0_64_m key [115, 101, 97, 108]).drop 32)), [], []⟩)] ⟨newkey_ok ((derive0_64_m key [115, 101, 97, 108]).drop 32) (by first | omega | (simp only [List.length_append, List.length_drop, List.length_take, List.length_replicate, List.length_cons, List.length_nil, List.length_map, List.length_range] <;> omega) | (simp <;> omega)), trivial⟩ (fun C => [bndP none (some 32) none (derive0_64_m key [115, 101, 97, 108]).length (derive0_64_m key [115, 101, 97, 108]).length, bndP (some 32) none none (derive0_64_m key [115, 101, 97, 108]).length (derive0_64_m key [115, 101, 97, 108]).length, ndC C 4]) [2, 3] [1] 2 ⟨⟨by simp only [nnI] <;> omega, by simp only [nnI] <;> omega, by simp only [nnI] <;> omega, by simp, by simp only [bl] <;> omega, by simp only [bl] <;> omega, by simp only [bl] <;> omega⟩, ⟨by simp only [nnI] <;> omega, by simp only [nnI] <;> omega, by simp only [nnI] <;> omega, by simp, by simp only [bl] <;> omega, by simp only [bl] <;> omega, by simp only [bl] <;> omega⟩, rfl, trivial⟩ hS fun ac gs ws hS => ?_
 obtain ⟨gs, hS⟩ := hS.im 1
 refine then_n (wp_ret ?_)
 have hM : newbox_m key = ((derive0_64_m key [115, 101, 97, 108]).take 32, (newkey_m ((derive0_64_m key [115, 101, 97, 108]).drop 32)).1, (newkey_m ((derive0_64_m key [115, 101, 97, 108]).drop 32)).2.1, ((newkey_m ((derive0_64_m key [115, 101, 97, 108]).drop 32)).2.2.1), (newkey_m ((derive0_64_m key [115, 101, 97, 108]).drop 32)).2.2.2.1, (newkey_m ((derive0_64_m key [115, 101, 97, 108]).drop 32)).2.2.2.2.1, ((newkey_m ((derive0_64_m key [115, 101, 97, 108]).drop 32)).2.2.2.2.2)) := newbox_e key
 exact fin_y rfl (.inr rfl) hS [.im (chain [.ls false [.int .u8] ((derive0_64_m key [115, 101, 97, 108]).take 32), .im (chain [.im (chain [.ar .u32 8 ((newkey_m ((derive0_64_m key [115, 101, 97, 108]).drop 32)).1), .ls false [.int .u8] ((newkey_m ((derive0_64_m key [115, 101, 97, 108]).drop 32)).2.1), .v (.int .u64 ((newkey_m ((derive0_64_m key [115, 101, 97, 108]).drop 32)).2.2.1))]) 0, .im (chain [.ar .u32 8 ((newkey_m ((derive0_64_m key [115, 101, 97, 108]).drop 32)).2.2.2.1), .ls false [.int .u8] ((newkey_m ((derive0_64_m key [115, 101, 97, 108]).drop 32)).2.2.2.2.1), .v (.int .u64 ((newkey_m ((derive0_64_m key [115, 101, 97, 108]).drop 32)).2.2.2.2.2))]) 0]) 0]) 0, .v (.int .i64 0)] [] (by show weak _ (.tu (chain [.im (chain [.ls false [.int .u8] ((newbox_m key).1), .im (chain [.im (chain [.ar .u32 8 ((newbox_m key).2.1), .ls false [.int .u8] ((newbox_m key).2.2.1), .v (.int .u64 ((newbox_m key).2.2.2.1))]) 0, .im (chain [.ar .u32 8 ((newbox_m key).2.2.2.2.1), .ls false [.int .u8] ((newbox_m key).2.2.2.2.2.1), .v (.int .u64 ((newbox_m key).2.2.2.2.2.2))]) 0]) 0]) 0, .v (.int .i64 0)])) = (.tu (chain [.im (chain [.ls false [.int .u8] ((newbox_m key).1), .im (chain [.im (chain [.ar .u32 8 ((newbox_m key).2.1), .ls false [.int .u8] ((newbox_m key).2.2.1), .v (.int .u64 ((newbox_m key).2.2.2.1))]) 0, .im (chain [.ar .u32 8 ((newbox_m key).2.2.2.2.1), .ls false [.int .u8] ((newbox_m key).2.2.2.2.2.1), .v (.int .u64 ((newbox_m key).2.2.2.2.2.2))]) 0]) 0]) 0, .v (.int .i64 0)])); rw [hM]; first | (simp only []; rfl) | (simp only []; done) | rfl) trivial

noncomputable def bseal_v (k : List Int) (u1 : Nat → Int) (r1 : List Int) (n1 : Int) (u2 : Nat → Int) (r2 : List Int) (n2 : Int) (num : List Int) (data text : List Int) : (List Int) := (crypt_m k num text) ++ (stag_m k u1 r1 n1 u2 r2 n2 num data (crypt_m k num text))
noncomputable def bseal_m (k : List Int) (u1 : Nat → Int) (r1 : List Int) (n1 : Int) (u2 : Nat → Int) (r2 : List Int) (n2 : Int) (num : List Int) (data text : List Int) : (List Int) := shut (bseal_v k u1 r1 n1 u2 r2 n2 num data text)
theorem bseal_e (k : List Int) (u1 : Nat → Int) (r1 : List Int) (n1 : Int) (u2 : Nat → Int) (r2 : List Int) (n2 : Int) (num : List Int) (data text : List Int) : bseal_m k u1 r1 n1 u2 r2 n2 num data text = bseal_v k u1 r1 n1 u2 r2 n2 num data text := shut_eq _
noncomputable def c_bseal (k : List Int) (u1 : Nat → Int) (r1 : List Int) (n1 : Int) (u2 : Nat → Int) (r2 : List Int) (n2 : Int) (num : List Int) (data text : List Int) : Con := ⟨[.im (chain [.ls false [.int .u8] k, .im (chain [.im (chain [.ar .u32 8 u1, .ls false [.int .u8] r1, .v (.int .u64 n1)]) 0, .im (chain [.ar .u32 8 u2, .ls false [.int .u8] r2, .v (.int .u64 n2)]) 0]) 0]) 0, .ls false [.int .u8] num, .ls false [.int .u8] data, .ls false [.int .u8] text], [], .tu (chain [.ls false [.int .u8] (bseal_m k u1 r1 n1 u2 r2 n2 num data text), .v (.int .i64 0)]), []⟩
set_option maxRecDepth 100000 in
set_option maxHeartbeats 1000000 in
theorem bseal_ok (k : List Int) (u1 : Nat → Int) (r1 : List Int) (n1 : Int) (u2 : Nat → Int) (r2 : List Int) (n2 : Int) (num : List Int) (data text : List Int) (hkl : k.length = 32) (hkb : By k) (hr1 : r1.length ≤ 64) (hr2 : r2.length ≤ 64) (hd : data.length ≤ 60000) (ht : text.length ≤ 60000) (hn : num.length = 12) : ConOk Tryz.prog 83 (c_bseal k u1 r1 n1 u2 r2 n2 num data text) := by
 refine conOk_of rfl (nb := 0) Tryz.func83 rfl rfl Tryz.ntmps83 rfl rfl rfl fun g0 w0 ac gs ws hg0 hS => ?_
 have hlen1 : num.length ≤ 9223372036854775807 := hS.len 1 rfl
 have hlen2 : data.length ≤ 9223372036854775807 := hS.len 2 rfl
 have hlen3 : text.length ≤ 9223372036854775807 := hS.len 3 rfl
 have hS := hS.sp
 refine s0 [0, 1, 2, 3, 8, 9] [] 0 hS fun ac gs ws hS => ?_
 refine wp_seq (sA [(4, .call ⟨118, (c_smay65536 k u1 r1 n1 u2 r2 n2 num data text), [], []⟩)] ⟨smay65536_ok k u1 r1 n1 u2 r2 n2 num data text (by first | omega | (simp only [List.length_append, List.length_drop, List.length_take, List.length_replicate, List.length_cons, List.length_nil, List.length_map, List.length_range] <;> omega) | (simp <;> omega)) (by first | omega | (simp only [List.length_append, List.length_drop, List.length_take, List.length_replicate, List.length_cons, List.length_nil, List.length_map, List.length_range] <;> omega) | (simp <;> omega)) (by first | omega | (simp only [List.length_append, List.length_drop, List.length_take, List.length_replicate, List.length_cons, List.length_nil, List.length_map, List.length_range] <;> omega) | (simp <;> omega)), trivial⟩ (fun C => [ndC C 4]) [0, 1, 2, 3, 8, 9, 10] [] 0 ⟨rfl, trivial⟩ hS fun ac gs ws hS => ?_)
 refine s0 [0, 1, 2, 3, 8, 9, 10, 19] [] 0 hS fun ac gs ws hS => ?_
 refine cond_f hS ?_
 refine wp_skip (then_n (sA [(6, .call ⟨119, (c_crypt k num text), [], [(0, 0)]⟩)] ⟨crypt_ok k num text (by first | omega | (simp only [List.length_append, List.length_drop, List.length_take, List.length_replicate, List.length_cons, List.length_nil, List.length_map, List.length_range] <;> omega) | (simp <;> omega)) (by assumption) (by first | omega | (simp only [List.length_append, List.length_drop, List.length_take, List.length_replicate, List.length_cons, List.length_nil, List.length_map, List.length_range] <;> omega) | (simp <;> omega)) (by first | omega | (simp only [List.length_append, List.length_drop, List.length_take, List.length_replicate, List.length_cons, List.length_nil, List.length_map, List.length_range] <;> omega) | (simp <;> omega)), trivial⟩ (fun C => [ndC C 6]) [0, 1, 2, 8, 9, 11] [0] 1 ⟨rfl, trivial⟩ hS fun ac gs ws hS => ?_))
 refine wp_seq ?_
 have hcl := crypt_len k num text
 refine rA [(5, .call ⟨120, (c_stagl k u1 r1 n1 u2 r2 n2 num data (crypt_m k num text)), [(1, 0)], [(0, 1)]⟩)] ⟨stagl_ok k u1 r1 n1 u2 r2 n2 num data (crypt_m k num text) hr1 hr2 (by first | omega | (simp only [List.length_append, List.length_drop, List.length_take, List.length_replicate, List.length_cons, List.length_nil, List.length_map, List.length_range] <;> omega) | (simp <;> omega)) (by rw [crypt_len]; exact ht) (by first | omega | (simp only [List.length_append, List.length_drop, List.length_take, List.length_replicate, List.length_cons, List.length_nil, List.length_map, List.length_range] <;> omega) | (simp <;> omega)), trivial⟩ (fun C => [ndC C 5, (crypt_m k num text).length + (stag_m k u1 r1 n1 u2 r2 n2 num data (crypt_m k num text)).length ≤ 9223372036854775807, ((crypt_m k num text).length + (stag_m k u1 r1 n1 u2 r2 n2 num data (crypt_m k num text)).length) * 1 ≤ 140737488355328]) [8, 9] [2] 3 ⟨rfl, by (first | omega | (simp only [crypt_len, stag_len]; omega)), by (first | omega | (simp only [crypt_len, stag_len]; omega)), trivial⟩ hS fun ac gs ws hS => ?_
 refine then_n (wp_ret ?_)
 have hM : bseal_m k u1 r1 n1 u2 r2 n2 num data text = (crypt_m k num text) ++ (stag_m k u1 r1 n1 u2 r2 n2 num data (crypt_m k num text)) := bseal_e k u1 r1 n1 u2 r2 n2 num data text
 obtain ⟨gs, hS⟩ := hS.fz 2
 exact fin_y rfl (.inr rfl) hS [.ls false [.int .u8] ((crypt_m k num text) ++ (stag_m k u1 r1 n1 u2 r2 n2 num data (crypt_m k num text))), .v (.int .i64 0)] [] (by show weak _ (.tu (chain [.ls false [.int .u8] (bseal_m k u1 r1 n1 u2 r2 n2 num data text), .v (.int .i64 0)])) = (.tu (chain [.ls false [.int .u8] (bseal_m k u1 r1 n1 u2 r2 n2 num data text), .v (.int .i64 0)])); rw [hM]; first | (simp only []; rfl) | (simp only []; done) | rfl) trivial

noncomputable def seal_v (key num : List Int) (data text : List Int) : (List Int) := bseal_m ((newbox_m key).1) ((newbox_m key).2.1) ((newbox_m key).2.2.1) ((newbox_m key).2.2.2.1) ((newbox_m key).2.2.2.2.1) ((newbox_m key).2.2.2.2.2.1) ((newbox_m key).2.2.2.2.2.2) num data text
noncomputable def seal_m (key num : List Int) (data text : List Int) : (List Int) := shut (seal_v key num data text)
theorem seal_e (key num : List Int) (data text : List Int) : seal_m key num data text = seal_v key num data text := shut_eq _
noncomputable def c_seal (key num : List Int) (data text : List Int) : Con := ⟨[.ls false [.int .u8] key, .ls false [.int .u8] num, .ls false [.int .u8] data, .ls false [.int .u8] text], [], .tu (chain [.ls false [.int .u8] (seal_m key num data text), .v (.int .i64 0)]), []⟩
set_option maxRecDepth 100000 in
set_option maxHeartbeats 1000000 in
theorem seal_ok (key num : List Int) (data text : List Int) (hk : key.length = 32) (hd : data.length ≤ 60000) (ht : text.length ≤ 60000) (hn : num.length = 12) : ConOk Tryz.prog 50 (c_seal key num data text) := by
 refine conOk_of rfl (nb := 0) Tryz.func50 rfl rfl Tryz.ntmps50 rfl rfl rfl fun g0 w0 ac gs ws hg0 hS => ?_
 have hlen0 : key.length ≤ 9223372036854775807 := hS.len 0 rfl
 have hlen1 : num.length ≤ 9223372036854775807 := hS.len 1 rfl
 have hlen2 : data.length ≤ 9223372036854775807 := hS.len 2 rfl
 have hlen3 : text.length ≤ 9223372036854775807 := hS.len 3 rfl
 have hS := hS.sp
 refine s0 [0, 1, 2, 3, 8, 9] [] 0 hS fun ac gs ws hS => ?_
 refine sA [(1, .call ⟨82, (c_newbox key), [], []⟩)] ⟨newbox_ok key (by first | omega | (simp only [List.length_append, List.length_drop, List.length_take, List.length_replicate, List.length_cons, List.length_nil, List.length_map, List.length_range] <;> omega) | (simp <;> omega)), trivial⟩ (fun C => [ndC C 1]) [1, 2, 3, 8, 9, 10, 11] [] 0 ⟨rfl, trivial⟩ hS fun ac gs ws hS => ?_
 refine wp_seq (s0 [1, 2, 3, 8, 9, 10, 11, 18] [] 0 hS fun ac gs ws hS => ?_)
 refine cond_f hS ?_
 refine wp_skip (then_n (sA [(4, .call ⟨83, (c_bseal ((newbox_m key).1) ((newbox_m key).2.1) ((newbox_m key).2.2.1) ((newbox_m key).2.2.2.1) ((newbox_m key).2.2.2.2.1) ((newbox_m key).2.2.2.2.2.1) ((newbox_m key).2.2.2.2.2.2) num data text), [], []⟩)] ⟨bseal_ok ((newbox_m key).1) ((newbox_m key).2.1) ((newbox_m key).2.2.1) ((newbox_m key).2.2.2.1) ((newbox_m key).2.2.2.2.1) ((newbox_m key).2.2.2.2.2.1) ((newbox_m key).2.2.2.2.2.2) num data text (newbox_ok1 key).1 (newbox_ok1 key).2.1 (newbox_ok1 key).2.2.1 (newbox_ok1 key).2.2.2 (by first | omega | (simp only [List.length_append, List.length_drop, List.length_take, List.length_replicate, List.length_cons, List.length_nil, List.length_map, List.length_range] <;> omega) | (simp <;> omega)) (by first | omega | (simp only [List.length_append, List.length_drop, List.length_take, List.length_replicate, List.length_cons, List.length_nil, List.length_map, List.length_range] <;> omega) | (simp <;> omega)) (by first | omega | (simp only [List.length_append, List.length_drop, List.length_take, List.length_replicate, List.length_cons, List.length_nil, List.length_map, List.length_range] <;> omega) | (simp <;> omega)), trivial⟩ (fun C => [ndC C 4]) [8, 9] [] 0 ⟨rfl, trivial⟩ hS fun ac gs ws hS => ?_))
 refine wp_ret ?_
 have hM : seal_m key num data text = bseal_m ((newbox_m key).1) ((newbox_m key).2.1) ((newbox_m key).2.2.1) ((newbox_m key).2.2.2.1) ((newbox_m key).2.2.2.2.1) ((newbox_m key).2.2.2.2.2.1) ((newbox_m key).2.2.2.2.2.2) num data text := seal_e key num data text
 exact fin_y rfl (.inr rfl) hS [.ls false [.int .u8] (bseal_m ((newbox_m key).1) ((newbox_m key).2.1) ((newbox_m key).2.2.1) ((newbox_m key).2.2.2.1) ((newbox_m key).2.2.2.2.1) ((newbox_m key).2.2.2.2.2.1) ((newbox_m key).2.2.2.2.2.2) num data text), .v (.int .i64 0)] [] (by show weak _ (.tu (chain [.ls false [.int .u8] (seal_m key num data text), .v (.int .i64 0)])) = (.tu (chain [.ls false [.int .u8] (seal_m key num data text), .v (.int .i64 0)])); rw [hM]; first | (simp only []; rfl) | (simp only []; done) | rfl) trivial

noncomputable def bopen_v (k : List Int) (u1 : Nat → Int) (r1 : List Int) (n1 : Int) (u2 : Nat → Int) (r2 : List Int) (n2 : Int) (num : List Int) (data text : List Int) : (List Int) × Nat := if (((text.length : Nat) : Int) - 32) < 0 then ([], 2) else (if (stag_m k u1 r1 n1 u2 r2 n2 num data (text.take (Int.toNat (((text.length : Nat) : Int) - 32)))) = (text.drop (Int.toNat (((text.length : Nat) : Int) - 32))) then (crypt_m k num (text.take (Int.toNat (((text.length : Nat) : Int) - 32))), 0) else ([], 2))
noncomputable def bopen_m (k : List Int) (u1 : Nat → Int) (r1 : List Int) (n1 : Int) (u2 : Nat → Int) (r2 : List Int) (n2 : Int) (num : List Int) (data text : List Int) : (List Int) × Nat := shut (bopen_v k u1 r1 n1 u2 r2 n2 num data text)
theorem bopen_e (k : List Int) (u1 : Nat → Int) (r1 : List Int) (n1 : Int) (u2 : Nat → Int) (r2 : List Int) (n2 : Int) (num : List Int) (data text : List Int) : bopen_m k u1 r1 n1 u2 r2 n2 num data text = bopen_v k u1 r1 n1 u2 r2 n2 num data text := shut_eq _
noncomputable def c_bopen (k : List Int) (u1 : Nat → Int) (r1 : List Int) (n1 : Int) (u2 : Nat → Int) (r2 : List Int) (n2 : Int) (num : List Int) (data text : List Int) : Con := ⟨[.im (chain [.ls false [.int .u8] k, .im (chain [.im (chain [.ar .u32 8 u1, .ls false [.int .u8] r1, .v (.int .u64 n1)]) 0, .im (chain [.ar .u32 8 u2, .ls false [.int .u8] r2, .v (.int .u64 n2)]) 0]) 0]) 0, .ls false [.int .u8] num, .ls false [.int .u8] data, .ls false [.int .u8] text], [], .tu (chain [.ls false [.int .u8] ((bopen_m k u1 r1 n1 u2 r2 n2 num data text).1), .v (.int .i64 (((bopen_m k u1 r1 n1 u2 r2 n2 num data text).2 : Nat) : Int))]), []⟩
set_option maxRecDepth 100000 in
set_option maxHeartbeats 1000000 in
theorem bopen_ok (k : List Int) (u1 : Nat → Int) (r1 : List Int) (n1 : Int) (u2 : Nat → Int) (r2 : List Int) (n2 : Int) (num : List Int) (data text : List Int) (hkl : k.length = 32) (hkb : By k) (hr1 : r1.length ≤ 64) (hr2 : r2.length ≤ 64) (hd : data.length ≤ 60000) (ht : text.length ≤ 60000) (hn : num.length = 12) : ConOk Tryz.prog 104 (c_bopen k u1 r1 n1 u2 r2 n2 num data text) := by
 refine conOk_of rfl (nb := 0) Tryz.func104 rfl rfl Tryz.ntmps104 rfl rfl rfl fun g0 w0 ac gs ws hg0 hS => ?_
 have hlen1 : num.length ≤ 9223372036854775807 := hS.len 1 rfl
 have hlen2 : data.length ≤ 9223372036854775807 := hS.len 2 rfl
 have hlen3 : text.length ≤ 9223372036854775807 := hS.len 3 rfl
 have hS := hS.sp
 refine s0 [0, 1, 2, 3, 8, 9] [] 0 hS fun ac gs ws hS => ?_
 refine wp_seq (sA [(4, .call ⟨118, (c_smay65568 k u1 r1 n1 u2 r2 n2 num data text), [], []⟩)] ⟨smay65568_ok k u1 r1 n1 u2 r2 n2 num data text (by first | omega | (simp only [List.length_append, List.length_drop, List.length_take, List.length_replicate, List.length_cons, List.length_nil, List.length_map, List.length_range] <;> omega) | (simp <;> omega)) (by first | omega | (simp only [List.length_append, List.length_drop, List.length_take, List.length_replicate, List.length_cons, List.length_nil, List.length_map, List.length_range] <;> omega) | (simp <;> omega)) (by first | omega | (simp only [List.length_append, List.length_drop, List.length_take, List.length_replicate, List.length_cons, List.length_nil, List.length_map, List.length_range] <;> omega) | (simp <;> omega)), trivial⟩ (fun C => [ndC C 4]) [0, 1, 2, 3, 8, 9, 10] [] 0 ⟨rfl, trivial⟩ hS fun ac gs ws hS => ?_)
 refine s0 [0, 1, 2, 3, 8, 9, 10, 18] [] 0 hS fun ac gs ws hS => ?_
 refine cond_f hS ?_
 refine wp_skip (then_n (sA [(2, .oi (((text.length : Nat) : Int) - 32))] trivial (fun _ => [isub .i64 ((text.length : Nat) : Int) 32 = (((text.length : Nat) : Int) - 32)]) [0, 1, 2, 3, 8, 9, 11] [] 0 ⟨isub64 (by omega) (by omega), trivial⟩ hS fun ac gs ws hS => ?_))
 refine wp_seq (wp_seq ?_)
 by_cases h1 : (((text.length : Nat) : Int) - 32) < 0
 ·refine rA [(1, .ob true)] trivial (fun _ => [(decide ((((text.length : Nat) : Int) - 32) < 0)) = true]) [0, 1, 3, 8, 9, 11, 38] [] 0 ⟨decide_eq_true h1, trivial⟩ hS fun ac gs ws hS => ?_
  refine then_n (cond_t hS ?_)
  refine s0 [0, 1, 3, 8, 9, 11] [] 0 hS fun ac gs ws hS => ?_
  refine wp_ret (then_ret ?_)
  have hM : bopen_m k u1 r1 n1 u2 r2 n2 num data text = ([], 2) := (bopen_e k u1 r1 n1 u2 r2 n2 num data text).trans (if_pos h1)
  have hS := hS.wk 8 (.ls false [.int .u8] [])
  exact fin_y rfl (.inr rfl) hS [.ls false [.int .u8] [], .v (.int .i64 2)] [] (by show weak _ (.tu (chain [.ls false [.int .u8] ((bopen_m k u1 r1 n1 u2 r2 n2 num data text).1), .v (.int .i64 (((bopen_m k u1 r1 n1 u2 r2 n2 num data text).2 : Nat) : Int))])) = (.tu (chain [.ls false [.int .u8] ((bopen_m k u1 r1 n1 u2 r2 n2 num data text).1), .v (.int .i64 (((bopen_m k u1 r1 n1 u2 r2 n2 num data text).2 : Nat) : Int))])); rw [hM]; first | (simp only []; rfl) | (simp only []; done) | rfl) trivial
 ·refine rA [(1, .ob false), (9, .call ⟨120, (c_stagf k u1 r1 n1 u2 r2 n2 num data (text.take (Int.toNat (((text.length : Nat) : Int) - 32)))), [], []⟩), (13, .call ⟨37, (c_equal (stag_m k u1 r1 n1 u2 r2 n2 num data (text.take (Int.toNat (((text.length : Nat) : Int) - 32)))) (text.drop (Int.toNat (((text.length : Nat) : Int) - 32)))), [], []⟩)] ⟨stagf_ok k u1 r1 n1 u2 r2 n2 num data (text.take (Int.toNat (((text.length : Nat) : Int) - 32))) hr1 hr2 (by first | omega | (simp only [List.length_append, List.length_drop, List.length_take, List.length_replicate, List.length_cons, List.length_nil, List.length_map, List.length_range] <;> omega) | (simp <;> omega)) (by first | omega | (simp only [List.length_append, List.length_drop, List.length_take, List.length_replicate, List.length_cons, List.length_nil, List.length_map, List.length_range] <;> omega) | (simp <;> omega)) (by first | omega | (simp only [List.length_append, List.length_drop, List.length_take, List.length_replicate, List.length_cons, List.length_nil, List.length_map, List.length_range] <;> omega) | (simp <;> omega)), equal_ok (stag_m k u1 r1 n1 u2 r2 n2 num data (text.take (Int.toNat (((text.length : Nat) : Int) - 32)))) (text.drop (Int.toNat (((text.length : Nat) : Int) - 32))), trivial⟩ (fun C => [(decide ((((text.length : Nat) : Int) - 32) < 0)) = false, bndP none (some (((text.length : Nat) : Int) - 32)) none text.length text.length, ndC C 9, bndP (some (((text.length : Nat) : Int) - 32)) none none text.length text.length, ndC C 13]) [0, 1, 3, 8, 9, 11, 38] [] 0 ⟨decide_eq_false h1, ⟨by simp only [nnI] <;> omega, by simp only [nnI] <;> omega, by simp only [nnI] <;> omega, by simp, by simp only [bl] <;> omega, by simp only [bl] <;> omega, by simp only [bl] <;> omega⟩, rfl, ⟨by simp only [nnI] <;> omega, by simp only [nnI] <;> omega, by simp only [nnI] <;> omega, by simp, by simp only [bl] <;> omega, by simp only [bl] <;> omega, by simp only [bl] <;> omega⟩, rfl, trivial⟩ hS fun ac gs ws hS => ?_
  refine then_n ?_
  refine if_n ((stag_m k u1 r1 n1 u2 r2 n2 num data (text.take (Int.toNat (((text.length : Nat) : Int) - 32)))) = (text.drop (Int.toNat (((text.length : Nat) : Int) - 32)))) hS (fun h2 => ?_) (fun h2 => ?_)
  ·refine s0 [0, 1, 3, 8, 9, 11] [] 0 hS fun ac gs ws hS => ?_
   refine wp_ret (then_ret ?_)
   have hM : bopen_m k u1 r1 n1 u2 r2 n2 num data text = ([], 2) := (bopen_e k u1 r1 n1 u2 r2 n2 num data text).trans ((if_neg h1).trans (if_neg h2))
   have hS := hS.wk 8 (.ls false [.int .u8] [])
   exact fin_y rfl (.inr rfl) hS [.ls false [.int .u8] [], .v (.int .i64 2)] [] (by show weak _ (.tu (chain [.ls false [.int .u8] ((bopen_m k u1 r1 n1 u2 r2 n2 num data text).1), .v (.int .i64 (((bopen_m k u1 r1 n1 u2 r2 n2 num data text).2 : Nat) : Int))])) = (.tu (chain [.ls false [.int .u8] ((bopen_m k u1 r1 n1 u2 r2 n2 num data text).1), .v (.int .i64 (((bopen_m k u1 r1 n1 u2 r2 n2 num data text).2 : Nat) : Int))])); rw [hM]; first | (simp only []; rfl) | (simp only []; done) | rfl) trivial
  ·refine wp_skip (then_n (sA [(8, .call ⟨119, (c_crypt k num (text.take (Int.toNat (((text.length : Nat) : Int) - 32)))), [], [(0, 0)]⟩)] ⟨crypt_ok k num (text.take (Int.toNat (((text.length : Nat) : Int) - 32))) (by first | omega | (simp only [List.length_append, List.length_drop, List.length_take, List.length_replicate, List.length_cons, List.length_nil, List.length_map, List.length_range] <;> omega) | (simp <;> omega)) (by assumption) (by first | omega | (simp only [List.length_append, List.length_drop, List.length_take, List.length_replicate, List.length_cons, List.length_nil, List.length_map, List.length_range] <;> omega) | (simp <;> omega)) (by first | omega | (simp only [List.length_append, List.length_drop, List.length_take, List.length_replicate, List.length_cons, List.length_nil, List.length_map, List.length_range] <;> omega) | (simp <;> omega)), trivial⟩ (fun C => [bndP none (some (((text.length : Nat) : Int) - 32)) none text.length text.length, ndC C 8]) [8, 9] [0] 1 ⟨⟨by simp only [nnI] <;> omega, by simp only [nnI] <;> omega, by simp only [nnI] <;> omega, by simp, by simp only [bl] <;> omega, by simp only [bl] <;> omega, by simp only [bl] <;> omega⟩, rfl, trivial⟩ hS fun ac gs ws hS => ?_))
   refine wp_ret ?_
   have hM : bopen_m k u1 r1 n1 u2 r2 n2 num data text = (crypt_m k num (text.take (Int.toNat (((text.length : Nat) : Int) - 32))), 0) := (bopen_e k u1 r1 n1 u2 r2 n2 num data text).trans ((if_neg h1).trans (if_pos h2))
   obtain ⟨gs, hS⟩ := hS.fz 0
   exact fin_y rfl (.inr rfl) hS [.ls false [.int .u8] (crypt_m k num (text.take (Int.toNat (((text.length : Nat) : Int) - 32)))), .v (.int .i64 0)] [] (by show weak _ (.tu (chain [.ls false [.int .u8] ((bopen_m k u1 r1 n1 u2 r2 n2 num data text).1), .v (.int .i64 (((bopen_m k u1 r1 n1 u2 r2 n2 num data text).2 : Nat) : Int))])) = (.tu (chain [.ls false [.int .u8] ((bopen_m k u1 r1 n1 u2 r2 n2 num data text).1), .v (.int .i64 (((bopen_m k u1 r1 n1 u2 r2 n2 num data text).2 : Nat) : Int))])); rw [hM]; first | (simp only []; rfl) | (simp only []; done) | rfl) trivial

noncomputable def sopen_v (key num : List Int) (data text : List Int) : (List Int) × Nat := ((bopen_m ((newbox_m key).1) ((newbox_m key).2.1) ((newbox_m key).2.2.1) ((newbox_m key).2.2.2.1) ((newbox_m key).2.2.2.2.1) ((newbox_m key).2.2.2.2.2.1) ((newbox_m key).2.2.2.2.2.2) num data text).1, ((bopen_m ((newbox_m key).1) ((newbox_m key).2.1) ((newbox_m key).2.2.1) ((newbox_m key).2.2.2.1) ((newbox_m key).2.2.2.2.1) ((newbox_m key).2.2.2.2.2.1) ((newbox_m key).2.2.2.2.2.2) num data text).2))
noncomputable def sopen_m (key num : List Int) (data text : List Int) : (List Int) × Nat := shut (sopen_v key num data text)
theorem sopen_e (key num : List Int) (data text : List Int) : sopen_m key num data text = sopen_v key num data text := shut_eq _
noncomputable def c_sopen (key num : List Int) (data text : List Int) : Con := ⟨[.ls false [.int .u8] key, .ls false [.int .u8] num, .ls false [.int .u8] data, .ls false [.int .u8] text], [], .tu (chain [.ls false [.int .u8] ((sopen_m key num data text).1), .v (.int .i64 (((sopen_m key num data text).2 : Nat) : Int))]), []⟩
set_option maxRecDepth 100000 in
set_option maxHeartbeats 1000000 in
theorem sopen_ok (key num : List Int) (data text : List Int) (hk : key.length = 32) (hd : data.length ≤ 60000) (ht : text.length ≤ 60000) (hn : num.length = 12) : ConOk Tryz.prog 69 (c_sopen key num data text) := by
 refine conOk_of rfl (nb := 0) Tryz.func69 rfl rfl Tryz.ntmps69 rfl rfl rfl fun g0 w0 ac gs ws hg0 hS => ?_
 have hlen0 : key.length ≤ 9223372036854775807 := hS.len 0 rfl
 have hlen1 : num.length ≤ 9223372036854775807 := hS.len 1 rfl
 have hlen2 : data.length ≤ 9223372036854775807 := hS.len 2 rfl
 have hlen3 : text.length ≤ 9223372036854775807 := hS.len 3 rfl
 have hS := hS.sp
 refine s0 [0, 1, 2, 3, 8, 9] [] 0 hS fun ac gs ws hS => ?_
 refine sA [(1, .call ⟨82, (c_newbox key), [], []⟩)] ⟨newbox_ok key (by first | omega | (simp only [List.length_append, List.length_drop, List.length_take, List.length_replicate, List.length_cons, List.length_nil, List.length_map, List.length_range] <;> omega) | (simp <;> omega)), trivial⟩ (fun C => [ndC C 1]) [1, 2, 3, 8, 9, 10, 11] [] 0 ⟨rfl, trivial⟩ hS fun ac gs ws hS => ?_
 refine wp_seq (s0 [1, 2, 3, 8, 9, 10, 11, 18] [] 0 hS fun ac gs ws hS => ?_)
 refine cond_f hS ?_
 refine wp_skip (then_n (sA [(4, .call ⟨104, (c_bopen ((newbox_m key).1) ((newbox_m key).2.1) ((newbox_m key).2.2.1) ((newbox_m key).2.2.2.1) ((newbox_m key).2.2.2.2.1) ((newbox_m key).2.2.2.2.2.1) ((newbox_m key).2.2.2.2.2.2) num data text), [], []⟩)] ⟨bopen_ok ((newbox_m key).1) ((newbox_m key).2.1) ((newbox_m key).2.2.1) ((newbox_m key).2.2.2.1) ((newbox_m key).2.2.2.2.1) ((newbox_m key).2.2.2.2.2.1) ((newbox_m key).2.2.2.2.2.2) num data text (newbox_ok1 key).1 (newbox_ok1 key).2.1 (newbox_ok1 key).2.2.1 (newbox_ok1 key).2.2.2 (by first | omega | (simp only [List.length_append, List.length_drop, List.length_take, List.length_replicate, List.length_cons, List.length_nil, List.length_map, List.length_range] <;> omega) | (simp <;> omega)) (by first | omega | (simp only [List.length_append, List.length_drop, List.length_take, List.length_replicate, List.length_cons, List.length_nil, List.length_map, List.length_range] <;> omega) | (simp <;> omega)) (by first | omega | (simp only [List.length_append, List.length_drop, List.length_take, List.length_replicate, List.length_cons, List.length_nil, List.length_map, List.length_range] <;> omega) | (simp <;> omega)), trivial⟩ (fun C => [ndC C 4]) [8, 9] [] 0 ⟨rfl, trivial⟩ hS fun ac gs ws hS => ?_))
 refine wp_ret ?_
 have hM : sopen_m key num data text = ((bopen_m ((newbox_m key).1) ((newbox_m key).2.1) ((newbox_m key).2.2.1) ((newbox_m key).2.2.2.1) ((newbox_m key).2.2.2.2.1) ((newbox_m key).2.2.2.2.2.1) ((newbox_m key).2.2.2.2.2.2) num data text).1, ((bopen_m ((newbox_m key).1) ((newbox_m key).2.1) ((newbox_m key).2.2.1) ((newbox_m key).2.2.2.1) ((newbox_m key).2.2.2.2.1) ((newbox_m key).2.2.2.2.2.1) ((newbox_m key).2.2.2.2.2.2) num data text).2)) := sopen_e key num data text
 exact fin_y rfl (.inr rfl) hS [.ls false [.int .u8] ((bopen_m ((newbox_m key).1) ((newbox_m key).2.1) ((newbox_m key).2.2.1) ((newbox_m key).2.2.2.1) ((newbox_m key).2.2.2.2.1) ((newbox_m key).2.2.2.2.2.1) ((newbox_m key).2.2.2.2.2.2) num data text).1), .v (.int .i64 (((bopen_m ((newbox_m key).1) ((newbox_m key).2.1) ((newbox_m key).2.2.1) ((newbox_m key).2.2.2.1) ((newbox_m key).2.2.2.2.1) ((newbox_m key).2.2.2.2.2.1) ((newbox_m key).2.2.2.2.2.2) num data text).2 : Nat) : Int))] [] (by show weak _ (.tu (chain [.ls false [.int .u8] ((sopen_m key num data text).1), .v (.int .i64 (((sopen_m key num data text).2 : Nat) : Int))])) = (.tu (chain [.ls false [.int .u8] ((sopen_m key num data text).1), .v (.int .i64 (((sopen_m key num data text).2 : Nat) : Int))])); rw [hM]; first | (simp only []; rfl) | (simp only []; done) | rfl) trivial

end Go.Sx.Tryz
namespace Go.Sx.Tryz
open Go.Mi Go.RowKit Go.Sx Go.Proofs
noncomputable def nxt (key : List Int) : List Int := kmac_m ((newkey_m key).1) ((newkey_m key).2.1) ((newkey_m key).2.2.1) ((newkey_m key).2.2.2.1) ((newkey_m key).2.2.2.2.1) ((newkey_m key).2.2.2.2.2) [[2]]
noncomputable def mky (key : List Int) : List Int := kmac_m ((newkey_m key).1) ((newkey_m key).2.1) ((newkey_m key).2.2.1) ((newkey_m key).2.2.2.1) ((newkey_m key).2.2.2.2.1) ((newkey_m key).2.2.2.2.2) [[1]]
@[simp] theorem nxt_len (key : List Int) : (nxt key).length = 32 := kmac_len ..
@[simp] theorem mky_len (key : List Int) : (mky key).length = 32 := kmac_len ..
noncomputable def nxtN (key : List Int) : Nat → List Int
 | 0 => key
 | k + 1 => nxt (nxtN key k)
noncomputable def skL (key : List Int) : Nat → List (List Int)
 | 0 => []
 | k + 1 => skL key k ++ [mky (nxtN key k)]
theorem nxtN_len {key : List Int} (h : key.length = 32) : ∀ k, (nxtN key k).length = 32
 | 0 => h
 | _ + 1 => nxt_len _
@[simp] theorem skL_len (key : List Int) : ∀ k, (skL key k).length = k
 | 0 => rfl
 | k + 1 => by rw [skL, List.length_append, skL_len key k]; rfl
noncomputable def c_cnone (key : List Int) (i : Nat) : Con := ⟨[.cp 0 0], [(0, .ob 122 (chain [.ls false [.int .u8] key, .v (.int .i64 ((i : Nat) : Int))]))], .v (.bool false), [(0, .ob 122 (chain [.ls false [.int .u8] key, .v (.int .i64 ((i : Nat) : Int))]))]⟩
set_option maxRecDepth 100000 in
set_option maxHeartbeats 1000000 in
theorem cnone_ok (key : List Int) (i : Nat) (hk : key.length = 32) : ConOk Tryz.prog 84 (c_cnone key i) := by
 refine conOk_of rfl (nb := 1) Tryz.func84 rfl rfl Tryz.ntmps84 rfl rfl rfl fun g0 w0 ac gs ws hg0 hS => ?_
 have hS := hS.sp
 have hk0 : ¬ ((key.length : Nat) : Int) = 0 := (by omega)
 refine s0 [0, 2] [0] 1 hS fun ac gs ws hS => ?_
 refine sA [(8, .ob false)] trivial (fun _ => [(decide (((key.length : Nat) : Int) = 0)) = false]) [2] [0] 1 ⟨decide_eq_false hk0, trivial⟩ hS fun ac gs ws hS => ?_
 refine wp_ret ?_
 exact fin_y rfl (.inr rfl) hS [.v (.bool false)] [(0, some (.ob 122 (chain [.ls false [.int .u8] key, .v (.int .i64 ((i : Nat) : Int))])))] rfl ⟨rfl, trivial⟩

noncomputable def c_cat_ (key : List Int) (i : Nat) : Con := ⟨[.ls false [.int .u8] key, .v (.int .i64 ((i : Nat) : Int))], [], .tu (chain [.cp 0 0, .v (.int .i64 0)]), [(0, .ob 122 (chain [.ls false [.int .u8] key, .v (.int .i64 ((i : Nat) : Int))]))]⟩
set_option maxRecDepth 100000 in
set_option maxHeartbeats 1000000 in
theorem cat__ok (key : List Int) (i : Nat) (hk : key.length = 32) : ConOk Tryz.prog 76 (c_cat_ key i) := by
 refine conOk_of rfl (nb := 0) Tryz.func76 rfl rfl Tryz.ntmps76 rfl rfl rfl fun g0 w0 ac gs ws hg0 hS => ?_
 have hlen0 : key.length ≤ 9223372036854775807 := hS.len 0 rfl
 have hS := hS.sp
 have hk32 : ((key.length : Nat) : Int) = 32 := (by omega)
 refine s0 [0, 1, 4, 5] [] 0 hS fun ac gs ws hS => ?_
 refine wp_seq (sA [(2, .ob false), (5, .ob false)] trivial (fun _ => [(!decide (((key.length : Nat) : Int) = 32)) = false, (decide (((i : Nat) : Int) < 0)) = false]) [0, 1, 4, 5, 12] [] 0 ⟨by rw [decide_eq_true hk32]; rfl, decide_eq_false (by omega), trivial⟩ hS fun ac gs ws hS => ?_)
 refine cond_f hS ?_
 refine wp_skip (then_n (sA [(1, .call ⟨81, (c_clone key), [], []⟩)] ⟨clone_ok key (by first | omega | (simp only [List.length_append, List.length_drop, List.length_take, List.length_replicate, List.length_cons, List.length_nil, List.length_map, List.length_range] <;> omega) | (simp <;> omega)), trivial⟩ (fun C => [ndC C 1]) [4, 5] [0] 1 ⟨rfl, trivial⟩ hS fun ac gs ws hS => ?_))
 refine wp_ret ?_
 exact fin_y rfl (.inr rfl) hS [.cp 0 0, .v (.int .i64 0)] [(0, some (.ob 122 (chain [.ls false [.int .u8] key, .v (.int .i64 ((i : Nat) : Int))])))] rfl ⟨rfl, trivial⟩

noncomputable def c_cnew (key : List Int) : Con := ⟨[.ls false [.int .u8] key], [], .tu (chain [.cp 0 0, .v (.int .i64 0)]), [(0, .ob 122 (chain [.ls false [.int .u8] key, .v (.int .i64 0)]))]⟩
set_option maxRecDepth 100000 in
set_option maxHeartbeats 1000000 in
theorem cnew_ok (key : List Int) (hk : key.length = 32) : ConOk Tryz.prog 43 (c_cnew key) := by
 refine conOk_of rfl (nb := 0) Tryz.func43 rfl rfl Tryz.ntmps43 rfl rfl rfl fun g0 w0 ac gs ws hg0 hS => ?_
 have hlen0 : key.length ≤ 9223372036854775807 := hS.len 0 rfl
 have hS := hS.sp
 refine s0 [0, 2, 3] [] 0 hS fun ac gs ws hS => ?_
 refine sA [(1, .call ⟨76, (c_cat_ key 0), [], [(0, 0)]⟩)] ⟨cat__ok key 0 (by first | omega | (simp only [List.length_append, List.length_drop, List.length_take, List.length_replicate, List.length_cons, List.length_nil, List.length_map, List.length_range] <;> omega) | (simp <;> omega)), trivial⟩ (fun C => [ndC C 1]) [2, 3] [0] 1 ⟨rfl, trivial⟩ hS fun ac gs ws hS => ?_
 refine wp_ret ?_
 exact fin_y rfl (.inr rfl) hS [.cp 0 0, .v (.int .i64 0)] [(0, some (.ob 122 (chain [.ls false [.int .u8] key, .v (.int .i64 0)])))] rfl ⟨rfl, trivial⟩

noncomputable def c_cnext (key : List Int) (i : Nat) : Con := ⟨[.cp 0 0], [(0, .ob 122 (chain [.ls false [.int .u8] key, .v (.int .i64 ((i : Nat) : Int))]))], .ls false [.int .u8] (mky key), [(0, .ob 122 (chain [.ls false [.int .u8] (nxt key), .v (.int .i64 ((i + 1 : Nat) : Int))]))]⟩
set_option maxRecDepth 100000 in
set_option maxHeartbeats 1000000 in
theorem cnext_ok (key : List Int) (i : Nat) (hk : key.length = 32) (hi : i ≤ 1000000000000) : ConOk Tryz.prog 52 (c_cnext key i) := by
 refine conOk_of rfl (nb := 1) Tryz.func52 rfl rfl Tryz.ntmps52 rfl rfl rfl fun g0 w0 ac gs ws hg0 hS => ?_
 have hS := hS.sp
 refine s0 [0, 2] [0] 1 hS fun ac gs ws hS => ?_
 refine wp_seq (sA [(1, .call ⟨84, (c_cnone key i), [(0, 0)], []⟩)] ⟨cnone_ok key i (by first | omega | (simp only [List.length_append, List.length_drop, List.length_take, List.length_replicate, List.length_cons, List.length_nil, List.length_map, List.length_range] <;> omega) | (simp <;> omega)), trivial⟩ (fun C => [ndC C 1]) [0, 2, 5] [0] 1 ⟨rfl, trivial⟩ hS fun ac gs ws hS => ?_)
 refine cond_f hS ?_
 refine wp_skip (then_n (sA [(4, .call ⟨85, (c_newkey key), [], []⟩)] ⟨newkey_ok key (by first | omega | (simp only [List.length_append, List.length_drop, List.length_take, List.length_replicate, List.length_cons, List.length_nil, List.length_map, List.length_range] <;> omega) | (simp <;> omega)), trivial⟩ (fun C => [ndC C 4]) [0, 2, 3] [0] 1 ⟨rfl, trivial⟩ hS fun ac gs ws hS => ?_))
 refine sA [(4, .call ⟨86, (c_kmacf ((newkey_m key).1) ((newkey_m key).2.1) ((newkey_m key).2.2.1) ((newkey_m key).2.2.2.1) ((newkey_m key).2.2.2.2.1) ((newkey_m key).2.2.2.2.2) [[2]]), [], []⟩)] ⟨kmacf_ok ((newkey_m key).1) ((newkey_m key).2.1) ((newkey_m key).2.2.1) ((newkey_m key).2.2.2.1) ((newkey_m key).2.2.2.2.1) ((newkey_m key).2.2.2.2.2) [[2]] (newkey_len key).1 (newkey_len key).2 (by simp), trivial⟩ (fun C => [ndC C 4]) [0, 2, 3] [0] 1 ⟨rfl, trivial⟩ hS fun ac gs ws hS => ?_
 refine sA [(4, .oi ((i + 1 : Nat) : Int))] trivial (fun _ => [iadd .i64 ((i : Nat) : Int) 1 = ((i + 1 : Nat) : Int)]) [2, 3] [0] 1 ⟨by rw [iadd64 (by omega) (by omega)]; omega, trivial⟩ hS fun ac gs ws hS => ?_
 refine sA [(3, .call ⟨86, (c_kmacf ((newkey_m key).1) ((newkey_m key).2.1) ((newkey_m key).2.2.1) ((newkey_m key).2.2.2.1) ((newkey_m key).2.2.2.2.1) ((newkey_m key).2.2.2.2.2) [[1]]), [], []⟩)] ⟨kmacf_ok ((newkey_m key).1) ((newkey_m key).2.1) ((newkey_m key).2.2.1) ((newkey_m key).2.2.2.1) ((newkey_m key).2.2.2.2.1) ((newkey_m key).2.2.2.2.2) [[1]] (newkey_len key).1 (newkey_len key).2 (by simp), trivial⟩ (fun C => [ndC C 3]) [2] [0] 1 ⟨rfl, trivial⟩ hS fun ac gs ws hS => ?_
 refine wp_ret ?_
 exact fin_y rfl (.inr rfl) hS [.ls false [.int .u8] (kmac_m ((newkey_m key).1) ((newkey_m key).2.1) ((newkey_m key).2.2.1) ((newkey_m key).2.2.2.1) ((newkey_m key).2.2.2.2.1) ((newkey_m key).2.2.2.2.2) [[1]])] [(0, some (.ob 122 (chain [.ls false [.int .u8] (kmac_m ((newkey_m key).1) ((newkey_m key).2.1) ((newkey_m key).2.2.1) ((newkey_m key).2.2.2.1) ((newkey_m key).2.2.2.2.1) ((newkey_m key).2.2.2.2.2) [[2]]), .v (.int .i64 ((i + 1 : Nat) : Int))])))] rfl ⟨rfl, trivial⟩

noncomputable def cmay_v (key : List Int) (i k : Nat) : Nat := if ((k : Nat) : Int) < ((i : Nat) : Int) then 5 else (if ((i + 40 : Nat) : Int) < ((k : Nat) : Int) then 6 else 0)
noncomputable def cmay_m (key : List Int) (i k : Nat) : Nat := shut (cmay_v key i k)
theorem cmay_e (key : List Int) (i k : Nat) : cmay_m key i k = cmay_v key i k := shut_eq _
noncomputable def c_cmay (key : List Int) (i k : Nat) : Con := ⟨[.cp 0 0, .v (.int .i64 ((k : Nat) : Int))], [(0, .ob 122 (chain [.ls false [.int .u8] key, .v (.int .i64 ((i : Nat) : Int))]))], .v (.int .i64 ((cmay_m key i k : Nat) : Int)), [(0, .ob 122 (chain [.ls false [.int .u8] key, .v (.int .i64 ((i : Nat) : Int))]))]⟩
set_option maxRecDepth 100000 in
set_option maxHeartbeats 1000000 in
theorem cmay_ok (key : List Int) (i k : Nat) (hk : key.length = 32) (hi : i ≤ 1000000000000) : ConOk Tryz.prog 140 (c_cmay key i k) := by
 refine conOk_of rfl (nb := 1) Tryz.func140 rfl rfl Tryz.ntmps140 rfl rfl rfl fun g0 w0 ac gs ws hg0 hS => ?_
 have hS := hS.sp
 refine s0 [0, 1, 4] [0] 1 hS fun ac gs ws hS => ?_
 refine wp_seq (wp_block (sA [(1, .call ⟨84, (c_cnone key i), [(0, 0)], []⟩)] ⟨cnone_ok key i (by first | omega | (simp only [List.length_append, List.length_drop, List.length_take, List.length_replicate, List.length_cons, List.length_nil, List.length_map, List.length_range] <;> omega) | (simp <;> omega)), trivial⟩ (fun C => [ndC C 1]) [0, 1, 4, 5] [0] 1 ⟨rfl, trivial⟩ hS fun ac gs ws hS => ?_))
 refine cond_f hS ?_
 refine s0 [0, 1, 4, 8] [0] 1 hS fun ac gs ws hS => ?_
 refine if_d (((k : Nat) : Int) < ((i : Nat) : Int)) hS (fun h1 => ?_) (fun h1 => ?_)
 ·refine s0 [4] [0] 1 hS fun ac gs ws hS => ?_
  refine wp_ret (block_ret (then_ret ?_))
  have hM : cmay_m key i k = 5 := (cmay_e key i k).trans (if_pos h1)
  exact fin_y rfl (.inr rfl) hS [.v (.int .i64 5)] [(0, some (.ob 122 (chain [.ls false [.int .u8] key, .v (.int .i64 ((i : Nat) : Int))])))] (by show weak _ (.v (.int .i64 ((cmay_m key i k : Nat) : Int))) = (.v (.int .i64 ((cmay_m key i k : Nat) : Int))); rw [hM]; first | (simp only []; rfl) | (simp only []; done) | rfl) ⟨rfl, trivial⟩
 ·refine sA [(5, .oi ((i + 40 : Nat) : Int))] trivial (fun _ => [iadd .i64 ((i : Nat) : Int) 40 = ((i + 40 : Nat) : Int)]) [4, 15] [0] 1 ⟨by rw [iadd64 (by omega) (by omega)]; omega, trivial⟩ hS fun ac gs ws hS => ?_
  refine if_d (((i + 40 : Nat) : Int) < ((k : Nat) : Int)) hS (fun h2 => ?_) (fun h2 => ?_)
  ·refine s0 [4] [0] 1 hS fun ac gs ws hS => ?_
   refine wp_ret (block_ret (then_ret ?_))
   have hM : cmay_m key i k = 6 := (cmay_e key i k).trans ((if_neg h1).trans (if_pos h2))
   exact fin_y rfl (.inr rfl) hS [.v (.int .i64 6)] [(0, some (.ob 122 (chain [.ls false [.int .u8] key, .v (.int .i64 ((i : Nat) : Int))])))] (by show weak _ (.v (.int .i64 ((cmay_m key i k : Nat) : Int))) = (.v (.int .i64 ((cmay_m key i k : Nat) : Int))); rw [hM]; first | (simp only []; rfl) | (simp only []; done) | rfl) ⟨rfl, trivial⟩
  ·refine wp_skip (block_n (then_n (s0 [4] [0] 1 hS fun ac gs ws hS => ?_)))
   refine wp_ret ?_
   have hM : cmay_m key i k = 0 := (cmay_e key i k).trans ((if_neg h1).trans (if_neg h2))
   exact fin_y rfl (.inr rfl) hS [.v (.int .i64 0)] [(0, some (.ob 122 (chain [.ls false [.int .u8] key, .v (.int .i64 ((i : Nat) : Int))])))] (by show weak _ (.v (.int .i64 ((cmay_m key i k : Nat) : Int))) = (.v (.int .i64 ((cmay_m key i k : Nat) : Int))); rw [hM]; first | (simp only []; rfl) | (simp only []; done) | rfl) ⟨rfl, trivial⟩

noncomputable def c_ccopy (key : List Int) (i : Nat) : Con := ⟨[.cp 0 0], [(0, .ob 122 (chain [.ls false [.int .u8] key, .v (.int .i64 ((i : Nat) : Int))]))], .cp 1 0, [(0, .ob 122 (chain [.ls false [.int .u8] key, .v (.int .i64 ((i : Nat) : Int))])), (1, .ob 122 (chain [.ls false [.int .u8] key, .v (.int .i64 ((i : Nat) : Int))]))]⟩
set_option maxRecDepth 100000 in
set_option maxHeartbeats 1000000 in
theorem ccopy_ok (key : List Int) (i : Nat) (hk : key.length = 32) : ConOk Tryz.prog 61 (c_ccopy key i) := by
 refine conOk_of rfl (nb := 1) Tryz.func61 rfl rfl Tryz.ntmps61 rfl rfl rfl fun g0 w0 ac gs ws hg0 hS => ?_
 have hS := hS.sp
 refine s0 [0, 2] [0] 1 hS fun ac gs ws hS => ?_
 refine wp_seq (sA [(1, .call ⟨84, (c_cnone key i), [(0, 0)], []⟩)] ⟨cnone_ok key i (by first | omega | (simp only [List.length_append, List.length_drop, List.length_take, List.length_replicate, List.length_cons, List.length_nil, List.length_map, List.length_range] <;> omega) | (simp <;> omega)), trivial⟩ (fun C => [ndC C 1]) [0, 2, 4] [0] 1 ⟨rfl, trivial⟩ hS fun ac gs ws hS => ?_)
 refine cond_f hS ?_
 refine wp_skip (then_n (sA [(4, .call ⟨81, (c_clone key), [], []⟩)] ⟨clone_ok key (by first | omega | (simp only [List.length_append, List.length_drop, List.length_take, List.length_replicate, List.length_cons, List.length_nil, List.length_map, List.length_range] <;> omega) | (simp <;> omega)), trivial⟩ (fun C => [ndC C 4]) [2] [0, 1] 2 ⟨rfl, trivial⟩ hS fun ac gs ws hS => ?_))
 refine wp_ret ?_
 exact fin_y rfl (.inr rfl) hS [.cp 1 0] [(0, some (.ob 122 (chain [.ls false [.int .u8] key, .v (.int .i64 ((i : Nat) : Int))]))), (1, some (.ob 122 (chain [.ls false [.int .u8] key, .v (.int .i64 ((i : Nat) : Int))])))] rfl ⟨rfl, rfl, trivial⟩

noncomputable def c_cindex (key : List Int) (i : Nat) : Con := ⟨[.cp 0 0], [(0, .ob 122 (chain [.ls false [.int .u8] key, .v (.int .i64 ((i : Nat) : Int))]))], .v (.int .i64 ((i : Nat) : Int)), [(0, .ob 122 (chain [.ls false [.int .u8] key, .v (.int .i64 ((i : Nat) : Int))]))]⟩
set_option maxRecDepth 100000 in
set_option maxHeartbeats 1000000 in
theorem cindex_ok (key : List Int) (i : Nat) : ConOk Tryz.prog 40 (c_cindex key i) := by
 refine conOk_of rfl (nb := 1) Tryz.func40 rfl rfl Tryz.ntmps40 rfl rfl rfl fun g0 w0 ac gs ws hg0 hS => ?_
 have hS := hS.sp
 refine s0 [0, 2] [0] 1 hS fun ac gs ws hS => ?_
 refine wp_seq (s0 [0, 2, 4] [0] 1 hS fun ac gs ws hS => ?_)
 refine cond_f hS ?_
 refine wp_skip (then_n (s0 [2] [0] 1 hS fun ac gs ws hS => ?_))
 refine wp_ret ?_
 exact fin_y rfl (.inr rfl) hS [.v (.int .i64 ((i : Nat) : Int))] [(0, some (.ob 122 (chain [.ls false [.int .u8] key, .v (.int .i64 ((i : Nat) : Int))])))] rfl ⟨rfl, trivial⟩

end Go.Sx.Tryz
namespace Go.Sx.Tryz
open Go.Mi Go.RowKit Go.Sx Go.Proofs
theorem cmay_y {key : List Int} {i k : Nat} (h1 : i ≤ k) (h2 : k ≤ i + 40) : cmay_m key i k = 0 := by
 rw [cmay_e]; unfold cmay_v
 rw [if_neg (by omega), if_neg (by omega)]
theorem cmay_5 {key : List Int} {i k : Nat} (h1 : k < i) : cmay_m key i k = 5 := by
 rw [cmay_e]; unfold cmay_v
 rw [if_pos (by omega)]
theorem cmay_6 {key : List Int} {i k : Nat} (h1 : i + 40 < k) : cmay_m key i k = 6 := by
 rw [cmay_e]; unfold cmay_v
 rw [if_neg (by omega), if_pos (by omega)]
noncomputable def c_cskip (key : List Int) (i to : Nat) : Con := ⟨[.cp 0 0, .v (.int .i64 ((to : Nat) : Int))], [(0, .ob 122 (chain [.ls false [.int .u8] key, .v (.int .i64 ((i : Nat) : Int))]))], .tu (chain [.sk 1, .v (.int .i64 0)]), [(0, .ob 122 (chain [.ls false [.int .u8] (nxtN key (to - i)), .v (.int .i64 ((to : Nat) : Int))])), (1, .sl 22 [.sl (.int .u8)] (skL key (to - i)))]⟩
set_option maxRecDepth 100000 in
set_option maxHeartbeats 1000000 in
theorem cskip_ok (key : List Int) (i to : Nat) (hk : key.length = 32) (hi : i ≤ 900000000000) (hm : i ≤ to ∧ to ≤ i + 40) : ConOk Tryz.prog 107 (c_cskip key i to) := by
 refine conOk_of rfl (nb := 1) Tryz.func107 rfl rfl Tryz.ntmps107 rfl rfl rfl fun g0 w0 ac gs ws hg0 hS => ?_
 have hS := hS.sp
 have hm0 : ((cmay_m key i to : Nat) : Int) = 0 := (by rw [cmay_y hm.1 hm.2]; rfl)
 refine s0 [0, 1, 4, 5] [0] 1 hS fun ac gs ws hS => ?_
 refine wp_seq (sA [(2, .call ⟨140, (c_cmay key i to), [(0, 0)], []⟩)] ⟨cmay_ok key i to (by first | omega | (simp only [List.length_append, List.length_drop, List.length_take, List.length_replicate, List.length_cons, List.length_nil, List.length_map, List.length_range] <;> omega) | (simp <;> omega)) (by omega), trivial⟩ (fun C => [ndC C 2]) [0, 1, 4, 5, 6] [0] 1 ⟨rfl, trivial⟩ hS fun ac gs ws hS => ?_)
 refine sA [(1, .ob false)] trivial (fun _ => [(!decide (((cmay_m key i to : Nat) : Int) = 0)) = false]) [0, 1, 4, 5, 6, 11] [0] 1 ⟨by rw [decide_eq_true hm0]; rfl, trivial⟩ hS fun ac gs ws hS => ?_
 refine cond_f hS ?_
 refine wp_skip (then_n (wp_seq (wp_block ?_)))
 obtain ⟨gs, hS⟩ := hS.nilk 4 22 [.sl (.int .u8)]
 refine loop_y (ι := Nat) hg0 hS (fun k => to - (i + k)) (fun k => [(0, .cp 0 0), (1, .v (.int .i64 ((to : Nat) : Int))), (4, .sk 1), (5, .v (.int .i64 0))]) (fun k => [(0, .ob 122 (chain [.ls false [.int .u8] (nxtN key k), .v (.int .i64 ((i + k : Nat) : Int))])), (1, .sl 22 [.sl (.int .u8)] (skL key k))]) (fun k => (k ≤ to - i) ∧ True) 2 0 [(0, 0), (1, 1)] ⟨(by omega), trivial⟩ ?_
 rintro k ac gs ws ⟨hk2, _⟩ hS
 refine wp_seq (s0 [0, 1, 4, 5, 18] [0, 1] 2 hS fun ac gs ws hS => ?_)
 refine if_d (((i + k : Nat) : Int) < ((to : Nat) : Int)) hS (fun h1 => ?_) (fun h1 => ?_)
 ·refine wp_skip (then_n (wp_block ?_))
  have hnl := nxtN_len hk k
  refine rA [(2, .call ⟨52, (c_cnext (nxtN key k) (i + k)), [(0, 0)], []⟩)] ⟨cnext_ok (nxtN key k) (i + k) (by first | omega | (simp only [List.length_append, List.length_drop, List.length_take, List.length_replicate, List.length_cons, List.length_nil, List.length_map, List.length_range] <;> omega) | (simp <;> omega)) (by omega), trivial⟩ (fun C => [ndC C 2, (skL key k).length + [mky (nxtN key k)].length ≤ 9223372036854775807, ((skL key k).length + [mky (nxtN key k)].length) * 24 ≤ 140737488355328]) [0, 1, 4, 5] [0, 2] 3 ⟨rfl, by (simp only [skL_len, List.length_cons, List.length_nil]; omega), by (simp only [skL_len, List.length_cons, List.length_nil]; omega), trivial⟩ hS fun ac gs ws hS => ?_
  refine block_n (then_n ?_)
  exact next_y hg0 hS (s := (k)) (k + 1) [(0, 0), (1, 2)] (show to - (i + (k + 1)) < to - (i + k) from by omega) ⟨(by omega), trivial⟩
 ·have hScur := hS
  obtain rfl : (to - i) = k := Eq.symm (by omega)
  have hS := hScur
  clear hScur
  refine wp_exit (then_exit (then_exit (block_exit (then_n (wp_seq (r0 [4, 5] [0, 1] 2 hS fun ac gs ws hS => ?_))))))
  have hS := hS.rv [(4, .sk 1), (5, .v (.int .i64 0))] [(0, some (.ob 122 (chain [.ls false [.int .u8] (nxtN key (to - i)), .v (.int .i64 ((i + (to - i) : Nat) : Int))]))), (1, some (.sl 22 [.sl (.int .u8)] (skL key (to - i))))]
  rw [show i + (to - i) = to by omega] at hS
  have hS := hS.sp
  refine then_n (wp_ret ?_)
  exact fin_y rfl (.inr rfl) hS [.sk 1, .v (.int .i64 0)] [(0, some (.ob 122 (chain [.ls false [.int .u8] (nxtN key (to - i)), .v (.int .i64 ((to : Nat) : Int))]))), (1, some (.sl 22 [.sl (.int .u8)] (skL key (to - i))))] rfl ⟨rfl, rfl, trivial⟩

noncomputable def c_chat (key : List Int) (i to : Nat) : Con := ⟨[.cp 0 0, .v (.int .i64 ((to : Nat) : Int))], [(0, .ob 122 (chain [.ls false [.int .u8] key, .v (.int .i64 ((i : Nat) : Int))]))], .tu (chain [.ls false [.int .u8] (mky (nxtN key (to - i))), .v (.int .i64 0)]), [(0, .ob 122 (chain [.ls false [.int .u8] key, .v (.int .i64 ((i : Nat) : Int))]))]⟩
set_option maxRecDepth 100000 in
set_option maxHeartbeats 1000000 in
theorem chat_ok (key : List Int) (i to : Nat) (hk : key.length = 32) (hi : i ≤ 900000000000) (hm : i ≤ to ∧ to ≤ i + 40) : ConOk Tryz.prog 105 (c_chat key i to) := by
 refine conOk_of rfl (nb := 1) Tryz.func105 rfl rfl Tryz.ntmps105 rfl rfl rfl fun g0 w0 ac gs ws hg0 hS => ?_
 have hS := hS.sp
 have hm0 : ((cmay_m key i to : Nat) : Int) = 0 := (by rw [cmay_y hm.1 hm.2]; rfl)
 refine s0 [0, 1, 4, 5] [0] 1 hS fun ac gs ws hS => ?_
 refine wp_seq (sA [(2, .call ⟨140, (c_cmay key i to), [(0, 0)], []⟩)] ⟨cmay_ok key i to (by first | omega | (simp only [List.length_append, List.length_drop, List.length_take, List.length_replicate, List.length_cons, List.length_nil, List.length_map, List.length_range] <;> omega) | (simp <;> omega)) (by omega), trivial⟩ (fun C => [ndC C 2]) [0, 1, 4, 5, 6] [0] 1 ⟨rfl, trivial⟩ hS fun ac gs ws hS => ?_)
 refine sA [(1, .ob false)] trivial (fun _ => [(!decide (((cmay_m key i to : Nat) : Int) = 0)) = false]) [0, 1, 4, 5, 6, 12] [0] 1 ⟨by rw [decide_eq_true hm0]; rfl, trivial⟩ hS fun ac gs ws hS => ?_
 refine cond_f hS ?_
 refine wp_skip (then_n (sA [(1, .call ⟨61, (c_ccopy key i), [(0, 0)], [(1, 1)]⟩)] ⟨ccopy_ok key i (by first | omega | (simp only [List.length_append, List.length_drop, List.length_take, List.length_replicate, List.length_cons, List.length_nil, List.length_map, List.length_range] <;> omega) | (simp <;> omega)), trivial⟩ (fun C => [ndC C 1]) [1, 4, 5, 7] [0, 1] 2 ⟨rfl, trivial⟩ hS fun ac gs ws hS => ?_))
 refine sA [(2, .call ⟨107, (c_cskip key i to), [(0, 1)], [(1, 2)]⟩)] ⟨cskip_ok key i to (by first | omega | (simp only [List.length_append, List.length_drop, List.length_take, List.length_replicate, List.length_cons, List.length_nil, List.length_map, List.length_range] <;> omega) | (simp <;> omega)) (by omega) (by omega), trivial⟩ (fun C => [ndC C 2]) [4, 5, 7] [0, 1] 3 ⟨rfl, trivial⟩ hS fun ac gs ws hS => ?_
 refine wp_seq ?_
 have hnl := nxtN_len hk (to - i)
 refine rA [(1, .call ⟨52, (c_cnext (nxtN key (to - i)) to), [(0, 1)], []⟩)] ⟨cnext_ok (nxtN key (to - i)) to (by first | omega | (simp only [List.length_append, List.length_drop, List.length_take, List.length_replicate, List.length_cons, List.length_nil, List.length_map, List.length_range] <;> omega) | (simp <;> omega)) (by omega), trivial⟩ (fun C => [ndC C 1]) [4, 5] [0] 3 ⟨rfl, trivial⟩ hS fun ac gs ws hS => ?_
 refine then_n (wp_ret ?_)
 exact fin_y rfl (.inr rfl) hS [.ls false [.int .u8] (mky (nxtN key (to - i))), .v (.int .i64 0)] [(0, some (.ob 122 (chain [.ls false [.int .u8] key, .v (.int .i64 ((i : Nat) : Int))])))] rfl ⟨rfl, trivial⟩

noncomputable def c_chatn (key : List Int) (i to : Nat) : Con := ⟨[.cp 0 0, .v (.int .i64 ((to : Nat) : Int))], [(0, .ob 122 (chain [.ls false [.int .u8] key, .v (.int .i64 ((i : Nat) : Int))]))], .tu (chain [.v (.slice none 0 0), .v (.int .i64 ((cmay_m key i to : Nat) : Int))]), [(0, .ob 122 (chain [.ls false [.int .u8] key, .v (.int .i64 ((i : Nat) : Int))]))]⟩
set_option maxRecDepth 100000 in
set_option maxHeartbeats 1000000 in
theorem chatn_ok (key : List Int) (i to : Nat) (hk : key.length = 32) (hi : i ≤ 900000000000) (hm : ¬ ((cmay_m key i to : Nat) : Int) = 0) : ConOk Tryz.prog 105 (c_chatn key i to) := by
 refine conOk_of rfl (nb := 1) Tryz.func105 rfl rfl Tryz.ntmps105 rfl rfl rfl fun g0 w0 ac gs ws hg0 hS => ?_
 have hS := hS.sp
 have hm : ¬ ((cmay_m key i to : Nat) : Int) = 0 := hm
 refine s0 [0, 1, 4, 5] [0] 1 hS fun ac gs ws hS => ?_
 refine wp_seq (sA [(2, .call ⟨140, (c_cmay key i to), [(0, 0)], []⟩)] ⟨cmay_ok key i to (by first | omega | (simp only [List.length_append, List.length_drop, List.length_take, List.length_replicate, List.length_cons, List.length_nil, List.length_map, List.length_range] <;> omega) | (simp <;> omega)) (by omega), trivial⟩ (fun C => [ndC C 2]) [0, 1, 4, 5, 6] [0] 1 ⟨rfl, trivial⟩ hS fun ac gs ws hS => ?_)
 refine sA [(1, .ob true)] trivial (fun _ => [(!decide (((cmay_m key i to : Nat) : Int) = 0)) = true]) [0, 1, 4, 5, 6, 12] [0] 1 ⟨by rw [decide_eq_false hm]; rfl, trivial⟩ hS fun ac gs ws hS => ?_
 refine cond_t hS ?_
 refine s0 [0, 1, 4, 5] [0] 1 hS fun ac gs ws hS => ?_
 refine wp_ret (then_ret ?_)
 exact fin_y rfl (.inr rfl) hS [.v (.slice none 0 0), .v (.int .i64 ((cmay_m key i to : Nat) : Int))] [(0, some (.ob 122 (chain [.ls false [.int .u8] key, .v (.int .i64 ((i : Nat) : Int))])))] rfl ⟨rfl, trivial⟩

end Go.Sx.Tryz
namespace Go.Sx.Tryz
open Go.Mi Go.RowKit Go.Sx Go.Proofs
noncomputable def c_rec_r : Con := ⟨[.cp 0 0], [(0, .ob 44 (chain [.v (.int .i64 0)]))], .tu (chain []), [(0, .ob 44 (chain [.v (.int .i64 0)]))]⟩
set_option maxRecDepth 100000 in
theorem rec_r_ok : ConOkD Tryz.prog 88 .returning .returning (c_rec_r) := by
 refine conD_of rfl (nb := 1) (t0 := 4) (t1 := 1) Tryz.func88 rfl rfl Tryz.ntmps88 rfl rfl rfl rfl rfl rfl fun g0 w0 ac gs ws hg0 hS => ?_
 have hS := hS.sp
 refine sB [(1, .nn)] [] trivial (fun _ => []) [0, 1, 6] [0] 1 trivial hS fun ac gs ws hS => ?_
 refine cond_f hS ?_
 refine wp_skip ?_
 exact fin_y rfl (.inl rfl) hS [] [(0, some (.ob 44 (chain [.v (.int .i64 0)])))] rfl ⟨rfl, trivial⟩

end Go.Sx.Tryz
namespace Go.Sx.Tryz
open Go.Mi Go.RowKit Go.Sx Go.Proofs
noncomputable def snum_kv (xs : List Int) : Bool := if numB xs = true then (if (2147483648 : Int) < ((numV xs).1) then false else true) else false
noncomputable def snum_k (xs : List Int) : Bool := shut (snum_kv xs)
theorem snum_ke (xs : List Int) : snum_k xs = snum_kv xs := shut_eq _
noncomputable def c_snum (xs : List Int) : Con := ⟨[.cp 0 0], [(0, .ob 188 (chain [.ls false [.int .u8] xs]))], .v (.int .i64 (((((numV xs).1).toNat) : Nat) : Int)), [(0, .ob 188 (chain [.ls false [.int .u8] ((numV xs).2)]))]⟩
set_option maxRecDepth 100000 in
set_option maxHeartbeats 1000000 in
theorem snum_ok (xs : List Int) (h : xs.length ≤ 100000000000000) (hk : snum_k xs = true) : ConOk Tryz.prog 92 (c_snum xs) := by
 refine conOk_of rfl (nb := 1) Tryz.func92 rfl rfl Tryz.ntmps92 rfl rfl rfl fun g0 w0 ac gs ws hg0 hS => ?_
 have hS := hS.sp
 refine s0 [0, 2] [0] 1 hS fun ac gs ws hS => ?_
 refine wp_seq ?_
 by_cases h1 : numB xs = true
 ·refine rA [(1, .call ⟨126, (c_num xs), [(0, 0)], []⟩)] ⟨num_ok xs (by first | omega | (simp only [List.length_append, List.length_drop, List.length_take, List.length_replicate, List.length_cons, List.length_nil, List.length_map, List.length_range] <;> omega) | (simp <;> omega)) h1, trivial⟩ (fun C => [ndC C 1]) [2, 3] [0] 1 ⟨rfl, trivial⟩ hS fun ac gs ws hS => ?_
  refine then_n (wp_seq (s0 [2, 3, 7] [0] 1 hS fun ac gs ws hS => ?_))
  refine if_d ((2147483648 : Int) < ((numV xs).1)) hS (fun h2 => ?_) (fun h2 => ?_)
  ·have hK : snum_k xs = false := (snum_ke xs).trans ((if_pos h1).trans (if_pos h2))
   rw [hK] at hk
   cases hk
  ·refine wp_skip (then_n (wp_seq ?_))
   have hnn := numV_nn xs
   refine rA [(1, .oi ((((numV xs).1).toNat : Nat) : Int))] trivial (fun _ => [IntKind.wrap .i64 ((numV xs).1) = ((((numV xs).1).toNat : Nat) : Int)]) [2] [0] 1 ⟨(wrap_i64 (by omega) (by omega)).trans (by omega), trivial⟩ hS fun ac gs ws hS => ?_
   refine then_n (wp_ret ?_)
   exact fin_y rfl (.inr rfl) hS [.v (.int .i64 ((((numV xs).1).toNat : Nat) : Int))] [(0, some (.ob 188 (chain [.ls false [.int .u8] ((numV xs).2)])))] rfl ⟨rfl, trivial⟩
 ·have hK : snum_k xs = false := (snum_ke xs).trans (if_neg h1)
  rw [hK] at hk
  cases hk
theorem small_p_pos (xs : List Int) (m : Nat) : 0 < small_p_e xs m := by
 rw [small_p_ee]; unfold small_p_ev
 repeat (first | decide | split)
theorem rbytes1_p_pos (xs : List Int) (m : Nat) : 0 < rbytes1_p_e xs m := by
 rw [rbytes1_p_ee]; unfold rbytes1_p_ev
 repeat (first | decide | exact small_p_pos _ _ | split)
noncomputable def pc1_kv (xs : List Int) : Bool := if rbytes1_k xs 4000 = true then (if rbytes1_k (((numV xs).2).drop (((numV xs).1).toNat)) 4000 = true then true else false) else false
noncomputable def pc1_k (xs : List Int) : Bool := shut (pc1_kv xs)
theorem pc1_ke (xs : List Int) : pc1_k xs = pc1_kv xs := shut_eq _
noncomputable def pc1_p_ev (xs : List Int) : Nat := if rbytes1_k xs 4000 = true then (rbytes1_p_e (((numV xs).2).drop (((numV xs).1).toNat)) 4000) else (rbytes1_p_e xs 4000)
noncomputable def pc1_p_e (xs : List Int) : Nat := shut (pc1_p_ev xs)
theorem pc1_p_ee (xs : List Int) : pc1_p_e xs = pc1_p_ev xs := shut_eq _
noncomputable def c_pc1 (xs : List Int) : Con := ⟨[.cp 0 0, .cp 1 0], [(0, .ob 188 (chain [.ls false [.int .u8] xs])), (1, .ob 115 (chain [.v (.slice none 0 0), .v (.int .i64 0), .v (.int .i64 0), .v (.int .i64 0), .v (.slice none 0 0), .v (.slice none 0 0)]))], .tu (chain []), [(0, .ob 188 (chain [.ls false [.int .u8] (((numV (((numV xs).2).drop (((numV xs).1).toNat))).2).drop (((numV (((numV xs).2).drop (((numV xs).1).toNat))).1).toNat))])), (1, .ob 115 (chain [.ls false [.int .u8] (((numV xs).2).take (((numV xs).1).toNat)), .v (.int .i64 0), .v (.int .i64 0), .v (.int .i64 0), .v (.slice none 0 0), .ls false [.int .u8] (((numV (((numV xs).2).drop (((numV xs).1).toNat))).2).take (((numV (((numV xs).2).drop (((numV xs).1).toNat))).1).toNat))]))]⟩
set_option maxRecDepth 100000 in
set_option maxHeartbeats 1000000 in
theorem pc1_ok (xs : List Int) (h : xs.length ≤ 100000000000000) (hk : pc1_k xs = true) : ConOk Tryz.prog 101 (c_pc1 xs) := by
 refine conOk_of rfl (nb := 2) Tryz.func101 rfl rfl Tryz.ntmps101 rfl rfl rfl fun g0 w0 ac gs ws hg0 hS => ?_
 have hS := hS.sp
 have hnn := numV_nn xs
 by_cases h1 : rbytes1_k xs 4000 = true
 ·have hnn := numV_nn xs
  by_cases h2 : rbytes1_k (((numV xs).2).drop (((numV xs).1).toNat)) 4000 = true
  ·have hnn := numV_nn xs
   refine rA [(1, .call ⟨102, (c_rbytes1 xs 4000), [(0, 0)], []⟩), (3, .call ⟨102, (c_rbytes1 (((numV xs).2).drop (((numV xs).1).toNat)) 4000), [(0, 0)], []⟩)] ⟨rbytes1_ok xs 4000 (by first | omega | (simp only [List.length_append, List.length_drop, List.length_take, List.length_replicate, List.length_cons, List.length_nil, List.length_map, List.length_range] <;> omega) | (simp <;> omega)) (by omega) h1, rbytes1_ok (((numV xs).2).drop (((numV xs).1).toNat)) 4000 (by first | omega | (simp only [List.length_append, List.length_drop, List.length_take, List.length_replicate, List.length_cons, List.length_nil, List.length_map, List.length_range] <;> omega) | (simp <;> omega)) (by omega) h2, trivial⟩ (fun C => [ndC C 1, ndC C 3]) [] [0, 1] 2 ⟨rfl, rfl, trivial⟩ hS fun ac gs ws hS => ?_
   exact fin_y rfl (.inl rfl) hS [] [(0, some (.ob 188 (chain [.ls false [.int .u8] (((numV (((numV xs).2).drop (((numV xs).1).toNat))).2).drop (((numV (((numV xs).2).drop (((numV xs).1).toNat))).1).toNat))]))), (1, some (.ob 115 (chain [.ls false [.int .u8] (((numV xs).2).take (((numV xs).1).toNat)), .v (.int .i64 0), .v (.int .i64 0), .v (.int .i64 0), .v (.slice none 0 0), .ls false [.int .u8] (((numV (((numV xs).2).drop (((numV xs).1).toNat))).2).take (((numV (((numV xs).2).drop (((numV xs).1).toNat))).1).toNat))])))] rfl ⟨rfl, rfl, trivial⟩
  ·have hnn := numV_nn xs
   have hK : pc1_k xs = false := (pc1_ke xs).trans ((if_pos h1).trans (if_neg h2))
   rw [hK] at hk
   cases hk
 ·have hnn := numV_nn xs
  have hK : pc1_k xs = false := (pc1_ke xs).trans (if_neg h1)
  rw [hK] at hk
  cases hk
theorem pc1_p_pos (xs : List Int) : 0 < pc1_p_e xs := by
 rw [pc1_p_ee]; unfold pc1_p_ev
 repeat (first | decide | exact rbytes1_p_pos _ _ | split)
noncomputable def rd1_kv (xs : List Int) : Bool := if pc1_k xs = true then (if rend_k (((numV (((numV xs).2).drop (((numV xs).1).toNat))).2).drop (((numV (((numV xs).2).drop (((numV xs).1).toNat))).1).toNat)) = true then true else false) else false
noncomputable def rd1_k (xs : List Int) : Bool := shut (rd1_kv xs)
theorem rd1_ke (xs : List Int) : rd1_k xs = rd1_kv xs := shut_eq _
noncomputable def rd1_p_ev (xs : List Int) : Nat := if pc1_k xs = true then 2 else (pc1_p_e xs)
noncomputable def rd1_p_e (xs : List Int) : Nat := shut (rd1_p_ev xs)
theorem rd1_p_ee (xs : List Int) : rd1_p_e xs = rd1_p_ev xs := shut_eq _
noncomputable def c_rd1 (xs : List Int) : Con := ⟨[.ls false [.int .u8] xs, .fn 101 (chain []) (chain [.cp 0 0])], [(0, .ob 115 (chain [.v (.slice none 0 0), .v (.int .i64 0), .v (.int .i64 0), .v (.int .i64 0), .v (.slice none 0 0), .v (.slice none 0 0)]))], .v (.int .i64 0), [(0, .ob 115 (chain [.ls false [.int .u8] (((numV xs).2).take (((numV xs).1).toNat)), .v (.int .i64 0), .v (.int .i64 0), .v (.int .i64 0), .v (.slice none 0 0), .ls false [.int .u8] (((numV (((numV xs).2).drop (((numV xs).1).toNat))).2).take (((numV (((numV xs).2).drop (((numV xs).1).toNat))).1).toNat))]))]⟩
set_option maxRecDepth 100000 in
set_option maxHeartbeats 1000000 in
theorem rd1_ok (xs : List Int) (h : xs.length ≤ 100000000000000) (hk : rd1_k xs = true) : ConOk Tryz.prog 59 (c_rd1 xs) := by
 refine conOk_ofDf rfl (nb := 1) Tryz.func59 rfl rfl Tryz.ntmps59 rfl rfl rfl fun g0 w0 ac gs ws hg0 hS => ?_
 have hlen0 : xs.length ≤ 9223372036854775807 := hS.len 0 rfl
 have hS := hS.sp
 refine s0 [0, 1, 4] [0, 1] 2 hS fun ac gs ws hS => ?_
 refine wp_seq ?_
 have hS := hS.rv [(0, .ls false [.int .u8] xs), (1, .fn 101 (chain []) (chain [.cp 0 0])), (4, .cp 1 0)] [(0, some (.ob 115 (chain [.v (.slice none 0 0), .v (.int .i64 0), .v (.int .i64 0), .v (.int .i64 0), .v (.slice none 0 0), .v (.slice none 0 0)]))), (1, some (.ob 44 (chain [.v (.int .i64 0)])))]
 refine defer_x rfl hS (cs := [.cp 1 0]) rfl rfl rfl fun D vds ac hD hcv hB hS => ?_
 have hS := hS.sp
 refine then_n (sA [(1, .call ⟨89, (c_newrd xs), [], [(0, 2)]⟩)] ⟨newrd_ok xs (by first | omega | (simp only [List.length_append, List.length_drop, List.length_take, List.length_replicate, List.length_cons, List.length_nil, List.length_map, List.length_range] <;> omega) | (simp <;> omega)), trivial⟩ (fun C => [ndC C 1]) [1, 4, 5] [0, 1, 2] 3 ⟨rfl, trivial⟩ hS fun ac gs ws hS => ?_)
 refine wp_seq (s0 [1, 4, 5, 10] [0, 1, 2] 3 hS fun ac gs ws hS => ?_)
 refine cond_t hS ?_
 have hz := pc1_p_pos xs
 by_cases h1 : pc1_k xs = true
 ·have hz := pc1_p_pos xs
  refine rA [(2, .call ⟨101, (c_pc1 xs), [(0, 2), (1, 0)], []⟩)] ⟨pc1_ok xs (by first | omega | (simp only [List.length_append, List.length_drop, List.length_take, List.length_replicate, List.length_cons, List.length_nil, List.length_map, List.length_range] <;> omega) | (simp <;> omega)) h1, trivial⟩ (fun C => [ndC C 2]) [4, 5] [0, 1, 2] 3 ⟨rfl, trivial⟩ hS fun ac gs ws hS => ?_
  refine then_n (wp_seq ?_)
  by_cases h2 : rend_k (((numV (((numV xs).2).drop (((numV xs).1).toNat))).2).drop (((numV (((numV xs).2).drop (((numV xs).1).toNat))).1).toNat)) = true
  ·refine rA [(1, .call ⟨90, (c_rend (((numV (((numV xs).2).drop (((numV xs).1).toNat))).2).drop (((numV (((numV xs).2).drop (((numV xs).1).toNat))).1).toNat))), [(0, 2)], []⟩)] ⟨rend_ok (((numV (((numV xs).2).drop (((numV xs).1).toNat))).2).drop (((numV (((numV xs).2).drop (((numV xs).1).toNat))).1).toNat)) h2, trivial⟩ (fun C => [ndC C 1]) [4] [0, 1] 3 ⟨rfl, trivial⟩ hS fun ac gs ws hS => ?_
   refine then_n (s0 [4] [0, 1] 3 hS fun ac gs ws hS => ?_)
   refine wp_ret ?_
   have hS := hS.rv [(4, .cp 1 0)] [(0, some (.ob 115 (chain [.ls false [.int .u8] (((numV xs).2).take (((numV xs).1).toNat)), .v (.int .i64 0), .v (.int .i64 0), .v (.int .i64 0), .v (.slice none 0 0), .ls false [.int .u8] (((numV (((numV xs).2).drop (((numV xs).1).toNat))).2).take (((numV (((numV xs).2).drop (((numV xs).1).toNat))).1).toNat))]))), (1, some (.ob 44 (chain [.v (.int .i64 0)])))]
   exact fin_dr (.inr rfl) hS hD (leaves_d ⟨88, (c_rec_r), [(0, 1)], []⟩ [(1, some (.ob 44 (chain [.v (.int .i64 0)]))), (0, some (.ob 115 (chain [.ls false [.int .u8] (((numV xs).2).take (((numV xs).1).toNat)), .v (.int .i64 0), .v (.int .i64 0), .v (.int .i64 0), .v (.slice none 0 0), .ls false [.int .u8] (((numV (((numV xs).2).drop (((numV xs).1).toNat))).2).take (((numV (((numV xs).2).drop (((numV xs).1).toNat))).1).toNat))]))), (1, some (.ob 44 (chain [.v (.int .i64 0)])))] hB hS hcv (show FrameMode.returning ≠ .run from nofun) rfl rfl rfl (rec_r_ok) rfl ⟨rfl, trivial⟩ rfl (ds := [.v (.int .i64 0)]) (by kernel_rfl) rfl ⟨rfl, trivial⟩)
  ·have hK : rd1_k xs = false := (rd1_ke xs).trans ((if_pos h1).trans (if_neg h2))
   rw [hK] at hk
   cases hk
 ·have hz := pc1_p_pos xs
  have hK : rd1_k xs = false := (rd1_ke xs).trans (if_neg h1)
  rw [hK] at hk
  cases hk
end Go.Sx.Tryz
namespace Go.Sx.Tryz
open Go.Mi Go.RowKit Go.Sx Go.Proofs
theorem numV_le2 (xs : List Int) : (numV (numV xs).2).2.length ≤ xs.length := Nat.le_trans (numV_nn _).2 (numV_nn _).2
theorem numV_le3 (xs : List Int) : (numV (numV (numV xs).2).2).2.length ≤ xs.length := Nat.le_trans (numV_nn _).2 (numV_le2 _)
noncomputable def pc2_kv (xs ba bb : List Int) : Bool := if snum_k xs = true then (if snum_k ((numV xs).2) = true then (if snum_k ((numV ((numV xs).2)).2) = true then (if rbytes1_k ((numV ((numV ((numV xs).2)).2)).2) 4000 = true then true else false) else false) else false) else false
noncomputable def pc2_k (xs ba bb : List Int) : Bool := shut (pc2_kv xs ba bb)
theorem pc2_ke (xs ba bb : List Int) : pc2_k xs ba bb = pc2_kv xs ba bb := shut_eq _
noncomputable def pc2_p_ev (xs ba bb : List Int) : Nat := if snum_k xs = true then (if snum_k ((numV xs).2) = true then (if snum_k ((numV ((numV xs).2)).2) = true then (rbytes1_p_e ((numV ((numV ((numV xs).2)).2)).2) 4000) else 2) else 2) else 2
noncomputable def pc2_p_e (xs ba bb : List Int) : Nat := shut (pc2_p_ev xs ba bb)
theorem pc2_p_ee (xs ba bb : List Int) : pc2_p_e xs ba bb = pc2_p_ev xs ba bb := shut_eq _
noncomputable def pc2_v (xs ba bb : List Int) : (List Int) × Nat × Nat × Nat × (List Int) := ((((numV ((numV ((numV ((numV xs).2)).2)).2)).2).drop (((numV ((numV ((numV ((numV xs).2)).2)).2)).1).toNat)), (((numV xs).1).toNat), (((numV ((numV xs).2)).1).toNat), (((numV ((numV ((numV xs).2)).2)).1).toNat), (((numV ((numV ((numV ((numV xs).2)).2)).2)).2).take (((numV ((numV ((numV ((numV xs).2)).2)).2)).1).toNat)))
noncomputable def pc2_m (xs ba bb : List Int) : (List Int) × Nat × Nat × Nat × (List Int) := shut (pc2_v xs ba bb)
theorem pc2_e (xs ba bb : List Int) : pc2_m xs ba bb = pc2_v xs ba bb := shut_eq _
theorem pc2_len (xs ba bb : List Int) : (pc2_m xs ba bb).1.length ≤ xs.length := by
 have h3 := numV_le3 xs
 have h4 := (numV_nn (numV (numV (numV xs).2).2).2).2
 rw [pc2_e]
 show (List.drop _ _).length ≤ _
 rw [List.length_drop]
 omega
noncomputable def c_pc2 (xs ba bb : List Int) : Con := ⟨[.cp 0 0, .cp 1 0], [(0, .ob 188 (chain [.ls false [.int .u8] xs])), (1, .ob 115 (chain [.ls false [.int .u8] ba, .v (.int .i64 0), .v (.int .i64 0), .v (.int .i64 0), .v (.slice none 0 0), .ls false [.int .u8] bb]))], .tu (chain []), [(0, .ob 188 (chain [.ls false [.int .u8] ((pc2_m xs ba bb).1)])), (1, .ob 115 (chain [.ls false [.int .u8] ba, .v (.int .i64 (((pc2_m xs ba bb).2.1 : Nat) : Int)), .v (.int .i64 (((pc2_m xs ba bb).2.2.1 : Nat) : Int)), .v (.int .i64 (((pc2_m xs ba bb).2.2.2.1 : Nat) : Int)), .ls false [.int .u8] ((pc2_m xs ba bb).2.2.2.2), .ls false [.int .u8] bb]))]⟩
set_option maxRecDepth 100000 in
set_option maxHeartbeats 1000000 in
theorem pc2_ok (xs ba bb : List Int) (h : xs.length ≤ 100000000000000) (hk : pc2_k xs ba bb = true) : ConOk Tryz.prog 103 (c_pc2 xs ba bb) := by
 refine conOk_of rfl (nb := 2) Tryz.func103 rfl rfl Tryz.ntmps103 rfl rfl rfl fun g0 w0 ac gs ws hg0 hS => ?_
 have hS := hS.sp
 have hnn := numV_nn xs
 have hn2 := numV_le2 xs
 have hn3 := numV_le3 xs
 by_cases h1 : snum_k xs = true
 ·have hnn := numV_nn xs
  have hn2 := numV_le2 xs
  have hn3 := numV_le3 xs
  by_cases h2 : snum_k ((numV xs).2) = true
  ·have hnn := numV_nn xs
   have hn2 := numV_le2 xs
   have hn3 := numV_le3 xs
   by_cases h3 : snum_k ((numV ((numV xs).2)).2) = true
   ·have hnn := numV_nn xs
    have hn2 := numV_le2 xs
    have hn3 := numV_le3 xs
    by_cases h4 : rbytes1_k ((numV ((numV ((numV xs).2)).2)).2) 4000 = true
    ·have hnn := numV_nn xs
     have hn2 := numV_le2 xs
     have hn3 := numV_le3 xs
     refine rA [(1, .call ⟨92, (c_snum xs), [(0, 0)], []⟩), (3, .call ⟨92, (c_snum ((numV xs).2)), [(0, 0)], []⟩), (5, .call ⟨92, (c_snum ((numV ((numV xs).2)).2)), [(0, 0)], []⟩), (7, .call ⟨102, (c_rbytes1 ((numV ((numV ((numV xs).2)).2)).2) 4000), [(0, 0)], []⟩)] ⟨snum_ok xs (by first | omega | (simp only [List.length_append, List.length_drop, List.length_take, List.length_replicate, List.length_cons, List.length_nil, List.length_map, List.length_range] <;> omega) | (simp <;> omega)) h1, snum_ok ((numV xs).2) (by first | omega | (simp only [List.length_append, List.length_drop, List.length_take, List.length_replicate, List.length_cons, List.length_nil, List.length_map, List.length_range] <;> omega) | (simp <;> omega)) h2, snum_ok ((numV ((numV xs).2)).2) (by first | omega | (simp only [List.length_append, List.length_drop, List.length_take, List.length_replicate, List.length_cons, List.length_nil, List.length_map, List.length_range] <;> omega) | (simp <;> omega)) h3, rbytes1_ok ((numV ((numV ((numV xs).2)).2)).2) 4000 (by first | omega | (simp only [List.length_append, List.length_drop, List.length_take, List.length_replicate, List.length_cons, List.length_nil, List.length_map, List.length_range] <;> omega) | (simp <;> omega)) (by omega) h4, trivial⟩ (fun C => [ndC C 1, ndC C 3, ndC C 5, ndC C 7]) [] [0, 1] 2 ⟨rfl, rfl, rfl, rfl, trivial⟩ hS fun ac gs ws hS => ?_
     have hM : pc2_m xs ba bb = ((((numV ((numV ((numV ((numV xs).2)).2)).2)).2).drop (((numV ((numV ((numV ((numV xs).2)).2)).2)).1).toNat)), (((numV xs).1).toNat), (((numV ((numV xs).2)).1).toNat), (((numV ((numV ((numV xs).2)).2)).1).toNat), (((numV ((numV ((numV ((numV xs).2)).2)).2)).2).take (((numV ((numV ((numV ((numV xs).2)).2)).2)).1).toNat))) := pc2_e xs ba bb
     exact fin_y rfl (.inl rfl) hS [] [(0, some (.ob 188 (chain [.ls false [.int .u8] (((numV ((numV ((numV ((numV xs).2)).2)).2)).2).drop (((numV ((numV ((numV ((numV xs).2)).2)).2)).1).toNat))]))), (1, some (.ob 115 (chain [.ls false [.int .u8] ba, .v (.int .i64 (((((numV xs).1).toNat) : Nat) : Int)), .v (.int .i64 (((((numV ((numV xs).2)).1).toNat) : Nat) : Int)), .v (.int .i64 (((((numV ((numV ((numV xs).2)).2)).1).toNat) : Nat) : Int)), .ls false [.int .u8] (((numV ((numV ((numV ((numV xs).2)).2)).2)).2).take (((numV ((numV ((numV ((numV xs).2)).2)).2)).1).toNat)), .ls false [.int .u8] bb])))] rfl (by show H1Ok _ [(0, .ob 188 (chain [.ls false [.int .u8] ((pc2_m xs ba bb).1)])), (1, .ob 115 (chain [.ls false [.int .u8] ba, .v (.int .i64 (((pc2_m xs ba bb).2.1 : Nat) : Int)), .v (.int .i64 (((pc2_m xs ba bb).2.2.1 : Nat) : Int)), .v (.int .i64 (((pc2_m xs ba bb).2.2.2.1 : Nat) : Int)), .ls false [.int .u8] ((pc2_m xs ba bb).2.2.2.2), .ls false [.int .u8] bb]))] true; rw [hM]; first | (simp only []; exact ⟨rfl, rfl, trivial⟩) | exact ⟨rfl, rfl, trivial⟩)
    ·have hnn := numV_nn xs
     have hn2 := numV_le2 xs
     have hn3 := numV_le3 xs
     have hK : pc2_k xs ba bb = false := (pc2_ke xs ba bb).trans ((if_pos h1).trans ((if_pos h2).trans ((if_pos h3).trans (if_neg h4))))
     rw [hK] at hk
     cases hk
   ·have hnn := numV_nn xs
    have hn2 := numV_le2 xs
    have hn3 := numV_le3 xs
    have hK : pc2_k xs ba bb = false := (pc2_ke xs ba bb).trans ((if_pos h1).trans ((if_pos h2).trans (if_neg h3)))
    rw [hK] at hk
    cases hk
  ·have hnn := numV_nn xs
   have hn2 := numV_le2 xs
   have hn3 := numV_le3 xs
   have hK : pc2_k xs ba bb = false := (pc2_ke xs ba bb).trans ((if_pos h1).trans (if_neg h2))
   rw [hK] at hk
   cases hk
 ·have hnn := numV_nn xs
  have hn2 := numV_le2 xs
  have hn3 := numV_le3 xs
  have hK : pc2_k xs ba bb = false := (pc2_ke xs ba bb).trans (if_neg h1)
  rw [hK] at hk
  cases hk
theorem pc2_p_pos (xs ba bb : List Int) : 0 < pc2_p_e xs ba bb := by
 rw [pc2_p_ee]; unfold pc2_p_ev
 repeat (first | decide | exact rbytes1_p_pos _ _ | split)
noncomputable def rd2_kv (xs ba bb : List Int) : Bool := if pc2_k xs ba bb = true then (if rend_k ((pc2_m xs ba bb).1) = true then true else false) else false
noncomputable def rd2_k (xs ba bb : List Int) : Bool := shut (rd2_kv xs ba bb)
theorem rd2_ke (xs ba bb : List Int) : rd2_k xs ba bb = rd2_kv xs ba bb := shut_eq _
noncomputable def rd2_p_ev (xs ba bb : List Int) : Nat := if pc2_k xs ba bb = true then 2 else (pc2_p_e xs ba bb)
noncomputable def rd2_p_e (xs ba bb : List Int) : Nat := shut (rd2_p_ev xs ba bb)
theorem rd2_p_ee (xs ba bb : List Int) : rd2_p_e xs ba bb = rd2_p_ev xs ba bb := shut_eq _
noncomputable def rd2_v (xs ba bb : List Int) : Nat × Nat × Nat × (List Int) := (((pc2_m xs ba bb).2.1), ((pc2_m xs ba bb).2.2.1), ((pc2_m xs ba bb).2.2.2.1), (pc2_m xs ba bb).2.2.2.2)
noncomputable def rd2_m (xs ba bb : List Int) : Nat × Nat × Nat × (List Int) := shut (rd2_v xs ba bb)
theorem rd2_e (xs ba bb : List Int) : rd2_m xs ba bb = rd2_v xs ba bb := shut_eq _
noncomputable def c_rd2 (xs ba bb : List Int) : Con := ⟨[.ls false [.int .u8] xs, .fn 103 (chain []) (chain [.cp 0 0])], [(0, .ob 115 (chain [.ls false [.int .u8] ba, .v (.int .i64 0), .v (.int .i64 0), .v (.int .i64 0), .v (.slice none 0 0), .ls false [.int .u8] bb]))], .v (.int .i64 0), [(0, .ob 115 (chain [.ls false [.int .u8] ba, .v (.int .i64 (((rd2_m xs ba bb).1 : Nat) : Int)), .v (.int .i64 (((rd2_m xs ba bb).2.1 : Nat) : Int)), .v (.int .i64 (((rd2_m xs ba bb).2.2.1 : Nat) : Int)), .ls false [.int .u8] ((rd2_m xs ba bb).2.2.2), .ls false [.int .u8] bb]))]⟩
set_option maxRecDepth 100000 in
set_option maxHeartbeats 1000000 in
theorem rd2_ok (xs ba bb : List Int) (h : xs.length ≤ 100000000000000) (hk : rd2_k xs ba bb = true) : ConOk Tryz.prog 59 (c_rd2 xs ba bb) := by
 refine conOk_ofDf rfl (nb := 1) Tryz.func59 rfl rfl Tryz.ntmps59 rfl rfl rfl fun g0 w0 ac gs ws hg0 hS => ?_
 have hlen0 : xs.length ≤ 9223372036854775807 := hS.len 0 rfl
 have hS := hS.sp
 refine s0 [0, 1, 4] [0, 1] 2 hS fun ac gs ws hS => ?_
 refine wp_seq ?_
 have hS := hS.rv [(0, .ls false [.int .u8] xs), (1, .fn 103 (chain []) (chain [.cp 0 0])), (4, .cp 1 0)] [(0, some (.ob 115 (chain [.ls false [.int .u8] ba, .v (.int .i64 0), .v (.int .i64 0), .v (.int .i64 0), .v (.slice none 0 0), .ls false [.int .u8] bb]))), (1, some (.ob 44 (chain [.v (.int .i64 0)])))]
 refine defer_x rfl hS (cs := [.cp 1 0]) rfl rfl rfl fun D vds ac hD hcv hB hS => ?_
 have hS := hS.sp
 refine then_n (sA [(1, .call ⟨89, (c_newrd xs), [], [(0, 2)]⟩)] ⟨newrd_ok xs (by first | omega | (simp only [List.length_append, List.length_drop, List.length_take, List.length_replicate, List.length_cons, List.length_nil, List.length_map, List.length_range] <;> omega) | (simp <;> omega)), trivial⟩ (fun C => [ndC C 1]) [1, 4, 5] [0, 1, 2] 3 ⟨rfl, trivial⟩ hS fun ac gs ws hS => ?_)
 refine wp_seq (s0 [1, 4, 5, 10] [0, 1, 2] 3 hS fun ac gs ws hS => ?_)
 refine cond_t hS ?_
 have hz := pc2_p_pos xs ba bb
 by_cases h1 : pc2_k xs ba bb = true
 ·have hz := pc2_p_pos xs ba bb
  refine rA [(2, .call ⟨103, (c_pc2 xs ba bb), [(0, 2), (1, 0)], []⟩)] ⟨pc2_ok xs ba bb (by first | omega | (simp only [List.length_append, List.length_drop, List.length_take, List.length_replicate, List.length_cons, List.length_nil, List.length_map, List.length_range] <;> omega) | (simp <;> omega)) h1, trivial⟩ (fun C => [ndC C 2]) [4, 5] [0, 1, 2] 3 ⟨rfl, trivial⟩ hS fun ac gs ws hS => ?_
  refine then_n (wp_seq ?_)
  have hpl := pc2_len xs ba bb
  by_cases h2 : rend_k ((pc2_m xs ba bb).1) = true
  ·have hpl := pc2_len xs ba bb
   refine rA [(1, .call ⟨90, (c_rend ((pc2_m xs ba bb).1)), [(0, 2)], []⟩)] ⟨rend_ok ((pc2_m xs ba bb).1) h2, trivial⟩ (fun C => [ndC C 1]) [4] [0, 1] 3 ⟨rfl, trivial⟩ hS fun ac gs ws hS => ?_
   refine then_n (s0 [4] [0, 1] 3 hS fun ac gs ws hS => ?_)
   refine wp_ret ?_
   have hM : rd2_m xs ba bb = (((pc2_m xs ba bb).2.1), ((pc2_m xs ba bb).2.2.1), ((pc2_m xs ba bb).2.2.2.1), (pc2_m xs ba bb).2.2.2.2) := rd2_e xs ba bb
   have hS := hS.rv [(4, .cp 1 0)] [(0, some (.ob 115 (chain [.ls false [.int .u8] ba, .v (.int .i64 (((pc2_m xs ba bb).2.1 : Nat) : Int)), .v (.int .i64 (((pc2_m xs ba bb).2.2.1 : Nat) : Int)), .v (.int .i64 (((pc2_m xs ba bb).2.2.2.1 : Nat) : Int)), .ls false [.int .u8] ((pc2_m xs ba bb).2.2.2.2), .ls false [.int .u8] bb]))), (1, some (.ob 44 (chain [.v (.int .i64 0)])))]
   exact fin_dr (.inr rfl) hS hD (leaves_d ⟨88, (c_rec_r), [(0, 1)], []⟩ [(1, some (.ob 44 (chain [.v (.int .i64 0)]))), (0, some (.ob 115 (chain [.ls false [.int .u8] ba, .v (.int .i64 (((pc2_m xs ba bb).2.1 : Nat) : Int)), .v (.int .i64 (((pc2_m xs ba bb).2.2.1 : Nat) : Int)), .v (.int .i64 (((pc2_m xs ba bb).2.2.2.1 : Nat) : Int)), .ls false [.int .u8] ((pc2_m xs ba bb).2.2.2.2), .ls false [.int .u8] bb]))), (1, some (.ob 44 (chain [.v (.int .i64 0)])))] hB hS hcv (show FrameMode.returning ≠ .run from nofun) rfl rfl rfl (rec_r_ok) rfl ⟨rfl, trivial⟩ rfl (ds := [.v (.int .i64 0)]) (by kernel_rfl) rfl (by show H1Ok _ [(0, .ob 115 (chain [.ls false [.int .u8] ba, .v (.int .i64 (((rd2_m xs ba bb).1 : Nat) : Int)), .v (.int .i64 (((rd2_m xs ba bb).2.1 : Nat) : Int)), .v (.int .i64 (((rd2_m xs ba bb).2.2.1 : Nat) : Int)), .ls false [.int .u8] ((rd2_m xs ba bb).2.2.2), .ls false [.int .u8] bb]))] true; first | exact ⟨rfl, trivial⟩ | (rw [hM]; first | (simp only []; exact ⟨rfl, trivial⟩) | exact ⟨rfl, trivial⟩)))
  ·have hpl := pc2_len xs ba bb
   have hK : rd2_k xs ba bb = false := (rd2_ke xs ba bb).trans ((if_pos h1).trans (if_neg h2))
   rw [hK] at hk
   cases hk
 ·have hz := pc2_p_pos xs ba bb
  have hK : rd2_k xs ba bb = false := (rd2_ke xs ba bb).trans (if_neg h1)
  rw [hK] at hk
  cases hk
end Go.Sx.Tryz
