/- General lemmas, walks. -/
import Derived.Test.YtmkplecnmklbfaaJ4PKcop
set_option maxRecDepth 100000
set_option maxHeartbeats 1000000
set_option linter.unusedSimpArgs false
set_option linter.unusedVariables false
set_option linter.unnecessarySimpa false
set_option linter.unusedSectionVars false
namespace Go.Sx.Try
open Go.Mi Go.RowKit Go.Sx Go.Proofs
noncomputable section
theorem numV_le2 (xs : List Int) : (numV (numV xs).2).2.length ≤ xs.length := Nat.le_trans (numV_nn _).2 (numV_nn _).2
theorem numV_le3 (xs : List Int) : (numV (numV (numV xs).2).2).2.length ≤ xs.length := Nat.le_trans (numV_nn _).2 (numV_le2 _)
theorem wrapN64 {x : Int} (h : 0 ≤ x) (h2 : ¬ 1073741824 < x) : IntKind.wrap .i64 x = ((x.toNat : Nat) : Int) := by
 rw [wrap_i64 omm omm]; omega
def dc1_kv (xs : List Int) : Bool := if numB xs = true then (if (1073741824 : Int) < ((numV xs).1) then false else (if numB ((numV xs).2) = true then (if (1073741824 : Int) < ((numV ((numV xs).2)).1) then false else (if numB ((numV ((numV xs).2)).2) = true then (if (1073741824 : Int) < ((numV ((numV ((numV xs).2)).2)).1) then false else (if rbytes1_k ((numV ((numV ((numV xs).2)).2)).2) 1000 = true then true else false)) else false)) else false)) else false
def dc1_k (xs : List Int) : Bool := shut (dc1_kv xs)
theorem dc1_ke (xs : List Int) : dc1_k xs = dc1_kv xs := shut_eq _
def dc1_p_ev (xs : List Int) : Nat × Nat × Nat × Nat := if numB xs = true then (if (1073741824 : Int) < ((numV xs).1) then (2, 0, 0, 0) else (if numB ((numV xs).2) = true then (if (1073741824 : Int) < ((numV ((numV xs).2)).1) then (2, ((((numV xs).1)).toNat), 0, 0) else (if numB ((numV ((numV xs).2)).2) = true then (if (1073741824 : Int) < ((numV ((numV ((numV xs).2)).2)).1) then (2, ((((numV xs).1)).toNat), ((((numV ((numV xs).2)).1)).toNat), 0) else ((rbytes1_p_e ((numV ((numV ((numV xs).2)).2)).2) 1000), ((((numV xs).1)).toNat), ((((numV ((numV xs).2)).1)).toNat), ((((numV ((numV ((numV xs).2)).2)).1)).toNat))) else (2, ((((numV xs).1)).toNat), ((((numV ((numV xs).2)).1)).toNat), 0))) else (2, ((((numV xs).1)).toNat), 0, 0))) else (2, 0, 0, 0)
def dc1_p_e (xs : List Int) : Nat × Nat × Nat × Nat := shut (dc1_p_ev xs)
theorem dc1_p_ee (xs : List Int) : dc1_p_e xs = dc1_p_ev xs := shut_eq _
def dc1_v (xs : List Int) : (List Int) × Nat × Nat × Nat × (List Int) := ((((numV ((numV ((numV ((numV xs).2)).2)).2)).2).drop (((numV ((numV ((numV ((numV xs).2)).2)).2)).1).toNat)), ((((numV xs).1)).toNat), ((((numV ((numV xs).2)).1)).toNat), ((((numV ((numV ((numV xs).2)).2)).1)).toNat), (((numV ((numV ((numV ((numV xs).2)).2)).2)).2).take (((numV ((numV ((numV ((numV xs).2)).2)).2)).1).toNat)))
def dc1_m (xs : List Int) : (List Int) × Nat × Nat × Nat × (List Int) := shut (dc1_v xs)
theorem dc1_e (xs : List Int) : dc1_m xs = dc1_v xs := shut_eq _
def c_dc1 (xs : List Int) : Con := ⟨[.cp 0 0, .cp 1 0], [(0, .ob 171 (chain [lb xs])), (1, .ob 84 (chain [vi 0, vi 0, vi 0, .v (.slice none 0 0)]))], .tu (chain []), [(0, .ob 171 (chain [lb ((dc1_m xs).1)])), (1, .ob 84 (chain [vi (((dc1_m xs).2.1 : Nat) : Int), vi (((dc1_m xs).2.2.1 : Nat) : Int), vi (((dc1_m xs).2.2.2.1 : Nat) : Int), lb ((dc1_m xs).2.2.2.2)]))]⟩
theorem dc1_ok (xs : List Int) (h : xs.length ≤ 100000000000000) (hk : dc1_k xs = true) : ConOk Try.prog 90 (c_dc1 xs) := by
 refine conOk_of rfl (nb := 2) Try.func90 rfl rfl Try.ntmps90 rfl rfl rfl fun g0 w0 ac gs ws hg0 hS => ?_
 have hS := hS.sp
 refine wp_seq (wp_seq ?_)
 have hnn := (numV_nn xs).2
 have hn2 := numV_le2 xs
 have hn3 := numV_le3 xs
 refine r0 [0, 1, 9, 10, 11] [0, 1] 2 hS fun hS => ?_
 refine then_n (wp_block (wp_loop_rounds 4 ?_))
 refine rounds_s (n := 3) ?_
 refine s0 [0, 1, 9, 10, 11, 12] [0, 1] 2 hS fun hS => ?_
 refine wp_seq (cond_t hS ?_)
 refine wp_skip (then_n (wp_seq (wp_block (sA [] trivial (fun _ => [(0 : Int) ≤ 0 ∧ (0 : Int) < 3]) [0, 1, 4, 9, 10, 11, 12, 13, 14] [0, 1] 2 ⟨by omega, trivial⟩ hS fun hS => ?_))))
 refine wp_seq ?_
 by_cases h1 : numB xs = true
 ·refine rA [(1, .call ⟨91, (c_num xs), [(0, 0)], []⟩)] ⟨num_ok _ lnn h1, trivial⟩ (fun C => [ndC C 1]) [0, 1, 4, 5, 9, 10, 11, 12, 13, 14, 15, 16] [0, 1] 2 ⟨rfl, trivial⟩ hS fun hS => ?_
  refine then_n (wp_seq (s0 [0, 1, 4, 5, 9, 10, 11, 12, 13, 14, 15, 16, 17, 18] [0, 1] 2 hS fun hS => ?_))
  refine if_d ((1073741824 : Int) < ((numV xs).1)) hS (fun h2 => ?_) (fun h2 => ?_)
  ·have hK : dc1_k xs = false := (dc1_ke xs).trans ((if_pos h1).trans (if_pos h2))
   rw [hK] at hk
   cases hk
  ·refine wp_skip (then_n (rA [(2, .oi (((((numV xs).1)).toNat : Nat) : Int))] trivial (fun _ => [IntKind.wrap .i64 (((numV xs).1)) = (((((numV xs).1)).toNat : Nat) : Int)]) [0, 1, 4, 5, 9, 10, 11, 12, 13, 14, 15, 16, 17, 18, 20, 21, 22, 23] [0, 1] 2 ⟨wrapN64 (numV_nn _).1 h2, trivial⟩ hS fun hS => ?_))
   refine block_n (then_n (r0 [0, 1, 4, 5, 9, 10, 11, 12, 13, 14, 15, 16, 17, 18, 20, 21, 22, 23, 24] [0, 1] 2 hS fun hS => ?_))
   refine then_n (rounds_s (n := 2) ?_)
   refine s0 [0, 1, 4, 5, 9, 10, 11, 12, 13, 14, 15, 16, 17, 18, 20, 21, 22, 23, 24] [0, 1] 2 hS fun hS => ?_
   refine wp_seq (cond_t hS ?_)
   refine wp_skip (then_n (wp_seq (wp_block (sA [] trivial (fun _ => [(0 : Int) ≤ 1 ∧ (1 : Int) < 3]) [0, 1, 4, 5, 9, 10, 11, 12, 13, 14, 15, 16, 17, 18, 20, 21, 22, 23, 24] [0, 1] 2 ⟨by omega, trivial⟩ hS fun hS => ?_))))
   refine wp_seq ?_
   by_cases h3 : numB ((numV xs).2) = true
   ·refine rA [(1, .call ⟨91, (c_num ((numV xs).2)), [(0, 0)], []⟩)] ⟨num_ok _ lnn h3, trivial⟩ (fun C => [ndC C 1]) [0, 1, 4, 5, 9, 10, 11, 12, 13, 14, 15, 16, 17, 18, 20, 21, 22, 23, 24] [0, 1] 2 ⟨rfl, trivial⟩ hS fun hS => ?_
    refine then_n (wp_seq (s0 [0, 1, 4, 5, 9, 10, 11, 12, 13, 14, 15, 16, 17, 18, 20, 21, 22, 23, 24] [0, 1] 2 hS fun hS => ?_))
    refine if_d ((1073741824 : Int) < ((numV ((numV xs).2)).1)) hS (fun h4 => ?_) (fun h4 => ?_)
    ·have hK : dc1_k xs = false := (dc1_ke xs).trans ((if_pos h1).trans ((if_neg h2).trans ((if_pos h3).trans (if_pos h4))))
     rw [hK] at hk
     cases hk
    ·refine wp_skip (then_n (rA [(2, .oi (((((numV ((numV xs).2)).1)).toNat : Nat) : Int))] trivial (fun _ => [IntKind.wrap .i64 (((numV ((numV xs).2)).1)) = (((((numV ((numV xs).2)).1)).toNat : Nat) : Int)]) [0, 1, 4, 5, 9, 10, 11, 12, 13, 14, 15, 16, 17, 18, 20, 21, 22, 23, 24] [0, 1] 2 ⟨wrapN64 (numV_nn _).1 h4, trivial⟩ hS fun hS => ?_))
     refine block_n (then_n (r0 [0, 1, 4, 5, 9, 10, 11, 12, 13, 14, 15, 16, 17, 18, 20, 21, 22, 23, 24] [0, 1] 2 hS fun hS => ?_))
     refine then_n (rounds_s (n := 1) ?_)
     refine s0 [0, 1, 4, 5, 9, 10, 11, 12, 13, 14, 15, 16, 17, 18, 20, 21, 22, 23, 24] [0, 1] 2 hS fun hS => ?_
     refine wp_seq (cond_t hS ?_)
     refine wp_skip (then_n (wp_seq (wp_block (sA [] trivial (fun _ => [(0 : Int) ≤ 2 ∧ (2 : Int) < 3]) [0, 1, 4, 5, 9, 10, 11, 12, 13, 14, 15, 16, 17, 18, 20, 21, 22, 23, 24] [0, 1] 2 ⟨by omega, trivial⟩ hS fun hS => ?_))))
     refine wp_seq ?_
     by_cases h5 : numB ((numV ((numV xs).2)).2) = true
     ·refine rA [(1, .call ⟨91, (c_num ((numV ((numV xs).2)).2)), [(0, 0)], []⟩)] ⟨num_ok _ lnn h5, trivial⟩ (fun C => [ndC C 1]) [0, 1, 4, 5, 9, 10, 11, 12, 13, 14, 15, 16, 17, 18, 20, 21, 22, 23, 24] [0, 1] 2 ⟨rfl, trivial⟩ hS fun hS => ?_
      refine then_n (wp_seq (s0 [0, 1, 4, 5, 9, 10, 11, 12, 13, 14, 15, 16, 17, 18, 20, 21, 22, 23, 24] [0, 1] 2 hS fun hS => ?_))
      refine if_d ((1073741824 : Int) < ((numV ((numV ((numV xs).2)).2)).1)) hS (fun h6 => ?_) (fun h6 => ?_)
      ·have hK : dc1_k xs = false := (dc1_ke xs).trans ((if_pos h1).trans ((if_neg h2).trans ((if_pos h3).trans ((if_neg h4).trans ((if_pos h5).trans (if_pos h6))))))
       rw [hK] at hk
       cases hk
      ·refine wp_skip (then_n (rA [(2, .oi (((((numV ((numV ((numV xs).2)).2)).1)).toNat : Nat) : Int))] trivial (fun _ => [IntKind.wrap .i64 (((numV ((numV ((numV xs).2)).2)).1)) = (((((numV ((numV ((numV xs).2)).2)).1)).toNat : Nat) : Int)]) [0, 1, 4, 5, 9, 10, 11, 12, 13, 14, 15, 16, 17, 18, 20, 21, 22, 23, 24] [0, 1] 2 ⟨wrapN64 (numV_nn _).1 h6, trivial⟩ hS fun hS => ?_))
       refine block_n (then_n (r0 [0, 1, 4, 5, 9, 10, 11, 12, 13, 14, 15, 16, 17, 18, 20, 21, 22, 23, 24] [0, 1] 2 hS fun hS => ?_))
       refine then_n (rounds_s (n := 0) ?_)
       refine s0 [0, 1, 4, 5, 9, 11, 12, 13, 14, 15, 16, 17, 18, 20, 21, 22, 23, 24] [0, 1] 2 hS fun hS => ?_
       refine wp_seq (cond_f hS ?_)
       refine wp_exit (then_exit (then_exit (block_exit (then_n ?_))))
       by_cases h7 : rbytes1_k ((numV ((numV ((numV xs).2)).2)).2) 1000 = true
       ·refine rA [(1, .call ⟨92, (c_rbytes1 ((numV ((numV ((numV xs).2)).2)).2) 1000), [(0, 0)], []⟩)] ⟨rbytes1_ok _ _ lnn omm h7, trivial⟩ (fun C => [ndC C 1]) [] [0, 1] 2 ⟨rfl, trivial⟩ hS fun hS => ?_
        have hM : dc1_m xs = ((((numV ((numV ((numV ((numV xs).2)).2)).2)).2).drop (((numV ((numV ((numV ((numV xs).2)).2)).2)).1).toNat)), ((((numV xs).1)).toNat), ((((numV ((numV xs).2)).1)).toNat), ((((numV ((numV ((numV xs).2)).2)).1)).toNat), (((numV ((numV ((numV ((numV xs).2)).2)).2)).2).take (((numV ((numV ((numV ((numV xs).2)).2)).2)).1).toNat))) := dc1_e xs
        exact fin_y rfl (.inl rfl) hS [] [(0, some (.ob 171 (chain [lb (((numV ((numV ((numV ((numV xs).2)).2)).2)).2).drop (((numV ((numV ((numV ((numV xs).2)).2)).2)).1).toNat))]))), (1, some (.ob 84 (chain [vi (((((numV xs).1)).toNat : Nat) : Int), vi (((((numV ((numV xs).2)).1)).toNat : Nat) : Int), vi (((((numV ((numV ((numV xs).2)).2)).1)).toNat : Nat) : Int), lb (((numV ((numV ((numV ((numV xs).2)).2)).2)).2).take (((numV ((numV ((numV ((numV xs).2)).2)).2)).1).toNat))])))] rfl (by show H1Ok _ [(0, .ob 171 (chain [lb ((dc1_m xs).1)])), (1, .ob 84 (chain [vi (((dc1_m xs).2.1 : Nat) : Int), vi (((dc1_m xs).2.2.1 : Nat) : Int), vi (((dc1_m xs).2.2.2.1 : Nat) : Int), lb ((dc1_m xs).2.2.2.2)]))] true; rw [hM]; first | (simp only []; exact ⟨rfl, rfl, trivial⟩) | exact ⟨rfl, rfl, trivial⟩)
       ·have hK : dc1_k xs = false := (dc1_ke xs).trans ((if_pos h1).trans ((if_neg h2).trans ((if_pos h3).trans ((if_neg h4).trans ((if_pos h5).trans ((if_neg h6).trans (if_neg h7)))))))
        rw [hK] at hk
        cases hk
     ·have hK : dc1_k xs = false := (dc1_ke xs).trans ((if_pos h1).trans ((if_neg h2).trans ((if_pos h3).trans ((if_neg h4).trans (if_neg h5)))))
      rw [hK] at hk
      cases hk
   ·have hK : dc1_k xs = false := (dc1_ke xs).trans ((if_pos h1).trans ((if_neg h2).trans (if_neg h3)))
    rw [hK] at hk
    cases hk
 ·have hK : dc1_k xs = false := (dc1_ke xs).trans (if_neg h1)
  rw [hK] at hk
  cases hk
def c_dc1_p (xs : List Int) : Con := ⟨[.cp 0 0, .cp 1 0], [(0, .ob 171 (chain [lb xs])), (1, .ob 84 (chain [vi 0, vi 0, vi 0, .v (.slice none 0 0)]))], .v (.iface 27 (.int .i64 (((dc1_p_e xs).1 : Nat) : Int))), [(1, .ob 84 (chain [vi (((dc1_p_e xs).2.1 : Nat) : Int), vi (((dc1_p_e xs).2.2.1 : Nat) : Int), vi (((dc1_p_e xs).2.2.2 : Nat) : Int), .v (.slice none 0 0)]))]⟩
theorem dc1_p_ok (xs : List Int) (h : xs.length ≤ 100000000000000) (hk : dc1_k xs = false) : PanOk Try.prog 90 (c_dc1_p xs) := by
 refine conOk_ofE rfl (nb := 2) Try.func90 rfl rfl Try.ntmps90 rfl rfl rfl fun g0 w0 ac gs ws hg0 hS => ?_
 have hS := hS.sp
 refine wp_seq (wp_seq ?_)
 have hnn := (numV_nn xs).2
 have hn2 := numV_le2 xs
 have hn3 := numV_le3 xs
 refine r0 [0, 1, 9, 10, 11] [0, 1] 2 hS fun hS => ?_
 refine then_n (wp_block (wp_loop_rounds 4 ?_))
 refine rounds_s (n := 3) ?_
 refine s0 [0, 1, 9, 10, 11, 12] [0, 1] 2 hS fun hS => ?_
 refine wp_seq (cond_t hS ?_)
 refine wp_skip (then_n (wp_seq (wp_block (sA [] trivial (fun _ => [(0 : Int) ≤ 0 ∧ (0 : Int) < 3]) [0, 1, 4, 9, 10, 11, 12, 13, 14] [0, 1] 2 ⟨by omega, trivial⟩ hS fun hS => ?_))))
 refine wp_seq ?_
 by_cases h1 : numB xs = true
 ·refine rA [(1, .call ⟨91, (c_num xs), [(0, 0)], []⟩)] ⟨num_ok _ lnn h1, trivial⟩ (fun C => [ndC C 1]) [0, 1, 4, 5, 9, 10, 11, 12, 13, 14, 15, 16] [0, 1] 2 ⟨rfl, trivial⟩ hS fun hS => ?_
  refine then_n (wp_seq (s0 [0, 1, 4, 5, 9, 10, 11, 12, 13, 14, 15, 16, 17, 18] [0, 1] 2 hS fun hS => ?_))
  refine if_d ((1073741824 : Int) < ((numV xs).1)) hS (fun h2 => ?_) (fun h2 => ?_)
  ·refine region_p3 (E := E0) hZ [] trivial none (fun r hr => by cases hr) 1 0 (fun _ => []) (.v (.iface 27 (.int .i64 2))) [] [1] [] [(1, some (.ob 84 (chain [vi 0, vi 0, vi 0, .v (.slice none 0 0)])))] 2 (by kernel_rfl) trivial hS.st fun ac gs ws pv hS hpv => ?_
   refine then_pan (block_pan (then_pan (then_pan (block_pan (then_pan ?_)))))
   have hM : dc1_p_e xs = (2, 0, 0, 0) := (dc1_p_ee xs).trans ((if_pos h1).trans (if_pos h2))
   exact fin_p3 rfl hS hpv (by show _ = (.v (.iface 27 (.int .i64 (((dc1_p_e xs).1 : Nat) : Int))) : D); rw [hM] <;> rfl) (by show H1Ok _ [(1, .ob 84 (chain [vi (((dc1_p_e xs).2.1 : Nat) : Int), vi (((dc1_p_e xs).2.2.1 : Nat) : Int), vi (((dc1_p_e xs).2.2.2 : Nat) : Int), .v (.slice none 0 0)]))] true; rw [hM]; first | (simp only []; exact ⟨rfl, trivial⟩) | exact ⟨rfl, trivial⟩)
  ·refine wp_skip (then_n (rA [(2, .oi (((((numV xs).1)).toNat : Nat) : Int))] trivial (fun _ => [IntKind.wrap .i64 (((numV xs).1)) = (((((numV xs).1)).toNat : Nat) : Int)]) [0, 1, 4, 5, 9, 10, 11, 12, 13, 14, 15, 16, 17, 18, 20, 21, 22, 23] [0, 1] 2 ⟨wrapN64 (numV_nn _).1 h2, trivial⟩ hS fun hS => ?_))
   refine block_n (then_n (r0 [0, 1, 4, 5, 9, 10, 11, 12, 13, 14, 15, 16, 17, 18, 20, 21, 22, 23, 24] [0, 1] 2 hS fun hS => ?_))
   refine then_n (rounds_s (n := 2) ?_)
   refine s0 [0, 1, 4, 5, 9, 10, 11, 12, 13, 14, 15, 16, 17, 18, 20, 21, 22, 23, 24] [0, 1] 2 hS fun hS => ?_
   refine wp_seq (cond_t hS ?_)
   refine wp_skip (then_n (wp_seq (wp_block (sA [] trivial (fun _ => [(0 : Int) ≤ 1 ∧ (1 : Int) < 3]) [0, 1, 4, 5, 9, 10, 11, 12, 13, 14, 15, 16, 17, 18, 20, 21, 22, 23, 24] [0, 1] 2 ⟨by omega, trivial⟩ hS fun hS => ?_))))
   refine wp_seq ?_
   by_cases h3 : numB ((numV xs).2) = true
   ·refine rA [(1, .call ⟨91, (c_num ((numV xs).2)), [(0, 0)], []⟩)] ⟨num_ok _ lnn h3, trivial⟩ (fun C => [ndC C 1]) [0, 1, 4, 5, 9, 10, 11, 12, 13, 14, 15, 16, 17, 18, 20, 21, 22, 23, 24] [0, 1] 2 ⟨rfl, trivial⟩ hS fun hS => ?_
    refine then_n (wp_seq (s0 [0, 1, 4, 5, 9, 10, 11, 12, 13, 14, 15, 16, 17, 18, 20, 21, 22, 23, 24] [0, 1] 2 hS fun hS => ?_))
    refine if_d ((1073741824 : Int) < ((numV ((numV xs).2)).1)) hS (fun h4 => ?_) (fun h4 => ?_)
    ·refine region_p3 (E := E0) hZ [] trivial none (fun r hr => by cases hr) 1 0 (fun _ => []) (.v (.iface 27 (.int .i64 2))) [] [1] [] [(1, some (.ob 84 (chain [vi (((((numV xs).1)).toNat : Nat) : Int), vi 0, vi 0, .v (.slice none 0 0)])))] 2 (by kernel_rfl) trivial hS.st fun ac gs ws pv hS hpv => ?_
     refine then_pan (block_pan (then_pan (then_pan (block_pan (then_pan ?_)))))
     have hM : dc1_p_e xs = (2, ((((numV xs).1)).toNat), 0, 0) := (dc1_p_ee xs).trans ((if_pos h1).trans ((if_neg h2).trans ((if_pos h3).trans (if_pos h4))))
     exact fin_p3 rfl hS hpv (by show _ = (.v (.iface 27 (.int .i64 (((dc1_p_e xs).1 : Nat) : Int))) : D); rw [hM] <;> rfl) (by show H1Ok _ [(1, .ob 84 (chain [vi (((dc1_p_e xs).2.1 : Nat) : Int), vi (((dc1_p_e xs).2.2.1 : Nat) : Int), vi (((dc1_p_e xs).2.2.2 : Nat) : Int), .v (.slice none 0 0)]))] true; rw [hM]; first | (simp only []; exact ⟨rfl, trivial⟩) | exact ⟨rfl, trivial⟩)
    ·refine wp_skip (then_n (rA [(2, .oi (((((numV ((numV xs).2)).1)).toNat : Nat) : Int))] trivial (fun _ => [IntKind.wrap .i64 (((numV ((numV xs).2)).1)) = (((((numV ((numV xs).2)).1)).toNat : Nat) : Int)]) [0, 1, 4, 5, 9, 10, 11, 12, 13, 14, 15, 16, 17, 18, 20, 21, 22, 23, 24] [0, 1] 2 ⟨wrapN64 (numV_nn _).1 h4, trivial⟩ hS fun hS => ?_))
     refine block_n (then_n (r0 [0, 1, 4, 5, 9, 10, 11, 12, 13, 14, 15, 16, 17, 18, 20, 21, 22, 23, 24] [0, 1] 2 hS fun hS => ?_))
     refine then_n (rounds_s (n := 1) ?_)
     refine s0 [0, 1, 4, 5, 9, 10, 11, 12, 13, 14, 15, 16, 17, 18, 20, 21, 22, 23, 24] [0, 1] 2 hS fun hS => ?_
     refine wp_seq (cond_t hS ?_)
     refine wp_skip (then_n (wp_seq (wp_block (sA [] trivial (fun _ => [(0 : Int) ≤ 2 ∧ (2 : Int) < 3]) [0, 1, 4, 5, 9, 10, 11, 12, 13, 14, 15, 16, 17, 18, 20, 21, 22, 23, 24] [0, 1] 2 ⟨by omega, trivial⟩ hS fun hS => ?_))))
     refine wp_seq ?_
     by_cases h5 : numB ((numV ((numV xs).2)).2) = true
     ·refine rA [(1, .call ⟨91, (c_num ((numV ((numV xs).2)).2)), [(0, 0)], []⟩)] ⟨num_ok _ lnn h5, trivial⟩ (fun C => [ndC C 1]) [0, 1, 4, 5, 9, 10, 11, 12, 13, 14, 15, 16, 17, 18, 20, 21, 22, 23, 24] [0, 1] 2 ⟨rfl, trivial⟩ hS fun hS => ?_
      refine then_n (wp_seq (s0 [0, 1, 4, 5, 9, 10, 11, 12, 13, 14, 15, 16, 17, 18, 20, 21, 22, 23, 24] [0, 1] 2 hS fun hS => ?_))
      refine if_d ((1073741824 : Int) < ((numV ((numV ((numV xs).2)).2)).1)) hS (fun h6 => ?_) (fun h6 => ?_)
      ·refine region_p3 (E := E0) hZ [] trivial none (fun r hr => by cases hr) 1 0 (fun _ => []) (.v (.iface 27 (.int .i64 2))) [] [1] [] [(1, some (.ob 84 (chain [vi (((((numV xs).1)).toNat : Nat) : Int), vi (((((numV ((numV xs).2)).1)).toNat : Nat) : Int), vi 0, .v (.slice none 0 0)])))] 2 (by kernel_rfl) trivial hS.st fun ac gs ws pv hS hpv => ?_
       refine then_pan (block_pan (then_pan (then_pan (block_pan (then_pan ?_)))))
       have hM : dc1_p_e xs = (2, ((((numV xs).1)).toNat), ((((numV ((numV xs).2)).1)).toNat), 0) := (dc1_p_ee xs).trans ((if_pos h1).trans ((if_neg h2).trans ((if_pos h3).trans ((if_neg h4).trans ((if_pos h5).trans (if_pos h6))))))
       exact fin_p3 rfl hS hpv (by show _ = (.v (.iface 27 (.int .i64 (((dc1_p_e xs).1 : Nat) : Int))) : D); rw [hM] <;> rfl) (by show H1Ok _ [(1, .ob 84 (chain [vi (((dc1_p_e xs).2.1 : Nat) : Int), vi (((dc1_p_e xs).2.2.1 : Nat) : Int), vi (((dc1_p_e xs).2.2.2 : Nat) : Int), .v (.slice none 0 0)]))] true; rw [hM]; first | (simp only []; exact ⟨rfl, trivial⟩) | exact ⟨rfl, trivial⟩)
      ·refine wp_skip (then_n (rA [(2, .oi (((((numV ((numV ((numV xs).2)).2)).1)).toNat : Nat) : Int))] trivial (fun _ => [IntKind.wrap .i64 (((numV ((numV ((numV xs).2)).2)).1)) = (((((numV ((numV ((numV xs).2)).2)).1)).toNat : Nat) : Int)]) [0, 1, 4, 5, 9, 10, 11, 12, 13, 14, 15, 16, 17, 18, 20, 21, 22, 23, 24] [0, 1] 2 ⟨wrapN64 (numV_nn _).1 h6, trivial⟩ hS fun hS => ?_))
       refine block_n (then_n (r0 [0, 1, 4, 5, 9, 10, 11, 12, 13, 14, 15, 16, 17, 18, 20, 21, 22, 23, 24] [0, 1] 2 hS fun hS => ?_))
       refine then_n (rounds_s (n := 0) ?_)
       refine s0 [0, 1, 4, 5, 9, 11, 12, 13, 14, 15, 16, 17, 18, 20, 21, 22, 23, 24] [0, 1] 2 hS fun hS => ?_
       refine wp_seq (cond_f hS ?_)
       refine wp_exit (then_exit (then_exit (block_exit (then_n ?_))))
       by_cases h7 : rbytes1_k ((numV ((numV ((numV xs).2)).2)).2) 1000 = true
       ·refine rA [(1, .call ⟨92, (c_rbytes1 ((numV ((numV ((numV xs).2)).2)).2) 1000), [(0, 0)], []⟩)] ⟨rbytes1_ok _ _ lnn omm h7, trivial⟩ (fun C => [ndC C 1]) [] [0, 1] 2 ⟨rfl, trivial⟩ hS fun hS => ?_
        have hK : dc1_k xs = true := (dc1_ke xs).trans ((if_pos h1).trans ((if_neg h2).trans ((if_pos h3).trans ((if_neg h4).trans ((if_pos h5).trans ((if_neg h6).trans (if_pos h7)))))))
        rw [hK] at hk
        cases hk
       ·refine region_p3 (E := E0) hZ [] trivial (some ⟨92, (c_rbytes1_p ((numV ((numV ((numV xs).2)).2)).2) 1000), [(0, 0)], []⟩) (fun r hr => by cases hr; exact rbytes1_p_ok ((numV ((numV ((numV xs).2)).2)).2) 1000 lnn omm (bne_k h7)) 1 12 (fun _ => [nd [.cp 0 0, vi 1000] [some (.ob 171 (chain [lb ((numV ((numV ((numV xs).2)).2)).2)]))]]) (.v (.iface 27 (.int .i64 ((rbytes1_p_e ((numV ((numV ((numV xs).2)).2)).2) 1000 : Nat) : Int)))) [] [1] [] [(1, some (.ob 84 (chain [vi (((((numV xs).1)).toNat : Nat) : Int), vi (((((numV ((numV xs).2)).1)).toNat : Nat) : Int), vi (((((numV ((numV ((numV xs).2)).2)).1)).toNat : Nat) : Int), .v (.slice none 0 0)])))] 2 (by kernel_rfl) ⟨rfl, trivial⟩ hS.st fun ac gs ws pv hS hpv => ?_
        have hM : dc1_p_e xs = ((rbytes1_p_e ((numV ((numV ((numV xs).2)).2)).2) 1000), ((((numV xs).1)).toNat), ((((numV ((numV xs).2)).1)).toNat), ((((numV ((numV ((numV xs).2)).2)).1)).toNat)) := (dc1_p_ee xs).trans ((if_pos h1).trans ((if_neg h2).trans ((if_pos h3).trans ((if_neg h4).trans ((if_pos h5).trans (if_neg h6))))))
        exact fin_p3 rfl hS hpv (by show _ = (.v (.iface 27 (.int .i64 (((dc1_p_e xs).1 : Nat) : Int))) : D); rw [hM] <;> rfl) (by show H1Ok _ [(1, .ob 84 (chain [vi (((dc1_p_e xs).2.1 : Nat) : Int), vi (((dc1_p_e xs).2.2.1 : Nat) : Int), vi (((dc1_p_e xs).2.2.2 : Nat) : Int), .v (.slice none 0 0)]))] true; rw [hM]; first | (simp only []; exact ⟨rfl, trivial⟩) | exact ⟨rfl, trivial⟩)
     ·refine region_p3 (E := E0) hZ [] trivial (some ⟨91, (c_num_p ((numV ((numV xs).2)).2)), [(0, 0)], []⟩) (fun r hr => by cases hr; exact num_p_ok ((numV ((numV xs).2)).2) lnn (bne_k h5)) 1 4 (fun _ => [nd [.cp 0 0] [some (.ob 171 (chain [lb ((numV ((numV xs).2)).2)]))]]) (.v (.iface 27 (.int .i64 2))) [] [1] [] [(1, some (.ob 84 (chain [vi (((((numV xs).1)).toNat : Nat) : Int), vi (((((numV ((numV xs).2)).1)).toNat : Nat) : Int), vi 0, .v (.slice none 0 0)])))] 2 (by kernel_rfl) ⟨rfl, trivial⟩ hS.st fun ac gs ws pv hS hpv => ?_
      refine then_pan (block_pan (then_pan (then_pan (block_pan (then_pan ?_)))))
      have hM : dc1_p_e xs = (2, ((((numV xs).1)).toNat), ((((numV ((numV xs).2)).1)).toNat), 0) := (dc1_p_ee xs).trans ((if_pos h1).trans ((if_neg h2).trans ((if_pos h3).trans ((if_neg h4).trans (if_neg h5)))))
      exact fin_p3 rfl hS hpv (by show _ = (.v (.iface 27 (.int .i64 (((dc1_p_e xs).1 : Nat) : Int))) : D); rw [hM] <;> rfl) (by show H1Ok _ [(1, .ob 84 (chain [vi (((dc1_p_e xs).2.1 : Nat) : Int), vi (((dc1_p_e xs).2.2.1 : Nat) : Int), vi (((dc1_p_e xs).2.2.2 : Nat) : Int), .v (.slice none 0 0)]))] true; rw [hM]; first | (simp only []; exact ⟨rfl, trivial⟩) | exact ⟨rfl, trivial⟩)
   ·refine region_p3 (E := E0) hZ [] trivial (some ⟨91, (c_num_p ((numV xs).2)), [(0, 0)], []⟩) (fun r hr => by cases hr; exact num_p_ok ((numV xs).2) lnn (bne_k h3)) 1 4 (fun _ => [nd [.cp 0 0] [some (.ob 171 (chain [lb ((numV xs).2)]))]]) (.v (.iface 27 (.int .i64 2))) [] [1] [] [(1, some (.ob 84 (chain [vi (((((numV xs).1)).toNat : Nat) : Int), vi 0, vi 0, .v (.slice none 0 0)])))] 2 (by kernel_rfl) ⟨rfl, trivial⟩ hS.st fun ac gs ws pv hS hpv => ?_
    refine then_pan (block_pan (then_pan (then_pan (block_pan (then_pan ?_)))))
    have hM : dc1_p_e xs = (2, ((((numV xs).1)).toNat), 0, 0) := (dc1_p_ee xs).trans ((if_pos h1).trans ((if_neg h2).trans (if_neg h3)))
    exact fin_p3 rfl hS hpv (by show _ = (.v (.iface 27 (.int .i64 (((dc1_p_e xs).1 : Nat) : Int))) : D); rw [hM] <;> rfl) (by show H1Ok _ [(1, .ob 84 (chain [vi (((dc1_p_e xs).2.1 : Nat) : Int), vi (((dc1_p_e xs).2.2.1 : Nat) : Int), vi (((dc1_p_e xs).2.2.2 : Nat) : Int), .v (.slice none 0 0)]))] true; rw [hM]; first | (simp only []; exact ⟨rfl, trivial⟩) | exact ⟨rfl, trivial⟩)
 ·refine region_p3 (E := E0) hZ [] trivial (some ⟨91, (c_num_p xs), [(0, 0)], []⟩) (fun r hr => by cases hr; exact num_p_ok xs lnn (bne_k h1)) 1 4 (fun _ => [nd [.cp 0 0] [some (.ob 171 (chain [lb xs]))]]) (.v (.iface 27 (.int .i64 2))) [] [1] [] [(1, some (.ob 84 (chain [vi 0, vi 0, vi 0, .v (.slice none 0 0)])))] 2 (by kernel_rfl) ⟨rfl, trivial⟩ hS.st fun ac gs ws pv hS hpv => ?_
  refine then_pan (block_pan (then_pan (then_pan (block_pan (then_pan ?_)))))
  have hM : dc1_p_e xs = (2, 0, 0, 0) := (dc1_p_ee xs).trans (if_neg h1)
  exact fin_p3 rfl hS hpv (by show _ = (.v (.iface 27 (.int .i64 (((dc1_p_e xs).1 : Nat) : Int))) : D); rw [hM] <;> rfl) (by show H1Ok _ [(1, .ob 84 (chain [vi (((dc1_p_e xs).2.1 : Nat) : Int), vi (((dc1_p_e xs).2.2.1 : Nat) : Int), vi (((dc1_p_e xs).2.2.2 : Nat) : Int), .v (.slice none 0 0)]))] true; rw [hM]; first | (simp only []; exact ⟨rfl, trivial⟩) | exact ⟨rfl, trivial⟩)

theorem dc1_len (xs : List Int) : (dc1_m xs).1.length ≤ xs.length := by
 have h3 := numV_le3 xs
 have h4 := (numV_nn (numV (numV (numV xs).2).2).2).2
 rw [dc1_e]
 show (List.drop _ _).length ≤ _
 rw [List.length_drop]
 omega
theorem small_p_pos (xs : List Int) (m : Nat) : 0 < small_p_e xs m := by
 rw [small_p_ee]; unfold small_p_ev
 repeat (first | decide | split)
theorem rbytes1_p_pos (xs : List Int) (m : Nat) : 0 < rbytes1_p_e xs m := by
 rw [rbytes1_p_ee]; unfold rbytes1_p_ev
 repeat (first | decide | exact small_p_pos _ _ | split)
theorem dc1_p_pos (xs : List Int) : 0 < (dc1_p_e xs).1 := by
 rw [dc1_p_ee]; unfold dc1_p_ev
 repeat' (first | exact (by decide : (0 : Nat) < 2) | exact rbytes1_p_pos _ _ | split)
def rdp_kv (xs : List Int) : Bool := if dc1_k xs = true then (if rend_k ((dc1_m xs).1) = true then true else false) else false
def rdp_k (xs : List Int) : Bool := shut (rdp_kv xs)
theorem rdp_ke (xs : List Int) : rdp_k xs = rdp_kv xs := shut_eq _
def rdp_p_ev (xs : List Int) : Nat × Nat × Nat × Nat × (List Int) := if dc1_k xs = true then (2, ((dc1_m xs).2.1), ((dc1_m xs).2.2.1), ((dc1_m xs).2.2.2.1), (dc1_m xs).2.2.2.2) else (((dc1_p_e xs).1), ((dc1_p_e xs).2.1), ((dc1_p_e xs).2.2.1), ((dc1_p_e xs).2.2.2), [])
def rdp_p_e (xs : List Int) : Nat × Nat × Nat × Nat × (List Int) := shut (rdp_p_ev xs)
theorem rdp_p_ee (xs : List Int) : rdp_p_e xs = rdp_p_ev xs := shut_eq _
def rdp_v (xs : List Int) : Nat × Nat × Nat × (List Int) := (((dc1_m xs).2.1), ((dc1_m xs).2.2.1), ((dc1_m xs).2.2.2.1), (dc1_m xs).2.2.2.2)
def rdp_m (xs : List Int) : Nat × Nat × Nat × (List Int) := shut (rdp_v xs)
theorem rdp_e (xs : List Int) : rdp_m xs = rdp_v xs := shut_eq _
def c_rdp (xs : List Int) : Con := ⟨[lb xs, .fn 90 (chain []) (chain [.cp 0 0])], [(0, .ob 84 (chain [vi 0, vi 0, vi 0, .v (.slice none 0 0)]))], vi 0, [(0, .ob 84 (chain [vi (((rdp_m xs).1 : Nat) : Int), vi (((rdp_m xs).2.1 : Nat) : Int), vi (((rdp_m xs).2.2.1 : Nat) : Int), lb ((rdp_m xs).2.2.2)]))]⟩
theorem rdp_ok (xs : List Int) (h : xs.length ≤ 100000000000000) (hk : rdp_k xs = true) : ConOk Try.prog 89 (c_rdp xs) := by
 refine conOk_ofDf rfl (nb := 1) Try.func89 rfl rfl Try.ntmps89 rfl rfl rfl fun g0 w0 ac gs ws hg0 hS => ?_
 have hlen0 : xs.length ≤ 9223372036854775807 := hS.len 0 rfl
 have hS := hS.sp
 refine s0 [0, 1, 4] [0, 1] 2 hS fun hS => ?_
 refine wp_seq ?_
 have hS := hS.rv [(0, lb xs), (1, .fn 90 (chain []) (chain [.cp 0 0])), (4, .cp 1 0)] [(0, some (.ob 84 (chain [vi 0, vi 0, vi 0, .v (.slice none 0 0)]))), (1, some (.ob 27 (chain [vi 0])))]
 refine defer_x rfl hS (cs := [.cp 1 0]) rfl rfl rfl fun D vds ac hD hcv hB hS => ?_
 have hS := hS.sp
 refine then_n (sA [(1, .call ⟨109, (c_newrd xs), [], [(0, 2)]⟩)] ⟨newrd_ok _ lnn, trivial⟩ (fun C => [ndC C 1]) [1, 4, 5] [0, 1, 2] 3 ⟨rfl, trivial⟩ hS fun hS => ?_)
 refine wp_seq (s0 [1, 4, 5, 10] [0, 1, 2] 3 hS fun hS => ?_)
 refine cond_t hS ?_
 have hz := dc1_p_pos xs
 by_cases h1 : dc1_k xs = true
 ·have hz := dc1_p_pos xs
  refine rA [(2, .call ⟨90, (c_dc1 xs), [(0, 2), (1, 0)], []⟩)] ⟨dc1_ok _ lnn h1, trivial⟩ (fun C => [ndC C 2]) [4, 5] [0, 1, 2] 3 ⟨rfl, trivial⟩ hS fun hS => ?_
  refine then_n (wp_seq ?_)
  have hpl := dc1_len xs
  by_cases h2 : rend_k ((dc1_m xs).1) = true
  ·have hpl := dc1_len xs
   refine rA [(1, .call ⟨110, (c_rend ((dc1_m xs).1)), [(0, 2)], []⟩)] ⟨rend_ok _ h2, trivial⟩ (fun C => [ndC C 1]) [4] [0, 1] 3 ⟨rfl, trivial⟩ hS fun hS => ?_
   refine then_n (s0 [4] [0, 1] 3 hS fun hS => ?_)
   refine wp_ret ?_
   have hM : rdp_m xs = (((dc1_m xs).2.1), ((dc1_m xs).2.2.1), ((dc1_m xs).2.2.2.1), (dc1_m xs).2.2.2.2) := rdp_e xs
   have hS := hS.rv [(4, .cp 1 0)] [(0, some (.ob 84 (chain [vi (((dc1_m xs).2.1 : Nat) : Int), vi (((dc1_m xs).2.2.1 : Nat) : Int), vi (((dc1_m xs).2.2.2.1 : Nat) : Int), lb ((dc1_m xs).2.2.2.2)]))), (1, some (.ob 27 (chain [vi 0])))]
   exact fin_dr (.inr rfl) hS hD (leaves_d ⟨108, (c_rec_r), [(0, 1)], []⟩ [(1, some (.ob 27 (chain [vi 0]))), (0, some (.ob 84 (chain [vi (((dc1_m xs).2.1 : Nat) : Int), vi (((dc1_m xs).2.2.1 : Nat) : Int), vi (((dc1_m xs).2.2.2.1 : Nat) : Int), lb ((dc1_m xs).2.2.2.2)]))), (1, some (.ob 27 (chain [vi 0])))] hB hS hcv (show FrameMode.returning ≠ .run from nofun) rfl rfl rfl (rec_r_ok) rfl ⟨rfl, trivial⟩ rfl (ds := [vi 0]) (by kernel_rfl) rfl (by show H1Ok _ [(0, .ob 84 (chain [vi (((rdp_m xs).1 : Nat) : Int), vi (((rdp_m xs).2.1 : Nat) : Int), vi (((rdp_m xs).2.2.1 : Nat) : Int), lb ((rdp_m xs).2.2.2)]))] true; first | exact ⟨rfl, trivial⟩ | (rw [hM]; first | (simp only []; exact ⟨rfl, trivial⟩) | exact ⟨rfl, trivial⟩)))
  ·have hpl := dc1_len xs
   have hK : rdp_k xs = false := (rdp_ke xs).trans ((if_pos h1).trans (if_neg h2))
   rw [hK] at hk
   cases hk
 ·have hz := dc1_p_pos xs
  have hK : rdp_k xs = false := (rdp_ke xs).trans (if_neg h1)
  rw [hK] at hk
  cases hk
def c_rdp_p (xs : List Int) : Con := ⟨[lb xs, .fn 90 (chain []) (chain [.cp 0 0])], [(0, .ob 84 (chain [vi 0, vi 0, vi 0, .v (.slice none 0 0)]))], vi (((rdp_p_e xs).1 : Nat) : Int), [(0, .ob 84 (chain [vi (((rdp_p_e xs).2.1 : Nat) : Int), vi (((rdp_p_e xs).2.2.1 : Nat) : Int), vi (((rdp_p_e xs).2.2.2.1 : Nat) : Int), lb ((rdp_p_e xs).2.2.2.2)]))]⟩
theorem rdp_p_ok (xs : List Int) (h : xs.length ≤ 100000000000000) (hk : rdp_k xs = false) : ConOk Try.prog 89 (c_rdp_p xs) := by
 refine conOk_ofDf rfl (nb := 1) Try.func89 rfl rfl Try.ntmps89 rfl rfl rfl fun g0 w0 ac gs ws hg0 hS => ?_
 have hlen0 : xs.length ≤ 9223372036854775807 := hS.len 0 rfl
 have hS := hS.sp
 refine s0 [0, 1, 4] [0, 1] 2 hS fun hS => ?_
 refine wp_seq ?_
 have hS := hS.rv [(0, lb xs), (1, .fn 90 (chain []) (chain [.cp 0 0])), (4, .cp 1 0)] [(0, some (.ob 84 (chain [vi 0, vi 0, vi 0, .v (.slice none 0 0)]))), (1, some (.ob 27 (chain [vi 0])))]
 refine defer_x rfl hS (cs := [.cp 1 0]) rfl rfl rfl fun D vds ac hD hcv hB hS => ?_
 have hS := hS.sp
 refine then_n (sA [(1, .call ⟨109, (c_newrd xs), [], [(0, 2)]⟩)] ⟨newrd_ok _ lnn, trivial⟩ (fun C => [ndC C 1]) [1, 4, 5] [0, 1, 2] 3 ⟨rfl, trivial⟩ hS fun hS => ?_)
 refine wp_seq (s0 [1, 4, 5, 10] [0, 1, 2] 3 hS fun hS => ?_)
 refine cond_t hS ?_
 have hz := dc1_p_pos xs
 by_cases h1 : dc1_k xs = true
 ·have hz := dc1_p_pos xs
  refine rA [(2, .call ⟨90, (c_dc1 xs), [(0, 2), (1, 0)], []⟩)] ⟨dc1_ok _ lnn h1, trivial⟩ (fun C => [ndC C 2]) [4, 5] [0, 1, 2] 3 ⟨rfl, trivial⟩ hS fun hS => ?_
  refine then_n (wp_seq ?_)
  have hpl := dc1_len xs
  by_cases h2 : rend_k ((dc1_m xs).1) = true
  ·have hpl := dc1_len xs
   refine rA [(1, .call ⟨110, (c_rend ((dc1_m xs).1)), [(0, 2)], []⟩)] ⟨rend_ok _ h2, trivial⟩ (fun C => [ndC C 1]) [4] [0, 1] 3 ⟨rfl, trivial⟩ hS fun hS => ?_
   refine then_n (s0 [4] [0, 1] 3 hS fun hS => ?_)
   refine wp_ret ?_
   have hK : rdp_k xs = true := (rdp_ke xs).trans ((if_pos h1).trans (if_pos h2))
   rw [hK] at hk
   cases hk
  ·have hpl := dc1_len xs
   refine region_p3 (E := E0) hZ [] trivial (some ⟨110, (c_rend_p ((dc1_m xs).1)), [(0, 2)], []⟩) (fun r hr => by cases hr; exact rend_p_ok ((dc1_m xs).1) (bne_k h2)) 1 0 (fun _ => [nd [.cp 2 0] [some (.ob 171 (chain [lb ((dc1_m xs).1)]))]]) (.v (.iface 27 (.int .i64 2))) [4] [0, 1] [(4, .cp 1 0)] [(0, some (.ob 84 (chain [vi (((dc1_m xs).2.1 : Nat) : Int), vi (((dc1_m xs).2.2.1 : Nat) : Int), vi (((dc1_m xs).2.2.2.1 : Nat) : Int), lb ((dc1_m xs).2.2.2.2)]))), (1, some (.ob 27 (chain [vi 0])))] 3 (by kernel_rfl) ⟨rfl, trivial⟩ hS.st fun ac gs ws pv hS hpv => ?_
   refine then_pan ?_
   obtain rfl := hpv.v_of
   have hM : rdp_p_e xs = (2, ((dc1_m xs).2.1), ((dc1_m xs).2.2.1), ((dc1_m xs).2.2.2.1), (dc1_m xs).2.2.2.2) := (rdp_p_ee xs).trans (if_pos h1)
   exact fin_dp hS hD (leaves_d ⟨108, (c_rec_p 2), [(0, 1)], []⟩ [(1, some (.ob 27 (chain [vi 2]))), (0, some (.ob 84 (chain [vi (((dc1_m xs).2.1 : Nat) : Int), vi (((dc1_m xs).2.2.1 : Nat) : Int), vi (((dc1_m xs).2.2.2.1 : Nat) : Int), lb ((dc1_m xs).2.2.2.2)]))), (1, some (.ob 27 (chain [vi 0])))] hB hS hcv (show FrameMode.panicking _ ≠ .run from nofun) rfl rfl rfl (rec_p_ok 2 omm) rfl ⟨rfl, trivial⟩ rfl (ds := [vi 2]) (by kernel_rfl) (by show weak _ (vi (((rdp_p_e xs).1 : Nat) : Int)) = (vi (((rdp_p_e xs).1 : Nat) : Int)); first | rfl | (rw [hM]; first | (simp only []; rfl) | (simp only []; done) | rfl)) (by show H1Ok _ [(0, .ob 84 (chain [vi (((rdp_p_e xs).2.1 : Nat) : Int), vi (((rdp_p_e xs).2.2.1 : Nat) : Int), vi (((rdp_p_e xs).2.2.2.1 : Nat) : Int), lb ((rdp_p_e xs).2.2.2.2)]))] true; first | exact ⟨rfl, trivial⟩ | (rw [hM]; first | (simp only []; exact ⟨rfl, trivial⟩) | exact ⟨rfl, trivial⟩)))
 ·have hz := dc1_p_pos xs
  refine region_p3 (E := E0) hZ [] trivial (some ⟨90, (c_dc1_p xs), [(0, 2), (1, 0)], []⟩) (fun r hr => by cases hr; exact dc1_p_ok xs lnn (bne_k h1)) 2 0 (fun _ => [nd [.cp 2 0, .cp 0 0] [some (.ob 171 (chain [lb xs])), some (.ob 84 (chain [vi 0, vi 0, vi 0, .v (.slice none 0 0)]))]]) (.v (.iface 27 (.int .i64 (((dc1_p_e xs).1 : Nat) : Int)))) [4] [0, 1] [(4, .cp 1 0)] [(0, some (.ob 84 (chain [vi (((dc1_p_e xs).2.1 : Nat) : Int), vi (((dc1_p_e xs).2.2.1 : Nat) : Int), vi (((dc1_p_e xs).2.2.2 : Nat) : Int), .v (.slice none 0 0)]))), (1, some (.ob 27 (chain [vi 0])))] 3 (by kernel_rfl) ⟨rfl, trivial⟩ hS.st fun ac gs ws pv hS hpv => ?_
  refine then_pan ?_
  have hS := hS.wko 0 [.top, .top, .top, lb []] rfl (H' := [(0, some (.ob 84 (chain [vi (((dc1_p_e xs).2.1 : Nat) : Int), vi (((dc1_p_e xs).2.2.1 : Nat) : Int), vi (((dc1_p_e xs).2.2.2 : Nat) : Int), lb []]))), (0, some (.ob 84 (chain [vi (((dc1_p_e xs).2.1 : Nat) : Int), vi (((dc1_p_e xs).2.2.1 : Nat) : Int), vi (((dc1_p_e xs).2.2.2 : Nat) : Int), .v (.slice none 0 0)]))), (1, some (.ob 27 (chain [vi 0])))]) (by kernel_rfl)
  obtain rfl := hpv.v_of
  have hM : rdp_p_e xs = (((dc1_p_e xs).1), ((dc1_p_e xs).2.1), ((dc1_p_e xs).2.2.1), ((dc1_p_e xs).2.2.2), []) := (rdp_p_ee xs).trans (if_neg h1)
  exact fin_dp hS hD (leaves_d ⟨108, (c_rec_p ((dc1_p_e xs).1)), [(0, 1)], []⟩ [(1, some (.ob 27 (chain [vi ((((dc1_p_e xs).1) : Nat) : Int)]))), (0, some (.ob 84 (chain [vi (((dc1_p_e xs).2.1 : Nat) : Int), vi (((dc1_p_e xs).2.2.1 : Nat) : Int), vi (((dc1_p_e xs).2.2.2 : Nat) : Int), lb []]))), (0, some (.ob 84 (chain [vi (((dc1_p_e xs).2.1 : Nat) : Int), vi (((dc1_p_e xs).2.2.1 : Nat) : Int), vi (((dc1_p_e xs).2.2.2 : Nat) : Int), .v (.slice none 0 0)]))), (1, some (.ob 27 (chain [vi 0])))] hB hS hcv (show FrameMode.panicking _ ≠ .run from nofun) rfl rfl rfl (rec_p_ok ((dc1_p_e xs).1) omm) rfl ⟨rfl, trivial⟩ rfl (ds := [vi ((((dc1_p_e xs).1) : Nat) : Int)]) (by kernel_rfl) (by show weak _ (vi (((rdp_p_e xs).1 : Nat) : Int)) = (vi (((rdp_p_e xs).1 : Nat) : Int)); first | rfl | (rw [hM]; first | (simp only []; rfl) | (simp only []; done) | rfl)) (by show H1Ok _ [(0, .ob 84 (chain [vi (((rdp_p_e xs).2.1 : Nat) : Int), vi (((rdp_p_e xs).2.2.1 : Nat) : Int), vi (((rdp_p_e xs).2.2.2.1 : Nat) : Int), lb ((rdp_p_e xs).2.2.2.2)]))] true; first | exact ⟨rfl, trivial⟩ | (rw [hM]; first | (simp only []; exact ⟨rfl, trivial⟩) | exact ⟨rfl, trivial⟩)))

theorem rbytes1_k_le {ys : List Int} {m : Nat} (h : rbytes1_k ys m = true) : (numV ys).1.toNat ≤ m := by
 rw [rbytes1_ke] at h; unfold rbytes1_kv at h
 split at h
 ·rename_i h1
  rw [small_ke] at h1; unfold small_kv at h1
  split at h1
  ·split at h1
   ·cases h1
   ·omega
  ·cases h1
 ·cases h
def pcB (i a c : Nat) (d : List Int) : Prop := (i ≤ 100000000000 ∧ a ≤ 100000000000 ∧ c ≤ 100000000000) ∧ d.length ≤ 100000
theorem dc1_le {xs : List Int} (hk : dc1_k xs = true) : pcB (dc1_m xs).2.1 (dc1_m xs).2.2.1 (dc1_m xs).2.2.2.1 (dc1_m xs).2.2.2.2 := by
 rw [dc1_e]; rw [dc1_ke] at hk; unfold dc1_kv at hk; unfold dc1_v
 split at hk
 ·split at hk
  ·cases hk
  ·split at hk
   ·split at hk
    ·cases hk
    ·split at hk
     ·split at hk
      ·cases hk
      ·split at hk
       ·rename_i h7
        have h8 := rbytes1_k_le h7
        refine ⟨⟨?_, ?_, ?_⟩, ?_⟩
        ·show Int.toNat _ ≤ _; omega
        ·show Int.toNat _ ≤ _; omega
        ·show Int.toNat _ ≤ _; omega
        ·show (List.take _ _).length ≤ _
         rw [List.length_take]; omega
       ·cases hk
     ·cases hk
   ·cases hk
 ·cases hk
theorem dc1_p_le (xs : List Int) : pcB (dc1_p_e xs).2.1 (dc1_p_e xs).2.2.1 (dc1_p_e xs).2.2.2 [] := by
 rw [dc1_p_ee]; unfold dc1_p_ev
 have z : (0 : Nat) ≤ 100000000000 := by decide
 have f : ∀ y : Int, ¬ 1073741824 < y → y.toNat ≤ 100000000000 := fun y hy => by omega
 repeat' (first | exact ⟨⟨z, z, z⟩, by decide⟩ | exact ⟨⟨f _ asm, z, z⟩, by decide⟩ | exact ⟨⟨f _ asm, f _ asm, z⟩, by decide⟩ | exact ⟨⟨f _ asm, f _ asm, f _ asm⟩, by decide⟩ | split)
theorem rdp_le {xs : List Int} (hk : rdp_k xs = true) : pcB (rdp_m xs).1 (rdp_m xs).2.1 (rdp_m xs).2.2.1 (rdp_m xs).2.2.2 := by
 rw [rdp_e]; rw [rdp_ke] at hk; unfold rdp_kv at hk
 split at hk
 ·rename_i h; exact dc1_le h
 ·cases hk
theorem rdp_p_le (xs : List Int) : pcB (rdp_p_e xs).2.1 (rdp_p_e xs).2.2.1 (rdp_p_e xs).2.2.2.1 (rdp_p_e xs).2.2.2.2 := by
 rw [rdp_p_ee]; unfold rdp_p_ev
 split
 ·rename_i h; exact dc1_le h
 ·exact dc1_p_le xs
theorem rdp_p_pos (xs : List Int) : 0 < (rdp_p_e xs).1 := by
 rw [rdp_p_ee]; unfold rdp_p_ev
 split
 ·exact (by decide : (0 : Nat) < 2)
 ·exact dc1_p_pos xs
def decode_v (xs : List Int) : Nat × Nat × Nat × (List Int) × Nat := if rdp_k xs = true then (if (((encode_m ((rdp_m xs).1) ((rdp_m xs).2.1) ((rdp_m xs).2.2.1) ((rdp_m xs).2.2.2)).2 : Nat) : Int) = 0 then (if ((encode_m ((rdp_m xs).1) ((rdp_m xs).2.1) ((rdp_m xs).2.2.1) ((rdp_m xs).2.2.2)).1) = xs then (((rdp_m xs).1), ((rdp_m xs).2.1), ((rdp_m xs).2.2.1), (rdp_m xs).2.2.2, 0) else (0, 0, 0, [], 2)) else (0, 0, 0, [], 2)) else (0, 0, 0, [], 2)
def decode_m (xs : List Int) : Nat × Nat × Nat × (List Int) × Nat := shut (decode_v xs)
theorem decode_e (xs : List Int) : decode_m xs = decode_v xs := shut_eq _
def c_decode (xs : List Int) : Con := ⟨[lb xs], [], .tu (chain [.ag (chain [vi (((decode_m xs).1 : Nat) : Int), vi (((decode_m xs).2.1 : Nat) : Int), vi (((decode_m xs).2.2.1 : Nat) : Int), lb ((decode_m xs).2.2.2.1)]), vi (((decode_m xs).2.2.2.2 : Nat) : Int)]), []⟩
theorem decode_ok (xs : List Int) (h : xs.length ≤ 100000000000000) : ConOk Try.prog 54 (c_decode xs) := by
 refine conOk_of rfl (nb := 0) Try.func54 rfl rfl Try.ntmps54 rfl rfl rfl fun g0 w0 ac gs ws hg0 hS => ?_
 have hlen0 : xs.length ≤ 9223372036854775807 := hS.len 0 rfl
 have hS := hS.sp
 refine s0 [0, 2, 3] [0] 1 hS fun hS => ?_
 refine s0 [0, 2, 3, 4] [0, 1] 2 hS fun hS => ?_
 refine wp_seq ?_
 by_cases h1 : rdp_k xs = true
 ·refine rA [(2, .call ⟨89, (c_rdp xs), [(0, 1)], []⟩)] ⟨rdp_ok _ lnn h1, trivial⟩ (fun C => [ndC C 2]) [0, 2, 3, 4, 5] [0, 1] 2 ⟨rfl, trivial⟩ hS fun hS => ?_
  have hpb := rdp_le h1
  have hpc := hpb.1
  have hpd := hpb.2
  refine then_n (sA [(1, .call ⟨51, (c_encode ((rdp_m xs).1) ((rdp_m xs).2.1) ((rdp_m xs).2.2.1) ((rdp_m xs).2.2.2)), [], []⟩)] ⟨encode_ok _ _ _ _ omm lnn, trivial⟩ (fun C => [ndC C 1]) [0, 2, 3, 4, 5, 6, 7] [0, 1] 2 ⟨rfl, trivial⟩ hS fun hS => ?_)
  refine wp_seq (wp_seq ?_)
  by_cases h2 : (((encode_m ((rdp_m xs).1) ((rdp_m xs).2.1) ((rdp_m xs).2.2.1) ((rdp_m xs).2.2.2)).2 : Nat) : Int) = 0
  ·refine rA [(4, .ob false), (9, .call ⟨36, (c_equal ((encode_m ((rdp_m xs).1) ((rdp_m xs).2.1) ((rdp_m xs).2.2.1) ((rdp_m xs).2.2.2)).1) xs), [], []⟩)] ⟨equal_ok _ _, trivial⟩ (fun C => [(!decide ((((encode_m ((rdp_m xs).1) ((rdp_m xs).2.1) ((rdp_m xs).2.2.1) ((rdp_m xs).2.2.2)).2 : Nat) : Int) = 0)) = false, ndC C 9]) [2, 3, 4, 27] [0, 1] 2 ⟨by rw [decide_eq_true h2]; rfl, rfl, trivial⟩ hS fun hS => ?_
   refine then_n ?_
   refine if_n (((encode_m ((rdp_m xs).1) ((rdp_m xs).2.1) ((rdp_m xs).2.2.1) ((rdp_m xs).2.2.2)).1) = xs) hS (fun h3 => ?_) (fun h3 => ?_)
   ·refine s0 [2, 3, 4] [0, 1] 2 hS fun hS => ?_
    refine wp_ret (then_ret ?_)
    have hM : decode_m xs = (0, 0, 0, [], 2) := (decode_e xs).trans ((if_pos h1).trans ((if_pos h2).trans (if_neg h3)))
    have hS := hS.wko 0 [.top, .top, .top, lb []]
    exact fin_y rfl (.inr rfl) hS [.ag (chain [vi 0, vi 0, vi 0, lb []]), vi 2] [] (by show weak _ (.tu (chain [.ag (chain [vi (((decode_m xs).1 : Nat) : Int), vi (((decode_m xs).2.1 : Nat) : Int), vi (((decode_m xs).2.2.1 : Nat) : Int), lb ((decode_m xs).2.2.2.1)]), vi (((decode_m xs).2.2.2.2 : Nat) : Int)])) = (.tu (chain [.ag (chain [vi (((decode_m xs).1 : Nat) : Int), vi (((decode_m xs).2.1 : Nat) : Int), vi (((decode_m xs).2.2.1 : Nat) : Int), lb ((decode_m xs).2.2.2.1)]), vi (((decode_m xs).2.2.2.2 : Nat) : Int)])); rw [hM]; first | (simp only []; rfl) | (simp only []; done) | rfl) trivial
   ·refine wp_skip (then_n (s0 [2, 3] [0] 2 hS fun hS => ?_))
    refine wp_ret ?_
    have hM : decode_m xs = (((rdp_m xs).1), ((rdp_m xs).2.1), ((rdp_m xs).2.2.1), (rdp_m xs).2.2.2, 0) := (decode_e xs).trans ((if_pos h1).trans ((if_pos h2).trans (if_pos h3)))
    exact fin_y rfl (.inr rfl) hS [.ag (chain [vi (((rdp_m xs).1 : Nat) : Int), vi (((rdp_m xs).2.1 : Nat) : Int), vi (((rdp_m xs).2.2.1 : Nat) : Int), lb ((rdp_m xs).2.2.2)]), vi 0] [] (by show weak _ (.tu (chain [.ag (chain [vi (((decode_m xs).1 : Nat) : Int), vi (((decode_m xs).2.1 : Nat) : Int), vi (((decode_m xs).2.2.1 : Nat) : Int), lb ((decode_m xs).2.2.2.1)]), vi (((decode_m xs).2.2.2.2 : Nat) : Int)])) = (.tu (chain [.ag (chain [vi (((decode_m xs).1 : Nat) : Int), vi (((decode_m xs).2.1 : Nat) : Int), vi (((decode_m xs).2.2.1 : Nat) : Int), lb ((decode_m xs).2.2.2.1)]), vi (((decode_m xs).2.2.2.2 : Nat) : Int)])); rw [hM]; first | (simp only []; rfl) | (simp only []; done) | rfl) trivial
  ·refine rA [(4, .ob true)] trivial (fun _ => [(!decide ((((encode_m ((rdp_m xs).1) ((rdp_m xs).2.1) ((rdp_m xs).2.2.1) ((rdp_m xs).2.2.2)).2 : Nat) : Int) = 0)) = true]) [2, 3, 4, 27] [0, 1] 2 ⟨by rw [decide_eq_false h2]; rfl, trivial⟩ hS fun hS => ?_
   refine then_n (cond_t hS ?_)
   refine s0 [2, 3, 4] [0, 1] 2 hS fun hS => ?_
   refine wp_ret (then_ret ?_)
   have hM : decode_m xs = (0, 0, 0, [], 2) := (decode_e xs).trans ((if_pos h1).trans (if_neg h2))
   have hS := hS.wko 0 [.top, .top, .top, lb []]
   exact fin_y rfl (.inr rfl) hS [.ag (chain [vi 0, vi 0, vi 0, lb []]), vi 2] [] (by show weak _ (.tu (chain [.ag (chain [vi (((decode_m xs).1 : Nat) : Int), vi (((decode_m xs).2.1 : Nat) : Int), vi (((decode_m xs).2.2.1 : Nat) : Int), lb ((decode_m xs).2.2.2.1)]), vi (((decode_m xs).2.2.2.2 : Nat) : Int)])) = (.tu (chain [.ag (chain [vi (((decode_m xs).1 : Nat) : Int), vi (((decode_m xs).2.1 : Nat) : Int), vi (((decode_m xs).2.2.1 : Nat) : Int), lb ((decode_m xs).2.2.2.1)]), vi (((decode_m xs).2.2.2.2 : Nat) : Int)])); rw [hM]; first | (simp only []; rfl) | (simp only []; done) | rfl) trivial
 ·refine rA [(2, .call ⟨89, (c_rdp_p xs), [(0, 1)], []⟩)] ⟨rdp_p_ok _ lnn (bne_k h1), trivial⟩ (fun C => [ndC C 2]) [0, 2, 3, 4, 5] [0, 1] 2 ⟨rfl, trivial⟩ hS fun hS => ?_
  have hpb := rdp_p_le xs
  have hpc := hpb.1
  have hpd := hpb.2
  have hpp := rdp_p_pos xs
  have hp0 : ¬ (((rdp_p_e xs).1 : Nat) : Int) = 0 := by omega
  refine then_n (sA [(1, .call ⟨51, (c_encode ((rdp_p_e xs).2.1) ((rdp_p_e xs).2.2.1) ((rdp_p_e xs).2.2.2.1) ((rdp_p_e xs).2.2.2.2)), [], []⟩)] ⟨encode_ok _ _ _ _ omm lnn, trivial⟩ (fun C => [ndC C 1]) [0, 2, 3, 4, 5, 6, 7] [0, 1] 2 ⟨rfl, trivial⟩ hS fun hS => ?_)
  refine wp_seq (sA [(1, .ob true)] trivial (fun _ => [(!decide ((((rdp_p_e xs).1 : Nat) : Int) = 0)) = true]) [2, 3, 4, 27] [0, 1] 2 ⟨by rw [decide_eq_false hp0]; rfl, trivial⟩ hS fun hS => ?_)
  refine cond_t hS ?_
  refine s0 [2, 3, 4] [0, 1] 2 hS fun hS => ?_
  refine wp_ret (then_ret ?_)
  have hM : decode_m xs = (0, 0, 0, [], 2) := (decode_e xs).trans (if_neg h1)
  have hS := hS.wko 0 [.top, .top, .top, lb []]
  exact fin_y rfl (.inr rfl) hS [.ag (chain [vi 0, vi 0, vi 0, lb []]), vi 2] [] (by show weak _ (.tu (chain [.ag (chain [vi (((decode_m xs).1 : Nat) : Int), vi (((decode_m xs).2.1 : Nat) : Int), vi (((decode_m xs).2.2.1 : Nat) : Int), lb ((decode_m xs).2.2.2.1)]), vi (((decode_m xs).2.2.2.2 : Nat) : Int)])) = (.tu (chain [.ag (chain [vi (((decode_m xs).1 : Nat) : Int), vi (((decode_m xs).2.1 : Nat) : Int), vi (((decode_m xs).2.2.1 : Nat) : Int), lb ((decode_m xs).2.2.2.1)]), vi (((decode_m xs).2.2.2.2 : Nat) : Int)])); rw [hM]; first | (simp only []; rfl) | (simp only []; done) | rfl) trivial

end
end Go.Sx.Try
namespace Go.Sx.Try
open Go.Mi Go.RowKit Go.Sx Go.Proofs
noncomputable section
theorem cntb {ln sz : Nat} (h : 1 ≤ ln ∧ ln ≤ 10000) (hz : 1 ≤ sz) : 1 ≤ (ln + sz - 1) / sz ∧ (ln + sz - 1) / sz ≤ 10000 :=
 ⟨(Nat.le_div_iff_mul_le omm).2 omm, Nat.le_trans (cnt_le hz) h.2⟩
def c_emptyg (sz ep : Nat) : Con := ⟨[.cp 0 0, vi (ep : Int)], [(0, .ob 77 (chain [vi (sz : Int), vi 1, vi 0, vi 0, .v (.slice none 0 0), .v (.slice none 0 0), .v (.pointer none), .v (.slice none 0 0)]))], .cp 1 0, [(0, .ob 77 (chain [vi (sz : Int), vi 1, vi 0, vi 0, .v (.slice none 0 0), .v (.slice none 0 0), .v (.pointer none), .v (.slice none 0 0)])), (1, .ob 135 (chain [vi ((((2 * ep) + 1) : Nat) : Int), vi (sz : Int), vi 1088, .sk 2])), (2, .sl 22 [.os (.int .u8)] (List.replicate (((1088 + sz) - 1) / sz) none))]⟩
theorem emptyg_ok (sz ep : Nat) (hz : 1 ≤ sz ∧ sz ≤ 1000) (he : ep ≤ 500000000) : ConOk Try.prog 80 (c_emptyg sz ep) := by
 refine conOk_of rfl (nb := 1) Try.func80 rfl rfl Try.ntmps80 rfl rfl rfl fun g0 w0 ac gs ws hg0 hS => ?_
 have hS := hS.sp
 refine v0 [0, 1, 4] [0] 1 hS fun hS => ?_
 refine vA [(1, .oi ((2 * ep : Nat) : Int))] trivial (fun _ => [imul .i64 2 (ep : Int) = ((2 * ep : Nat) : Int)]) [0, 1, 4, 5, 6] [0] 1 ⟨by rw [imul64 omm omm]; omega, trivial⟩ hS fun hS => ?_
 refine wp_seq (v0 [0, 1, 4, 5, 6, 15] [0] 1 hS fun hS => ?_)
 refine cond_t hS ?_
 refine uA [(1, .oi ((2 * ep : Nat) : Int)), (2, .oi (((2 * ep) + 1 : Nat) : Int))] trivial (fun _ => [imul .i64 2 (ep : Int) = ((2 * ep : Nat) : Int), iadd .i64 ((2 * ep : Nat) : Int) 1 = (((2 * ep) + 1 : Nat) : Int)]) [0, 4, 5, 6] [0] 1 ⟨by rw [imul64 omm omm]; omega, by rw [iadd64 omm omm]; omega, trivial⟩ hS fun hS => ?_
 refine then_n (wp_seq ?_)
 have hcb := cntb (ln := 1088) (sz := sz) (by decide) hz.1
 refine uA [(6, .oi ((1088 + sz : Nat) : Int)), (7, .oi (((1088 + sz) - 1 : Nat) : Int)), (12, .oi ((((1088 + sz) - 1) / sz : Nat) : Int)), (18, .call ⟨103, (c_bnew ((2 * ep) + 1) (((1088 + sz) - 1) / sz) sz 1088), [], [(0, 1), (1, 2)]⟩)] ⟨bnew_ok _ _ _ _ omm omm, trivial⟩ (fun C => [iadd .i64 1088 (sz : Int) = ((1088 + sz : Nat) : Int), isub .i64 ((1088 + sz : Nat) : Int) 1 = (((1088 + sz) - 1 : Nat) : Int), iquo .i64 (((1088 + sz) - 1 : Nat) : Int) (sz : Int) = ((((1088 + sz) - 1) / sz : Nat) : Int), ((sz : Int) : Int) ≠ 0, ndC C 18]) [4, 7] [0, 1, 2] 3 ⟨by rw [iadd64 omm omm]; omega, by rw [isub64 omm omm]; omega, by rw [iquo64 omm omm omm]; exact (Int.natCast_ediv _ _).symm, by omega, rfl, trivial⟩ hS fun hS => ?_
 refine then_n (v0 [4] [0, 1, 2] 3 hS fun hS => ?_)
 refine wp_ret ?_
 exact fin_y rfl (.inr rfl) hS [.cp 1 0] [(0, some (.ob 77 (chain [vi (sz : Int), vi 1, vi 0, vi 0, .v (.slice none 0 0), .v (.slice none 0 0), .v (.pointer none), .v (.slice none 0 0)]))), (1, some (.ob 135 (chain [vi ((((2 * ep) + 1) : Nat) : Int), vi (sz : Int), vi 1088, .sk 2]))), (2, some (.sl 22 [.os (.int .u8)] (List.replicate (((1088 + sz) - 1) / sz) none)))] rfl ⟨rfl, rfl, rfl, trivial⟩

def c_emptyt (sz ep : Nat) : Con := ⟨[.cp 0 0, vi (ep : Int)], [(0, .ob 77 (chain [vi (sz : Int), vi 2, vi 0, vi 0, .v (.slice none 0 0), .v (.slice none 0 0), .v (.pointer none), .v (.slice none 0 0)]))], .cp 1 0, [(0, .ob 77 (chain [vi (sz : Int), vi 2, vi 0, vi 0, .v (.slice none 0 0), .v (.slice none 0 0), .v (.pointer none), .v (.slice none 0 0)])), (1, .ob 135 (chain [vi (((2 * ep) : Nat) : Int), vi (sz : Int), vi 1184, .sk 2])), (2, .sl 22 [.os (.int .u8)] (List.replicate (((1184 + sz) - 1) / sz) none))]⟩
theorem emptyt_ok (sz ep : Nat) (hz : 1 ≤ sz ∧ sz ≤ 1000) (he : ep ≤ 500000000) : ConOk Try.prog 80 (c_emptyt sz ep) := by
 refine conOk_of rfl (nb := 1) Try.func80 rfl rfl Try.ntmps80 rfl rfl rfl fun g0 w0 ac gs ws hg0 hS => ?_
 have hS := hS.sp
 refine v0 [0, 1, 4] [0] 1 hS fun hS => ?_
 refine vA [(1, .oi ((2 * ep : Nat) : Int))] trivial (fun _ => [imul .i64 2 (ep : Int) = ((2 * ep : Nat) : Int)]) [0, 1, 4, 5, 6] [0] 1 ⟨by rw [imul64 omm omm]; omega, trivial⟩ hS fun hS => ?_
 refine wp_seq (v0 [0, 1, 4, 5, 6, 15] [0] 1 hS fun hS => ?_)
 refine cond_f hS ?_
 refine wp_skip (then_n (wp_seq ?_))
 have hcb := cntb (ln := 1184) (sz := sz) (by decide) hz.1
 refine uA [(6, .oi ((1184 + sz : Nat) : Int)), (7, .oi (((1184 + sz) - 1 : Nat) : Int)), (12, .oi ((((1184 + sz) - 1) / sz : Nat) : Int)), (18, .call ⟨103, (c_bnew (2 * ep) (((1184 + sz) - 1) / sz) sz 1184), [], [(0, 1), (1, 2)]⟩)] ⟨bnew_ok _ _ _ _ omm omm, trivial⟩ (fun C => [iadd .i64 1184 (sz : Int) = ((1184 + sz : Nat) : Int), isub .i64 ((1184 + sz : Nat) : Int) 1 = (((1184 + sz) - 1 : Nat) : Int), iquo .i64 (((1184 + sz) - 1 : Nat) : Int) (sz : Int) = ((((1184 + sz) - 1) / sz : Nat) : Int), ((sz : Int) : Int) ≠ 0, ndC C 18]) [4, 7] [0, 1, 2] 3 ⟨by rw [iadd64 omm omm]; omega, by rw [isub64 omm omm]; omega, by rw [iquo64 omm omm omm]; exact (Int.natCast_ediv _ _).symm, by omega, rfl, trivial⟩ hS fun hS => ?_
 refine then_n (v0 [4] [0, 1, 2] 3 hS fun hS => ?_)
 refine wp_ret ?_
 exact fin_y rfl (.inr rfl) hS [.cp 1 0] [(0, some (.ob 77 (chain [vi (sz : Int), vi 2, vi 0, vi 0, .v (.slice none 0 0), .v (.slice none 0 0), .v (.pointer none), .v (.slice none 0 0)]))), (1, some (.ob 135 (chain [vi (((2 * ep) : Nat) : Int), vi (sz : Int), vi 1184, .sk 2]))), (2, some (.sl 22 [.os (.int .u8)] (List.replicate (((1184 + sz) - 1) / sz) none)))] rfl ⟨rfl, rfl, rfl, trivial⟩

def c_freshg (sz ep : Nat) : Con := ⟨[.cp 0 0, vi (ep : Int)], [(0, .ob 77 (chain [vi (sz : Int), vi 1, vi 0, vi 0, .v (.slice none 0 0), .v (.slice none 0 0), .v (.pointer none), .v (.slice none 0 0)]))], .cp 0 0, [(0, .ob 77 (chain [vi (sz : Int), vi 1, vi (ep : Int), vi 0, .v (.slice none 0 0), .v (.slice none 0 0), .cp 1 0, .v (.slice none 0 0)])), (1, .ob 135 (chain [vi ((((2 * ep) + 1) : Nat) : Int), vi (sz : Int), vi 1088, .sk 2])), (2, .sl 22 [.os (.int .u8)] (List.replicate (((1088 + sz) - 1) / sz) none))]⟩
theorem freshg_ok (sz ep : Nat) (hz : 1 ≤ sz ∧ sz ≤ 1000) (he : ep ≤ 500000000) : ConOk Try.prog 48 (c_freshg sz ep) := by
 refine conOk_of rfl (nb := 1) Try.func48 rfl rfl Try.ntmps48 rfl rfl rfl fun g0 w0 ac gs ws hg0 hS => ?_
 have hS := hS.sp
 refine v0 [0, 1, 4] [0] 1 hS fun hS => ?_
 refine vA [(8, .call ⟨80, (c_emptyg sz ep), [(0, 0)], [(1, 1), (2, 2)]⟩)] ⟨emptyg_ok _ _ omm omm, trivial⟩ (fun C => [ndC C 8]) [0, 4] [0, 1, 2] 3 ⟨rfl, trivial⟩ hS fun hS => ?_
 refine v0 [4] [0, 1, 2] 3 hS fun hS => ?_
 refine wp_ret ?_
 exact fin_y rfl (.inr rfl) hS [.cp 0 0] [(0, some (.ob 77 (chain [vi (sz : Int), vi 1, vi (ep : Int), vi 0, .v (.slice none 0 0), .v (.slice none 0 0), .cp 1 0, .v (.slice none 0 0)]))), (1, some (.ob 135 (chain [vi ((((2 * ep) + 1) : Nat) : Int), vi (sz : Int), vi 1088, .sk 2]))), (2, some (.sl 22 [.os (.int .u8)] (List.replicate (((1088 + sz) - 1) / sz) none)))] rfl ⟨rfl, rfl, rfl, trivial⟩

def c_fresht (sz ep : Nat) : Con := ⟨[.cp 0 0, vi (ep : Int)], [(0, .ob 77 (chain [vi (sz : Int), vi 2, vi 0, vi 0, .v (.slice none 0 0), .v (.slice none 0 0), .v (.pointer none), .v (.slice none 0 0)]))], .cp 0 0, [(0, .ob 77 (chain [vi (sz : Int), vi 2, vi (ep : Int), vi 0, .v (.slice none 0 0), .v (.slice none 0 0), .cp 1 0, .v (.slice none 0 0)])), (1, .ob 135 (chain [vi (((2 * ep) : Nat) : Int), vi (sz : Int), vi 1184, .sk 2])), (2, .sl 22 [.os (.int .u8)] (List.replicate (((1184 + sz) - 1) / sz) none))]⟩
theorem fresht_ok (sz ep : Nat) (hz : 1 ≤ sz ∧ sz ≤ 1000) (he : ep ≤ 500000000) : ConOk Try.prog 48 (c_fresht sz ep) := by
 refine conOk_of rfl (nb := 1) Try.func48 rfl rfl Try.ntmps48 rfl rfl rfl fun g0 w0 ac gs ws hg0 hS => ?_
 have hS := hS.sp
 refine v0 [0, 1, 4] [0] 1 hS fun hS => ?_
 refine vA [(8, .call ⟨80, (c_emptyt sz ep), [(0, 0)], [(1, 1), (2, 2)]⟩)] ⟨emptyt_ok _ _ omm omm, trivial⟩ (fun C => [ndC C 8]) [0, 4] [0, 1, 2] 3 ⟨rfl, trivial⟩ hS fun hS => ?_
 refine v0 [4] [0, 1, 2] 3 hS fun hS => ?_
 refine wp_ret ?_
 exact fin_y rfl (.inr rfl) hS [.cp 0 0] [(0, some (.ob 77 (chain [vi (sz : Int), vi 2, vi (ep : Int), vi 0, .v (.slice none 0 0), .v (.slice none 0 0), .cp 1 0, .v (.slice none 0 0)]))), (1, some (.ob 135 (chain [vi (((2 * ep) : Nat) : Int), vi (sz : Int), vi 1184, .sk 2]))), (2, some (.sl 22 [.os (.int .u8)] (List.replicate (((1184 + sz) - 1) / sz) none)))] rfl ⟨rfl, rfl, rfl, trivial⟩

def c_newg (sz : Nat) : Con := ⟨[.v (.bool true), vi (sz : Int)], [], .tu (chain [.cp 0 0, vi 0]), [(0, .ob 77 (chain [vi (sz : Int), vi 1, vi 0, vi 0, .v (.slice none 0 0), .v (.slice none 0 0), .cp 1 0, .v (.slice none 0 0)])), (1, .ob 135 (chain [vi ((((2 * 0) + 1) : Nat) : Int), vi (sz : Int), vi 1088, .sk 2])), (2, .sl 22 [.os (.int .u8)] (List.replicate (((1088 + sz) - 1) / sz) none))]⟩
theorem newg_ok (sz : Nat) (hz : 10 ≤ sz ∧ sz ≤ 1000) : ConOk Try.prog 17 (c_newg sz) := by
 refine conOk_of rfl (nb := 0) Try.func17 rfl rfl Try.ntmps17 rfl rfl rfl fun g0 w0 ac gs ws hg0 hS => ?_
 have hS := hS.sp
 have hs1 : ¬ (sz : Int) < 10 := omm
 have hs2 : ¬ (1000 : Int) < (sz : Int) := omm
 refine v0 [0, 1, 4, 5] [] 0 hS fun hS => ?_
 refine wp_seq (vA [(1, .ob false), (4, .ob false)] trivial (fun _ => [(decide ((sz : Int) < 10)) = false, (decide ((1000 : Int) < (sz : Int))) = false]) [0, 1, 4, 5, 12] [] 0 ⟨decide_eq_false hs1, decide_eq_false hs2, trivial⟩ hS fun hS => ?_)
 refine cond_f hS ?_
 refine wp_skip (then_n (v0 [0, 4, 5, 6] [0] 1 hS fun hS => ?_))
 refine wp_seq (v0 [4, 5, 6, 16] [0] 1 hS fun hS => ?_)
 refine cond_t hS ?_
 refine u0 [4, 5, 6] [0] 1 hS fun hS => ?_
 refine then_n (vA [(1, .call ⟨48, (c_freshg sz 0), [(0, 0)], [(1, 1), (2, 2)]⟩)] ⟨freshg_ok _ _ omm omm, trivial⟩ (fun C => [ndC C 1]) [4, 5] [0, 1, 2] 3 ⟨rfl, trivial⟩ hS fun hS => ?_)
 refine wp_ret ?_
 exact fin_y rfl (.inr rfl) hS [.cp 0 0, vi 0] [(0, some (.ob 77 (chain [vi (sz : Int), vi 1, vi 0, vi 0, .v (.slice none 0 0), .v (.slice none 0 0), .cp 1 0, .v (.slice none 0 0)]))), (1, some (.ob 135 (chain [vi ((((2 * 0) + 1) : Nat) : Int), vi (sz : Int), vi 1088, .sk 2]))), (2, some (.sl 22 [.os (.int .u8)] (List.replicate (((1088 + sz) - 1) / sz) none)))] rfl ⟨rfl, rfl, rfl, trivial⟩

def c_newt (sz : Nat) : Con := ⟨[.v (.bool false), vi (sz : Int)], [], .tu (chain [.cp 0 0, vi 0]), [(0, .ob 77 (chain [vi (sz : Int), vi 2, vi 0, vi 0, .v (.slice none 0 0), .v (.slice none 0 0), .cp 1 0, .v (.slice none 0 0)])), (1, .ob 135 (chain [vi (((2 * 0) : Nat) : Int), vi (sz : Int), vi 1184, .sk 2])), (2, .sl 22 [.os (.int .u8)] (List.replicate (((1184 + sz) - 1) / sz) none))]⟩
theorem newt_ok (sz : Nat) (hz : 10 ≤ sz ∧ sz ≤ 1000) : ConOk Try.prog 17 (c_newt sz) := by
 refine conOk_of rfl (nb := 0) Try.func17 rfl rfl Try.ntmps17 rfl rfl rfl fun g0 w0 ac gs ws hg0 hS => ?_
 have hS := hS.sp
 have hs1 : ¬ (sz : Int) < 10 := omm
 have hs2 : ¬ (1000 : Int) < (sz : Int) := omm
 refine v0 [0, 1, 4, 5] [] 0 hS fun hS => ?_
 refine wp_seq (vA [(1, .ob false), (4, .ob false)] trivial (fun _ => [(decide ((sz : Int) < 10)) = false, (decide ((1000 : Int) < (sz : Int))) = false]) [0, 1, 4, 5, 12] [] 0 ⟨decide_eq_false hs1, decide_eq_false hs2, trivial⟩ hS fun hS => ?_)
 refine cond_f hS ?_
 refine wp_skip (then_n (v0 [0, 4, 5, 6] [0] 1 hS fun hS => ?_))
 refine wp_seq (v0 [4, 5, 6, 16] [0] 1 hS fun hS => ?_)
 refine cond_f hS ?_
 refine wp_skip (then_n (vA [(1, .call ⟨48, (c_fresht sz 0), [(0, 0)], [(1, 1), (2, 2)]⟩)] ⟨fresht_ok _ _ omm omm, trivial⟩ (fun C => [ndC C 1]) [4, 5] [0, 1, 2] 3 ⟨rfl, trivial⟩ hS fun hS => ?_))
 refine wp_ret ?_
 exact fin_y rfl (.inr rfl) hS [.cp 0 0, vi 0] [(0, some (.ob 77 (chain [vi (sz : Int), vi 2, vi 0, vi 0, .v (.slice none 0 0), .v (.slice none 0 0), .cp 1 0, .v (.slice none 0 0)]))), (1, some (.ob 135 (chain [vi (((2 * 0) : Nat) : Int), vi (sz : Int), vi 1184, .sk 2]))), (2, some (.sl 22 [.os (.int .u8)] (List.replicate (((1184 + sz) - 1) / sz) none)))] rfl ⟨rfl, rfl, rfl, trivial⟩

def c_newbad (b : Bool) (sz : Nat) : Con := ⟨[.v (.bool b), vi (sz : Int)], [], .tu (chain [.v (.pointer none), vi 1]), []⟩
theorem newbad_ok (b : Bool) (sz : Nat) (hz : sz < 10) : ConOk Try.prog 17 (c_newbad b sz) := by
 refine conOk_of rfl (nb := 0) Try.func17 rfl rfl Try.ntmps17 rfl rfl rfl fun g0 w0 ac gs ws hg0 hS => ?_
 have hS := hS.sp
 have hs1 : (sz : Int) < 10 := omm
 refine s0 [0, 1, 4, 5] [] 0 hS fun hS => ?_
 refine wp_seq (sA [(1, .ob true)] trivial (fun _ => [(decide ((sz : Int) < 10)) = true]) [0, 1, 4, 5, 12] [] 0 ⟨decide_eq_true hs1, trivial⟩ hS fun hS => ?_)
 refine cond_t hS ?_
 refine s0 [0, 1, 4, 5] [] 0 hS fun hS => ?_
 refine wp_ret (then_ret ?_)
 exact fin_y rfl (.inr rfl) hS [.v (.pointer none), vi 1] [] rfl trivial

theorem gD_at {l : List PcR} {j : Nat} {x : PcR} (z : PcR) (h : l[j]? = some x) : l.getD j z = x := by
 rw [List.getD_eq_getElem?_getD, h]; rfl
theorem pcs_at (id : Nat) (xs : List Int) (sz n j : Nat) (hj : j < n) : (pcs id xs sz (List.range n))[j]? = some ((id : Int), (j : Int), (0 : Int), (xs.drop (j * sz)).take sz) := by
 unfold pcs
 rw [List.getElem?_eq_getElem (by rw [List.length_mapIdx, List.length_range]; exact hj), List.getElem_mapIdx, List.getElem_range]
theorem spl_at (id : Nat) (xs : List Int) (sz : Nat) : ∀ i, (split_l1 id xs sz i).length = (xs.length + sz - 1) / sz ∧ ∀ j, j < (xs.length + sz - 1) / sz → (split_l1 id xs sz i)[j]? = some ((id : Int), ((j : Nat) : Int), ((if j < i then (xs.length + sz - 1) / sz else 0 : Nat) : Int), (xs.drop (j * sz)).take sz)
 | 0 => ⟨by show (pcs ..).length = _; rw [pcs_len, List.length_range], fun j hj => by
   rw [if_neg (Nat.not_lt_zero j)]
   exact pcs_at id xs sz _ j hj⟩
 | i + 1 => by
  obtain ⟨h1, h2⟩ := spl_at id xs sz i
  have e : ∃ v : PcR, split_l1 id xs sz (i + 1) = (split_l1 id xs sz i).set i v ∧ ∀ x : PcR, (split_l1 id xs sz i)[i]? = some x → v = (x.1, x.2.1, (((split_l1 id xs sz i).length : Nat) : Int), x.2.2.2) := ⟨_, rfl, fun x hx => congrArg (fun q : PcR => (q.1, q.2.1, (((split_l1 id xs sz i).length : Nat) : Int), q.2.2.2)) (gD_at _ hx)⟩
  obtain ⟨v, e, hv⟩ := e
  rw [e]
  refine ⟨by rw [List.length_set, h1], fun j hj => ?_⟩
  by_cases hji : i = j
  ·subst hji
   rw [List.getElem?_set_self (by rw [h1]; exact hj), hv _ (h2 i hj), h1, if_pos (Nat.lt_succ_self i)]
  ·rw [List.getElem?_set_ne hji, h2 j hj]
   by_cases h3 : j < i
   ·rw [if_pos h3, if_pos omm]
   ·rw [if_neg h3, if_neg omm]
theorem spl_len (id : Nat) (xs : List Int) (sz : Nat) : (split_m id xs sz).length = (xs.length + sz - 1) / sz := by
 rw [split_e]; exact (spl_at id xs sz _).1
theorem spl_row (id : Nat) (xs : List Int) (sz i : Nat) (hi : i < (split_m id xs sz).length) : (split_m id xs sz).getD i (rz [.int .i64, .int .i64, .int .i64, .sl (.int .u8)]) = ((id : Int), (i : Int), (((split_m id xs sz).length : Nat) : Int), (xs.drop (i * sz)).take sz) := by
 refine gD_at _ ?_
 rw [spl_len] at hi
 rw [spl_len, split_e]
 unfold split_v
 rw [(spl_at id xs sz _).2 i hi, if_pos (by rw [pcs_len, List.length_range]; exact hi)]
end
end Go.Sx.Try
namespace Go.Sx.Try
open Go.Mi Go.RowKit Go.Sx Go.Proofs
noncomputable section
def encB (id ai ct : Nat) (d : List Int) : List Int := numW id ++ numW ai ++ numW ct ++ numW d.length ++ d
theorem encode_y {id ai ct : Nat} {d : List Int} (h : id ≤ 1073741824 ∧ ct ≤ 1073741824 ∧ ai < ct) (hd : 1 ≤ d.length ∧ d.length ≤ 1000) : encode_m id ai ct d = (encB id ai ct d, 0) := by
 rw [encode_e]; unfold encode_v
 rw [if_pos (wB_i ⟨by omega, by omega⟩), if_pos (wB_i ⟨by omega, by omega⟩), if_pos (wB_i ⟨by omega, by omega⟩), if_neg omm, if_neg omm]
 rfl
def c_encodey (id ai ct : Nat) (d : List Int) : Con := ⟨[.ag (chain [vi (id : Int), vi (ai : Int), vi (ct : Int), lb d])], [], .tu (chain [lb (encB id ai ct d), vi 0]), []⟩
theorem encodey_ok (id ai ct : Nat) (d : List Int) (h : id ≤ 1073741824 ∧ ct ≤ 1073741824 ∧ ai < ct) (hd : 1 ≤ d.length ∧ d.length ≤ 1000) : ConOk Try.prog 51 (c_encodey id ai ct d) := by
 have h1 := encode_ok id ai ct d omm omm
 unfold c_encode at h1
 rw [encode_y h hd] at h1
 exact h1
def c_rkeysf (sz ep : Nat) (at_ id ln : Nat) (bx : List (Option (List Int))) (s sd tx : List Int) : Con := ⟨[.cp 0 0, lb s], [(0, .ob 77 (chain [vi (sz : Int), vi 1, vi (ep : Int), vi (at_ : Int), lb sd, lb tx, .cp 1 0, .v (.slice none 0 0)])), (1, .ob 135 (chain [vi (id : Int), vi (sz : Int), vi (ln : Int), .ls true [.os (.int .u8)] bx]))], .tu (chain []), [(0, .ob 77 (chain [vi (sz : Int), vi 1, vi (ep : Int), vi (at_ : Int), lb s, lb ((keys_m (s.take 32) (s.drop 32)).1), .cp 1 0, .v (.slice none 0 0)])), (1, .ob 135 (chain [vi (id : Int), vi (sz : Int), vi (ln : Int), .ls true [.os (.int .u8)] bx]))]⟩
theorem rkeysf_ok (sz ep : Nat) (at_ id ln : Nat) (bx : List (Option (List Int))) (s sd tx : List Int) (hs : s.length = 64) : ConOk Try.prog 49 (c_rkeysf sz ep at_ id ln bx s sd tx) := by
 refine conOk_of rfl (nb := 2) Try.func49 rfl rfl Try.ntmps49 rfl rfl rfl fun g0 w0 ac gs ws hg0 hS => ?_
 have hlen1 : s.length ≤ 9223372036854775807 := hS.len 1 rfl
 have hS := hS.sp
 refine vA [(2, .call ⟨81, (c_clone s), [], []⟩)] ⟨clone_ok _ lnn, trivial⟩ (fun C => [ndC C 2]) [0, 1] [0, 1] 2 ⟨rfl, trivial⟩ hS fun hS => ?_
 refine uA [(5, .call ⟨14, (c_keys (s.take 32) (s.drop 32)), [], [(0, 2)]⟩)] ⟨keys_ok _ _ lnn lnn, trivial⟩ (fun C => [bndP none (some 32) none s.length s.length, bndP (some 32) none none s.length s.length, ndC C 5]) [] [0, 1] 3 ⟨⟨by simp only [nnI] <;> omega, by simp only [nnI] <;> omega, by simp only [nnI] <;> omega, by simp, by simp only [bl] <;> omega, by simp only [bl] <;> omega, by simp only [bl] <;> omega⟩, ⟨by simp only [nnI] <;> omega, by simp only [nnI] <;> omega, by simp only [nnI] <;> omega, by simp, by simp only [bl] <;> omega, by simp only [bl] <;> omega, by simp only [bl] <;> omega⟩, rfl, trivial⟩ hS fun hS => ?_
 exact fin_y rfl (.inl rfl) hS [] [(0, some (.ob 77 (chain [vi (sz : Int), vi 1, vi (ep : Int), vi (at_ : Int), lb s, lb ((keys_m (s.take 32) (s.drop 32)).1), .cp 1 0, .v (.slice none 0 0)]))), (1, some (.ob 135 (chain [vi (id : Int), vi (sz : Int), vi (ln : Int), .ls true [.os (.int .u8)] bx])))] rfl ⟨rfl, rfl, trivial⟩

def c_rkeys (sz ep : Nat) (at_ id ln : Nat) (bx : List (Option (List Int))) (s : List Int) : Con := ⟨[.cp 0 0, lb s], [(0, .ob 77 (chain [vi (sz : Int), vi 1, vi (ep : Int), vi (at_ : Int), .v (.slice none 0 0), .v (.slice none 0 0), .cp 1 0, .v (.slice none 0 0)])), (1, .ob 135 (chain [vi (id : Int), vi (sz : Int), vi (ln : Int), .sk 2])), (2, .sl 22 [.os (.int .u8)] bx)], .tu (chain []), [(0, .ob 77 (chain [vi (sz : Int), vi 1, vi (ep : Int), vi (at_ : Int), lb s, lb ((keys_m (s.take 32) (s.drop 32)).1), .cp 1 0, .v (.slice none 0 0)])), (1, .ob 135 (chain [vi (id : Int), vi (sz : Int), vi (ln : Int), .sk 2])), (2, .sl 22 [.os (.int .u8)] bx)]⟩
theorem rkeys_ok (sz ep : Nat) (at_ id ln : Nat) (bx : List (Option (List Int))) (s : List Int) (hs : s.length = 64) : ConOk Try.prog 49 (c_rkeys sz ep at_ id ln bx s) := by
 refine conOk_of rfl (nb := 3) Try.func49 rfl rfl Try.ntmps49 rfl rfl rfl fun g0 w0 ac gs ws hg0 hS => ?_
 have hlen1 : s.length ≤ 9223372036854775807 := hS.len 1 rfl
 have hlenk2 : bx.length ≤ 9223372036854775807 := hS.lens 2 rfl
 have hS := hS.sp
 refine vA [(2, .call ⟨81, (c_clone s), [], []⟩)] ⟨clone_ok _ lnn, trivial⟩ (fun C => [ndC C 2]) [0, 1] [0, 1, 2] 3 ⟨rfl, trivial⟩ hS fun hS => ?_
 refine uA [(5, .call ⟨14, (c_keys (s.take 32) (s.drop 32)), [], [(0, 3)]⟩)] ⟨keys_ok _ _ lnn lnn, trivial⟩ (fun C => [bndP none (some 32) none s.length s.length, bndP (some 32) none none s.length s.length, ndC C 5]) [] [0, 1, 2] 4 ⟨⟨by simp only [nnI] <;> omega, by simp only [nnI] <;> omega, by simp only [nnI] <;> omega, by simp, by simp only [bl] <;> omega, by simp only [bl] <;> omega, by simp only [bl] <;> omega⟩, ⟨by simp only [nnI] <;> omega, by simp only [nnI] <;> omega, by simp only [nnI] <;> omega, by simp, by simp only [bl] <;> omega, by simp only [bl] <;> omega, by simp only [bl] <;> omega⟩, rfl, trivial⟩ hS fun hS => ?_
 exact fin_y rfl (.inl rfl) hS [] [(0, some (.ob 77 (chain [vi (sz : Int), vi 1, vi (ep : Int), vi (at_ : Int), lb s, lb ((keys_m (s.take 32) (s.drop 32)).1), .cp 1 0, .v (.slice none 0 0)]))), (1, some (.ob 135 (chain [vi (id : Int), vi (sz : Int), vi (ln : Int), .sk 2]))), (2, some (.sl 22 [.os (.int .u8)] bx))] rfl ⟨rfl, rfl, rfl, trivial⟩

theorem spl_dl {xs : List Int} {sz i : Nat} (hz : 1 ≤ sz) (hi : i < (xs.length + sz - 1) / sz) : 1 ≤ ((xs.drop (i * sz)).take sz).length ∧ ((xs.drop (i * sz)).take sz).length ≤ sz := by
 have h := (cnt_of (len := xs.length) hz i).1 hi
 rw [List.length_take, List.length_drop]; omega
def c_outgf (sz ep : Nat) (at_ id ln : Nat) (bx : List (Option (List Int))) (r sd tx : List Int) : Con := ⟨[.cp 0 0, lb r], [(0, .ob 77 (chain [vi (sz : Int), vi 1, vi (ep : Int), vi (at_ : Int), lb sd, lb tx, .cp 1 0, .v (.slice none 0 0)])), (1, .ob 135 (chain [vi (id : Int), vi (sz : Int), vi (ln : Int), .ls true [.os (.int .u8)] bx]))], .tu (chain [lb (encB (2 * ep) (at_ % ((split_m (2 * ep) tx sz).length)) ((split_m (2 * ep) tx sz).length) ((tx.drop ((at_ % ((split_m (2 * ep) tx sz).length)) * sz)).take sz)), vi 0]), [(0, .ob 77 (chain [vi (sz : Int), vi 1, vi (ep : Int), vi (((at_ + 1) : Nat) : Int), lb sd, lb tx, .cp 1 0, .v (.slice none 0 0)])), (1, .ob 135 (chain [vi (id : Int), vi (sz : Int), vi (ln : Int), .ls true [.os (.int .u8)] bx]))]⟩
theorem outgf_ok (sz ep : Nat) (at_ id ln : Nat) (bx : List (Option (List Int))) (r sd tx : List Int) (hr : r.length = 64) (hz : 1 ≤ sz ∧ sz ≤ 1000) (he : ep ≤ 500000000) (ha : at_ ≤ 1000000000) (ht : 1 ≤ tx.length ∧ tx.length ≤ 10000) : ConOk Try.prog 19 (c_outgf sz ep at_ id ln bx r sd tx) := by
 refine conOk_of rfl (nb := 2) Try.func19 rfl rfl Try.ntmps19 rfl rfl rfl fun g0 w0 ac gs ws hg0 hS => ?_
 have hlen1 : r.length ≤ 9223372036854775807 := hS.len 1 rfl
 have hS := hS.sp
 have hf1 : ¬ (sz : Int) = 0 := omm
 have hf2 : ((r.length : Nat) : Int) = 64 := omm
 have hf3 : ¬ ((tx.length : Nat) : Int) = 0 := omm
 refine v0 [0, 1, 4, 5] [0, 1] 2 hS fun hS => ?_
 refine wp_seq (vA [(7, .ob false), (12, .ob false)] trivial (fun _ => [(decide ((sz : Int) = 0)) = false, (!decide (((r.length : Nat) : Int) = 64)) = false]) [0, 1, 4, 5, 23] [0, 1] 2 ⟨decide_eq_false hf1, by rw [decide_eq_true hf2]; rfl, trivial⟩ hS fun hS => ?_)
 refine cond_f hS ?_
 refine wp_skip (then_n (vA [(4, .oi ((2 * ep : Nat) : Int))] trivial (fun _ => [imul .i64 2 (ep : Int) = ((2 * ep : Nat) : Int)]) [0, 1, 4, 5, 6] [0, 1] 2 ⟨by rw [imul64 omm omm]; omega, trivial⟩ hS fun hS => ?_))
 refine wp_seq (v0 [0, 1, 4, 5, 6, 32] [0, 1] 2 hS fun hS => ?_)
 refine wp_block (v0 [0, 1, 4, 5, 6, 32, 33] [0, 1] 2 hS fun hS => ?_)
 refine cond_f hS ?_
 refine v0 [0, 1, 4, 5, 6, 35] [0, 1] 2 hS fun hS => ?_
 refine cond_f hS ?_
 refine wp_skip (block_n (then_n (wp_seq (vA [(5, .ob false)] trivial (fun _ => [(decide (((tx.length : Nat) : Int) = 0)) = false]) [0, 1, 4, 5, 6, 44] [0, 1] 2 ⟨decide_eq_false hf3, trivial⟩ hS fun hS => ?_))))
 refine cond_f hS ?_
 refine wp_skip (then_n (vA [(9, .call ⟨50, (c_split (2 * ep) tx sz), [], [(0, 2)]⟩)] ⟨split_ok _ _ _ omm lnn omm, trivial⟩ (fun C => [ndC C 9]) [0, 4, 5, 7] [0, 1, 2] 3 ⟨rfl, trivial⟩ hS fun hS => ?_))
 refine wp_seq ?_
 have hcb := cntb (ln := tx.length) (sz := sz) omm omm
 have hsl := spl_len (2 * ep) tx sz
 have hix : at_ % (split_m (2 * ep) tx sz).length < (split_m (2 * ep) tx sz).length := Nat.mod_lt _ omm
 have hRow := spl_row (2 * ep) tx sz _ hix
 have hdl := spl_dl (xs := tx) (sz := sz) (i := at_ % (split_m (2 * ep) tx sz).length) omm (by rw [← hsl]; exact hix)
 refine uA [(7, .oi ((at_ % ((split_m (2 * ep) tx sz).length) : Nat) : Int)), (9, .ov (.ag (chain [vi ((2 * ep : Nat) : Int), vi (((at_ % ((split_m (2 * ep) tx sz).length)) : Nat) : Int), vi (((split_m (2 * ep) tx sz).length : Nat) : Int), lb ((tx.drop ((at_ % ((split_m (2 * ep) tx sz).length)) * sz)).take sz)])))] trivial (fun _ => [irem (at_ : Int) (((split_m (2 * ep) tx sz).length : Nat) : Int) = ((at_ % ((split_m (2 * ep) tx sz).length) : Nat) : Int), ((((split_m (2 * ep) tx sz).length : Nat) : Int) : Int) ≠ 0, (0 : Int) ≤ ((at_ % ((split_m (2 * ep) tx sz).length) : Nat) : Int) ∧ ((at_ % ((split_m (2 * ep) tx sz).length) : Nat) : Int) < (((split_m (2 * ep) tx sz).length : Nat) : Int), (.ag (chain [vi (((split_m (2 * ep) tx sz).getD (at_ % ((split_m (2 * ep) tx sz).length)) (rz [.int .i64, .int .i64, .int .i64, .sl (.int .u8)])).1), vi ((((split_m (2 * ep) tx sz).getD (at_ % ((split_m (2 * ep) tx sz).length)) (rz [.int .i64, .int .i64, .int .i64, .sl (.int .u8)])).2).1), vi (((((split_m (2 * ep) tx sz).getD (at_ % ((split_m (2 * ep) tx sz).length)) (rz [.int .i64, .int .i64, .int .i64, .sl (.int .u8)])).2).2).1), lb (((((split_m (2 * ep) tx sz).getD (at_ % ((split_m (2 * ep) tx sz).length)) (rz [.int .i64, .int .i64, .int .i64, .sl (.int .u8)])).2).2).2)]) : D) = .ag (chain [vi ((2 * ep : Nat) : Int), vi (((at_ % ((split_m (2 * ep) tx sz).length)) : Nat) : Int), vi (((split_m (2 * ep) tx sz).length : Nat) : Int), lb ((tx.drop ((at_ % ((split_m (2 * ep) tx sz).length)) * sz)).take sz)])]) [0, 4, 5, 9] [0, 1, 3] 4 ⟨by rw [irem64 omm]; exact (Int.natCast_emod _ _).symm, by omega, by omega, (by first | (rw [hRow]; done) | (rw [hRow]; rfl)), trivial⟩ hS fun hS => ?_
 refine then_n (vA [(4, .oi ((at_ + 1 : Nat) : Int))] trivial (fun _ => [iadd .i64 (at_ : Int) 1 = ((at_ + 1 : Nat) : Int)]) [4, 5, 9] [0, 1, 3] 4 ⟨by rw [iadd64 omm omm]; omega, trivial⟩ hS fun hS => ?_)
 refine vA [(1, .call ⟨51, (c_encodey (2 * ep) (at_ % ((split_m (2 * ep) tx sz).length)) ((split_m (2 * ep) tx sz).length) ((tx.drop ((at_ % ((split_m (2 * ep) tx sz).length)) * sz)).take sz)), [], []⟩)] ⟨encodey_ok _ _ _ _ omm omm, trivial⟩ (fun C => [ndC C 1]) [4, 5] [0, 1] 4 ⟨rfl, trivial⟩ hS fun hS => ?_
 refine wp_ret ?_
 exact fin_y rfl (.inr rfl) hS [lb (encB (2 * ep) (at_ % ((split_m (2 * ep) tx sz).length)) ((split_m (2 * ep) tx sz).length) ((tx.drop ((at_ % ((split_m (2 * ep) tx sz).length)) * sz)).take sz)), vi 0] [(0, some (.ob 77 (chain [vi (sz : Int), vi 1, vi (ep : Int), vi ((at_ + 1 : Nat) : Int), lb sd, lb tx, .cp 1 0, .v (.slice none 0 0)]))), (1, some (.ob 135 (chain [vi (id : Int), vi (sz : Int), vi (ln : Int), .ls true [.os (.int .u8)] bx])))] rfl ⟨rfl, rfl, trivial⟩

def c_outk (sz ep : Nat) (at_ id ln : Nat) (bx : List (Option (List Int))) (r : List Int) : Con := ⟨[.cp 0 0, lb r], [(0, .ob 77 (chain [vi (sz : Int), vi 1, vi (ep : Int), vi (at_ : Int), .v (.slice none 0 0), .v (.slice none 0 0), .cp 1 0, .v (.slice none 0 0)])), (1, .ob 135 (chain [vi (id : Int), vi (sz : Int), vi (ln : Int), .sk 2])), (2, .sl 22 [.os (.int .u8)] bx)], .tu (chain [lb (encB (2 * ep) (at_ % ((split_m (2 * ep) ((keys_m (r.take 32) (r.drop 32)).1) sz).length)) ((split_m (2 * ep) ((keys_m (r.take 32) (r.drop 32)).1) sz).length) ((((keys_m (r.take 32) (r.drop 32)).1).drop ((at_ % ((split_m (2 * ep) ((keys_m (r.take 32) (r.drop 32)).1) sz).length)) * sz)).take sz)), vi 0]), [(0, .ob 77 (chain [vi (sz : Int), vi 1, vi (ep : Int), vi (((at_ + 1) : Nat) : Int), lb r, lb ((keys_m (r.take 32) (r.drop 32)).1), .cp 1 0, .v (.slice none 0 0)])), (1, .ob 135 (chain [vi (id : Int), vi (sz : Int), vi (ln : Int), .sk 2])), (2, .sl 22 [.os (.int .u8)] bx)]⟩
theorem outk_ok (sz ep : Nat) (at_ id ln : Nat) (bx : List (Option (List Int))) (r : List Int) (hr : r.length = 64) (hz : 1 ≤ sz ∧ sz ≤ 1000) (he : ep ≤ 500000000) (ha : at_ ≤ 1000000000) : ConOk Try.prog 19 (c_outk sz ep at_ id ln bx r) := by
 refine conOk_of rfl (nb := 3) Try.func19 rfl rfl Try.ntmps19 rfl rfl rfl fun g0 w0 ac gs ws hg0 hS => ?_
 have hlen1 : r.length ≤ 9223372036854775807 := hS.len 1 rfl
 have hlenk2 : bx.length ≤ 9223372036854775807 := hS.lens 2 rfl
 have hS := hS.sp
 have hf1 : ¬ (sz : Int) = 0 := omm
 have hf2 : ((r.length : Nat) : Int) = 64 := omm
 refine v0 [0, 1, 4, 5] [0, 1, 2] 3 hS fun hS => ?_
 refine wp_seq (vA [(7, .ob false), (12, .ob false)] trivial (fun _ => [(decide ((sz : Int) = 0)) = false, (!decide (((r.length : Nat) : Int) = 64)) = false]) [0, 1, 4, 5, 23] [0, 1, 2] 3 ⟨decide_eq_false hf1, by rw [decide_eq_true hf2]; rfl, trivial⟩ hS fun hS => ?_)
 refine cond_f hS ?_
 refine wp_skip (then_n (vA [(4, .oi ((2 * ep : Nat) : Int))] trivial (fun _ => [imul .i64 2 (ep : Int) = ((2 * ep : Nat) : Int)]) [0, 1, 4, 5, 6] [0, 1, 2] 3 ⟨by rw [imul64 omm omm]; omega, trivial⟩ hS fun hS => ?_))
 refine wp_seq (v0 [0, 1, 4, 5, 6, 32] [0, 1, 2] 3 hS fun hS => ?_)
 refine wp_block (v0 [0, 1, 4, 5, 6, 32, 33] [0, 1, 2] 3 hS fun hS => ?_)
 refine cond_f hS ?_
 refine v0 [0, 1, 4, 5, 6, 35] [0, 1, 2] 3 hS fun hS => ?_
 refine cond_f hS ?_
 refine wp_skip (block_n (then_n (wp_seq (v0 [0, 1, 4, 5, 6, 44] [0, 1, 2] 3 hS fun hS => ?_))))
 refine cond_t hS ?_
 refine uA [(2, .call ⟨49, (c_rkeys sz ep at_ id ln bx r), [(0, 0), (1, 1), (2, 2)], []⟩)] ⟨rkeys_ok _ _ _ _ _ _ _ lnn, trivial⟩ (fun C => [ndC C 2]) [0, 4, 5, 6] [0, 1, 2] 3 ⟨rfl, trivial⟩ hS fun hS => ?_
 refine then_n (wp_seq ?_)
 have hkl := keys_len (r.take 32) (r.drop 32) (by rw [List.length_drop]; omega)
 refine uA [(9, .call ⟨50, (c_split (2 * ep) ((keys_m (r.take 32) (r.drop 32)).1) sz), [], [(0, 3)]⟩)] ⟨split_ok _ _ _ omm lnn omm, trivial⟩ (fun C => [ndC C 9]) [0, 4, 5, 7] [0, 1, 2, 3] 4 ⟨rfl, trivial⟩ hS fun hS => ?_
 refine then_n (wp_seq ?_)
 have hcb := cntb (ln := ((keys_m (r.take 32) (r.drop 32)).1).length) (sz := sz) omm omm
 have hsl := spl_len (2 * ep) ((keys_m (r.take 32) (r.drop 32)).1) sz
 have hix : at_ % (split_m (2 * ep) ((keys_m (r.take 32) (r.drop 32)).1) sz).length < (split_m (2 * ep) ((keys_m (r.take 32) (r.drop 32)).1) sz).length := Nat.mod_lt _ omm
 have hRow := spl_row (2 * ep) ((keys_m (r.take 32) (r.drop 32)).1) sz _ hix
 have hdl := spl_dl (xs := ((keys_m (r.take 32) (r.drop 32)).1)) (sz := sz) (i := at_ % (split_m (2 * ep) ((keys_m (r.take 32) (r.drop 32)).1) sz).length) omm (by rw [← hsl]; exact hix)
 refine uA [(7, .oi ((at_ % ((split_m (2 * ep) ((keys_m (r.take 32) (r.drop 32)).1) sz).length) : Nat) : Int)), (9, .ov (.ag (chain [vi ((2 * ep : Nat) : Int), vi (((at_ % ((split_m (2 * ep) ((keys_m (r.take 32) (r.drop 32)).1) sz).length)) : Nat) : Int), vi (((split_m (2 * ep) ((keys_m (r.take 32) (r.drop 32)).1) sz).length : Nat) : Int), lb ((((keys_m (r.take 32) (r.drop 32)).1).drop ((at_ % ((split_m (2 * ep) ((keys_m (r.take 32) (r.drop 32)).1) sz).length)) * sz)).take sz)])))] trivial (fun _ => [irem (at_ : Int) (((split_m (2 * ep) ((keys_m (r.take 32) (r.drop 32)).1) sz).length : Nat) : Int) = ((at_ % ((split_m (2 * ep) ((keys_m (r.take 32) (r.drop 32)).1) sz).length) : Nat) : Int), ((((split_m (2 * ep) ((keys_m (r.take 32) (r.drop 32)).1) sz).length : Nat) : Int) : Int) ≠ 0, (0 : Int) ≤ ((at_ % ((split_m (2 * ep) ((keys_m (r.take 32) (r.drop 32)).1) sz).length) : Nat) : Int) ∧ ((at_ % ((split_m (2 * ep) ((keys_m (r.take 32) (r.drop 32)).1) sz).length) : Nat) : Int) < (((split_m (2 * ep) ((keys_m (r.take 32) (r.drop 32)).1) sz).length : Nat) : Int), (.ag (chain [vi (((split_m (2 * ep) ((keys_m (r.take 32) (r.drop 32)).1) sz).getD (at_ % ((split_m (2 * ep) ((keys_m (r.take 32) (r.drop 32)).1) sz).length)) (rz [.int .i64, .int .i64, .int .i64, .sl (.int .u8)])).1), vi ((((split_m (2 * ep) ((keys_m (r.take 32) (r.drop 32)).1) sz).getD (at_ % ((split_m (2 * ep) ((keys_m (r.take 32) (r.drop 32)).1) sz).length)) (rz [.int .i64, .int .i64, .int .i64, .sl (.int .u8)])).2).1), vi (((((split_m (2 * ep) ((keys_m (r.take 32) (r.drop 32)).1) sz).getD (at_ % ((split_m (2 * ep) ((keys_m (r.take 32) (r.drop 32)).1) sz).length)) (rz [.int .i64, .int .i64, .int .i64, .sl (.int .u8)])).2).2).1), lb (((((split_m (2 * ep) ((keys_m (r.take 32) (r.drop 32)).1) sz).getD (at_ % ((split_m (2 * ep) ((keys_m (r.take 32) (r.drop 32)).1) sz).length)) (rz [.int .i64, .int .i64, .int .i64, .sl (.int .u8)])).2).2).2)]) : D) = .ag (chain [vi ((2 * ep : Nat) : Int), vi (((at_ % ((split_m (2 * ep) ((keys_m (r.take 32) (r.drop 32)).1) sz).length)) : Nat) : Int), vi (((split_m (2 * ep) ((keys_m (r.take 32) (r.drop 32)).1) sz).length : Nat) : Int), lb ((((keys_m (r.take 32) (r.drop 32)).1).drop ((at_ % ((split_m (2 * ep) ((keys_m (r.take 32) (r.drop 32)).1) sz).length)) * sz)).take sz)])]) [0, 4, 5, 9] [0, 1, 2, 4] 5 ⟨by rw [irem64 omm]; exact (Int.natCast_emod _ _).symm, by omega, by omega, (by first | (rw [hRow]; done) | (rw [hRow]; rfl)), trivial⟩ hS fun hS => ?_
 refine then_n (vA [(4, .oi ((at_ + 1 : Nat) : Int))] trivial (fun _ => [iadd .i64 (at_ : Int) 1 = ((at_ + 1 : Nat) : Int)]) [4, 5, 9] [0, 1, 2, 4] 5 ⟨by rw [iadd64 omm omm]; omega, trivial⟩ hS fun hS => ?_)
 refine vA [(1, .call ⟨51, (c_encodey (2 * ep) (at_ % ((split_m (2 * ep) ((keys_m (r.take 32) (r.drop 32)).1) sz).length)) ((split_m (2 * ep) ((keys_m (r.take 32) (r.drop 32)).1) sz).length) ((((keys_m (r.take 32) (r.drop 32)).1).drop ((at_ % ((split_m (2 * ep) ((keys_m (r.take 32) (r.drop 32)).1) sz).length)) * sz)).take sz)), [], []⟩)] ⟨encodey_ok _ _ _ _ omm omm, trivial⟩ (fun C => [ndC C 1]) [4, 5] [0, 1, 2] 5 ⟨rfl, trivial⟩ hS fun hS => ?_
 refine wp_ret ?_
 exact fin_y rfl (.inr rfl) hS [lb (encB (2 * ep) (at_ % ((split_m (2 * ep) ((keys_m (r.take 32) (r.drop 32)).1) sz).length)) ((split_m (2 * ep) ((keys_m (r.take 32) (r.drop 32)).1) sz).length) ((((keys_m (r.take 32) (r.drop 32)).1).drop ((at_ % ((split_m (2 * ep) ((keys_m (r.take 32) (r.drop 32)).1) sz).length)) * sz)).take sz)), vi 0] [(0, some (.ob 77 (chain [vi (sz : Int), vi 1, vi (ep : Int), vi ((at_ + 1 : Nat) : Int), lb r, lb ((keys_m (r.take 32) (r.drop 32)).1), .cp 1 0, .v (.slice none 0 0)]))), (1, some (.ob 135 (chain [vi (id : Int), vi (sz : Int), vi (ln : Int), .sk 2]))), (2, some (.sl 22 [.os (.int .u8)] bx))] rfl ⟨rfl, rfl, rfl, trivial⟩

def c_outkf (sz ep : Nat) (at_ id ln : Nat) (bx : List (Option (List Int))) (r sd tx : List Int) : Con := ⟨[.cp 0 0, lb r], [(0, .ob 77 (chain [vi (sz : Int), vi 1, vi (ep : Int), vi (at_ : Int), lb sd, lb tx, .cp 1 0, .v (.slice none 0 0)])), (1, .ob 135 (chain [vi (id : Int), vi (sz : Int), vi (ln : Int), .ls true [.os (.int .u8)] bx]))], .tu (chain [lb (encB (2 * ep) (at_ % ((split_m (2 * ep) ((keys_m (r.take 32) (r.drop 32)).1) sz).length)) ((split_m (2 * ep) ((keys_m (r.take 32) (r.drop 32)).1) sz).length) ((((keys_m (r.take 32) (r.drop 32)).1).drop ((at_ % ((split_m (2 * ep) ((keys_m (r.take 32) (r.drop 32)).1) sz).length)) * sz)).take sz)), vi 0]), [(0, .ob 77 (chain [vi (sz : Int), vi 1, vi (ep : Int), vi (((at_ + 1) : Nat) : Int), lb r, lb ((keys_m (r.take 32) (r.drop 32)).1), .cp 1 0, .v (.slice none 0 0)])), (1, .ob 135 (chain [vi (id : Int), vi (sz : Int), vi (ln : Int), .ls true [.os (.int .u8)] bx]))]⟩
theorem outkf_ok (sz ep : Nat) (at_ id ln : Nat) (bx : List (Option (List Int))) (r sd tx : List Int) (hr : r.length = 64) (hz : 1 ≤ sz ∧ sz ≤ 1000) (he : ep ≤ 500000000) (ha : at_ ≤ 1000000000) (ht : tx.length = 0) : ConOk Try.prog 19 (c_outkf sz ep at_ id ln bx r sd tx) := by
 refine conOk_of rfl (nb := 2) Try.func19 rfl rfl Try.ntmps19 rfl rfl rfl fun g0 w0 ac gs ws hg0 hS => ?_
 have hlen1 : r.length ≤ 9223372036854775807 := hS.len 1 rfl
 have hS := hS.sp
 have hf1 : ¬ (sz : Int) = 0 := omm
 have hf2 : ((r.length : Nat) : Int) = 64 := omm
 have hf3 : ((tx.length : Nat) : Int) = 0 := omm
 refine v0 [0, 1, 4, 5] [0, 1] 2 hS fun hS => ?_
 refine wp_seq (vA [(7, .ob false), (12, .ob false)] trivial (fun _ => [(decide ((sz : Int) = 0)) = false, (!decide (((r.length : Nat) : Int) = 64)) = false]) [0, 1, 4, 5, 23] [0, 1] 2 ⟨decide_eq_false hf1, by rw [decide_eq_true hf2]; rfl, trivial⟩ hS fun hS => ?_)
 refine cond_f hS ?_
 refine wp_skip (then_n (vA [(4, .oi ((2 * ep : Nat) : Int))] trivial (fun _ => [imul .i64 2 (ep : Int) = ((2 * ep : Nat) : Int)]) [0, 1, 4, 5, 6] [0, 1] 2 ⟨by rw [imul64 omm omm]; omega, trivial⟩ hS fun hS => ?_))
 refine wp_seq (v0 [0, 1, 4, 5, 6, 32] [0, 1] 2 hS fun hS => ?_)
 refine wp_block (v0 [0, 1, 4, 5, 6, 32, 33] [0, 1] 2 hS fun hS => ?_)
 refine cond_f hS ?_
 refine v0 [0, 1, 4, 5, 6, 35] [0, 1] 2 hS fun hS => ?_
 refine cond_f hS ?_
 refine wp_skip (block_n (then_n (wp_seq (vA [(5, .ob true)] trivial (fun _ => [(decide (((tx.length : Nat) : Int) = 0)) = true]) [0, 1, 4, 5, 6, 44] [0, 1] 2 ⟨decide_eq_true hf3, trivial⟩ hS fun hS => ?_))))
 refine cond_t hS ?_
 refine uA [(2, .call ⟨49, (c_rkeysf sz ep at_ id ln bx r sd tx), [(0, 0), (1, 1)], []⟩)] ⟨rkeysf_ok _ _ _ _ _ _ _ _ _ lnn, trivial⟩ (fun C => [ndC C 2]) [0, 4, 5, 6] [0, 1] 2 ⟨rfl, trivial⟩ hS fun hS => ?_
 refine then_n (wp_seq ?_)
 have hkl := keys_len (r.take 32) (r.drop 32) (by rw [List.length_drop]; omega)
 refine uA [(9, .call ⟨50, (c_split (2 * ep) ((keys_m (r.take 32) (r.drop 32)).1) sz), [], [(0, 2)]⟩)] ⟨split_ok _ _ _ omm lnn omm, trivial⟩ (fun C => [ndC C 9]) [0, 4, 5, 7] [0, 1, 2] 3 ⟨rfl, trivial⟩ hS fun hS => ?_
 refine then_n (wp_seq ?_)
 have hcb := cntb (ln := ((keys_m (r.take 32) (r.drop 32)).1).length) (sz := sz) omm omm
 have hsl := spl_len (2 * ep) ((keys_m (r.take 32) (r.drop 32)).1) sz
 have hix : at_ % (split_m (2 * ep) ((keys_m (r.take 32) (r.drop 32)).1) sz).length < (split_m (2 * ep) ((keys_m (r.take 32) (r.drop 32)).1) sz).length := Nat.mod_lt _ omm
 have hRow := spl_row (2 * ep) ((keys_m (r.take 32) (r.drop 32)).1) sz _ hix
 have hdl := spl_dl (xs := ((keys_m (r.take 32) (r.drop 32)).1)) (sz := sz) (i := at_ % (split_m (2 * ep) ((keys_m (r.take 32) (r.drop 32)).1) sz).length) omm (by rw [← hsl]; exact hix)
 refine uA [(7, .oi ((at_ % ((split_m (2 * ep) ((keys_m (r.take 32) (r.drop 32)).1) sz).length) : Nat) : Int)), (9, .ov (.ag (chain [vi ((2 * ep : Nat) : Int), vi (((at_ % ((split_m (2 * ep) ((keys_m (r.take 32) (r.drop 32)).1) sz).length)) : Nat) : Int), vi (((split_m (2 * ep) ((keys_m (r.take 32) (r.drop 32)).1) sz).length : Nat) : Int), lb ((((keys_m (r.take 32) (r.drop 32)).1).drop ((at_ % ((split_m (2 * ep) ((keys_m (r.take 32) (r.drop 32)).1) sz).length)) * sz)).take sz)])))] trivial (fun _ => [irem (at_ : Int) (((split_m (2 * ep) ((keys_m (r.take 32) (r.drop 32)).1) sz).length : Nat) : Int) = ((at_ % ((split_m (2 * ep) ((keys_m (r.take 32) (r.drop 32)).1) sz).length) : Nat) : Int), ((((split_m (2 * ep) ((keys_m (r.take 32) (r.drop 32)).1) sz).length : Nat) : Int) : Int) ≠ 0, (0 : Int) ≤ ((at_ % ((split_m (2 * ep) ((keys_m (r.take 32) (r.drop 32)).1) sz).length) : Nat) : Int) ∧ ((at_ % ((split_m (2 * ep) ((keys_m (r.take 32) (r.drop 32)).1) sz).length) : Nat) : Int) < (((split_m (2 * ep) ((keys_m (r.take 32) (r.drop 32)).1) sz).length : Nat) : Int), (.ag (chain [vi (((split_m (2 * ep) ((keys_m (r.take 32) (r.drop 32)).1) sz).getD (at_ % ((split_m (2 * ep) ((keys_m (r.take 32) (r.drop 32)).1) sz).length)) (rz [.int .i64, .int .i64, .int .i64, .sl (.int .u8)])).1), vi ((((split_m (2 * ep) ((keys_m (r.take 32) (r.drop 32)).1) sz).getD (at_ % ((split_m (2 * ep) ((keys_m (r.take 32) (r.drop 32)).1) sz).length)) (rz [.int .i64, .int .i64, .int .i64, .sl (.int .u8)])).2).1), vi (((((split_m (2 * ep) ((keys_m (r.take 32) (r.drop 32)).1) sz).getD (at_ % ((split_m (2 * ep) ((keys_m (r.take 32) (r.drop 32)).1) sz).length)) (rz [.int .i64, .int .i64, .int .i64, .sl (.int .u8)])).2).2).1), lb (((((split_m (2 * ep) ((keys_m (r.take 32) (r.drop 32)).1) sz).getD (at_ % ((split_m (2 * ep) ((keys_m (r.take 32) (r.drop 32)).1) sz).length)) (rz [.int .i64, .int .i64, .int .i64, .sl (.int .u8)])).2).2).2)]) : D) = .ag (chain [vi ((2 * ep : Nat) : Int), vi (((at_ % ((split_m (2 * ep) ((keys_m (r.take 32) (r.drop 32)).1) sz).length)) : Nat) : Int), vi (((split_m (2 * ep) ((keys_m (r.take 32) (r.drop 32)).1) sz).length : Nat) : Int), lb ((((keys_m (r.take 32) (r.drop 32)).1).drop ((at_ % ((split_m (2 * ep) ((keys_m (r.take 32) (r.drop 32)).1) sz).length)) * sz)).take sz)])]) [0, 4, 5, 9] [0, 1, 3] 4 ⟨by rw [irem64 omm]; exact (Int.natCast_emod _ _).symm, by omega, by omega, (by first | (rw [hRow]; done) | (rw [hRow]; rfl)), trivial⟩ hS fun hS => ?_
 refine then_n (vA [(4, .oi ((at_ + 1 : Nat) : Int))] trivial (fun _ => [iadd .i64 (at_ : Int) 1 = ((at_ + 1 : Nat) : Int)]) [4, 5, 9] [0, 1, 3] 4 ⟨by rw [iadd64 omm omm]; omega, trivial⟩ hS fun hS => ?_)
 refine vA [(1, .call ⟨51, (c_encodey (2 * ep) (at_ % ((split_m (2 * ep) ((keys_m (r.take 32) (r.drop 32)).1) sz).length)) ((split_m (2 * ep) ((keys_m (r.take 32) (r.drop 32)).1) sz).length) ((((keys_m (r.take 32) (r.drop 32)).1).drop ((at_ % ((split_m (2 * ep) ((keys_m (r.take 32) (r.drop 32)).1) sz).length)) * sz)).take sz)), [], []⟩)] ⟨encodey_ok _ _ _ _ omm omm, trivial⟩ (fun C => [ndC C 1]) [4, 5] [0, 1] 4 ⟨rfl, trivial⟩ hS fun hS => ?_
 refine wp_ret ?_
 exact fin_y rfl (.inr rfl) hS [lb (encB (2 * ep) (at_ % ((split_m (2 * ep) ((keys_m (r.take 32) (r.drop 32)).1) sz).length)) ((split_m (2 * ep) ((keys_m (r.take 32) (r.drop 32)).1) sz).length) ((((keys_m (r.take 32) (r.drop 32)).1).drop ((at_ % ((split_m (2 * ep) ((keys_m (r.take 32) (r.drop 32)).1) sz).length)) * sz)).take sz)), vi 0] [(0, some (.ob 77 (chain [vi (sz : Int), vi 1, vi (ep : Int), vi ((at_ + 1 : Nat) : Int), lb r, lb ((keys_m (r.take 32) (r.drop 32)).1), .cp 1 0, .v (.slice none 0 0)]))), (1, some (.ob 135 (chain [vi (id : Int), vi (sz : Int), vi (ln : Int), .ls true [.os (.int .u8)] bx])))] rfl ⟨rfl, rfl, trivial⟩

def c_outn (r : List Int) : Con := ⟨[.v (.pointer none), lb r], [], .tu (chain [.v (.slice none 0 0), vi 1]), []⟩
theorem outn_ok (r : List Int) : ConOk Try.prog 19 (c_outn r) := by
 refine conOk_of rfl (nb := 0) Try.func19 rfl rfl Try.ntmps19 rfl rfl rfl fun g0 w0 ac gs ws hg0 hS => ?_
 have hlen1 : r.length ≤ 9223372036854775807 := hS.len 1 rfl
 have hS := hS.sp
 refine s0 [0, 1, 4, 5] [] 0 hS fun hS => ?_
 refine wp_seq (s0 [0, 1, 4, 5, 23] [] 0 hS fun hS => ?_)
 refine cond_t hS ?_
 refine s0 [0, 1, 4, 5] [] 0 hS fun hS => ?_
 refine wp_ret (then_ret ?_)
 exact fin_y rfl (.inr rfl) hS [.v (.slice none 0 0), vi 1] [] rfl trivial

def c_outt (sz ep : Nat) (at_ id ln : Nat) (bx : List (Option (List Int))) (r : List Int) : Con := ⟨[.cp 0 0, lb r], [(0, .ob 77 (chain [vi (sz : Int), vi 2, vi (ep : Int), vi (at_ : Int), .v (.slice none 0 0), .v (.slice none 0 0), .cp 1 0, .v (.slice none 0 0)])), (1, .ob 135 (chain [vi (id : Int), vi (sz : Int), vi (ln : Int), .sk 2])), (2, .sl 22 [.os (.int .u8)] bx)], .tu (chain [.v (.slice none 0 0), vi 0]), [(0, .ob 77 (chain [vi (sz : Int), vi 2, vi (ep : Int), vi (at_ : Int), .v (.slice none 0 0), .v (.slice none 0 0), .cp 1 0, .v (.slice none 0 0)])), (1, .ob 135 (chain [vi (id : Int), vi (sz : Int), vi (ln : Int), .sk 2])), (2, .sl 22 [.os (.int .u8)] bx)]⟩
theorem outt_ok (sz ep : Nat) (at_ id ln : Nat) (bx : List (Option (List Int))) (r : List Int) (hr : r.length = 64) (hz : 1 ≤ sz ∧ sz ≤ 1000) (he : ep ≤ 500000000) (ha : at_ ≤ 1000000000) : ConOk Try.prog 19 (c_outt sz ep at_ id ln bx r) := by
 refine conOk_of rfl (nb := 3) Try.func19 rfl rfl Try.ntmps19 rfl rfl rfl fun g0 w0 ac gs ws hg0 hS => ?_
 have hlen1 : r.length ≤ 9223372036854775807 := hS.len 1 rfl
 have hlenk2 : bx.length ≤ 9223372036854775807 := hS.lens 2 rfl
 have hS := hS.sp
 have hf1 : ¬ (sz : Int) = 0 := omm
 have hf2 : ((r.length : Nat) : Int) = 64 := omm
 refine v0 [0, 1, 4, 5] [0, 1, 2] 3 hS fun hS => ?_
 refine wp_seq (vA [(7, .ob false), (12, .ob false)] trivial (fun _ => [(decide ((sz : Int) = 0)) = false, (!decide (((r.length : Nat) : Int) = 64)) = false]) [0, 1, 4, 5, 23] [0, 1, 2] 3 ⟨decide_eq_false hf1, by rw [decide_eq_true hf2]; rfl, trivial⟩ hS fun hS => ?_)
 refine cond_f hS ?_
 refine wp_skip (then_n (vA [(4, .oi ((2 * ep : Nat) : Int))] trivial (fun _ => [imul .i64 2 (ep : Int) = ((2 * ep : Nat) : Int)]) [0, 1, 4, 5, 6] [0, 1, 2] 3 ⟨by rw [imul64 omm omm]; omega, trivial⟩ hS fun hS => ?_))
 refine wp_seq (v0 [0, 1, 4, 5, 6, 32] [0, 1, 2] 3 hS fun hS => ?_)
 refine wp_block (v0 [0, 1, 4, 5, 6, 32, 33] [0, 1, 2] 3 hS fun hS => ?_)
 refine cond_t hS ?_
 refine v0 [0, 1, 4, 5, 6] [0, 1, 2] 3 hS fun hS => ?_
 refine wp_ret (block_ret (then_ret ?_))
 exact fin_y rfl (.inr rfl) hS [.v (.slice none 0 0), vi 0] [(0, some (.ob 77 (chain [vi (sz : Int), vi 2, vi (ep : Int), vi (at_ : Int), .v (.slice none 0 0), .v (.slice none 0 0), .cp 1 0, .v (.slice none 0 0)]))), (1, some (.ob 135 (chain [vi (id : Int), vi (sz : Int), vi (ln : Int), .sk 2]))), (2, some (.sl 22 [.os (.int .u8)] bx))] rfl ⟨rfl, rfl, rfl, trivial⟩

def c_staten : Con := ⟨[.v (.pointer none)], [], vi 0, []⟩
theorem staten_ok : ConOk Try.prog 18 (c_staten) := by
 refine conOk_of rfl (nb := 0) Try.func18 rfl rfl Try.ntmps18 rfl rfl rfl fun g0 w0 ac gs ws hg0 hS => ?_
 have hS := hS.sp
 refine s0 [0, 2] [] 0 hS fun hS => ?_
 refine wp_seq (s0 [0, 2, 4] [] 0 hS fun hS => ?_)
 refine cond_t hS ?_
 refine s0 [0, 2] [] 0 hS fun hS => ?_
 refine wp_ret (then_ret ?_)
 exact fin_y rfl (.inr rfl) hS [vi 0] [] rfl trivial

def c_epochn : Con := ⟨[.v (.pointer none)], [], vi 0, []⟩
theorem epochn_ok : ConOk Try.prog 23 (c_epochn) := by
 refine conOk_of rfl (nb := 0) Try.func23 rfl rfl Try.ntmps23 rfl rfl rfl fun g0 w0 ac gs ws hg0 hS => ?_
 have hS := hS.sp
 refine s0 [0, 2] [] 0 hS fun hS => ?_
 refine wp_seq (s0 [0, 2, 4] [] 0 hS fun hS => ?_)
 refine cond_t hS ?_
 refine s0 [0, 2] [] 0 hS fun hS => ?_
 refine wp_ret (then_ret ?_)
 exact fin_y rfl (.inr rfl) hS [vi 0] [] rfl trivial

def c_secretsn : Con := ⟨[.v (.pointer none)], [], .v (.slice none 0 0), []⟩
theorem secretsn_ok : ConOk Try.prog 22 (c_secretsn) := by
 refine conOk_of rfl (nb := 0) Try.func22 rfl rfl Try.ntmps22 rfl rfl rfl fun g0 w0 ac gs ws hg0 hS => ?_
 have hS := hS.sp
 refine s0 [0, 2] [] 0 hS fun hS => ?_
 refine wp_seq (s0 [0, 2, 4] [] 0 hS fun hS => ?_)
 refine cond_t hS ?_
 refine s0 [0, 2] [] 0 hS fun hS => ?_
 refine wp_ret (then_ret ?_)
 exact fin_y rfl (.inr rfl) hS [.v (.slice none 0 0)] [] rfl trivial

def c_copyn : Con := ⟨[.v (.pointer none)], [], .v (.pointer none), []⟩
theorem copyn_ok : ConOk Try.prog 24 (c_copyn) := by
 refine conOk_of rfl (nb := 0) Try.func24 rfl rfl Try.ntmps24 rfl rfl rfl fun g0 w0 ac gs ws hg0 hS => ?_
 have hS := hS.sp
 refine s0 [0, 2] [] 0 hS fun hS => ?_
 refine wp_seq (s0 [0, 2, 5] [] 0 hS fun hS => ?_)
 refine cond_t hS ?_
 refine s0 [0, 2] [] 0 hS fun hS => ?_
 refine wp_ret (then_ret ?_)
 exact fin_y rfl (.inr rfl) hS [.v (.pointer none)] [] rfl trivial

def c_statet (sz ep : Nat) (at_ id ln : Nat) (bx : List (Option (List Int))) : Con := ⟨[.cp 0 0], [(0, .ob 77 (chain [vi (sz : Int), vi 2, vi (ep : Int), vi (at_ : Int), .v (.slice none 0 0), .v (.slice none 0 0), .cp 1 0, .v (.slice none 0 0)])), (1, .ob 135 (chain [vi (id : Int), vi (sz : Int), vi (ln : Int), .sk 2])), (2, .sl 22 [.os (.int .u8)] bx)], vi 2, [(0, .ob 77 (chain [vi (sz : Int), vi 2, vi (ep : Int), vi (at_ : Int), .v (.slice none 0 0), .v (.slice none 0 0), .cp 1 0, .v (.slice none 0 0)])), (1, .ob 135 (chain [vi (id : Int), vi (sz : Int), vi (ln : Int), .sk 2])), (2, .sl 22 [.os (.int .u8)] bx)]⟩
theorem statet_ok (sz ep : Nat) (at_ id ln : Nat) (bx : List (Option (List Int))) : ConOk Try.prog 18 (c_statet sz ep at_ id ln bx) := by
 refine conOk_of rfl (nb := 3) Try.func18 rfl rfl Try.ntmps18 rfl rfl rfl fun g0 w0 ac gs ws hg0 hS => ?_
 have hlenk2 : bx.length ≤ 9223372036854775807 := hS.lens 2 rfl
 have hS := hS.sp
 refine s0 [0, 2] [0, 1, 2] 3 hS fun hS => ?_
 refine wp_seq (s0 [0, 2, 4] [0, 1, 2] 3 hS fun hS => ?_)
 refine cond_f hS ?_
 refine wp_skip (then_n (s0 [2] [0, 1, 2] 3 hS fun hS => ?_))
 refine wp_ret ?_
 exact fin_y rfl (.inr rfl) hS [vi 2] [(0, some (.ob 77 (chain [vi (sz : Int), vi 2, vi (ep : Int), vi (at_ : Int), .v (.slice none 0 0), .v (.slice none 0 0), .cp 1 0, .v (.slice none 0 0)]))), (1, some (.ob 135 (chain [vi (id : Int), vi (sz : Int), vi (ln : Int), .sk 2]))), (2, some (.sl 22 [.os (.int .u8)] bx))] rfl ⟨rfl, rfl, rfl, trivial⟩

def c_inn (b r : List Int) : Con := ⟨[.v (.pointer none), lb b, lb r], [], vi 1, []⟩
theorem inn_ok (b r : List Int) : ConOk Try.prog 21 (c_inn b r) := by
 refine conOk_of rfl (nb := 0) Try.func21 rfl rfl Try.ntmps21 rfl rfl rfl fun g0 w0 ac gs ws hg0 hS => ?_
 have hlen1 : b.length ≤ 9223372036854775807 := hS.len 1 rfl
 have hlen2 : r.length ≤ 9223372036854775807 := hS.len 2 rfl
 have hS := hS.sp
 refine s0 [0, 1, 2, 6] [] 0 hS fun hS => ?_
 refine wp_seq (s0 [0, 1, 2, 6, 25] [] 0 hS fun hS => ?_)
 refine cond_t hS ?_
 refine s0 [0, 1, 2, 6] [] 0 hS fun hS => ?_
 refine wp_ret (then_ret ?_)
 exact fin_y rfl (.inr rfl) hS [vi 1] [] rfl trivial

def c_inarg (sz ep : Nat) (at_ id ln : Nat) (bx : List (Option (List Int))) : Con := ⟨[.cp 0 0, .v (.slice none 0 0), .v (.slice none 0 0)], [(0, .ob 77 (chain [vi (sz : Int), vi 2, vi (ep : Int), vi (at_ : Int), .v (.slice none 0 0), .v (.slice none 0 0), .cp 1 0, .v (.slice none 0 0)])), (1, .ob 135 (chain [vi (id : Int), vi (sz : Int), vi (ln : Int), .sk 2])), (2, .sl 22 [.os (.int .u8)] bx)], vi 1, [(0, .ob 77 (chain [vi (sz : Int), vi 2, vi (ep : Int), vi (at_ : Int), .v (.slice none 0 0), .v (.slice none 0 0), .cp 1 0, .v (.slice none 0 0)])), (1, .ob 135 (chain [vi (id : Int), vi (sz : Int), vi (ln : Int), .sk 2])), (2, .sl 22 [.os (.int .u8)] bx)]⟩
theorem inarg_ok (sz ep : Nat) (at_ id ln : Nat) (bx : List (Option (List Int))) (hz : 1 ≤ sz ∧ sz ≤ 1000) : ConOk Try.prog 21 (c_inarg sz ep at_ id ln bx) := by
 refine conOk_of rfl (nb := 3) Try.func21 rfl rfl Try.ntmps21 rfl rfl rfl fun g0 w0 ac gs ws hg0 hS => ?_
 have hlenk2 : bx.length ≤ 9223372036854775807 := hS.lens 2 rfl
 have hS := hS.sp
 have hf1 : ¬ (sz : Int) = 0 := omm
 refine v0 [0, 1, 2, 6] [0, 1, 2] 3 hS fun hS => ?_
 refine wp_seq (vA [(7, .ob false)] trivial (fun _ => [(decide ((sz : Int) = 0)) = false]) [0, 1, 2, 6, 25] [0, 1, 2] 3 ⟨decide_eq_false hf1, trivial⟩ hS fun hS => ?_)
 refine cond_t hS ?_
 refine v0 [0, 1, 2, 6] [0, 1, 2] 3 hS fun hS => ?_
 refine wp_ret (then_ret ?_)
 exact fin_y rfl (.inr rfl) hS [vi 1] [(0, some (.ob 77 (chain [vi (sz : Int), vi 2, vi (ep : Int), vi (at_ : Int), .v (.slice none 0 0), .v (.slice none 0 0), .cp 1 0, .v (.slice none 0 0)]))), (1, some (.ob 135 (chain [vi (id : Int), vi (sz : Int), vi (ln : Int), .sk 2]))), (2, some (.sl 22 [.os (.int .u8)] bx))] rfl ⟨rfl, rfl, rfl, trivial⟩

def c_inbad (sz ep : Nat) (at_ id ln : Nat) (bx : List (Option (List Int))) (b r : List Int) : Con := ⟨[.cp 0 0, lb b, lb r], [(0, .ob 77 (chain [vi (sz : Int), vi 2, vi (ep : Int), vi (at_ : Int), .v (.slice none 0 0), .v (.slice none 0 0), .cp 1 0, .v (.slice none 0 0)])), (1, .ob 135 (chain [vi (id : Int), vi (sz : Int), vi (ln : Int), .sk 2])), (2, .sl 22 [.os (.int .u8)] bx)], vi ((((decode_m b).2.2.2.2) : Nat) : Int), [(0, .ob 77 (chain [vi (sz : Int), vi 2, vi (ep : Int), vi (at_ : Int), .v (.slice none 0 0), .v (.slice none 0 0), .cp 1 0, .v (.slice none 0 0)])), (1, .ob 135 (chain [vi (id : Int), vi (sz : Int), vi (ln : Int), .sk 2])), (2, .sl 22 [.os (.int .u8)] bx)]⟩
theorem inbad_ok (sz ep : Nat) (at_ id ln : Nat) (bx : List (Option (List Int))) (b r : List Int) (hz : 1 ≤ sz ∧ sz ≤ 1000) (hr : r.length = 64) (hb : 1 ≤ b.length ∧ b.length ≤ 100000) (hd : 0 < (decode_m b).2.2.2.2) : ConOk Try.prog 21 (c_inbad sz ep at_ id ln bx b r) := by
 refine conOk_of rfl (nb := 3) Try.func21 rfl rfl Try.ntmps21 rfl rfl rfl fun g0 w0 ac gs ws hg0 hS => ?_
 have hlen1 : b.length ≤ 9223372036854775807 := hS.len 1 rfl
 have hlen2 : r.length ≤ 9223372036854775807 := hS.len 2 rfl
 have hlenk2 : bx.length ≤ 9223372036854775807 := hS.lens 2 rfl
 have hS := hS.sp
 have hf1 : ¬ (sz : Int) = 0 := omm
 have hf2 : ((r.length : Nat) : Int) = 64 := omm
 have hf3 : ¬ ((b.length : Nat) : Int) = 0 := omm
 have hf4 : ¬ (((decode_m b).2.2.2.2 : Nat) : Int) = 0 := omm
 refine v0 [0, 1, 2, 6] [0, 1, 2] 3 hS fun hS => ?_
 refine wp_seq (vA [(7, .ob false), (12, .ob false)] trivial (fun _ => [(decide ((sz : Int) = 0)) = false, (!decide (((r.length : Nat) : Int) = 64)) = false]) [0, 1, 2, 6, 25] [0, 1, 2] 3 ⟨decide_eq_false hf1, by rw [decide_eq_true hf2]; rfl, trivial⟩ hS fun hS => ?_)
 refine cond_f hS ?_
 refine wp_skip (then_n (wp_seq (vA [(2, .ob false)] trivial (fun _ => [(decide (((b.length : Nat) : Int) = 0)) = false]) [0, 1, 2, 6, 28] [0, 1, 2] 3 ⟨decide_eq_false hf3, trivial⟩ hS fun hS => ?_)))
 refine cond_f hS ?_
 refine wp_skip (then_n (vA [(1, .call ⟨54, (c_decode b), [], []⟩)] ⟨decode_ok _ lnn, trivial⟩ (fun C => [ndC C 1]) [0, 2, 6, 7, 8] [0, 1, 2, 3] 4 ⟨rfl, trivial⟩ hS fun hS => ?_))
 refine wp_seq (vA [(1, .ob true)] trivial (fun _ => [(!decide ((((decode_m b).2.2.2.2 : Nat) : Int) = 0)) = true]) [0, 2, 6, 7, 8, 35] [0, 1, 2, 3] 4 ⟨by rw [decide_eq_false hf4]; rfl, trivial⟩ hS fun hS => ?_)
 refine cond_t hS ?_
 refine v0 [0, 2, 6, 7] [0, 1, 2, 3] 4 hS fun hS => ?_
 refine wp_ret (then_ret ?_)
 exact fin_y rfl (.inr rfl) hS [vi (((decode_m b).2.2.2.2 : Nat) : Int)] [(0, some (.ob 77 (chain [vi (sz : Int), vi 2, vi (ep : Int), vi (at_ : Int), .v (.slice none 0 0), .v (.slice none 0 0), .cp 1 0, .v (.slice none 0 0)]))), (1, some (.ob 135 (chain [vi (id : Int), vi (sz : Int), vi (ln : Int), .sk 2]))), (2, some (.sl 22 [.os (.int .u8)] bx))] rfl ⟨rfl, rfl, rfl, trivial⟩

end
end Go.Sx.Try
namespace Go.Sx.Try
open Go.Mi Go.RowKit Go.Sx Go.Proofs
noncomputable section
def c_oclone (l : List (Option (List Int))) : Con := ⟨[.ls true [.os (.int .u8)] l], [], .sk 0, [(0, .sl 22 [.os (.int .u8)] l)]⟩
theorem oclone_ok (l : List (Option (List Int))) (h : l.length ≤ 100000000) : ConOk Try.prog 95 (c_oclone l) := by
 refine conOk_of rfl (nb := 0) Try.func95 rfl rfl Try.ntmps95 rfl rfl rfl fun g0 w0 ac gs ws hg0 hS => ?_
 have hlen0 : l.length ≤ 9223372036854775807 := hS.len 0 rfl
 have hS := hS.sp
 refine v0 [0, 2] [] 0 hS fun hS => ?_
 refine wp_seq (v0 [0, 2, 4] [] 0 hS fun hS => ?_)
 refine cond_f hS ?_
 refine wp_skip (then_n (vA [(0, .own)] trivial (fun _ => [([] : List (RT [.os (.int .u8)])).length + l.length ≤ 9223372036854775807, (([] : List (RT [.os (.int .u8)])).length + l.length) * 24 ≤ 140737488355328]) [2] [1] 2 ⟨by simp <;> omega, by simp <;> omega, trivial⟩ hS fun hS => ?_))
 refine wp_ret ?_
 obtain ⟨gs, hS⟩ := hS.rn [(0, 1)] [(2, .sk 0)] [(0, .sl 22 [.os (.int .u8)] ([] ++ l))] 1 hg0
 exact fin_y rfl (.inr rfl) hS [.sk 0] [(0, some (.sl 22 [.os (.int .u8)] ([] ++ l)))] rfl ⟨rfl, trivial⟩

def c_bcopyf (sz id ln : Nat) (bx : List (Option (List Int))) : Con := ⟨[.cp 0 0], [(0, .ob 135 (chain [vi (id : Int), vi (sz : Int), vi (ln : Int), .ls true [.os (.int .u8)] bx]))], .cp 1 0, [(0, .ob 135 (chain [vi (id : Int), vi (sz : Int), vi (ln : Int), .ls true [.os (.int .u8)] bx])), (1, .ob 135 (chain [vi (id : Int), vi (sz : Int), vi (ln : Int), .ls true [.os (.int .u8)] bx]))]⟩
theorem bcopyf_ok (sz id ln : Nat) (bx : List (Option (List Int))) (hbl : bx.length ≤ 100000000) (hbn : bx ≠ []) : ConOk Try.prog 58 (c_bcopyf sz id ln bx) := by
 refine conOk_of rfl (nb := 1) Try.func58 rfl rfl Try.ntmps58 rfl rfl rfl fun g0 w0 ac gs ws hg0 hS => ?_
 have hS := hS.sp
 refine v0 [0, 2] [0] 1 hS fun hS => ?_
 refine wp_seq (v0 [0, 2, 5] [0] 1 hS fun hS => ?_)
 refine cond_f hS ?_
 refine wp_skip (then_n (v0 [0, 2, 3] [0, 1] 2 hS fun hS => ?_))
 refine vA [(4, .call ⟨95, (c_oclone bx), [], [(0, 2)]⟩)] ⟨oclone_ok _ lnn, trivial⟩ (fun C => [ndC C 4]) [2, 3] [0, 1, 2] 3 ⟨rfl, trivial⟩ hS fun hS => ?_
 refine v0 [2] [0, 1, 2] 3 hS fun hS => ?_
 refine wp_ret ?_
 obtain ⟨gs, hS⟩ := hS.fy 2 22 [.os (.int .u8)] bx ((show true = true → bx ≠ [] from fun _ => hbn) rfl)
 exact fin_y rfl (.inr rfl) hS [.cp 1 0] [(0, some (.ob 135 (chain [vi (id : Int), vi (sz : Int), vi (ln : Int), .ls true [.os (.int .u8)] bx]))), (1, some (.ob 135 (chain [vi (id : Int), vi (sz : Int), vi (ln : Int), .ls true [.os (.int .u8)] bx])))] rfl ⟨rfl, rfl, trivial⟩

def c_eachn : Con := ⟨[.v (.slice none 0 0), .v .nilFunc], [], .v (.slice none 0 0), []⟩
theorem eachn_ok : ConOk Try.prog 57 (c_eachn) := by
 refine conOk_of rfl (nb := 0) Try.func57 rfl rfl Try.ntmps57 rfl rfl rfl fun g0 w0 ac gs ws hg0 hS => ?_
 have hS := hS.sp
 refine s0 [0, 1, 4] [] 0 hS fun hS => ?_
 refine wp_seq (s0 [0, 1, 4, 8] [] 0 hS fun hS => ?_)
 refine cond_t hS ?_
 refine r0 [0, 1, 4] [] 0 hS fun hS => ?_
 refine then_n (wp_seq (s0 [1, 4, 9, 10, 11] [] 0 hS fun hS => ?_))
 refine wp_block (wp_loop_rounds 1 ?_)
 refine rounds_s (n := 0) ?_
 refine s0 [1, 4, 9, 11, 12] [] 0 hS fun hS => ?_
 refine wp_seq (cond_f hS ?_)
 refine wp_exit (then_exit (then_exit (block_exit (then_n (s0 [4] [] 0 hS fun hS => ?_)))))
 refine wp_ret ?_
 exact fin_y rfl (.inr rfl) hS [.v (.slice none 0 0)] [] rfl trivial

def c_copyg (sz ep : Nat) (at_ id ln : Nat) (bx : List (Option (List Int))) (sd tx : List Int) : Con := ⟨[.cp 0 0], [(0, .ob 77 (chain [vi (sz : Int), vi 1, vi (ep : Int), vi (at_ : Int), lb sd, lb tx, .cp 1 0, .v (.slice none 0 0)])), (1, .ob 135 (chain [vi (id : Int), vi (sz : Int), vi (ln : Int), .ls true [.os (.int .u8)] bx]))], .cp 2 0, [(0, .ob 77 (chain [vi (sz : Int), vi 1, vi (ep : Int), vi (at_ : Int), lb sd, lb tx, .cp 1 0, .v (.slice none 0 0)])), (1, .ob 135 (chain [vi (id : Int), vi (sz : Int), vi (ln : Int), .ls true [.os (.int .u8)] bx])), (2, .ob 77 (chain [vi (sz : Int), vi 1, vi (ep : Int), vi (at_ : Int), lb sd, lb tx, .cp 3 0, .v (.slice none 0 0)])), (3, .ob 135 (chain [vi (id : Int), vi (sz : Int), vi (ln : Int), .ls true [.os (.int .u8)] bx]))]⟩
theorem copyg_ok (sz ep : Nat) (at_ id ln : Nat) (bx : List (Option (List Int))) (sd tx : List Int) (hbl : bx.length ≤ 100000000) (hbn : bx ≠ []) : ConOk Try.prog 24 (c_copyg sz ep at_ id ln bx sd tx) := by
 refine conOk_of rfl (nb := 2) Try.func24 rfl rfl Try.ntmps24 rfl rfl rfl fun g0 w0 ac gs ws hg0 hS => ?_
 have hS := hS.sp
 refine v0 [0, 2] [0, 1] 2 hS fun hS => ?_
 refine wp_seq (v0 [0, 2, 5] [0, 1] 2 hS fun hS => ?_)
 refine cond_f hS ?_
 refine wp_skip (then_n (v0 [0, 2, 3] [0, 1, 2] 3 hS fun hS => ?_))
 refine vA [(4, .call ⟨57, (c_eachn), [], []⟩)] ⟨eachn_ok, trivial⟩ (fun C => [ndC C 4]) [0, 2, 3] [0, 1, 2] 3 ⟨rfl, trivial⟩ hS fun hS => ?_
 refine vA [(4, .call ⟨58, (c_bcopyf sz id ln bx), [(0, 1)], [(1, 3)]⟩)] ⟨bcopyf_ok _ _ _ _ lnn asm, trivial⟩ (fun C => [ndC C 4]) [2, 3] [0, 1, 2, 3] 4 ⟨rfl, trivial⟩ hS fun hS => ?_
 refine v0 [2] [0, 1, 2, 3] 4 hS fun hS => ?_
 refine wp_ret ?_
 exact fin_y rfl (.inr rfl) hS [.cp 2 0] [(0, some (.ob 77 (chain [vi (sz : Int), vi 1, vi (ep : Int), vi (at_ : Int), lb sd, lb tx, .cp 1 0, .v (.slice none 0 0)]))), (1, some (.ob 135 (chain [vi (id : Int), vi (sz : Int), vi (ln : Int), .ls true [.os (.int .u8)] bx]))), (2, some (.ob 77 (chain [vi (sz : Int), vi 1, vi (ep : Int), vi (at_ : Int), lb sd, lb tx, .cp 3 0, .v (.slice none 0 0)]))), (3, some (.ob 135 (chain [vi (id : Int), vi (sz : Int), vi (ln : Int), .ls true [.os (.int .u8)] bx])))] rfl ⟨rfl, rfl, rfl, rfl, trivial⟩

end
end Go.Sx.Try
namespace Go.Sx.Try
open Go.Mi Go.RowKit Go.Sx Go.Proofs
noncomputable section
def rexp6_l1_s (k xs : List Int) (k1 : Nat) : (Nat × (List Int) × (List Int)) → (Nat × (List Int) × (List Int)) := fun z_ => match z_ with | (x9, x7, x8) => (x9 + 1, x7 ++ (rmac_m k (rcat_m [x8, xs, [(IntKind.wrap .u8 ((x9 : Nat) : Int))]])), rmac_m k (rcat_m [x8, xs, [(IntKind.wrap .u8 ((x9 : Nat) : Int))]]))
def rexp6_l1 (k xs : List Int) : Nat → Nat × (List Int) × (List Int)
 | 0 => (1, [], [])
 | k1 + 1 => rexp6_l1_s k xs k1 (rexp6_l1 k xs k1)
def rexp6_l1_c (k xs : List Int) : (Nat × (List Int) × (List Int)) → Prop := fun z_ => match z_ with | (x9, x7, x8) => ((x7.length : Nat) : Int) < 64
def rexp6_v (k xs : List Int) : (List Int) := ((rexp6_l1 k xs (lst fun j => rexp6_l1_c k xs (rexp6_l1 k xs j))).2.1).take 64
def rexp6_m (k xs : List Int) : (List Int) := shut (rexp6_v k xs)
theorem rexp6_e (k xs : List Int) : rexp6_m k xs = rexp6_v k xs := shut_eq _
def c_rexp6 (k xs : List Int) : Con := ⟨[lb k, lb xs, vi 64], [], lb (rexp6_m k xs), []⟩
theorem rexp6_ok (k xs : List Int) (hk : k.length ≤ 64) (hx : xs.length ≤ 100) : ConOk Try.prog 87 (c_rexp6 k xs) := by
 refine conOk_of rfl (nb := 0) Try.func87 rfl rfl Try.ntmps87 rfl rfl rfl fun g0 w0 ac gs ws hg0 hS => ?_
 have hlen0 : k.length ≤ 9223372036854775807 := hS.len 0 rfl
 have hlen1 : xs.length ≤ 9223372036854775807 := hS.len 1 rfl
 have hS := hS.sp
 refine s0 [0, 1, 2, 6] [] 0 hS fun hS => ?_
 refine wp_seq (s0 [0, 1, 2, 6, 15] [] 0 hS fun hS => ?_)
 refine cond_f hS ?_
 refine wp_skip (then_n (s0 [0, 1, 2, 6, 7, 8] [] 0 hS fun hS => ?_))
 refine wp_seq (s0 [0, 1, 2, 6, 7, 8, 9] [] 0 hS fun hS => ?_)
 refine wp_block ?_
 obtain ⟨gs, hS⟩ := hS.nilk 7 5 [.int .u8]
 have hS := hS.wk 8 (lb [])
 refine loop_y (ι := Nat × Nat × (List Int) × (List Int)) hg0 hS (fun z_ => match z_ with | (k1, x9, x7, x8) => 64 - x7.length) (fun z_ => match z_ with | (k1, x9, x7, x8) => [(0, lb k), (1, lb xs), (2, vi 64), (6, .v (.slice none 0 0)), (7, .sk 0), (8, lb x8), (9, vi ((x9 : Nat) : Int))]) (fun z_ => match z_ with | (k1, x9, x7, x8) => [(0, .sl 5 [.int .u8] x7)]) (fun z_ => match z_ with | (k1, x9, x7, x8) => ((x9, x7, x8) = rexp6_l1 k xs k1) ∧ (∀ j, j < k1 → rexp6_l1_c k xs (rexp6_l1 k xs j)) ∧ (x7.length ≤ 96 ∧ x8.length ≤ 32 ∧ x9 ≤ 1 + x7.length) ∧ True) 1 (0, 1, [], []) [(0, 0)] ⟨rfl, (fun j h => absurd h (Nat.not_lt_zero j)), (by simp), trivial⟩ ?_
 rintro ⟨k1, x9, x7, x8⟩ ac gs ws ⟨hq1, hj1, p5, _⟩ hS
 refine wp_seq (s0 [0, 1, 2, 6, 7, 8, 9, 19] [0] 1 hS fun hS => ?_)
 refine if_d (((x7.length : Nat) : Int) < 64) hS (fun h1 => ?_) (fun h1 => ?_)
 ·refine wp_skip (then_n (wp_seq (wp_block (sA [(7, .call ⟨26, (c_rcatf [x8, xs, [(IntKind.wrap .u8 (x9 : Int))]]), [], []⟩), (8, .call ⟨88, (c_rmac k (rcat_m [x8, xs, [(IntKind.wrap .u8 (x9 : Int))]])), [], []⟩)] ⟨rcatf_ok _ lnn (fm_getD (by repeat (first | exact fm_nil | (apply fm_cons; focus (first | omega | (simp <;> omega)))))), rmac_ok _ _ lnn lnn, trivial⟩ (fun C => [ndC C 7, ndC C 8]) [0, 1, 2, 6, 7, 8, 9] [0] 1 ⟨rfl, rfl, trivial⟩ hS fun hS => ?_))))
  refine rA [] trivial (fun _ => [x7.length + (rmac_m k (rcat_m [x8, xs, [(IntKind.wrap .u8 (x9 : Int))]])).length ≤ 9223372036854775807, (x7.length + (rmac_m k (rcat_m [x8, xs, [(IntKind.wrap .u8 (x9 : Int))]])).length) * 1 ≤ 140737488355328]) [0, 1, 2, 6, 7, 8, 9] [1] 2 ⟨by simp <;> omega, by simp <;> omega, trivial⟩ hS fun hS => ?_
  refine block_n (then_n (rA [(1, .oi ((x9 + 1 : Nat) : Int))] trivial (fun _ => [iadd .i64 (x9 : Int) 1 = ((x9 + 1 : Nat) : Int)]) [0, 1, 2, 6, 7, 8, 9] [1] 2 ⟨by rw [iadd64 omm omm]; omega, trivial⟩ hS fun hS => ?_))
  refine then_n ?_
  exact next_y hg0 hS (s := (k1, x9, x7, x8)) (k1 + 1, x9 + 1, x7 ++ (rmac_m k (rcat_m [x8, xs, [(IntKind.wrap .u8 (x9 : Int))]])), rmac_m k (rcat_m [x8, xs, [(IntKind.wrap .u8 (x9 : Int))]])) [(0, 1)] (by show 64 - (x7 ++ _).length < 64 - x7.length; rw [List.length_append, rmac_len]; omega) ⟨(it_next (F := rexp6_l1 k xs) (st := rexp6_l1_s k xs) (fun _ => rfl) hq1 rfl), (lst_next hj1 (by rw [← hq1]; exact h1)), (by rw [List.length_append, rmac_len]; omega), trivial⟩
 ·have hScur := hS
  obtain rfl := lst_eq (P := fun j => rexp6_l1_c k xs (rexp6_l1 k xs j)) (by rw [← hq1]; first | exact h1 | exact not_not_intro h1) hj1
  obtain rfl : (rexp6_l1 k xs (lst fun j => rexp6_l1_c k xs (rexp6_l1 k xs j))).1 = x9 := Eq.symm (congrArg (fun z => z.1) hq1)
  obtain rfl : (rexp6_l1 k xs (lst fun j => rexp6_l1_c k xs (rexp6_l1 k xs j))).2.1 = x7 := Eq.symm (congrArg (fun z => z.2.1) hq1)
  obtain rfl : (rexp6_l1 k xs (lst fun j => rexp6_l1_c k xs (rexp6_l1 k xs j))).2.2 = x8 := Eq.symm (congrArg (fun z => z.2.2) hq1)
  have hS := hScur
  clear hScur
  refine wp_exit (then_exit (then_exit (block_exit (then_n (wp_seq ?_)))))
  obtain ⟨gs, hS⟩ := hS.fz 0
  refine rA [] trivial (fun _ => [bndP none (some 64) none ((rexp6_l1 k xs (lst fun j => rexp6_l1_c k xs (rexp6_l1 k xs j))).2.1).length ((rexp6_l1 k xs (lst fun j => rexp6_l1_c k xs (rexp6_l1 k xs j))).2.1).length]) [6] [] 1 ⟨⟨by simp only [nnI] <;> omega, by simp only [nnI] <;> omega, by simp only [nnI] <;> omega, by simp, by simp only [bl] <;> omega, by simp only [bl] <;> omega, by simp only [bl] <;> omega⟩, trivial⟩ hS fun hS => ?_
  refine then_n (wp_ret ?_)
  have hM : rexp6_m k xs = ((rexp6_l1 k xs (lst fun j => rexp6_l1_c k xs (rexp6_l1 k xs j))).2.1).take 64 := rexp6_e k xs
  exact fin_y rfl (.inr rfl) hS [lb (((rexp6_l1 k xs (lst fun j => rexp6_l1_c k xs (rexp6_l1 k xs j))).2.1).take 64)] [] (by show weak _ (lb (rexp6_m k xs)) = (lb (rexp6_m k xs)); rw [hM]; first | (simp only []; rfl) | (simp only []; done) | rfl) trivial

def rder6_v (k xs : List Int) : (List Int) := rexp6_m (rmac_m ([] : List Int) k) xs
def rder6_m (k xs : List Int) : (List Int) := shut (rder6_v k xs)
theorem rder6_e (k xs : List Int) : rder6_m k xs = rder6_v k xs := shut_eq _
def c_rder6 (k xs : List Int) : Con := ⟨[.v (.slice none 0 0), lb k, lb xs, vi 64], [], lb (rder6_m k xs), []⟩
theorem rder6_ok (k xs : List Int) (hk : k.length ≤ 900) (hx : xs.length ≤ 100) : ConOk Try.prog 52 (c_rder6 k xs) := by
 refine conOk_of rfl (nb := 0) Try.func52 rfl rfl Try.ntmps52 rfl rfl rfl fun g0 w0 ac gs ws hg0 hS => ?_
 have hlen1 : k.length ≤ 9223372036854775807 := hS.len 1 rfl
 have hlen2 : xs.length ≤ 9223372036854775807 := hS.len 2 rfl
 have hS := hS.sp
 refine s0 [0, 1, 2, 3, 8] [] 0 hS fun hS => ?_
 refine sA [(2, .call ⟨88, (c_rmac [] k), [], []⟩), (5, .call ⟨87, (c_rexp6 (rmac_m ([] : List Int) k) xs), [], []⟩)] ⟨rmac_ok _ _ lnn lnn, rexp6_ok _ _ lnn lnn, trivial⟩ (fun C => [ndC C 2, ndC C 5]) [8] [] 0 ⟨rfl, rfl, trivial⟩ hS fun hS => ?_
 refine wp_ret ?_
 have hM : rder6_m k xs = rexp6_m (rmac_m ([] : List Int) k) xs := rder6_e k xs
 exact fin_y rfl (.inr rfl) hS [lb (rexp6_m (rmac_m ([] : List Int) k) xs)] [] (by show weak _ (lb (rder6_m k xs)) = (lb (rder6_m k xs)); rw [hM]; first | (simp only []; rfl) | (simp only []; done) | rfl) trivial

theorem rexp6_len (k xs : List Int) : (rexp6_m k xs).length = 64 := by
 have key : ∀ j, (rexp6_l1 k xs j).2.1.length = 32 * j := by
  intro j
  induction j with
  | zero => rfl
  | succ j ih =>
   show (rexp6_l1_s k xs j (rexp6_l1 k xs j)).2.1.length = _
   generalize rexp6_l1 k xs j = z at ih ⊢
   obtain ⟨a, b, c⟩ := z
   show (b ++ rmac_m _ _).length = _
   rw [List.length_append, rmac_len]
   have ih : b.length = 32 * j := ih
   omega
 have hc : ∀ j, rexp6_l1_c k xs (rexp6_l1 k xs j) ↔ 32 * j < 64 := by
  intro j
  have hj := key j
  generalize rexp6_l1 k xs j = z at hj ⊢
  obtain ⟨a, b, c⟩ := z
  show ((b.length : Nat) : Int) < 64 ↔ _
  have hj : b.length = 32 * j := hj
  omega
 have hl : 2 = lst fun j => rexp6_l1_c k xs (rexp6_l1 k xs j) := lst_eq (P := fun j => rexp6_l1_c k xs (rexp6_l1 k xs j)) (fun h => absurd ((hc 2).1 h) (by decide)) (fun j hj => (hc j).2 omm)
 rw [rexp6_e]; unfold rexp6_v
 rw [← hl, List.length_take, key]; rfl
@[simp] theorem rder6_len (k xs : List Int) : (rder6_m k xs).length = 64 := by rw [rder6_e]; exact rexp6_len ..
theorem dec1e : (decode_m [1]).2.2.2.2 = 2 := by
 have h1 : numB (numV [1]).2 = false := by decide
 have h2 : dc1_k [1] = false := by
  rw [dc1_ke]; unfold dc1_kv
  rw [h1]; simp
 have h3 : rdp_k [1] = false := by
  rw [rdp_ke]; unfold rdp_kv
  rw [h2]; simp
 rw [decode_e]; unfold decode_v
 rw [h3]; simp
theorem dec1 : 0 < (decode_m [1]).2.2.2.2 := by rw [dec1e]; decide
def c_rbigf (v : Int) (n : Nat) : Con := ⟨[.v (.int .u64 v), vi (n : Int)], [], lb (rbig_m v n), []⟩
theorem rbigf_ok (v : Int) (n : Nat) (hn : n ≤ 1000) : ConOk Try.prog 53 (c_rbigf v n) := ConOk.frz [] 0 5 [.int .u8] (rbig_m v n) (rbig_ok v n hn) (by kernel_rfl)
def draw_v (n : Int) : (List Int) := rder6_m [100, 114, 97, 119] (rbig_m (IntKind.wrap .u64 n) 8)
def draw_m (n : Int) : (List Int) := shut (draw_v n)
theorem draw_e (n : Int) : draw_m n = draw_v n := shut_eq _
@[simp] theorem draw_len (n : Int) : (draw_m n).length = 64 := by rw [draw_e]; exact rder6_len ..
def c_draw (n : Int) : Con := ⟨[vi n], [], lb (draw_m n), []⟩
theorem draw_ok (n : Int) : ConOk Try.prog 20 (c_draw n) := by
 refine conOk_of rfl (nb := 0) Try.func20 rfl rfl Try.ntmps20 rfl rfl rfl fun g0 w0 ac gs ws hg0 hS => ?_
 have hS := hS.sp
 refine s0 [0, 2] [] 0 hS fun hS => ?_
 refine sA [(0, .own), (4, .call ⟨53, (c_rbigf (IntKind.wrap .u64 n) 8), [], []⟩), (5, .call ⟨52, (c_rder6 [100, 114, 97, 119] (rbig_m (IntKind.wrap .u64 n) 8)), [], []⟩)] ⟨rbigf_ok _ _ omm, rder6_ok _ _ lnn lnn, trivial⟩ (fun C => [0 < [100, 114, 97, 119].length, ndC C 4, ndC C 5]) [2] [] 1 ⟨by decide, rfl, rfl, trivial⟩ hS fun hS => ?_
 refine wp_ret ?_
 have hM : draw_m n = rder6_m [100, 114, 97, 119] (rbig_m (IntKind.wrap .u64 n) 8) := draw_e n
 exact fin_y rfl (.inr rfl) hS [lb (rder6_m [100, 114, 97, 119] (rbig_m (IntKind.wrap .u64 n) 8))] [] (by show weak _ (lb (draw_m n)) = (lb (draw_m n)); rw [hM]; first | (simp only []; rfl) | (simp only []; done) | rfl) trivial

def awake22_v : Bool := if ((((decode_m [1]).2.2.2.2) : Nat) : Int) = 2 then true else false
def awake22_m : Bool := shut (awake22_v)
theorem awake22_e : awake22_m = awake22_v := shut_eq _
def c_awake22 : Con := ⟨[], [], .v (.bool awake22_m), []⟩
theorem awake22_ok : ConOk Try.prog 16 (c_awake22) := by
 refine conOk_of rfl (nb := 0) Try.func16 rfl rfl Try.ntmps16 rfl rfl rfl fun g0 w0 ac gs ws hg0 hS => ?_
 have hS := hS.sp
 refine v0 [0] [] 0 hS fun hS => ?_
 refine vA [(0, .call ⟨17, (c_newt 500), [], [(0, 0), (1, 1), (2, 2)]⟩)] ⟨newt_ok _ omm, trivial⟩ (fun C => [ndC C 0]) [0, 1, 2] [0, 1, 2] 3 ⟨rfl, trivial⟩ hS fun hS => ?_
 refine vA [(0, .call ⟨17, (c_newbad true 9), [], []⟩)] ⟨newbad_ok _ _ omm, trivial⟩ (fun C => [ndC C 0]) [0, 1, 2, 4] [0, 1, 2] 3 ⟨rfl, trivial⟩ hS fun hS => ?_
 refine wp_seq (v0 [0, 1, 24] [0, 1, 2] 3 hS fun hS => ?_)
 refine cond_f hS ?_
 refine wp_skip (then_n (vB [(1, .mf)] [(2, .call ⟨19, (c_outt 500 0 0 (2 * 0) 1184 (List.replicate (((1184 + 500) - 1) / 500) none) (List.replicate 64 (0 : Int))), [(0, 0), (1, 1), (2, 2)], []⟩)] ⟨outt_ok _ _ _ _ _ _ _ lnn omm omm omm, trivial⟩ (fun C => [(64 : Int) = 64, (0 : Int) ≤ 64, 1 * 64 ≤ 281474976710656, (64 : Int) ≤ 9223372036854775807, ndC C 2]) [0, 1, 5, 6] [0, 1, 2] 3 ⟨rfl, by omega, by omega, by omega, rfl, trivial⟩ hS fun hS => ?_))
 refine wp_seq ?_
 by_cases h1 : ((((decode_m [1]).2.2.2.2) : Nat) : Int) = 2
 ·refine uB [(15, .mf)] [(9, .call ⟨18, (c_statet 500 0 0 (2 * 0) 1184 (List.replicate (((1184 + 500) - 1) / 500) none)), [(0, 0), (1, 1), (2, 2)], []⟩), (16, .call ⟨21, (c_inbad 500 0 0 (2 * 0) 1184 (List.replicate (((1184 + 500) - 1) / 500) none) [1] (List.replicate 64 (0 : Int))), [(0, 0), (1, 1), (2, 2)], []⟩), (17, .ob true), (21, .call ⟨21, (c_inarg 500 0 0 (2 * 0) 1184 (List.replicate (((1184 + 500) - 1) / 500) none)), [(0, 0), (1, 1), (2, 2)], []⟩)] ⟨statet_ok _ _ _ _ _ _, inbad_ok _ _ _ _ _ _ _ _ omm List.length_replicate (by simp) dec1, inarg_ok _ _ _ _ _ _ omm, trivial⟩ (fun C => [ndC C 9, (64 : Int) = 64, (0 : Int) ≤ 64, 1 * 64 ≤ 281474976710656, (64 : Int) ≤ 9223372036854775807, ndC C 16, (decide (((((decode_m [1]).2.2.2.2) : Nat) : Int) = 2)) = true, ndC C 21]) [0] [] 3 ⟨rfl, rfl, by omega, by omega, by omega, rfl, decide_eq_true h1, rfl, trivial⟩ hS fun hS => ?_
  refine then_n (wp_ret ?_)
  have hM : awake22_m = true := (awake22_e).trans (if_pos h1)
  exact fin_y rfl (.inr rfl) hS [.v (.bool true)] [] (by show weak _ (.v (.bool awake22_m)) = (.v (.bool awake22_m)); rw [hM]; first | (simp only []; rfl) | (simp only []; done) | rfl) trivial
 ·refine uB [(15, .mf)] [(9, .call ⟨18, (c_statet 500 0 0 (2 * 0) 1184 (List.replicate (((1184 + 500) - 1) / 500) none)), [(0, 0), (1, 1), (2, 2)], []⟩), (16, .call ⟨21, (c_inbad 500 0 0 (2 * 0) 1184 (List.replicate (((1184 + 500) - 1) / 500) none) [1] (List.replicate 64 (0 : Int))), [(0, 0), (1, 1), (2, 2)], []⟩), (17, .ob false)] ⟨statet_ok _ _ _ _ _ _, inbad_ok _ _ _ _ _ _ _ _ omm List.length_replicate (by simp) dec1, trivial⟩ (fun C => [ndC C 9, (64 : Int) = 64, (0 : Int) ≤ 64, 1 * 64 ≤ 281474976710656, (64 : Int) ≤ 9223372036854775807, ndC C 16, (decide (((((decode_m [1]).2.2.2.2) : Nat) : Int) = 2)) = false]) [0] [] 3 ⟨rfl, rfl, by omega, by omega, by omega, rfl, decide_eq_false h1, trivial⟩ hS fun hS => ?_
  refine then_n (wp_ret ?_)
  have hM : awake22_m = false := (awake22_e).trans (if_neg h1)
  exact fin_y rfl (.inr rfl) hS [.v (.bool false)] [] (by show weak _ (.v (.bool awake22_m)) = (.v (.bool awake22_m)); rw [hM]; first | (simp only []; rfl) | (simp only []; done) | rfl) trivial

def c_awaket : Con := ⟨[], [], .v (.bool true), []⟩
theorem awaket_ok : ConOk Try.prog 16 (c_awaket) := by
 have h := awake22_ok
 have e : awake22_m = true := by rw [awake22_e]; unfold awake22_v; rw [dec1e]; rfl
 unfold c_awake22 at h
 rw [e] at h
 exact h
end
end Go.Sx.Try
namespace Go.Sx.Try
open Go.Mi Go.RowKit Go.Sx Go.Proofs
noncomputable section
def ekD (r : List Int) : List Int := (keys_m (r.take 32) (r.drop 32)).1
theorem ekD_len {r : List Int} (h : r.length = 64) : (ekD r).length = 1184 := (keys_len (r.take 32) (r.drop 32) (by rw [List.length_drop]; omega)).1
def pieceB (sz ep at_ : Nat) (r : List Int) : List Int := encB (2 * ep) (at_ % (split_m (2 * ep) (ekD r) sz).length) ((split_m (2 * ep) (ekD r) sz).length) (((ekD r).drop ((at_ % (split_m (2 * ep) (ekD r) sz).length) * sz)).take sz)
theorem spB_len (ep : Nat) {r : List Int} (hr : r.length = 64) (sz : Nat) : (split_m (2 * ep) (ekD r) sz).length = (1184 + sz - 1) / sz := by rw [spl_len, ekD_len hr]
theorem pieceB_len {sz ep a : Nat} {r : List Int} (hr : r.length = 64) (hz : 10 ≤ sz ∧ sz ≤ 1000) : 1 ≤ (pieceB sz ep a r).length := by
 have hc := cntb (ln := 1184) (sz := sz) (by decide) omm
 have hs := spB_len ep hr sz
 have hl := ekD_len hr
 have hi : a % (split_m (2 * ep) (ekD r) sz).length < ((ekD r).length + sz - 1) / sz := by rw [hl, hs]; exact Nat.mod_lt _ omm
 have := spl_dl (xs := ekD r) (sz := sz) omm hi
 unfold pieceB encB
 rw [List.length_append]
 omega
theorem pieceB_per {sz ep a : Nat} {r : List Int} (hr : r.length = 64) (h : (1184 + sz - 1) / sz ≤ a) : pieceB sz ep a r = pieceB sz ep (a - (1184 + sz - 1) / sz) r := by
 unfold pieceB
 rw [spB_len ep hr, Nat.mod_eq_sub_mod h]
def lp (sz : Nat) (r : List Int) (i : Nat) : List (List Int) := (List.range i).map fun j => pieceB sz 0 j r
theorem lp_s (sz : Nat) (r : List Int) (i : Nat) : lp sz r (i + 1) = lp sz r i ++ [pieceB sz 0 i r] := by
 unfold lp; rw [List.range_succ, List.map_append]; rfl
theorem lp_len (sz : Nat) (r : List Int) (i : Nat) : (lp sz r i).length = i := by unfold lp; rw [List.length_map, List.length_range]
theorem lp_at (sz : Nat) (r : List Int) {i j : Nat} (h : j < i) : (lp sz r i).getD j [] = pieceB sz 0 j r := by
 unfold lp
 rw [List.getD_eq_getElem?_getD, List.getElem?_map, List.getElem?_range h]
 rfl
def Txt (r sd tx : List Int) : Prop := (sd = [] ∧ tx = []) ∨ (sd = r ∧ tx = ekD r)
theorem Txt.nil (r : List Int) : Txt r [] [] := .inl ⟨rfl, rfl⟩
theorem Txt.y (r : List Int) : Txt r r (ekD r) := .inr ⟨rfl, rfl⟩
def c_oute (sz ep : Nat) (at_ id ln : Nat) (bx : List (Option (List Int))) (r sd tx : List Int) : Con := ⟨[.cp 0 0, lb r], [(0, .ob 77 (chain [vi (sz : Int), vi 1, vi (ep : Int), vi (at_ : Int), lb sd, lb tx, .cp 1 0, .v (.slice none 0 0)])), (1, .ob 135 (chain [vi (id : Int), vi (sz : Int), vi (ln : Int), .ls true [.os (.int .u8)] bx]))], .tu (chain [lb (pieceB sz ep at_ r), vi 0]), [(0, .ob 77 (chain [vi (sz : Int), vi 1, vi (ep : Int), vi ((at_ + 1 : Nat) : Int), lb r, lb (ekD r), .cp 1 0, .v (.slice none 0 0)])), (1, .ob 135 (chain [vi (id : Int), vi (sz : Int), vi (ln : Int), .ls true [.os (.int .u8)] bx]))]⟩
theorem oute_ok (sz ep : Nat) (at_ id ln : Nat) (bx : List (Option (List Int))) (r sd tx : List Int) (hr : r.length = 64) (hz : 10 ≤ sz ∧ sz ≤ 1000) (he : ep ≤ 500000000) (ha : at_ ≤ 1000000000) (hs : Txt r sd tx) : ConOk Try.prog 19 (c_oute sz ep at_ id ln bx r sd tx) := by
 rcases hs with ⟨h1, h2⟩ | ⟨h1, h2⟩
 ·rw [h1, h2]
  exact outkf_ok sz ep at_ id ln bx r [] [] hr omm he ha rfl
 ·rw [h1, h2]
  have hl := ekD_len hr
  exact outgf_ok sz ep at_ id ln bx r r (ekD r) hr omm he ha omm
theorem lp_q {sz i : Nat} {r : List Int} {l : List (List Int)} (hl : l = lp sz r i) (hr : r.length = 64) (h : (1184 + sz - 1) / sz ≤ i) (h1 : 1 ≤ (1184 + sz - 1) / sz) : pieceB sz 0 i r = l.getD (i - (1184 + sz - 1) / sz) (rz [.sl (.int .u8)]) := by
 rw [hl]
 exact (pieceB_per hr h).trans (lp_at sz r omm).symm
theorem replne {n : Nat} {x : Option (List Int)} (h : 1 ≤ n) : List.replicate n x ≠ [] := fun e => by
 have := congrArg List.length e
 rw [List.length_replicate] at this
 simp at this; omega
def c_kcop (si ni mi : Int) : Con := ⟨[vi si, vi ni, vi mi], [], .v (.bool true), []⟩
theorem kcop_ok (si ni mi : Int) : ConOk Try.prog 6 (c_kcop si ni mi) := by
 refine conOk_of rfl (nb := 0) Try.func6 rfl rfl Try.ntmps6 rfl rfl rfl fun g0 w0 ac gs ws hg0 hS => ?_
 have hS := hS.sp
 refine s0 [0, 1, 2, 6] [] 0 hS fun hS => ?_
 refine wp_seq (wp_seq ?_)
 by_cases h1 : si < 100
 ·refine rA [(1, .ob true)] trivial (fun _ => [(decide (si < 100)) = true]) [0, 1, 2, 6, 42] [] 0 ⟨decide_eq_true h1, trivial⟩ hS fun hS => ?_
  refine then_n (cond_t hS ?_)
  refine sA [(0, .call ⟨16, (c_awaket), [], []⟩)] ⟨awaket_ok, trivial⟩ (fun C => [ndC C 0]) [0, 1, 2, 6] [] 0 ⟨rfl, trivial⟩ hS fun hS => ?_
  refine wp_ret (then_ret ?_)
  exact fin_y rfl (.inr rfl) hS [.v (.bool true)] [] rfl trivial
 ·by_cases h2 : (1000 : Int) < si
  ·refine rA [(1, .ob false), (4, .ob true)] trivial (fun _ => [(decide (si < 100)) = false, (decide ((1000 : Int) < si)) = true]) [0, 1, 2, 6, 42] [] 0 ⟨decide_eq_false h1, decide_eq_true h2, trivial⟩ hS fun hS => ?_
   refine then_n (cond_t hS ?_)
   refine sA [(0, .call ⟨16, (c_awaket), [], []⟩)] ⟨awaket_ok, trivial⟩ (fun C => [ndC C 0]) [0, 1, 2, 6] [] 0 ⟨rfl, trivial⟩ hS fun hS => ?_
   refine wp_ret (then_ret ?_)
   exact fin_y rfl (.inr rfl) hS [.v (.bool true)] [] rfl trivial
  ·by_cases h3 : ni < 0
   ·refine rA [(1, .ob false), (4, .ob false), (8, .ob true)] trivial (fun _ => [(decide (si < 100)) = false, (decide ((1000 : Int) < si)) = false, (decide (ni < 0)) = true]) [0, 1, 2, 6, 42] [] 0 ⟨decide_eq_false h1, decide_eq_false h2, decide_eq_true h3, trivial⟩ hS fun hS => ?_
    refine then_n (cond_t hS ?_)
    refine sA [(0, .call ⟨16, (c_awaket), [], []⟩)] ⟨awaket_ok, trivial⟩ (fun C => [ndC C 0]) [0, 1, 2, 6] [] 0 ⟨rfl, trivial⟩ hS fun hS => ?_
    refine wp_ret (then_ret ?_)
    exact fin_y rfl (.inr rfl) hS [.v (.bool true)] [] rfl trivial
   ·by_cases h4 : (30 : Int) < ni
    ·refine rA [(1, .ob false), (4, .ob false), (8, .ob false), (12, .ob true)] trivial (fun _ => [(decide (si < 100)) = false, (decide ((1000 : Int) < si)) = false, (decide (ni < 0)) = false, (decide ((30 : Int) < ni)) = true]) [0, 1, 2, 6, 42] [] 0 ⟨decide_eq_false h1, decide_eq_false h2, decide_eq_false h3, decide_eq_true h4, trivial⟩ hS fun hS => ?_
     refine then_n (cond_t hS ?_)
     refine sA [(0, .call ⟨16, (c_awaket), [], []⟩)] ⟨awaket_ok, trivial⟩ (fun C => [ndC C 0]) [0, 1, 2, 6] [] 0 ⟨rfl, trivial⟩ hS fun hS => ?_
     refine wp_ret (then_ret ?_)
     exact fin_y rfl (.inr rfl) hS [.v (.bool true)] [] rfl trivial
    ·by_cases h5 : mi < 0
     ·refine rA [(1, .ob false), (4, .ob false), (8, .ob false), (12, .ob false), (16, .ob true)] trivial (fun _ => [(decide (si < 100)) = false, (decide ((1000 : Int) < si)) = false, (decide (ni < 0)) = false, (decide ((30 : Int) < ni)) = false, (decide (mi < 0)) = true]) [0, 1, 2, 6, 42] [] 0 ⟨decide_eq_false h1, decide_eq_false h2, decide_eq_false h3, decide_eq_false h4, decide_eq_true h5, trivial⟩ hS fun hS => ?_
      refine then_n (cond_t hS ?_)
      refine sA [(0, .call ⟨16, (c_awaket), [], []⟩)] ⟨awaket_ok, trivial⟩ (fun C => [ndC C 0]) [0, 1, 2, 6] [] 0 ⟨rfl, trivial⟩ hS fun hS => ?_
      refine wp_ret (then_ret ?_)
      exact fin_y rfl (.inr rfl) hS [.v (.bool true)] [] rfl trivial
     ·refine rA [(1, .ob false), (4, .ob false), (8, .ob false), (12, .ob false), (16, .ob false)] trivial (fun _ => [(decide (si < 100)) = false, (decide ((1000 : Int) < si)) = false, (decide (ni < 0)) = false, (decide ((30 : Int) < ni)) = false, (decide (mi < 0)) = false]) [0, 1, 2, 6, 42] [] 0 ⟨decide_eq_false h1, decide_eq_false h2, decide_eq_false h3, decide_eq_false h4, decide_eq_false h5, trivial⟩ hS fun hS => ?_
      refine then_n ?_
      refine if_d ((30 : Int) < mi) hS (fun h6 => ?_) (fun h6 => ?_)
      ·refine sA [(0, .call ⟨16, (c_awaket), [], []⟩)] ⟨awaket_ok, trivial⟩ (fun C => [ndC C 0]) [0, 1, 2, 6] [] 0 ⟨rfl, trivial⟩ hS fun hS => ?_
       refine wp_ret (then_ret ?_)
       exact fin_y rfl (.inr rfl) hS [.v (.bool true)] [] rfl trivial
      ·refine wp_skip (then_n (wp_seq ?_))
       obtain ⟨sz, rfl⟩ := Int.eq_ofNat_of_zero_le (by omega : 0 ≤ si)
       obtain ⟨n, rfl⟩ := Int.eq_ofNat_of_zero_le (by omega : 0 ≤ ni)
       obtain ⟨m, rfl⟩ := Int.eq_ofNat_of_zero_le (by omega : 0 ≤ mi)
       refine rA [(1, .call ⟨17, (c_newg sz), [], [(0, 0), (1, 1), (2, 2)]⟩)] ⟨newg_ok _ omm, trivial⟩ (fun C => [ndC C 1]) [0, 1, 2, 6, 7, 8] [0, 1, 2] 3 ⟨rfl, trivial⟩ hS fun hS => ?_
       refine then_n (wp_seq (wp_seq ?_))
       have hcb := cntb (ln := 1088) (sz := sz) (by decide) omm
       have hca := cntb (ln := 1184) (sz := sz) (by decide) omm
       obtain ⟨gs, hS⟩ := hS.fy 2 22 [.os (.int .u8)] (List.replicate (((1088 + sz) - 1) / sz) none) ((show true = true → (List.replicate (((1088 + sz) - 1) / sz) none) ≠ [] from fun _ => replne omm) rfl)
       refine r0 [0, 1, 2, 6, 7, 54] [0, 1] 3 hS fun hS => ?_
       refine then_n (cond_f hS ?_)
       refine wp_skip (then_n (sA [(1, .oi ((1184 + sz : Nat) : Int)), (2, .oi (((1184 + sz) - 1 : Nat) : Int)), (4, .oi ((((1184 + sz) - 1) / sz : Nat) : Int))] trivial (fun _ => [iadd .i64 1184 (sz : Int) = ((1184 + sz : Nat) : Int), isub .i64 ((1184 + sz : Nat) : Int) 1 = (((1184 + sz) - 1 : Nat) : Int), iquo .i64 (((1184 + sz) - 1 : Nat) : Int) (sz : Int) = ((((1184 + sz) - 1) / sz : Nat) : Int), ((sz : Int) : Int) ≠ 0]) [1, 2, 6, 7, 9] [0, 1] 3 ⟨by rw [iadd64 omm omm]; omega, by rw [isub64 omm omm]; omega, by rw [iquo64 omm omm omm]; exact (Int.natCast_ediv _ _).symm, by omega, trivial⟩ hS fun hS => ?_))
       refine s0 [1, 2, 6, 7, 9, 10] [0, 1] 3 hS fun hS => ?_
       refine wp_seq (wp_seq ?_)
       have hS := hS.wko 0 [.top, .top, .top, .top, lb [], lb [], .top, .top]
       obtain ⟨gs, hS⟩ := hS.nilk 10 22 [.sl (.int .u8)]
       refine r0 [1, 2, 6, 7, 9, 10, 11] [0, 1, 3] 4 hS fun hS => ?_
       refine then_n (wp_block (loop_y (ι := Nat × (List (List Int)) × (List Int) × (List Int)) hg0 hS (fun z_ => match z_ with | (i, l, sd, tx) => n - i) (fun z_ => match z_ with | (i, l, sd, tx) => [(1, vi (n : Int)), (2, vi (m : Int)), (7, .cp 0 0), (9, vi ((((1184 + sz - 1) / sz) : Nat) : Int)), (10, .sk 2), (11, vi ((i : Nat) : Int))]) (fun z_ => match z_ with | (i, l, sd, tx) => [(0, .ob 77 (chain [vi (sz : Int), vi 1, vi 0, vi ((i : Nat) : Int), lb sd, lb tx, .cp 1 0, .v (.slice none 0 0)])), (1, .ob 135 (chain [vi 1, vi (sz : Int), vi 1088, .ls true [.os (.int .u8)] (List.replicate ((1088 + sz - 1) / sz) none)])), (2, .sl 22 [.sl (.int .u8)] l)]) (fun z_ => match z_ with | (i, l, sd, tx) => (i ≤ n) ∧ (l = lp sz (draw_m 1) i) ∧ (Txt (draw_m 1) sd tx) ∧ True) 3 (0, [], [], []) [(0, 0), (1, 1), (2, 3)] ⟨omm, rfl, (Txt.nil _), trivial⟩ ?_))
       rintro ⟨i, l, sd, tx⟩ ac gs ws ⟨hi, hl, ht, _⟩ hS
       refine wp_seq (s0 [1, 2, 7, 9, 10, 11, 62] [0, 1, 2] 3 hS fun hS => ?_)
       refine if_d ((i : Int) < (n : Int)) hS (fun h7 => ?_) (fun h7 => ?_)
       ·refine wp_skip (then_n (wp_seq (wp_block (sA [(1, .call ⟨20, (c_draw 1), [], []⟩), (2, .call ⟨19, (c_oute sz 0 i 1 1088 (List.replicate ((1088 + sz - 1) / sz) none) (draw_m 1) sd tx), [(0, 0), (1, 1)], []⟩)] ⟨draw_ok _, oute_ok _ _ _ _ _ _ _ _ _ lnn omm omm omm asm, trivial⟩ (fun C => [ndC C 1, ndC C 2]) [1, 2, 7, 9, 10, 11, 12, 13] [0, 1, 2] 3 ⟨rfl, rfl, trivial⟩ hS fun hS => ?_))))
        refine wp_seq (wp_seq ?_)
        have hll : l.length = i := by rw [hl]; exact lp_len ..
        have hpi : ¬ (((pieceB sz 0 i (draw_m 1)).length : Nat) : Int) = 0 := (by have := pieceB_len (sz := sz) (ep := 0) (a := i) (draw_len 1) omm; omega)
        by_cases h8 : ((((1184 + sz - 1) / sz) : Nat) : Int) ≤ (i : Int)
        ·have hll : l.length = i := by rw [hl]; exact lp_len ..
         have hqe : pieceB sz 0 i (draw_m 1) = l.getD (i - ((1184 + sz - 1) / sz)) (rz [.sl (.int .u8)]) := lp_q hl (draw_len 1) omm omm
         have hqs : ((mkStr (pieceB sz 0 i (draw_m 1))).toList == (mkStr (l.getD (i - ((1184 + sz - 1) / sz)) (rz [.sl (.int .u8)]))).toList) = true := by rw [← hqe]; exact beq_self_eq_true _
         refine rA [(5, .ob false), (10, .ob true), (17, .oi ((i - ((1184 + sz - 1) / sz) : Nat) : Int)), (21, .ob false)] trivial (fun _ => [(decide ((((pieceB sz 0 i (draw_m 1)).length : Nat) : Int) = 0)) = false, (decide (((((1184 + sz - 1) / sz) : Nat) : Int) ≤ (i : Int))) = true, isub .i64 (i : Int) ((((1184 + sz - 1) / sz) : Nat) : Int) = ((i - ((1184 + sz - 1) / sz) : Nat) : Int), (0 : Int) ≤ ((i - ((1184 + sz - 1) / sz) : Nat) : Int) ∧ ((i - ((1184 + sz - 1) / sz) : Nat) : Int) < ((l.length : Nat) : Int), (!((mkStr (pieceB sz 0 i (draw_m 1))).toList == (mkStr (l.getD (i - ((1184 + sz - 1) / sz)) (rz [.sl (.int .u8)]))).toList)) = false]) [1, 2, 7, 9, 10, 11, 12, 94] [0, 1, 2] 3 ⟨decide_eq_false hpi, decide_eq_true h8, by rw [isub64 omm omm]; omega, by omega, by rw [hqs]; rfl, trivial⟩ hS fun hS => ?_
         refine then_n (cond_f hS ?_)
         refine wp_skip (then_n (rA [] trivial (fun _ => [l.length + [pieceB sz 0 i (draw_m 1)].length ≤ 9223372036854775807, (l.length + [pieceB sz 0 i (draw_m 1)].length) * 24 ≤ 140737488355328]) [1, 2, 7, 9, 10, 11] [0, 1, 3] 4 ⟨by simp <;> omega, by simp <;> omega, trivial⟩ hS fun hS => ?_))
         refine block_n (then_n (rA [(1, .oi ((i + 1 : Nat) : Int))] trivial (fun _ => [iadd .i64 (i : Int) 1 = ((i + 1 : Nat) : Int)]) [1, 2, 7, 9, 10, 11] [0, 1, 3] 4 ⟨by rw [iadd64 omm omm]; omega, trivial⟩ hS fun hS => ?_))
         refine then_n ?_
         exact next_y hg0 hS (s := (i, l, sd, tx)) (i + 1, l ++ [pieceB sz 0 i (draw_m 1)], draw_m 1, ekD (draw_m 1)) [(0, 0), (1, 1), (2, 3)] (show n - (i + 1) < n - i from by omega) ⟨omm, (by rw [hl]; exact (lp_s ..).symm), (Txt.y _), trivial⟩
        ·have hll : l.length = i := by rw [hl]; exact lp_len ..
         refine rA [(5, .ob false), (10, .ob false)] trivial (fun _ => [(decide ((((pieceB sz 0 i (draw_m 1)).length : Nat) : Int) = 0)) = false, (decide (((((1184 + sz - 1) / sz) : Nat) : Int) ≤ (i : Int))) = false]) [1, 2, 7, 9, 10, 11, 12, 94] [0, 1, 2] 3 ⟨decide_eq_false hpi, decide_eq_false h8, trivial⟩ hS fun hS => ?_
         refine then_n (cond_f hS ?_)
         refine wp_skip (then_n (rA [] trivial (fun _ => [l.length + [pieceB sz 0 i (draw_m 1)].length ≤ 9223372036854775807, (l.length + [pieceB sz 0 i (draw_m 1)].length) * 24 ≤ 140737488355328]) [1, 2, 7, 9, 10, 11] [0, 1, 3] 4 ⟨by simp <;> omega, by simp <;> omega, trivial⟩ hS fun hS => ?_))
         refine block_n (then_n (rA [(1, .oi ((i + 1 : Nat) : Int))] trivial (fun _ => [iadd .i64 (i : Int) 1 = ((i + 1 : Nat) : Int)]) [1, 2, 7, 9, 10, 11] [0, 1, 3] 4 ⟨by rw [iadd64 omm omm]; omega, trivial⟩ hS fun hS => ?_))
         refine then_n ?_
         exact next_y hg0 hS (s := (i, l, sd, tx)) (i + 1, l ++ [pieceB sz 0 i (draw_m 1)], draw_m 1, ekD (draw_m 1)) [(0, 0), (1, 1), (2, 3)] (show n - (i + 1) < n - i from by omega) ⟨omm, (by rw [hl]; exact (lp_s ..).symm), (Txt.y _), trivial⟩
       ·have hScur := hS
        obtain rfl : n = i := by omega
        have hS := hScur
        clear hScur
        refine wp_exit (then_exit (then_exit (block_exit (then_n (sA [(1, .call ⟨24, (c_copyg sz 0 n 1 1088 (List.replicate ((1088 + sz - 1) / sz) none) sd tx), [(0, 0), (1, 1)], [(2, 3), (3, 4)]⟩)] ⟨copyg_ok _ _ _ _ _ _ _ _ lnn (replne omm), trivial⟩ (fun C => [ndC C 1]) [1, 2, 7, 9, 10, 14] [0, 1, 2, 3, 4] 5 ⟨rfl, trivial⟩ hS fun hS => ?_)))))
        refine wp_seq (s0 [1, 2, 7, 9, 10, 14, 102] [0, 1, 2, 3, 4] 5 hS fun hS => ?_)
        refine cond_f hS ?_
        refine wp_skip (then_n (wp_seq (s0 [1, 2, 7, 9, 10, 14, 15] [0, 1, 2, 3, 4] 5 hS fun hS => ?_)))
        refine wp_block (loop_y (ι := Nat × (List Int) × (List Int)) hg0 hS (fun z_ => match z_ with | (j, sd2, tx2) => m - j) (fun z_ => match z_ with | (j, sd2, tx2) => [(1, vi (n : Int)), (2, vi (m : Int)), (7, .cp 0 0), (9, vi ((((1184 + sz - 1) / sz) : Nat) : Int)), (10, .sk 4), (14, .cp 2 0), (15, vi ((j : Nat) : Int))]) (fun z_ => match z_ with | (j, sd2, tx2) => [(0, .ob 77 (chain [vi (sz : Int), vi 1, vi 0, vi (n : Int), lb sd, lb tx, .cp 1 0, .v (.slice none 0 0)])), (1, .ob 135 (chain [vi 1, vi (sz : Int), vi 1088, .ls true [.os (.int .u8)] (List.replicate ((1088 + sz - 1) / sz) none)])), (2, .ob 77 (chain [vi (sz : Int), vi 1, vi 0, vi ((n + j : Nat) : Int), lb sd2, lb tx2, .cp 3 0, .v (.slice none 0 0)])), (3, .ob 135 (chain [vi 1, vi (sz : Int), vi 1088, .ls true [.os (.int .u8)] (List.replicate ((1088 + sz - 1) / sz) none)])), (4, .sl 22 [.sl (.int .u8)] l)]) (fun z_ => match z_ with | (j, sd2, tx2) => (j ≤ m) ∧ (Txt (draw_m 1) sd2 tx2) ∧ True) 5 (0, sd, tx) [(0, 0), (1, 1), (2, 3), (3, 4), (4, 2)] ⟨omm, ht, trivial⟩ ?_)
        rintro ⟨j, sd2, tx2⟩ ac gs ws ⟨hj, ht2, _⟩ hS
        refine wp_seq (s0 [1, 2, 7, 9, 10, 14, 15, 105] [0, 1, 2, 3, 4] 5 hS fun hS => ?_)
        refine if_d ((j : Int) < (m : Int)) hS (fun h9 => ?_) (fun h9 => ?_)
        ·refine wp_skip (then_n (wp_seq (wp_block (rA [(1, .call ⟨20, (c_draw 1), [], []⟩), (2, .call ⟨19, (c_oute sz 0 (n + j) 1 1088 (List.replicate ((1088 + sz - 1) / sz) none) (draw_m 1) sd2 tx2), [(0, 2), (1, 3)], []⟩)] ⟨draw_ok _, oute_ok _ _ _ _ _ _ _ _ _ lnn omm omm omm asm, trivial⟩ (fun C => [ndC C 1, ndC C 2]) [1, 2, 7, 9, 10, 14, 15] [0, 1, 2, 3, 4] 5 ⟨rfl, rfl, trivial⟩ hS fun hS => ?_))))
         refine block_n (then_n (rA [(1, .oi ((j + 1 : Nat) : Int))] trivial (fun _ => [iadd .i64 (j : Int) 1 = ((j + 1 : Nat) : Int)]) [1, 2, 7, 9, 10, 14, 15] [0, 1, 2, 3, 4] 5 ⟨by rw [iadd64 omm omm]; omega, trivial⟩ hS fun hS => ?_))
         refine then_n ?_
         exact next_y hg0 hS (s := (j, sd2, tx2)) (j + 1, draw_m 1, ekD (draw_m 1)) [(0, 0), (1, 1), (2, 2), (3, 3), (4, 4)] (show m - (j + 1) < m - j from by omega) ⟨omm, (Txt.y _), trivial⟩
        ·have hScur := hS
         obtain rfl : m = j := by omega
         have hS := hScur
         clear hScur
         refine wp_exit (then_exit (then_exit (block_exit (then_n (sA [(1, .call ⟨20, (c_draw 1), [], []⟩), (2, .call ⟨19, (c_oute sz 0 n 1 1088 (List.replicate ((1088 + sz - 1) / sz) none) (draw_m 1) sd tx), [(0, 0), (1, 1)], []⟩)] ⟨draw_ok _, oute_ok _ _ _ _ _ _ _ _ _ lnn omm omm omm asm, trivial⟩ (fun C => [ndC C 1, ndC C 2]) [1, 9, 10, 16, 17] [4] 5 ⟨rfl, rfl, trivial⟩ hS fun hS => ?_)))))
         refine s0 [1, 9, 10, 16, 17, 18] [4] 5 hS fun hS => ?_
         refine sA [(1, .call ⟨20, (c_draw 1), [], []⟩), (2, .call ⟨19, (c_outn (draw_m 1)), [], []⟩)] ⟨draw_ok _, outn_ok _, trivial⟩ (fun C => [ndC C 1, ndC C 2]) [1, 9, 10, 16, 17, 18, 20] [4] 5 ⟨rfl, rfl, trivial⟩ hS fun hS => ?_
         refine wp_seq ?_
         have hll : l.length = n := by rw [hl]; exact lp_len ..
         have hpn : (0 : Int) < (((pieceB sz 0 n (draw_m 1)).length : Nat) : Int) := (by have := pieceB_len (sz := sz) (ep := 0) (a := n) (draw_len 1) omm; omega)
         by_cases h10 : (n : Int) < ((((1184 + sz - 1) / sz) : Nat) : Int)
         ·have hll : l.length = n := by rw [hl]; exact lp_len ..
          refine rA [(5, .ob true), (10, .ob true), (31, .call ⟨20, (c_draw 1), [], []⟩), (32, .call ⟨21, (c_inn (pieceB sz 0 n (draw_m 1)) (draw_m 1)), [], []⟩), (37, .call ⟨23, (c_epochn), [], []⟩), (42, .call ⟨18, (c_staten), [], []⟩), (47, .call ⟨22, (c_secretsn), [], []⟩), (53, .call ⟨24, (c_copyn), [], []⟩), (57, .call ⟨16, (c_awaket), [], []⟩)] ⟨draw_ok _, inn_ok _ _, epochn_ok, staten_ok, secretsn_ok, copyn_ok, awaket_ok, trivial⟩ (fun C => [(decide ((0 : Int) < (((pieceB sz 0 n (draw_m 1)).length : Nat) : Int))) = true, (decide ((n : Int) < ((((1184 + sz - 1) / sz) : Nat) : Int))) = true, ndC C 31, ndC C 32, ndC C 37, ndC C 42, ndC C 47, ndC C 53, ndC C 57]) [6] [] 5 ⟨decide_eq_true hpn, decide_eq_true h10, rfl, rfl, rfl, rfl, rfl, rfl, rfl, trivial⟩ hS fun hS => ?_
          refine then_n (wp_ret ?_)
          exact fin_y rfl (.inr rfl) hS [.v (.bool true)] [] rfl trivial
         ·have hll : l.length = n := by rw [hl]; exact lp_len ..
          have hqe : pieceB sz 0 n (draw_m 1) = l.getD (n - ((1184 + sz - 1) / sz)) (rz [.sl (.int .u8)]) := lp_q hl (draw_len 1) omm omm
          have hqs : ((mkStr (pieceB sz 0 n (draw_m 1))).toList == (mkStr (l.getD (n - ((1184 + sz - 1) / sz)) (rz [.sl (.int .u8)]))).toList) = true := by rw [← hqe]; exact beq_self_eq_true _
          refine rA [(5, .ob true), (10, .ob false), (17, .oi ((n - ((1184 + sz - 1) / sz) : Nat) : Int)), (21, .ob true), (31, .call ⟨20, (c_draw 1), [], []⟩), (32, .call ⟨21, (c_inn (pieceB sz 0 n (draw_m 1)) (draw_m 1)), [], []⟩), (37, .call ⟨23, (c_epochn), [], []⟩), (42, .call ⟨18, (c_staten), [], []⟩), (47, .call ⟨22, (c_secretsn), [], []⟩), (53, .call ⟨24, (c_copyn), [], []⟩), (57, .call ⟨16, (c_awaket), [], []⟩)] ⟨draw_ok _, inn_ok _ _, epochn_ok, staten_ok, secretsn_ok, copyn_ok, awaket_ok, trivial⟩ (fun C => [(decide ((0 : Int) < (((pieceB sz 0 n (draw_m 1)).length : Nat) : Int))) = true, (decide ((n : Int) < ((((1184 + sz - 1) / sz) : Nat) : Int))) = false, isub .i64 (n : Int) ((((1184 + sz - 1) / sz) : Nat) : Int) = ((n - ((1184 + sz - 1) / sz) : Nat) : Int), (0 : Int) ≤ ((n - ((1184 + sz - 1) / sz) : Nat) : Int) ∧ ((n - ((1184 + sz - 1) / sz) : Nat) : Int) < ((l.length : Nat) : Int), (((mkStr (pieceB sz 0 n (draw_m 1))).toList == (mkStr (l.getD (n - ((1184 + sz - 1) / sz)) (rz [.sl (.int .u8)]))).toList)) = true, ndC C 31, ndC C 32, ndC C 37, ndC C 42, ndC C 47, ndC C 53, ndC C 57]) [6] [] 5 ⟨decide_eq_true hpn, decide_eq_false h10, by rw [isub64 omm omm]; omega, by omega, hqs, rfl, rfl, rfl, rfl, rfl, rfl, rfl, trivial⟩ hS fun hS => ?_
          refine then_n (wp_ret ?_)
          exact fin_y rfl (.inr rfl) hS [.v (.bool true)] [] rfl trivial

end
end Go.Sx.Try
