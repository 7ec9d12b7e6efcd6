/- General lemmas, walks. -/
import Derived.Shelf.RegionOpenPlain
import Derived.WalkKit
import Derived.Deep.LoopGhost
import Derived.Deep.RegionLaw
import Derived.Lib.Walk
import Derived.Lib.SliceRun
import Derived.Lib.SlicesDelete
import Derived.Deep.MidRow
import Derived.Test.YtmkplecnmklbfaaGreatJ4PRoots
set_option maxRecDepth 100000
set_option maxHeartbeats 1000000
set_option linter.unusedSimpArgs false
set_option linter.unusedVariables false
set_option linter.unnecessarySimpa false
set_option linter.unusedSectionVars false
namespace Go.Sx.Tryz
open Go.Mi Go.RowKit Go.Sx Go.Proofs
noncomputable section
def snum_kv (xs : List Int) : Bool := if numB xs = true then (if (2147483648 : Int) < ((numV xs).1) then false else true) else false
def snum_k (xs : List Int) : Bool := shut (snum_kv xs)
theorem snum_ke (xs : List Int) : snum_k xs = snum_kv xs := shut_eq _
def c_snum (xs : List Int) : Con := ⟨[.cp 0 0], [(0, .ob 188 (chain [lb xs]))], vi (((((numV xs).1).toNat) : Nat) : Int), [(0, .ob 188 (chain [lb ((numV xs).2)]))]⟩
theorem snum_ok (xs : List Int) (h : xs.length ≤ 100000000000000) (hk : snum_k xs = true) : ConOk Tryz.prog 92 (c_snum xs) := by
 refine conOk_of rfl (nb := 1) Tryz.func92 rfl rfl Tryz.ntmps92 rfl rfl rfl fun g0 w0 ac gs ws hg0 hS => ?_
 have hS := hS.sp
 refine s0 [0, 2] [0] 1 hS fun hS => ?_
 refine wp_seq ?_
 by_cases h1 : numB xs = true
 ·refine rA [(1, .call ⟨126, (c_num xs), [(0, 0)], []⟩)] ⟨num_ok _ lnn h1, trivial⟩ (fun C => [ndC C 1]) [2, 3] [0] 1 ⟨rfl, trivial⟩ hS fun hS => ?_
  refine then_n (wp_seq (s0 [2, 3, 7] [0] 1 hS fun hS => ?_))
  refine if_d ((2147483648 : Int) < ((numV xs).1)) hS (fun h2 => ?_) (fun h2 => ?_)
  ·have hK : snum_k xs = false := (snum_ke xs).trans ((if_pos h1).trans (if_pos h2))
   rw [hK] at hk
   cases hk
  ·refine wp_skip (then_n (wp_seq ?_))
   have hnn := numV_nn xs
   refine rA [(1, .oi ((((numV xs).1).toNat : Nat) : Int))] trivial (fun _ => [IntKind.wrap .i64 ((numV xs).1) = ((((numV xs).1).toNat : Nat) : Int)]) [2] [0] 1 ⟨(wrap_i64 omm omm).trans omm, trivial⟩ hS fun hS => ?_
   refine then_n (wp_ret ?_)
   exact fin_y rfl (.inr rfl) hS [vi ((((numV xs).1).toNat : Nat) : Int)] [(0, some (.ob 188 (chain [lb ((numV xs).2)])))] rfl ⟨rfl, trivial⟩
 ·have hK : snum_k xs = false := (snum_ke xs).trans (if_neg h1)
  rw [hK] at hk
  cases hk
def c_snum_p (xs : List Int) : Con := ⟨[.cp 0 0], [(0, .ob 188 (chain [lb xs]))], .v (.iface 44 (.int .i64 2)), []⟩
theorem snum_p_ok (xs : List Int) (h : xs.length ≤ 100000000000000) (hk : snum_k xs = false) : PanOk Tryz.prog 92 (c_snum_p xs) := by
 refine conOk_ofE rfl (nb := 1) Tryz.func92 rfl rfl Tryz.ntmps92 rfl rfl rfl fun g0 w0 ac gs ws hg0 hS => ?_
 have hS := hS.sp
 refine s0 [0, 2] [0] 1 hS fun hS => ?_
 refine wp_seq ?_
 by_cases h1 : numB xs = true
 ·refine rA [(1, .call ⟨126, (c_num xs), [(0, 0)], []⟩)] ⟨num_ok _ lnn h1, trivial⟩ (fun C => [ndC C 1]) [2, 3] [0] 1 ⟨rfl, trivial⟩ hS fun hS => ?_
  refine then_n (wp_seq (s0 [2, 3, 7] [0] 1 hS fun hS => ?_))
  refine if_d ((2147483648 : Int) < ((numV xs).1)) hS (fun h2 => ?_) (fun h2 => ?_)
  ·refine region_p (E := E0) mo hZ [] trivial none (fun r hr => by cases hr)  1 0 (fun _ => []) (.v (.iface 44 (.int .i64 2))) (by kernel_rfl) trivial hS.st fun ac gs ws pv hS hpv => ?_
   refine then_pan ?_
   exact fin_p rfl hS hpv rfl rfl
  ·refine wp_skip (then_n (wp_seq ?_))
   have hnn := numV_nn xs
   refine rA [(1, .oi ((((numV xs).1).toNat : Nat) : Int))] trivial (fun _ => [IntKind.wrap .i64 ((numV xs).1) = ((((numV xs).1).toNat : Nat) : Int)]) [2] [0] 1 ⟨(wrap_i64 omm omm).trans omm, trivial⟩ hS fun hS => ?_
   refine then_n (wp_ret ?_)
   have hK : snum_k xs = true := (snum_ke xs).trans ((if_pos h1).trans (if_neg h2))
   rw [hK] at hk
   cases hk
 ·refine region_p (E := E0) mo hZ [] trivial (some ⟨126, (c_num_p xs), [(0, 0)], []⟩) (fun r hr => by cases hr; exact num_p_ok xs lnn (bne_k h1))  1 4 (fun _ => [nd [.cp 0 0] [some (.ob 188 (chain [lb xs]))]]) (.v (.iface 44 (.int .i64 2))) (by kernel_rfl) ⟨rfl, trivial⟩ hS.st fun ac gs ws pv hS hpv => ?_
  refine then_pan ?_
  exact fin_p rfl hS hpv rfl rfl

theorem small_p_pos (xs : List Int) (m : Nat) : 0 < small_p_e xs m := by
 rw [small_p_ee]; unfold small_p_ev
 repeat (first | decide | split)
theorem rbytes1_p_pos (xs : List Int) (m : Nat) : 0 < rbytes1_p_e xs m := by
 rw [rbytes1_p_ee]; unfold rbytes1_p_ev
 repeat (first | decide | exact small_p_pos _ _ | split)
def pc1_kv (xs : List Int) : Bool := if rbytes1_k xs 4000 = true then (if rbytes1_k (((numV xs).2).drop (((numV xs).1).toNat)) 4000 = true then true else false) else false
def pc1_k (xs : List Int) : Bool := shut (pc1_kv xs)
theorem pc1_ke (xs : List Int) : pc1_k xs = pc1_kv xs := shut_eq _
def pc1_p_ev (xs : List Int) : Nat := if rbytes1_k xs 4000 = true then (rbytes1_p_e (((numV xs).2).drop (((numV xs).1).toNat)) 4000) else (rbytes1_p_e xs 4000)
def pc1_p_e (xs : List Int) : Nat := shut (pc1_p_ev xs)
theorem pc1_p_ee (xs : List Int) : pc1_p_e xs = pc1_p_ev xs := shut_eq _
def c_pc1 (xs : List Int) : Con := ⟨[.cp 0 0, .cp 1 0], [(0, .ob 188 (chain [lb xs])), (1, .ob 115 (chain [.v (.slice none 0 0), vi 0, vi 0, vi 0, .v (.slice none 0 0), .v (.slice none 0 0)]))], .tu (chain []), [(0, .ob 188 (chain [lb (((numV (((numV xs).2).drop (((numV xs).1).toNat))).2).drop (((numV (((numV xs).2).drop (((numV xs).1).toNat))).1).toNat))])), (1, .ob 115 (chain [lb (((numV xs).2).take (((numV xs).1).toNat)), vi 0, vi 0, vi 0, .v (.slice none 0 0), lb (((numV (((numV xs).2).drop (((numV xs).1).toNat))).2).take (((numV (((numV xs).2).drop (((numV xs).1).toNat))).1).toNat))]))]⟩
theorem pc1_ok (xs : List Int) (h : xs.length ≤ 100000000000000) (hk : pc1_k xs = true) : ConOk Tryz.prog 101 (c_pc1 xs) := by
 refine conOk_of rfl (nb := 2) Tryz.func101 rfl rfl Tryz.ntmps101 rfl rfl rfl fun g0 w0 ac gs ws hg0 hS => ?_
 have hS := hS.sp
 have hnn := numV_nn xs
 by_cases h1 : rbytes1_k xs 4000 = true
 ·have hnn := numV_nn xs
  by_cases h2 : rbytes1_k (((numV xs).2).drop (((numV xs).1).toNat)) 4000 = true
  ·have hnn := numV_nn xs
   refine rA [(1, .call ⟨102, (c_rbytes1 xs 4000), [(0, 0)], []⟩), (3, .call ⟨102, (c_rbytes1 (((numV xs).2).drop (((numV xs).1).toNat)) 4000), [(0, 0)], []⟩)] ⟨rbytes1_ok _ _ lnn omm h1, rbytes1_ok _ _ lnn omm h2, trivial⟩ (fun C => [ndC C 1, ndC C 3]) [] [0, 1] 2 ⟨rfl, rfl, trivial⟩ hS fun hS => ?_
   exact fin_y rfl (.inl rfl) hS [] [(0, some (.ob 188 (chain [lb (((numV (((numV xs).2).drop (((numV xs).1).toNat))).2).drop (((numV (((numV xs).2).drop (((numV xs).1).toNat))).1).toNat))]))), (1, some (.ob 115 (chain [lb (((numV xs).2).take (((numV xs).1).toNat)), vi 0, vi 0, vi 0, .v (.slice none 0 0), lb (((numV (((numV xs).2).drop (((numV xs).1).toNat))).2).take (((numV (((numV xs).2).drop (((numV xs).1).toNat))).1).toNat))])))] rfl ⟨rfl, rfl, trivial⟩
  ·have hnn := numV_nn xs
   have hK : pc1_k xs = false := (pc1_ke xs).trans ((if_pos h1).trans (if_neg h2))
   rw [hK] at hk
   cases hk
 ·have hnn := numV_nn xs
  have hK : pc1_k xs = false := (pc1_ke xs).trans (if_neg h1)
  rw [hK] at hk
  cases hk
def c_pc1_p (xs : List Int) : Con := ⟨[.cp 0 0, .cp 1 0], [(0, .ob 188 (chain [lb xs])), (1, .ob 115 (chain [.v (.slice none 0 0), vi 0, vi 0, vi 0, .v (.slice none 0 0), .v (.slice none 0 0)]))], .v (.iface 44 (.int .i64 ((pc1_p_e xs : Nat) : Int))), []⟩
theorem pc1_p_ok (xs : List Int) (h : xs.length ≤ 100000000000000) (hk : pc1_k xs = false) : PanOk Tryz.prog 101 (c_pc1_p xs) := by
 refine conOk_ofE rfl (nb := 2) Tryz.func101 rfl rfl Tryz.ntmps101 rfl rfl rfl fun g0 w0 ac gs ws hg0 hS => ?_
 have hS := hS.sp
 have hnn := numV_nn xs
 by_cases h1 : rbytes1_k xs 4000 = true
 ·have hnn := numV_nn xs
  by_cases h2 : rbytes1_k (((numV xs).2).drop (((numV xs).1).toNat)) 4000 = true
  ·have hnn := numV_nn xs
   refine rA [(1, .call ⟨102, (c_rbytes1 xs 4000), [(0, 0)], []⟩), (3, .call ⟨102, (c_rbytes1 (((numV xs).2).drop (((numV xs).1).toNat)) 4000), [(0, 0)], []⟩)] ⟨rbytes1_ok _ _ lnn omm h1, rbytes1_ok _ _ lnn omm h2, trivial⟩ (fun C => [ndC C 1, ndC C 3]) [] [0, 1] 2 ⟨rfl, rfl, trivial⟩ hS fun hS => ?_
   have hK : pc1_k xs = true := (pc1_ke xs).trans ((if_pos h1).trans (if_pos h2))
   rw [hK] at hk
   cases hk
  ·have hnn := numV_nn xs
   refine region_p (E := E0) mo hZ [(1, .call ⟨102, (c_rbytes1 xs 4000), [(0, 0)], []⟩)] ⟨rbytes1_ok _ _ lnn omm h1, trivial⟩ (some ⟨102, (c_rbytes1_p (((numV xs).2).drop (((numV xs).1).toNat)) 4000), [(0, 0)], []⟩) (fun r hr => by cases hr; exact rbytes1_p_ok (((numV xs).2).drop (((numV xs).1).toNat)) 4000 lnn omm (bne_k h2))  3 240 (fun C => [ndC C 1, nd [.cp 0 0, vi 4000] [some (.ob 188 (chain [lb (((numV xs).2).drop (((numV xs).1).toNat))]))]]) (.v (.iface 44 (.int .i64 ((rbytes1_p_e (((numV xs).2).drop (((numV xs).1).toNat)) 4000 : Nat) : Int)))) (by kernel_rfl) ⟨rfl, rfl, trivial⟩ hS.st fun ac gs ws pv hS hpv => ?_
   have hM : pc1_p_e xs = (rbytes1_p_e (((numV xs).2).drop (((numV xs).1).toNat)) 4000) := (pc1_p_ee xs).trans (if_pos h1)
   exact fin_p rfl hS hpv (by show _ = (.v (.iface 44 (.int .i64 ((pc1_p_e xs : Nat) : Int))) : D); rw [hM] <;> rfl) rfl
 ·have hnn := numV_nn xs
  refine region_p (E := E0) mo hZ [] trivial (some ⟨102, (c_rbytes1_p xs 4000), [(0, 0)], []⟩) (fun r hr => by cases hr; exact rbytes1_p_ok xs 4000 lnn omm (bne_k h1))  1 252 (fun _ => [nd [.cp 0 0, vi 4000] [some (.ob 188 (chain [lb xs]))]]) (.v (.iface 44 (.int .i64 ((rbytes1_p_e xs 4000 : Nat) : Int)))) (by kernel_rfl) ⟨rfl, trivial⟩ hS.st fun ac gs ws pv hS hpv => ?_
  have hM : pc1_p_e xs = (rbytes1_p_e xs 4000) := (pc1_p_ee xs).trans (if_neg h1)
  exact fin_p rfl hS hpv (by show _ = (.v (.iface 44 (.int .i64 ((pc1_p_e xs : Nat) : Int))) : D); rw [hM] <;> rfl) rfl

theorem pc1_p_pos (xs : List Int) : 0 < pc1_p_e xs := by
 rw [pc1_p_ee]; unfold pc1_p_ev
 repeat (first | decide | exact rbytes1_p_pos _ _ | split)
def rd1_kv (xs : List Int) : Bool := if pc1_k xs = true then (if rend_k (((numV (((numV xs).2).drop (((numV xs).1).toNat))).2).drop (((numV (((numV xs).2).drop (((numV xs).1).toNat))).1).toNat)) = true then true else false) else false
def rd1_k (xs : List Int) : Bool := shut (rd1_kv xs)
theorem rd1_ke (xs : List Int) : rd1_k xs = rd1_kv xs := shut_eq _
def rd1_p_ev (xs : List Int) : Nat := if pc1_k xs = true then 2 else (pc1_p_e xs)
def rd1_p_e (xs : List Int) : Nat := shut (rd1_p_ev xs)
theorem rd1_p_ee (xs : List Int) : rd1_p_e xs = rd1_p_ev xs := shut_eq _
def c_rd1 (xs : List Int) : Con := ⟨[lb xs, .fn 101 (chain []) (chain [.cp 0 0])], [(0, .ob 115 (chain [.v (.slice none 0 0), vi 0, vi 0, vi 0, .v (.slice none 0 0), .v (.slice none 0 0)]))], vi 0, [(0, .ob 115 (chain [lb (((numV xs).2).take (((numV xs).1).toNat)), vi 0, vi 0, vi 0, .v (.slice none 0 0), lb (((numV (((numV xs).2).drop (((numV xs).1).toNat))).2).take (((numV (((numV xs).2).drop (((numV xs).1).toNat))).1).toNat))]))]⟩
theorem rd1_ok (xs : List Int) (h : xs.length ≤ 100000000000000) (hk : rd1_k xs = true) : ConOk Tryz.prog 59 (c_rd1 xs) := by
 refine conOk_ofDf rfl (nb := 1) Tryz.func59 rfl rfl Tryz.ntmps59 rfl rfl rfl fun g0 w0 ac gs ws hg0 hS => ?_
 have hlen0 : xs.length ≤ 9223372036854775807 := hS.len 0 rfl
 have hS := hS.sp
 refine s0 [0, 1, 4] [0, 1] 2 hS fun hS => ?_
 refine wp_seq ?_
 have hS := hS.rv [(0, lb xs), (1, .fn 101 (chain []) (chain [.cp 0 0])), (4, .cp 1 0)] [(0, some (.ob 115 (chain [.v (.slice none 0 0), vi 0, vi 0, vi 0, .v (.slice none 0 0), .v (.slice none 0 0)]))), (1, some (.ob 44 (chain [vi 0])))]
 refine defer_x rfl hS (cs := [.cp 1 0]) rfl rfl rfl fun D vds ac hD hcv hB hS => ?_
 have hS := hS.sp
 refine then_n (sA [(1, .call ⟨89, (c_newrd xs), [], [(0, 2)]⟩)] ⟨newrd_ok _ lnn, trivial⟩ (fun C => [ndC C 1]) [1, 4, 5] [0, 1, 2] 3 ⟨rfl, trivial⟩ hS fun hS => ?_)
 refine wp_seq (s0 [1, 4, 5, 10] [0, 1, 2] 3 hS fun hS => ?_)
 refine cond_t hS ?_
 have hz := pc1_p_pos xs
 by_cases h1 : pc1_k xs = true
 ·have hz := pc1_p_pos xs
  refine rA [(2, .call ⟨101, (c_pc1 xs), [(0, 2), (1, 0)], []⟩)] ⟨pc1_ok _ lnn h1, trivial⟩ (fun C => [ndC C 2]) [4, 5] [0, 1, 2] 3 ⟨rfl, trivial⟩ hS fun hS => ?_
  refine then_n (wp_seq ?_)
  by_cases h2 : rend_k (((numV (((numV xs).2).drop (((numV xs).1).toNat))).2).drop (((numV (((numV xs).2).drop (((numV xs).1).toNat))).1).toNat)) = true
  ·refine rA [(1, .call ⟨90, (c_rend (((numV (((numV xs).2).drop (((numV xs).1).toNat))).2).drop (((numV (((numV xs).2).drop (((numV xs).1).toNat))).1).toNat))), [(0, 2)], []⟩)] ⟨rend_ok _ h2, trivial⟩ (fun C => [ndC C 1]) [4] [0, 1] 3 ⟨rfl, trivial⟩ hS fun hS => ?_
   refine then_n (s0 [4] [0, 1] 3 hS fun hS => ?_)
   refine wp_ret ?_
   have hS := hS.rv [(4, .cp 1 0)] [(0, some (.ob 115 (chain [lb (((numV xs).2).take (((numV xs).1).toNat)), vi 0, vi 0, vi 0, .v (.slice none 0 0), lb (((numV (((numV xs).2).drop (((numV xs).1).toNat))).2).take (((numV (((numV xs).2).drop (((numV xs).1).toNat))).1).toNat))]))), (1, some (.ob 44 (chain [vi 0])))]
   exact fin_dr (.inr rfl) hS hD (leaves_d ⟨88, (c_rec_r), [(0, 1)], []⟩ [(1, some (.ob 44 (chain [vi 0]))), (0, some (.ob 115 (chain [lb (((numV xs).2).take (((numV xs).1).toNat)), vi 0, vi 0, vi 0, .v (.slice none 0 0), lb (((numV (((numV xs).2).drop (((numV xs).1).toNat))).2).take (((numV (((numV xs).2).drop (((numV xs).1).toNat))).1).toNat))]))), (1, some (.ob 44 (chain [vi 0])))] hB hS hcv (show FrameMode.returning ≠ .run from nofun) rfl rfl rfl (rec_r_ok) rfl ⟨rfl, trivial⟩ rfl (ds := [vi 0]) (by kernel_rfl) rfl ⟨rfl, trivial⟩)
  ·have hK : rd1_k xs = false := (rd1_ke xs).trans ((if_pos h1).trans (if_neg h2))
   rw [hK] at hk
   cases hk
 ·have hz := pc1_p_pos xs
  have hK : rd1_k xs = false := (rd1_ke xs).trans (if_neg h1)
  rw [hK] at hk
  cases hk
def c_rd1_p (xs : List Int) : Con := ⟨[lb xs, .fn 101 (chain []) (chain [.cp 0 0])], [(0, .ob 115 (chain [.v (.slice none 0 0), vi 0, vi 0, vi 0, .v (.slice none 0 0), .v (.slice none 0 0)]))], vi ((rd1_p_e xs : Nat) : Int), []⟩
theorem rd1_p_ok (xs : List Int) (h : xs.length ≤ 100000000000000) (hk : rd1_k xs = false) : ConOk Tryz.prog 59 (c_rd1_p xs) := by
 refine conOk_ofDf rfl (nb := 1) Tryz.func59 rfl rfl Tryz.ntmps59 rfl rfl rfl fun g0 w0 ac gs ws hg0 hS => ?_
 have hlen0 : xs.length ≤ 9223372036854775807 := hS.len 0 rfl
 have hS := hS.sp
 refine s0 [0, 1, 4] [0, 1] 2 hS fun hS => ?_
 refine wp_seq ?_
 have hS := hS.rv [(0, lb xs), (1, .fn 101 (chain []) (chain [.cp 0 0])), (4, .cp 1 0)] [(0, some (.ob 115 (chain [.v (.slice none 0 0), vi 0, vi 0, vi 0, .v (.slice none 0 0), .v (.slice none 0 0)]))), (1, some (.ob 44 (chain [vi 0])))]
 refine defer_x rfl hS (cs := [.cp 1 0]) rfl rfl rfl fun D vds ac hD hcv hB hS => ?_
 have hS := hS.sp
 refine then_n (sA [(1, .call ⟨89, (c_newrd xs), [], [(0, 2)]⟩)] ⟨newrd_ok _ lnn, trivial⟩ (fun C => [ndC C 1]) [1, 4, 5] [0, 1, 2] 3 ⟨rfl, trivial⟩ hS fun hS => ?_)
 refine wp_seq (s0 [1, 4, 5, 10] [0, 1, 2] 3 hS fun hS => ?_)
 refine cond_t hS ?_
 have hz := pc1_p_pos xs
 by_cases h1 : pc1_k xs = true
 ·have hz := pc1_p_pos xs
  refine rA [(2, .call ⟨101, (c_pc1 xs), [(0, 2), (1, 0)], []⟩)] ⟨pc1_ok _ lnn h1, trivial⟩ (fun C => [ndC C 2]) [4, 5] [0, 1, 2] 3 ⟨rfl, trivial⟩ hS fun hS => ?_
  refine then_n (wp_seq ?_)
  by_cases h2 : rend_k (((numV (((numV xs).2).drop (((numV xs).1).toNat))).2).drop (((numV (((numV xs).2).drop (((numV xs).1).toNat))).1).toNat)) = true
  ·refine rA [(1, .call ⟨90, (c_rend (((numV (((numV xs).2).drop (((numV xs).1).toNat))).2).drop (((numV (((numV xs).2).drop (((numV xs).1).toNat))).1).toNat))), [(0, 2)], []⟩)] ⟨rend_ok _ h2, trivial⟩ (fun C => [ndC C 1]) [4] [0, 1] 3 ⟨rfl, trivial⟩ hS fun hS => ?_
   refine then_n (s0 [4] [0, 1] 3 hS fun hS => ?_)
   refine wp_ret ?_
   have hK : rd1_k xs = true := (rd1_ke xs).trans ((if_pos h1).trans (if_pos h2))
   rw [hK] at hk
   cases hk
  ·refine region_p2 (E := E0) mo hZ [] trivial (some ⟨90, (c_rend_p (((numV (((numV xs).2).drop (((numV xs).1).toNat))).2).drop (((numV (((numV xs).2).drop (((numV xs).1).toNat))).1).toNat))), [(0, 2)], []⟩) (fun r hr => by cases hr; exact rend_p_ok (((numV (((numV xs).2).drop (((numV xs).1).toNat))).2).drop (((numV (((numV xs).2).drop (((numV xs).1).toNat))).1).toNat)) (bne_k h2)) 1 0 (fun _ => [nd [.cp 2 0] [some (.ob 188 (chain [lb (((numV (((numV xs).2).drop (((numV xs).1).toNat))).2).drop (((numV (((numV xs).2).drop (((numV xs).1).toNat))).1).toNat))]))]]) (.v (.iface 44 (.int .i64 2))) [4] [1] [(4, .cp 1 0)] [(1, some (.ob 44 (chain [vi 0])))] (by kernel_rfl) ⟨rfl, trivial⟩ (by kernel_rfl) (by kernel_rfl) hS.st fun ac gs ws pv hS hpv => ?_
   refine then_pan ?_
   obtain rfl := hpv.v_of
   have hM : rd1_p_e xs = 2 := (rd1_p_ee xs).trans (if_pos h1)
   exact fin_dp hS hD (leaves_d ⟨88, (c_rec_p 2), [(0, 1)], []⟩ [(1, some (.ob 44 (chain [vi 2]))), (1, some (.ob 44 (chain [vi 0])))] hB hS hcv (show FrameMode.panicking _ ≠ .run from nofun) rfl rfl rfl (rec_p_ok 2 omm) rfl ⟨rfl, trivial⟩ rfl (ds := [vi 2]) (by kernel_rfl) (by show weak _ (vi ((rd1_p_e xs : Nat) : Int)) = (vi ((rd1_p_e xs : Nat) : Int)); first | rfl | (rw [hM]; first | (simp only []; rfl) | (simp only []; done) | rfl)) trivial)
 ·have hz := pc1_p_pos xs
  refine region_p2 (E := E0) mo hZ [] trivial (some ⟨101, (c_pc1_p xs), [(0, 2), (1, 0)], []⟩) (fun r hr => by cases hr; exact pc1_p_ok xs lnn (bne_k h1)) 2 0 (fun _ => [nd [.cp 2 0, .cp 0 0] [some (.ob 188 (chain [lb xs])), some (.ob 115 (chain [.v (.slice none 0 0), vi 0, vi 0, vi 0, .v (.slice none 0 0), .v (.slice none 0 0)]))]]) (.v (.iface 44 (.int .i64 ((pc1_p_e xs : Nat) : Int)))) [4] [1] [(4, .cp 1 0)] [(1, some (.ob 44 (chain [vi 0])))] (by kernel_rfl) ⟨rfl, trivial⟩ (by kernel_rfl) (by kernel_rfl) hS.st fun ac gs ws pv hS hpv => ?_
  refine then_pan ?_
  obtain rfl := hpv.v_of
  have hM : rd1_p_e xs = (pc1_p_e xs) := (rd1_p_ee xs).trans (if_neg h1)
  exact fin_dp hS hD (leaves_d ⟨88, (c_rec_p (pc1_p_e xs)), [(0, 1)], []⟩ [(1, some (.ob 44 (chain [vi (((pc1_p_e xs) : Nat) : Int)]))), (1, some (.ob 44 (chain [vi 0])))] hB hS hcv (show FrameMode.panicking _ ≠ .run from nofun) rfl rfl rfl (rec_p_ok (pc1_p_e xs) omm) rfl ⟨rfl, trivial⟩ rfl (ds := [vi (((pc1_p_e xs) : Nat) : Int)]) (by kernel_rfl) (by show weak _ (vi ((rd1_p_e xs : Nat) : Int)) = (vi ((rd1_p_e xs : Nat) : Int)); first | rfl | (rw [hM]; first | (simp only []; rfl) | (simp only []; done) | rfl)) trivial)

end
end Go.Sx.Tryz
namespace Go.Sx.Tryz
open Go.Mi Go.RowKit Go.Sx Go.Proofs
noncomputable section
theorem numV_le2 (xs : List Int) : (numV (numV xs).2).2.length ≤ xs.length := Nat.le_trans (numV_nn _).2 (numV_nn _).2
theorem numV_le3 (xs : List Int) : (numV (numV (numV xs).2).2).2.length ≤ xs.length := Nat.le_trans (numV_nn _).2 (numV_le2 _)
def pc2_kv (xs ba bb : List Int) : Bool := if snum_k xs = true then (if snum_k ((numV xs).2) = true then (if snum_k ((numV ((numV xs).2)).2) = true then (if rbytes1_k ((numV ((numV ((numV xs).2)).2)).2) 4000 = true then true else false) else false) else false) else false
def pc2_k (xs ba bb : List Int) : Bool := shut (pc2_kv xs ba bb)
theorem pc2_ke (xs ba bb : List Int) : pc2_k xs ba bb = pc2_kv xs ba bb := shut_eq _
def pc2_p_ev (xs ba bb : List Int) : Nat := if snum_k xs = true then (if snum_k ((numV xs).2) = true then (if snum_k ((numV ((numV xs).2)).2) = true then (rbytes1_p_e ((numV ((numV ((numV xs).2)).2)).2) 4000) else 2) else 2) else 2
def pc2_p_e (xs ba bb : List Int) : Nat := shut (pc2_p_ev xs ba bb)
theorem pc2_p_ee (xs ba bb : List Int) : pc2_p_e xs ba bb = pc2_p_ev xs ba bb := shut_eq _
def pc2_v (xs ba bb : List Int) : (List Int) × Nat × Nat × Nat × (List Int) := ((((numV ((numV ((numV ((numV xs).2)).2)).2)).2).drop (((numV ((numV ((numV ((numV xs).2)).2)).2)).1).toNat)), (((numV xs).1).toNat), (((numV ((numV xs).2)).1).toNat), (((numV ((numV ((numV xs).2)).2)).1).toNat), (((numV ((numV ((numV ((numV xs).2)).2)).2)).2).take (((numV ((numV ((numV ((numV xs).2)).2)).2)).1).toNat)))
def pc2_m (xs ba bb : List Int) : (List Int) × Nat × Nat × Nat × (List Int) := shut (pc2_v xs ba bb)
theorem pc2_e (xs ba bb : List Int) : pc2_m xs ba bb = pc2_v xs ba bb := shut_eq _
theorem pc2_len (xs ba bb : List Int) : (pc2_m xs ba bb).1.length ≤ xs.length := by
 have h3 := numV_le3 xs
 have h4 := (numV_nn (numV (numV (numV xs).2).2).2).2
 rw [pc2_e]
 show (List.drop _ _).length ≤ _
 rw [List.length_drop]
 omega
def c_pc2 (xs ba bb : List Int) : Con := ⟨[.cp 0 0, .cp 1 0], [(0, .ob 188 (chain [lb xs])), (1, .ob 115 (chain [lb ba, vi 0, vi 0, vi 0, .v (.slice none 0 0), lb bb]))], .tu (chain []), [(0, .ob 188 (chain [lb ((pc2_m xs ba bb).1)])), (1, .ob 115 (chain [lb ba, vi (((pc2_m xs ba bb).2.1 : Nat) : Int), vi (((pc2_m xs ba bb).2.2.1 : Nat) : Int), vi (((pc2_m xs ba bb).2.2.2.1 : Nat) : Int), lb ((pc2_m xs ba bb).2.2.2.2), lb bb]))]⟩
theorem pc2_ok (xs ba bb : List Int) (h : xs.length ≤ 100000000000000) (hk : pc2_k xs ba bb = true) : ConOk Tryz.prog 103 (c_pc2 xs ba bb) := by
 refine conOk_of rfl (nb := 2) Tryz.func103 rfl rfl Tryz.ntmps103 rfl rfl rfl fun g0 w0 ac gs ws hg0 hS => ?_
 have hS := hS.sp
 have hnn := numV_nn xs
 have hn2 := numV_le2 xs
 have hn3 := numV_le3 xs
 by_cases h1 : snum_k xs = true
 ·have hnn := numV_nn xs
  have hn2 := numV_le2 xs
  have hn3 := numV_le3 xs
  by_cases h2 : snum_k ((numV xs).2) = true
  ·have hnn := numV_nn xs
   have hn2 := numV_le2 xs
   have hn3 := numV_le3 xs
   by_cases h3 : snum_k ((numV ((numV xs).2)).2) = true
   ·have hnn := numV_nn xs
    have hn2 := numV_le2 xs
    have hn3 := numV_le3 xs
    by_cases h4 : rbytes1_k ((numV ((numV ((numV xs).2)).2)).2) 4000 = true
    ·have hnn := numV_nn xs
     have hn2 := numV_le2 xs
     have hn3 := numV_le3 xs
     refine rA [(1, .call ⟨92, (c_snum xs), [(0, 0)], []⟩), (3, .call ⟨92, (c_snum ((numV xs).2)), [(0, 0)], []⟩), (5, .call ⟨92, (c_snum ((numV ((numV xs).2)).2)), [(0, 0)], []⟩), (7, .call ⟨102, (c_rbytes1 ((numV ((numV ((numV xs).2)).2)).2) 4000), [(0, 0)], []⟩)] ⟨snum_ok _ lnn h1, snum_ok _ lnn h2, snum_ok _ lnn h3, rbytes1_ok _ _ lnn omm h4, trivial⟩ (fun C => [ndC C 1, ndC C 3, ndC C 5, ndC C 7]) [] [0, 1] 2 ⟨rfl, rfl, rfl, rfl, trivial⟩ hS fun hS => ?_
     have hM : pc2_m xs ba bb = ((((numV ((numV ((numV ((numV xs).2)).2)).2)).2).drop (((numV ((numV ((numV ((numV xs).2)).2)).2)).1).toNat)), (((numV xs).1).toNat), (((numV ((numV xs).2)).1).toNat), (((numV ((numV ((numV xs).2)).2)).1).toNat), (((numV ((numV ((numV ((numV xs).2)).2)).2)).2).take (((numV ((numV ((numV ((numV xs).2)).2)).2)).1).toNat))) := pc2_e xs ba bb
     exact fin_y rfl (.inl rfl) hS [] [(0, some (.ob 188 (chain [lb (((numV ((numV ((numV ((numV xs).2)).2)).2)).2).drop (((numV ((numV ((numV ((numV xs).2)).2)).2)).1).toNat))]))), (1, some (.ob 115 (chain [lb ba, vi (((((numV xs).1).toNat) : Nat) : Int), vi (((((numV ((numV xs).2)).1).toNat) : Nat) : Int), vi (((((numV ((numV ((numV xs).2)).2)).1).toNat) : Nat) : Int), lb (((numV ((numV ((numV ((numV xs).2)).2)).2)).2).take (((numV ((numV ((numV ((numV xs).2)).2)).2)).1).toNat)), lb bb])))] rfl (by show H1Ok _ [(0, .ob 188 (chain [lb ((pc2_m xs ba bb).1)])), (1, .ob 115 (chain [lb ba, vi (((pc2_m xs ba bb).2.1 : Nat) : Int), vi (((pc2_m xs ba bb).2.2.1 : Nat) : Int), vi (((pc2_m xs ba bb).2.2.2.1 : Nat) : Int), lb ((pc2_m xs ba bb).2.2.2.2), lb bb]))] true; rw [hM]; first | (simp only []; exact ⟨rfl, rfl, trivial⟩) | exact ⟨rfl, rfl, trivial⟩)
    ·have hnn := numV_nn xs
     have hn2 := numV_le2 xs
     have hn3 := numV_le3 xs
     have hK : pc2_k xs ba bb = false := (pc2_ke xs ba bb).trans ((if_pos h1).trans ((if_pos h2).trans ((if_pos h3).trans (if_neg h4))))
     rw [hK] at hk
     cases hk
   ·have hnn := numV_nn xs
    have hn2 := numV_le2 xs
    have hn3 := numV_le3 xs
    have hK : pc2_k xs ba bb = false := (pc2_ke xs ba bb).trans ((if_pos h1).trans ((if_pos h2).trans (if_neg h3)))
    rw [hK] at hk
    cases hk
  ·have hnn := numV_nn xs
   have hn2 := numV_le2 xs
   have hn3 := numV_le3 xs
   have hK : pc2_k xs ba bb = false := (pc2_ke xs ba bb).trans ((if_pos h1).trans (if_neg h2))
   rw [hK] at hk
   cases hk
 ·have hnn := numV_nn xs
  have hn2 := numV_le2 xs
  have hn3 := numV_le3 xs
  have hK : pc2_k xs ba bb = false := (pc2_ke xs ba bb).trans (if_neg h1)
  rw [hK] at hk
  cases hk
def c_pc2_p (xs ba bb : List Int) : Con := ⟨[.cp 0 0, .cp 1 0], [(0, .ob 188 (chain [lb xs])), (1, .ob 115 (chain [lb ba, vi 0, vi 0, vi 0, .v (.slice none 0 0), lb bb]))], .v (.iface 44 (.int .i64 ((pc2_p_e xs ba bb : Nat) : Int))), []⟩
theorem pc2_p_ok (xs ba bb : List Int) (h : xs.length ≤ 100000000000000) (hk : pc2_k xs ba bb = false) : PanOk Tryz.prog 103 (c_pc2_p xs ba bb) := by
 refine conOk_ofE rfl (nb := 2) Tryz.func103 rfl rfl Tryz.ntmps103 rfl rfl rfl fun g0 w0 ac gs ws hg0 hS => ?_
 have hS := hS.sp
 have hnn := numV_nn xs
 have hn2 := numV_le2 xs
 have hn3 := numV_le3 xs
 by_cases h1 : snum_k xs = true
 ·have hnn := numV_nn xs
  have hn2 := numV_le2 xs
  have hn3 := numV_le3 xs
  by_cases h2 : snum_k ((numV xs).2) = true
  ·have hnn := numV_nn xs
   have hn2 := numV_le2 xs
   have hn3 := numV_le3 xs
   by_cases h3 : snum_k ((numV ((numV xs).2)).2) = true
   ·have hnn := numV_nn xs
    have hn2 := numV_le2 xs
    have hn3 := numV_le3 xs
    by_cases h4 : rbytes1_k ((numV ((numV ((numV xs).2)).2)).2) 4000 = true
    ·have hnn := numV_nn xs
     have hn2 := numV_le2 xs
     have hn3 := numV_le3 xs
     refine rA [(1, .call ⟨92, (c_snum xs), [(0, 0)], []⟩), (3, .call ⟨92, (c_snum ((numV xs).2)), [(0, 0)], []⟩), (5, .call ⟨92, (c_snum ((numV ((numV xs).2)).2)), [(0, 0)], []⟩), (7, .call ⟨102, (c_rbytes1 ((numV ((numV ((numV xs).2)).2)).2) 4000), [(0, 0)], []⟩)] ⟨snum_ok _ lnn h1, snum_ok _ lnn h2, snum_ok _ lnn h3, rbytes1_ok _ _ lnn omm h4, trivial⟩ (fun C => [ndC C 1, ndC C 3, ndC C 5, ndC C 7]) [] [0, 1] 2 ⟨rfl, rfl, rfl, rfl, trivial⟩ hS fun hS => ?_
     have hK : pc2_k xs ba bb = true := (pc2_ke xs ba bb).trans ((if_pos h1).trans ((if_pos h2).trans ((if_pos h3).trans (if_pos h4))))
     rw [hK] at hk
     cases hk
    ·have hnn := numV_nn xs
     have hn2 := numV_le2 xs
     have hn3 := numV_le3 xs
     refine region_p (E := E0) mo hZ [(1, .call ⟨92, (c_snum xs), [(0, 0)], []⟩), (3, .call ⟨92, (c_snum ((numV xs).2)), [(0, 0)], []⟩), (5, .call ⟨92, (c_snum ((numV ((numV xs).2)).2)), [(0, 0)], []⟩)] ⟨snum_ok _ lnn h1, snum_ok _ lnn h2, snum_ok _ lnn h3, trivial⟩ (some ⟨102, (c_rbytes1_p ((numV ((numV ((numV xs).2)).2)).2) 4000), [(0, 0)], []⟩) (fun r hr => by cases hr; exact rbytes1_p_ok ((numV ((numV ((numV xs).2)).2)).2) 4000 lnn omm (bne_k h4))  7 65280 (fun C => [ndC C 1, ndC C 3, ndC C 5, nd [.cp 0 0, vi 4000] [some (.ob 188 (chain [lb ((numV ((numV ((numV xs).2)).2)).2)]))]]) (.v (.iface 44 (.int .i64 ((rbytes1_p_e ((numV ((numV ((numV xs).2)).2)).2) 4000 : Nat) : Int)))) (by kernel_rfl) ⟨rfl, rfl, rfl, rfl, trivial⟩ hS.st fun ac gs ws pv hS hpv => ?_
     have hM : pc2_p_e xs ba bb = (rbytes1_p_e ((numV ((numV ((numV xs).2)).2)).2) 4000) := (pc2_p_ee xs ba bb).trans ((if_pos h1).trans ((if_pos h2).trans (if_pos h3)))
     exact fin_p rfl hS hpv (by show _ = (.v (.iface 44 (.int .i64 ((pc2_p_e xs ba bb : Nat) : Int))) : D); rw [hM] <;> rfl) rfl
   ·have hnn := numV_nn xs
    have hn2 := numV_le2 xs
    have hn3 := numV_le3 xs
    refine region_p (E := E0) mo hZ [(1, .call ⟨92, (c_snum xs), [(0, 0)], []⟩), (3, .call ⟨92, (c_snum ((numV xs).2)), [(0, 0)], []⟩)] ⟨snum_ok _ lnn h1, snum_ok _ lnn h2, trivial⟩ (some ⟨92, (c_snum_p ((numV ((numV xs).2)).2)), [(0, 0)], []⟩) (fun r hr => by cases hr; exact snum_p_ok ((numV ((numV xs).2)).2) lnn (bne_k h3))  5 65472 (fun C => [ndC C 1, ndC C 3, nd [.cp 0 0] [some (.ob 188 (chain [lb ((numV ((numV xs).2)).2)]))]]) (.v (.iface 44 (.int .i64 2))) (by kernel_rfl) ⟨rfl, rfl, rfl, trivial⟩ hS.st fun ac gs ws pv hS hpv => ?_
    have hM : pc2_p_e xs ba bb = 2 := (pc2_p_ee xs ba bb).trans ((if_pos h1).trans ((if_pos h2).trans (if_neg h3)))
    exact fin_p rfl hS hpv (by show _ = (.v (.iface 44 (.int .i64 ((pc2_p_e xs ba bb : Nat) : Int))) : D); rw [hM] <;> rfl) rfl
  ·have hnn := numV_nn xs
   have hn2 := numV_le2 xs
   have hn3 := numV_le3 xs
   refine region_p (E := E0) mo hZ [(1, .call ⟨92, (c_snum xs), [(0, 0)], []⟩)] ⟨snum_ok _ lnn h1, trivial⟩ (some ⟨92, (c_snum_p ((numV xs).2)), [(0, 0)], []⟩) (fun r hr => by cases hr; exact snum_p_ok ((numV xs).2) lnn (bne_k h2))  3 65520 (fun C => [ndC C 1, nd [.cp 0 0] [some (.ob 188 (chain [lb ((numV xs).2)]))]]) (.v (.iface 44 (.int .i64 2))) (by kernel_rfl) ⟨rfl, rfl, trivial⟩ hS.st fun ac gs ws pv hS hpv => ?_
   have hM : pc2_p_e xs ba bb = 2 := (pc2_p_ee xs ba bb).trans ((if_pos h1).trans (if_neg h2))
   exact fin_p rfl hS hpv (by show _ = (.v (.iface 44 (.int .i64 ((pc2_p_e xs ba bb : Nat) : Int))) : D); rw [hM] <;> rfl) rfl
 ·have hnn := numV_nn xs
  have hn2 := numV_le2 xs
  have hn3 := numV_le3 xs
  refine region_p (E := E0) mo hZ [] trivial (some ⟨92, (c_snum_p xs), [(0, 0)], []⟩) (fun r hr => by cases hr; exact snum_p_ok xs lnn (bne_k h1))  1 65532 (fun _ => [nd [.cp 0 0] [some (.ob 188 (chain [lb xs]))]]) (.v (.iface 44 (.int .i64 2))) (by kernel_rfl) ⟨rfl, trivial⟩ hS.st fun ac gs ws pv hS hpv => ?_
  have hM : pc2_p_e xs ba bb = 2 := (pc2_p_ee xs ba bb).trans (if_neg h1)
  exact fin_p rfl hS hpv (by show _ = (.v (.iface 44 (.int .i64 ((pc2_p_e xs ba bb : Nat) : Int))) : D); rw [hM] <;> rfl) rfl

theorem pc2_p_pos (xs ba bb : List Int) : 0 < pc2_p_e xs ba bb := by
 rw [pc2_p_ee]; unfold pc2_p_ev
 repeat (first | decide | exact rbytes1_p_pos _ _ | split)
def rd2_kv (xs ba bb : List Int) : Bool := if pc2_k xs ba bb = true then (if rend_k ((pc2_m xs ba bb).1) = true then true else false) else false
def rd2_k (xs ba bb : List Int) : Bool := shut (rd2_kv xs ba bb)
theorem rd2_ke (xs ba bb : List Int) : rd2_k xs ba bb = rd2_kv xs ba bb := shut_eq _
def rd2_p_ev (xs ba bb : List Int) : Nat := if pc2_k xs ba bb = true then 2 else (pc2_p_e xs ba bb)
def rd2_p_e (xs ba bb : List Int) : Nat := shut (rd2_p_ev xs ba bb)
theorem rd2_p_ee (xs ba bb : List Int) : rd2_p_e xs ba bb = rd2_p_ev xs ba bb := shut_eq _
def rd2_v (xs ba bb : List Int) : Nat × Nat × Nat × (List Int) := (((pc2_m xs ba bb).2.1), ((pc2_m xs ba bb).2.2.1), ((pc2_m xs ba bb).2.2.2.1), (pc2_m xs ba bb).2.2.2.2)
def rd2_m (xs ba bb : List Int) : Nat × Nat × Nat × (List Int) := shut (rd2_v xs ba bb)
theorem rd2_e (xs ba bb : List Int) : rd2_m xs ba bb = rd2_v xs ba bb := shut_eq _
def c_rd2 (xs ba bb : List Int) : Con := ⟨[lb xs, .fn 103 (chain []) (chain [.cp 0 0])], [(0, .ob 115 (chain [lb ba, vi 0, vi 0, vi 0, .v (.slice none 0 0), lb bb]))], vi 0, [(0, .ob 115 (chain [lb ba, vi (((rd2_m xs ba bb).1 : Nat) : Int), vi (((rd2_m xs ba bb).2.1 : Nat) : Int), vi (((rd2_m xs ba bb).2.2.1 : Nat) : Int), lb ((rd2_m xs ba bb).2.2.2), lb bb]))]⟩
theorem rd2_ok (xs ba bb : List Int) (h : xs.length ≤ 100000000000000) (hk : rd2_k xs ba bb = true) : ConOk Tryz.prog 59 (c_rd2 xs ba bb) := by
 refine conOk_ofDf rfl (nb := 1) Tryz.func59 rfl rfl Tryz.ntmps59 rfl rfl rfl fun g0 w0 ac gs ws hg0 hS => ?_
 have hlen0 : xs.length ≤ 9223372036854775807 := hS.len 0 rfl
 have hS := hS.sp
 refine s0 [0, 1, 4] [0, 1] 2 hS fun hS => ?_
 refine wp_seq ?_
 have hS := hS.rv [(0, lb xs), (1, .fn 103 (chain []) (chain [.cp 0 0])), (4, .cp 1 0)] [(0, some (.ob 115 (chain [lb ba, vi 0, vi 0, vi 0, .v (.slice none 0 0), lb bb]))), (1, some (.ob 44 (chain [vi 0])))]
 refine defer_x rfl hS (cs := [.cp 1 0]) rfl rfl rfl fun D vds ac hD hcv hB hS => ?_
 have hS := hS.sp
 refine then_n (sA [(1, .call ⟨89, (c_newrd xs), [], [(0, 2)]⟩)] ⟨newrd_ok _ lnn, trivial⟩ (fun C => [ndC C 1]) [1, 4, 5] [0, 1, 2] 3 ⟨rfl, trivial⟩ hS fun hS => ?_)
 refine wp_seq (s0 [1, 4, 5, 10] [0, 1, 2] 3 hS fun hS => ?_)
 refine cond_t hS ?_
 have hz := pc2_p_pos xs ba bb
 by_cases h1 : pc2_k xs ba bb = true
 ·have hz := pc2_p_pos xs ba bb
  refine rA [(2, .call ⟨103, (c_pc2 xs ba bb), [(0, 2), (1, 0)], []⟩)] ⟨pc2_ok _ _ _ lnn h1, trivial⟩ (fun C => [ndC C 2]) [4, 5] [0, 1, 2] 3 ⟨rfl, trivial⟩ hS fun hS => ?_
  refine then_n (wp_seq ?_)
  have hpl := pc2_len xs ba bb
  by_cases h2 : rend_k ((pc2_m xs ba bb).1) = true
  ·have hpl := pc2_len xs ba bb
   refine rA [(1, .call ⟨90, (c_rend ((pc2_m xs ba bb).1)), [(0, 2)], []⟩)] ⟨rend_ok _ h2, trivial⟩ (fun C => [ndC C 1]) [4] [0, 1] 3 ⟨rfl, trivial⟩ hS fun hS => ?_
   refine then_n (s0 [4] [0, 1] 3 hS fun hS => ?_)
   refine wp_ret ?_
   have hM : rd2_m xs ba bb = (((pc2_m xs ba bb).2.1), ((pc2_m xs ba bb).2.2.1), ((pc2_m xs ba bb).2.2.2.1), (pc2_m xs ba bb).2.2.2.2) := rd2_e xs ba bb
   have hS := hS.rv [(4, .cp 1 0)] [(0, some (.ob 115 (chain [lb ba, vi (((pc2_m xs ba bb).2.1 : Nat) : Int), vi (((pc2_m xs ba bb).2.2.1 : Nat) : Int), vi (((pc2_m xs ba bb).2.2.2.1 : Nat) : Int), lb ((pc2_m xs ba bb).2.2.2.2), lb bb]))), (1, some (.ob 44 (chain [vi 0])))]
   exact fin_dr (.inr rfl) hS hD (leaves_d ⟨88, (c_rec_r), [(0, 1)], []⟩ [(1, some (.ob 44 (chain [vi 0]))), (0, some (.ob 115 (chain [lb ba, vi (((pc2_m xs ba bb).2.1 : Nat) : Int), vi (((pc2_m xs ba bb).2.2.1 : Nat) : Int), vi (((pc2_m xs ba bb).2.2.2.1 : Nat) : Int), lb ((pc2_m xs ba bb).2.2.2.2), lb bb]))), (1, some (.ob 44 (chain [vi 0])))] hB hS hcv (show FrameMode.returning ≠ .run from nofun) rfl rfl rfl (rec_r_ok) rfl ⟨rfl, trivial⟩ rfl (ds := [vi 0]) (by kernel_rfl) rfl (by show H1Ok _ [(0, .ob 115 (chain [lb ba, vi (((rd2_m xs ba bb).1 : Nat) : Int), vi (((rd2_m xs ba bb).2.1 : Nat) : Int), vi (((rd2_m xs ba bb).2.2.1 : Nat) : Int), lb ((rd2_m xs ba bb).2.2.2), lb bb]))] true; first | exact ⟨rfl, trivial⟩ | (rw [hM]; first | (simp only []; exact ⟨rfl, trivial⟩) | exact ⟨rfl, trivial⟩)))
  ·have hpl := pc2_len xs ba bb
   have hK : rd2_k xs ba bb = false := (rd2_ke xs ba bb).trans ((if_pos h1).trans (if_neg h2))
   rw [hK] at hk
   cases hk
 ·have hz := pc2_p_pos xs ba bb
  have hK : rd2_k xs ba bb = false := (rd2_ke xs ba bb).trans (if_neg h1)
  rw [hK] at hk
  cases hk
def c_rd2_p (xs ba bb : List Int) : Con := ⟨[lb xs, .fn 103 (chain []) (chain [.cp 0 0])], [(0, .ob 115 (chain [lb ba, vi 0, vi 0, vi 0, .v (.slice none 0 0), lb bb]))], vi ((rd2_p_e xs ba bb : Nat) : Int), []⟩
theorem rd2_p_ok (xs ba bb : List Int) (h : xs.length ≤ 100000000000000) (hk : rd2_k xs ba bb = false) : ConOk Tryz.prog 59 (c_rd2_p xs ba bb) := by
 refine conOk_ofDf rfl (nb := 1) Tryz.func59 rfl rfl Tryz.ntmps59 rfl rfl rfl fun g0 w0 ac gs ws hg0 hS => ?_
 have hlen0 : xs.length ≤ 9223372036854775807 := hS.len 0 rfl
 have hS := hS.sp
 refine s0 [0, 1, 4] [0, 1] 2 hS fun hS => ?_
 refine wp_seq ?_
 have hS := hS.rv [(0, lb xs), (1, .fn 103 (chain []) (chain [.cp 0 0])), (4, .cp 1 0)] [(0, some (.ob 115 (chain [lb ba, vi 0, vi 0, vi 0, .v (.slice none 0 0), lb bb]))), (1, some (.ob 44 (chain [vi 0])))]
 refine defer_x rfl hS (cs := [.cp 1 0]) rfl rfl rfl fun D vds ac hD hcv hB hS => ?_
 have hS := hS.sp
 refine then_n (sA [(1, .call ⟨89, (c_newrd xs), [], [(0, 2)]⟩)] ⟨newrd_ok _ lnn, trivial⟩ (fun C => [ndC C 1]) [1, 4, 5] [0, 1, 2] 3 ⟨rfl, trivial⟩ hS fun hS => ?_)
 refine wp_seq (s0 [1, 4, 5, 10] [0, 1, 2] 3 hS fun hS => ?_)
 refine cond_t hS ?_
 have hz := pc2_p_pos xs ba bb
 by_cases h1 : pc2_k xs ba bb = true
 ·have hz := pc2_p_pos xs ba bb
  refine rA [(2, .call ⟨103, (c_pc2 xs ba bb), [(0, 2), (1, 0)], []⟩)] ⟨pc2_ok _ _ _ lnn h1, trivial⟩ (fun C => [ndC C 2]) [4, 5] [0, 1, 2] 3 ⟨rfl, trivial⟩ hS fun hS => ?_
  refine then_n (wp_seq ?_)
  have hpl := pc2_len xs ba bb
  by_cases h2 : rend_k ((pc2_m xs ba bb).1) = true
  ·have hpl := pc2_len xs ba bb
   refine rA [(1, .call ⟨90, (c_rend ((pc2_m xs ba bb).1)), [(0, 2)], []⟩)] ⟨rend_ok _ h2, trivial⟩ (fun C => [ndC C 1]) [4] [0, 1] 3 ⟨rfl, trivial⟩ hS fun hS => ?_
   refine then_n (s0 [4] [0, 1] 3 hS fun hS => ?_)
   refine wp_ret ?_
   have hK : rd2_k xs ba bb = true := (rd2_ke xs ba bb).trans ((if_pos h1).trans (if_pos h2))
   rw [hK] at hk
   cases hk
  ·have hpl := pc2_len xs ba bb
   refine region_p2 (E := E0) mo hZ [] trivial (some ⟨90, (c_rend_p ((pc2_m xs ba bb).1)), [(0, 2)], []⟩) (fun r hr => by cases hr; exact rend_p_ok ((pc2_m xs ba bb).1) (bne_k h2)) 1 0 (fun _ => [nd [.cp 2 0] [some (.ob 188 (chain [lb ((pc2_m xs ba bb).1)]))]]) (.v (.iface 44 (.int .i64 2))) [4] [1] [(4, .cp 1 0)] [(1, some (.ob 44 (chain [vi 0])))] (by kernel_rfl) ⟨rfl, trivial⟩ (by kernel_rfl) (by kernel_rfl) hS.st fun ac gs ws pv hS hpv => ?_
   refine then_pan ?_
   obtain rfl := hpv.v_of
   have hM : rd2_p_e xs ba bb = 2 := (rd2_p_ee xs ba bb).trans (if_pos h1)
   exact fin_dp hS hD (leaves_d ⟨88, (c_rec_p 2), [(0, 1)], []⟩ [(1, some (.ob 44 (chain [vi 2]))), (1, some (.ob 44 (chain [vi 0])))] hB hS hcv (show FrameMode.panicking _ ≠ .run from nofun) rfl rfl rfl (rec_p_ok 2 omm) rfl ⟨rfl, trivial⟩ rfl (ds := [vi 2]) (by kernel_rfl) (by show weak _ (vi ((rd2_p_e xs ba bb : Nat) : Int)) = (vi ((rd2_p_e xs ba bb : Nat) : Int)); first | rfl | (rw [hM]; first | (simp only []; rfl) | (simp only []; done) | rfl)) trivial)
 ·have hz := pc2_p_pos xs ba bb
  refine region_p2 (E := E0) mo hZ [] trivial (some ⟨103, (c_pc2_p xs ba bb), [(0, 2), (1, 0)], []⟩) (fun r hr => by cases hr; exact pc2_p_ok xs ba bb lnn (bne_k h1)) 2 0 (fun _ => [nd [.cp 2 0, .cp 0 0] [some (.ob 188 (chain [lb xs])), some (.ob 115 (chain [lb ba, vi 0, vi 0, vi 0, .v (.slice none 0 0), lb bb]))]]) (.v (.iface 44 (.int .i64 ((pc2_p_e xs ba bb : Nat) : Int)))) [4] [1] [(4, .cp 1 0)] [(1, some (.ob 44 (chain [vi 0])))] (by kernel_rfl) ⟨rfl, trivial⟩ (by kernel_rfl) (by kernel_rfl) hS.st fun ac gs ws pv hS hpv => ?_
  refine then_pan ?_
  obtain rfl := hpv.v_of
  have hM : rd2_p_e xs ba bb = (pc2_p_e xs ba bb) := (rd2_p_ee xs ba bb).trans (if_neg h1)
  exact fin_dp hS hD (leaves_d ⟨88, (c_rec_p (pc2_p_e xs ba bb)), [(0, 1)], []⟩ [(1, some (.ob 44 (chain [vi (((pc2_p_e xs ba bb) : Nat) : Int)]))), (1, some (.ob 44 (chain [vi 0])))] hB hS hcv (show FrameMode.panicking _ ≠ .run from nofun) rfl rfl rfl (rec_p_ok (pc2_p_e xs ba bb) omm) rfl ⟨rfl, trivial⟩ rfl (ds := [vi (((pc2_p_e xs ba bb) : Nat) : Int)]) (by kernel_rfl) (by show weak _ (vi ((rd2_p_e xs ba bb : Nat) : Int)) = (vi ((rd2_p_e xs ba bb : Nat) : Int)); first | rfl | (rw [hM]; first | (simp only []; rfl) | (simp only []; done) | rfl)) trivial)

end
end Go.Sx.Tryz
namespace Go.Sx.Tryz
open Go.Mi Go.RowKit Go.Sx Go.Proofs
noncomputable section
def c_must0 : Con := ⟨[vi 0], [], .tu (chain []), []⟩
theorem must0_ok : ConOk Tryz.prog 71 (c_must0) := by
 refine conOk_of rfl (nb := 0) Tryz.func71 rfl rfl Tryz.ntmps71 rfl rfl rfl fun g0 w0 ac gs ws hg0 hS => ?_
 have hS := hS.sp
 refine s0 [0, 3] [] 0 hS fun hS => ?_
 refine cond_f hS ?_
 refine wp_skip ?_
 exact fin_y rfl (.inl rfl) hS [] [] rfl trivial

def c_mustp (n : Nat) : Con := ⟨[vi (n : Int)], [], .v (.iface 44 (.int .i64 (n : Int))), []⟩
theorem mustp_ok (n : Nat) (hn : 0 < n) : PanOk Tryz.prog 71 (c_mustp n) := by
 refine conOk_ofE rfl (nb := 0) Tryz.func71 rfl rfl Tryz.ntmps71 rfl rfl rfl fun g0 w0 ac gs ws hg0 hS => ?_
 have hS := hS.sp
 have hn0 : ¬ (n : Int) = 0 := omm
 refine sA [(1, .ob true)] trivial (fun _ => [(!decide ((n : Int) = 0)) = true]) [0, 3] [] 0 ⟨by rw [decide_eq_false hn0]; rfl, trivial⟩ hS fun hS => ?_
 refine cond_t hS ?_
 refine region_p (E := E0) mo hZ [] trivial none (fun r hr => by cases hr)  2 0 (fun _ => []) (.v (.iface 44 (.int .i64 (n : Int)))) (by kernel_rfl) trivial hS.st fun ac gs ws pv hS hpv => ?_
 exact fin_p rfl hS hpv rfl rfl

theorem rd1_p_pos (xs : List Int) : 0 < rd1_p_e xs := by
 rw [rd1_p_ee]; unfold rd1_p_ev
 repeat (first | decide | exact pc1_p_pos _ | split)
theorem rd2_p_pos (xs ba bb : List Int) : 0 < rd2_p_e xs ba bb := by
 rw [rd2_p_ee]; unfold rd2_p_ev
 repeat (first | decide | exact pc2_p_pos _ _ _ | split)
def parted_kv (xs : List Int) : Bool := if rd1_k xs = true then (if rd2_k (((numV xs).2).take (((numV xs).1).toNat)) (((numV xs).2).take (((numV xs).1).toNat)) (((numV (((numV xs).2).drop (((numV xs).1).toNat))).2).take (((numV (((numV xs).2).drop (((numV xs).1).toNat))).1).toNat)) = true then (if (((([] ++ numW (((numV xs).2).take (((numV xs).1).toNat)).length) ++ (((numV xs).2).take (((numV xs).1).toNat))) ++ numW (((numV (((numV xs).2).drop (((numV xs).1).toNat))).2).take (((numV (((numV xs).2).drop (((numV xs).1).toNat))).1).toNat)).length) ++ (((numV (((numV xs).2).drop (((numV xs).1).toNat))).2).take (((numV (((numV xs).2).drop (((numV xs).1).toNat))).1).toNat))) = xs then true else false) else false) else false
def parted_k (xs : List Int) : Bool := shut (parted_kv xs)
theorem parted_ke (xs : List Int) : parted_k xs = parted_kv xs := shut_eq _
def parted_p_ev (xs : List Int) : Nat := if rd1_k xs = true then (if rd2_k (((numV xs).2).take (((numV xs).1).toNat)) (((numV xs).2).take (((numV xs).1).toNat)) (((numV (((numV xs).2).drop (((numV xs).1).toNat))).2).take (((numV (((numV xs).2).drop (((numV xs).1).toNat))).1).toNat)) = true then 2 else (rd2_p_e (((numV xs).2).take (((numV xs).1).toNat)) (((numV xs).2).take (((numV xs).1).toNat)) (((numV (((numV xs).2).drop (((numV xs).1).toNat))).2).take (((numV (((numV xs).2).drop (((numV xs).1).toNat))).1).toNat)))) else (rd1_p_e xs)
def parted_p_e (xs : List Int) : Nat := shut (parted_p_ev xs)
theorem parted_p_ee (xs : List Int) : parted_p_e xs = parted_p_ev xs := shut_eq _
def parted_v (xs : List Int) : (List Int) × Nat × Nat × Nat × (List Int) × (List Int) := ((((numV xs).2).take (((numV xs).1).toNat)), ((rd2_m (((numV xs).2).take (((numV xs).1).toNat)) (((numV xs).2).take (((numV xs).1).toNat)) (((numV (((numV xs).2).drop (((numV xs).1).toNat))).2).take (((numV (((numV xs).2).drop (((numV xs).1).toNat))).1).toNat))).1), ((rd2_m (((numV xs).2).take (((numV xs).1).toNat)) (((numV xs).2).take (((numV xs).1).toNat)) (((numV (((numV xs).2).drop (((numV xs).1).toNat))).2).take (((numV (((numV xs).2).drop (((numV xs).1).toNat))).1).toNat))).2.1), ((rd2_m (((numV xs).2).take (((numV xs).1).toNat)) (((numV xs).2).take (((numV xs).1).toNat)) (((numV (((numV xs).2).drop (((numV xs).1).toNat))).2).take (((numV (((numV xs).2).drop (((numV xs).1).toNat))).1).toNat))).2.2.1), (rd2_m (((numV xs).2).take (((numV xs).1).toNat)) (((numV xs).2).take (((numV xs).1).toNat)) (((numV (((numV xs).2).drop (((numV xs).1).toNat))).2).take (((numV (((numV xs).2).drop (((numV xs).1).toNat))).1).toNat))).2.2.2, (((numV (((numV xs).2).drop (((numV xs).1).toNat))).2).take (((numV (((numV xs).2).drop (((numV xs).1).toNat))).1).toNat)))
def parted_m (xs : List Int) : (List Int) × Nat × Nat × Nat × (List Int) × (List Int) := shut (parted_v xs)
theorem parted_e (xs : List Int) : parted_m xs = parted_v xs := shut_eq _
def c_parted (xs : List Int) : Con := ⟨[lb xs], [], .ag (chain [lb ((parted_m xs).1), vi (((parted_m xs).2.1 : Nat) : Int), vi (((parted_m xs).2.2.1 : Nat) : Int), vi (((parted_m xs).2.2.2.1 : Nat) : Int), lb ((parted_m xs).2.2.2.2.1), lb ((parted_m xs).2.2.2.2.2)]), []⟩
theorem parted_ok (xs : List Int) (h : xs.length ≤ 1000000000) (hk : parted_k xs = true) : ConOk Tryz.prog 68 (c_parted xs) := by
 refine conOk_of rfl (nb := 0) Tryz.func68 rfl rfl Tryz.ntmps68 rfl rfl rfl fun g0 w0 ac gs ws hg0 hS => ?_
 have hlen0 : xs.length ≤ 9223372036854775807 := hS.len 0 rfl
 have hS := hS.sp
 refine s0 [0, 2] [0] 1 hS fun hS => ?_
 refine wp_seq ?_
 have hz1 := rd1_p_pos xs
 have hnn := numV_nn xs
 by_cases h1 : rd1_k xs = true
 ·have hz1 := rd1_p_pos xs
  have hnn := numV_nn xs
  refine rA [(2, .call ⟨59, (c_rd1 xs), [(0, 0)], []⟩), (3, .call ⟨71, (c_must0), [], []⟩)] ⟨rd1_ok _ lnn h1, must0_ok, trivial⟩ (fun C => [ndC C 2, ndC C 3]) [0, 2] [0] 1 ⟨rfl, rfl, trivial⟩ hS fun hS => ?_
  refine then_n (wp_seq ?_)
  have hz2 := rd2_p_pos (((numV xs).2).take (((numV xs).1).toNat)) (((numV xs).2).take (((numV xs).1).toNat)) (((numV (((numV xs).2).drop (((numV xs).1).toNat))).2).take (((numV (((numV xs).2).drop (((numV xs).1).toNat))).1).toNat))
  by_cases h2 : rd2_k (((numV xs).2).take (((numV xs).1).toNat)) (((numV xs).2).take (((numV xs).1).toNat)) (((numV (((numV xs).2).drop (((numV xs).1).toNat))).2).take (((numV (((numV xs).2).drop (((numV xs).1).toNat))).1).toNat)) = true
  ·have hz2 := rd2_p_pos (((numV xs).2).take (((numV xs).1).toNat)) (((numV xs).2).take (((numV xs).1).toNat)) (((numV (((numV xs).2).drop (((numV xs).1).toNat))).2).take (((numV (((numV xs).2).drop (((numV xs).1).toNat))).1).toNat))
   refine rA [(3, .call ⟨59, (c_rd2 (((numV xs).2).take (((numV xs).1).toNat)) (((numV xs).2).take (((numV xs).1).toNat)) (((numV (((numV xs).2).drop (((numV xs).1).toNat))).2).take (((numV (((numV xs).2).drop (((numV xs).1).toNat))).1).toNat))), [(0, 0)], []⟩), (4, .call ⟨71, (c_must0), [], []⟩)] ⟨rd2_ok _ _ _ lnn h2, must0_ok, trivial⟩ (fun C => [ndC C 3, ndC C 4]) [0, 2] [0] 1 ⟨rfl, rfl, trivial⟩ hS fun hS => ?_
   refine then_n (s0 [0, 2, 3] [0, 1] 2 hS fun hS => ?_)
   refine wp_seq (wp_seq ?_)
   have hnn := numV_nn xs
   have hn2 := numV_nn ((numV xs).2.drop (numV xs).1.toNat)
   rw [List.length_drop] at hn2
   have w1 := numW_10 (n := min (numV xs).1.toNat (numV xs).2.length) omm
   have w2 := numW_10 (n := min (numV ((numV xs).2.drop (numV xs).1.toNat)).1.toNat (numV ((numV xs).2.drop (numV xs).1.toNat)).2.length) omm
   refine rA [(3, .call ⟨48, (c_wbytes0 (((numV xs).2).take (((numV xs).1).toNat))), [(0, 1)], [(1, 2)]⟩), (6, .call ⟨48, (c_wbytes (([] ++ numW (((numV xs).2).take (((numV xs).1).toNat)).length) ++ (((numV xs).2).take (((numV xs).1).toNat))) (((numV (((numV xs).2).drop (((numV xs).1).toNat))).2).take (((numV (((numV xs).2).drop (((numV xs).1).toNat))).1).toNat))), [(0, 1), (1, 2)], [(2, 3)]⟩), (7, .call ⟨49, (c_wdone (((([] ++ numW (((numV xs).2).take (((numV xs).1).toNat)).length) ++ (((numV xs).2).take (((numV xs).1).toNat))) ++ numW (((numV (((numV xs).2).drop (((numV xs).1).toNat))).2).take (((numV (((numV xs).2).drop (((numV xs).1).toNat))).1).toNat)).length) ++ (((numV (((numV xs).2).drop (((numV xs).1).toNat))).2).take (((numV (((numV xs).2).drop (((numV xs).1).toNat))).1).toNat)))), [(0, 1), (1, 3)], []⟩), (9, .call ⟨37, (c_equal (((([] ++ numW (((numV xs).2).take (((numV xs).1).toNat)).length) ++ (((numV xs).2).take (((numV xs).1).toNat))) ++ numW (((numV (((numV xs).2).drop (((numV xs).1).toNat))).2).take (((numV (((numV xs).2).drop (((numV xs).1).toNat))).1).toNat)).length) ++ (((numV (((numV xs).2).drop (((numV xs).1).toNat))).2).take (((numV (((numV xs).2).drop (((numV xs).1).toNat))).1).toNat))) xs), [], []⟩)] ⟨wbytes0_ok _ lnn, wbytes_ok _ _ lnn lnn, wdone_ok _ lnn, equal_ok _ _, trivial⟩ (fun C => [ndC C 3, ndC C 6, ndC C 7, ndC C 9]) [2, 25] [0] 4 ⟨rfl, rfl, rfl, rfl, trivial⟩ hS fun hS => ?_
   refine then_n ?_
   refine if_n ((((([] ++ numW (((numV xs).2).take (((numV xs).1).toNat)).length) ++ (((numV xs).2).take (((numV xs).1).toNat))) ++ numW (((numV (((numV xs).2).drop (((numV xs).1).toNat))).2).take (((numV (((numV xs).2).drop (((numV xs).1).toNat))).1).toNat)).length) ++ (((numV (((numV xs).2).drop (((numV xs).1).toNat))).2).take (((numV (((numV xs).2).drop (((numV xs).1).toNat))).1).toNat))) = xs) hS (fun h3 => ?_) (fun h3 => ?_)
   ·have hK : parted_k xs = false := (parted_ke xs).trans ((if_pos h1).trans ((if_pos h2).trans (if_neg h3)))
    rw [hK] at hk
    cases hk
   ·refine wp_skip (then_n (s0 [2] [0] 4 hS fun hS => ?_))
    refine wp_ret ?_
    have hM : parted_m xs = ((((numV xs).2).take (((numV xs).1).toNat)), ((rd2_m (((numV xs).2).take (((numV xs).1).toNat)) (((numV xs).2).take (((numV xs).1).toNat)) (((numV (((numV xs).2).drop (((numV xs).1).toNat))).2).take (((numV (((numV xs).2).drop (((numV xs).1).toNat))).1).toNat))).1), ((rd2_m (((numV xs).2).take (((numV xs).1).toNat)) (((numV xs).2).take (((numV xs).1).toNat)) (((numV (((numV xs).2).drop (((numV xs).1).toNat))).2).take (((numV (((numV xs).2).drop (((numV xs).1).toNat))).1).toNat))).2.1), ((rd2_m (((numV xs).2).take (((numV xs).1).toNat)) (((numV xs).2).take (((numV xs).1).toNat)) (((numV (((numV xs).2).drop (((numV xs).1).toNat))).2).take (((numV (((numV xs).2).drop (((numV xs).1).toNat))).1).toNat))).2.2.1), (rd2_m (((numV xs).2).take (((numV xs).1).toNat)) (((numV xs).2).take (((numV xs).1).toNat)) (((numV (((numV xs).2).drop (((numV xs).1).toNat))).2).take (((numV (((numV xs).2).drop (((numV xs).1).toNat))).1).toNat))).2.2.2, (((numV (((numV xs).2).drop (((numV xs).1).toNat))).2).take (((numV (((numV xs).2).drop (((numV xs).1).toNat))).1).toNat))) := parted_e xs
    exact fin_y rfl (.inr rfl) hS [.ag (chain [lb (((numV xs).2).take (((numV xs).1).toNat)), vi (((rd2_m (((numV xs).2).take (((numV xs).1).toNat)) (((numV xs).2).take (((numV xs).1).toNat)) (((numV (((numV xs).2).drop (((numV xs).1).toNat))).2).take (((numV (((numV xs).2).drop (((numV xs).1).toNat))).1).toNat))).1 : Nat) : Int), vi (((rd2_m (((numV xs).2).take (((numV xs).1).toNat)) (((numV xs).2).take (((numV xs).1).toNat)) (((numV (((numV xs).2).drop (((numV xs).1).toNat))).2).take (((numV (((numV xs).2).drop (((numV xs).1).toNat))).1).toNat))).2.1 : Nat) : Int), vi (((rd2_m (((numV xs).2).take (((numV xs).1).toNat)) (((numV xs).2).take (((numV xs).1).toNat)) (((numV (((numV xs).2).drop (((numV xs).1).toNat))).2).take (((numV (((numV xs).2).drop (((numV xs).1).toNat))).1).toNat))).2.2.1 : Nat) : Int), lb ((rd2_m (((numV xs).2).take (((numV xs).1).toNat)) (((numV xs).2).take (((numV xs).1).toNat)) (((numV (((numV xs).2).drop (((numV xs).1).toNat))).2).take (((numV (((numV xs).2).drop (((numV xs).1).toNat))).1).toNat))).2.2.2), lb (((numV (((numV xs).2).drop (((numV xs).1).toNat))).2).take (((numV (((numV xs).2).drop (((numV xs).1).toNat))).1).toNat))])] [] (by show weak _ (.ag (chain [lb ((parted_m xs).1), vi (((parted_m xs).2.1 : Nat) : Int), vi (((parted_m xs).2.2.1 : Nat) : Int), vi (((parted_m xs).2.2.2.1 : Nat) : Int), lb ((parted_m xs).2.2.2.2.1), lb ((parted_m xs).2.2.2.2.2)])) = (.ag (chain [lb ((parted_m xs).1), vi (((parted_m xs).2.1 : Nat) : Int), vi (((parted_m xs).2.2.1 : Nat) : Int), vi (((parted_m xs).2.2.2.1 : Nat) : Int), lb ((parted_m xs).2.2.2.2.1), lb ((parted_m xs).2.2.2.2.2)])); rw [hM]; first | (simp only []; rfl) | (simp only []; done) | rfl) trivial
  ·have hz2 := rd2_p_pos (((numV xs).2).take (((numV xs).1).toNat)) (((numV xs).2).take (((numV xs).1).toNat)) (((numV (((numV xs).2).drop (((numV xs).1).toNat))).2).take (((numV (((numV xs).2).drop (((numV xs).1).toNat))).1).toNat))
   have hK : parted_k xs = false := (parted_ke xs).trans ((if_pos h1).trans (if_neg h2))
   rw [hK] at hk
   cases hk
 ·have hz1 := rd1_p_pos xs
  have hnn := numV_nn xs
  have hK : parted_k xs = false := (parted_ke xs).trans (if_neg h1)
  rw [hK] at hk
  cases hk
def c_parted_p (xs : List Int) : Con := ⟨[lb xs], [], .v (.iface 44 (.int .i64 ((parted_p_e xs : Nat) : Int))), []⟩
theorem parted_p_ok (xs : List Int) (h : xs.length ≤ 1000000000) (hk : parted_k xs = false) : PanOk Tryz.prog 68 (c_parted_p xs) := by
 refine conOk_ofE rfl (nb := 0) Tryz.func68 rfl rfl Tryz.ntmps68 rfl rfl rfl fun g0 w0 ac gs ws hg0 hS => ?_
 have hlen0 : xs.length ≤ 9223372036854775807 := hS.len 0 rfl
 have hS := hS.sp
 refine s0 [0, 2] [0] 1 hS fun hS => ?_
 refine wp_seq ?_
 have hz1 := rd1_p_pos xs
 have hnn := numV_nn xs
 by_cases h1 : rd1_k xs = true
 ·have hz1 := rd1_p_pos xs
  have hnn := numV_nn xs
  refine rA [(2, .call ⟨59, (c_rd1 xs), [(0, 0)], []⟩), (3, .call ⟨71, (c_must0), [], []⟩)] ⟨rd1_ok _ lnn h1, must0_ok, trivial⟩ (fun C => [ndC C 2, ndC C 3]) [0, 2] [0] 1 ⟨rfl, rfl, trivial⟩ hS fun hS => ?_
  refine then_n (wp_seq ?_)
  have hz2 := rd2_p_pos (((numV xs).2).take (((numV xs).1).toNat)) (((numV xs).2).take (((numV xs).1).toNat)) (((numV (((numV xs).2).drop (((numV xs).1).toNat))).2).take (((numV (((numV xs).2).drop (((numV xs).1).toNat))).1).toNat))
  by_cases h2 : rd2_k (((numV xs).2).take (((numV xs).1).toNat)) (((numV xs).2).take (((numV xs).1).toNat)) (((numV (((numV xs).2).drop (((numV xs).1).toNat))).2).take (((numV (((numV xs).2).drop (((numV xs).1).toNat))).1).toNat)) = true
  ·have hz2 := rd2_p_pos (((numV xs).2).take (((numV xs).1).toNat)) (((numV xs).2).take (((numV xs).1).toNat)) (((numV (((numV xs).2).drop (((numV xs).1).toNat))).2).take (((numV (((numV xs).2).drop (((numV xs).1).toNat))).1).toNat))
   refine rA [(3, .call ⟨59, (c_rd2 (((numV xs).2).take (((numV xs).1).toNat)) (((numV xs).2).take (((numV xs).1).toNat)) (((numV (((numV xs).2).drop (((numV xs).1).toNat))).2).take (((numV (((numV xs).2).drop (((numV xs).1).toNat))).1).toNat))), [(0, 0)], []⟩), (4, .call ⟨71, (c_must0), [], []⟩)] ⟨rd2_ok _ _ _ lnn h2, must0_ok, trivial⟩ (fun C => [ndC C 3, ndC C 4]) [0, 2] [0] 1 ⟨rfl, rfl, trivial⟩ hS fun hS => ?_
   refine then_n (s0 [0, 2, 3] [0, 1] 2 hS fun hS => ?_)
   refine wp_seq (wp_seq ?_)
   have hnn := numV_nn xs
   have hn2 := numV_nn ((numV xs).2.drop (numV xs).1.toNat)
   rw [List.length_drop] at hn2
   have w1 := numW_10 (n := min (numV xs).1.toNat (numV xs).2.length) omm
   have w2 := numW_10 (n := min (numV ((numV xs).2.drop (numV xs).1.toNat)).1.toNat (numV ((numV xs).2.drop (numV xs).1.toNat)).2.length) omm
   refine rA [(3, .call ⟨48, (c_wbytes0 (((numV xs).2).take (((numV xs).1).toNat))), [(0, 1)], [(1, 2)]⟩), (6, .call ⟨48, (c_wbytes (([] ++ numW (((numV xs).2).take (((numV xs).1).toNat)).length) ++ (((numV xs).2).take (((numV xs).1).toNat))) (((numV (((numV xs).2).drop (((numV xs).1).toNat))).2).take (((numV (((numV xs).2).drop (((numV xs).1).toNat))).1).toNat))), [(0, 1), (1, 2)], [(2, 3)]⟩), (7, .call ⟨49, (c_wdone (((([] ++ numW (((numV xs).2).take (((numV xs).1).toNat)).length) ++ (((numV xs).2).take (((numV xs).1).toNat))) ++ numW (((numV (((numV xs).2).drop (((numV xs).1).toNat))).2).take (((numV (((numV xs).2).drop (((numV xs).1).toNat))).1).toNat)).length) ++ (((numV (((numV xs).2).drop (((numV xs).1).toNat))).2).take (((numV (((numV xs).2).drop (((numV xs).1).toNat))).1).toNat)))), [(0, 1), (1, 3)], []⟩), (9, .call ⟨37, (c_equal (((([] ++ numW (((numV xs).2).take (((numV xs).1).toNat)).length) ++ (((numV xs).2).take (((numV xs).1).toNat))) ++ numW (((numV (((numV xs).2).drop (((numV xs).1).toNat))).2).take (((numV (((numV xs).2).drop (((numV xs).1).toNat))).1).toNat)).length) ++ (((numV (((numV xs).2).drop (((numV xs).1).toNat))).2).take (((numV (((numV xs).2).drop (((numV xs).1).toNat))).1).toNat))) xs), [], []⟩)] ⟨wbytes0_ok _ lnn, wbytes_ok _ _ lnn lnn, wdone_ok _ lnn, equal_ok _ _, trivial⟩ (fun C => [ndC C 3, ndC C 6, ndC C 7, ndC C 9]) [2, 25] [0] 4 ⟨rfl, rfl, rfl, rfl, trivial⟩ hS fun hS => ?_
   refine then_n ?_
   refine if_n ((((([] ++ numW (((numV xs).2).take (((numV xs).1).toNat)).length) ++ (((numV xs).2).take (((numV xs).1).toNat))) ++ numW (((numV (((numV xs).2).drop (((numV xs).1).toNat))).2).take (((numV (((numV xs).2).drop (((numV xs).1).toNat))).1).toNat)).length) ++ (((numV (((numV xs).2).drop (((numV xs).1).toNat))).2).take (((numV (((numV xs).2).drop (((numV xs).1).toNat))).1).toNat))) = xs) hS (fun h3 => ?_) (fun h3 => ?_)
   ·refine region_p (E := E0) mo hZ [] trivial none (fun r hr => by cases hr)  1 0 (fun _ => []) (.v (.iface 44 (.int .i64 2))) (by kernel_rfl) trivial hS.st fun ac gs ws pv hS hpv => ?_
    refine then_pan ?_
    have hM : parted_p_e xs = 2 := (parted_p_ee xs).trans ((if_pos h1).trans (if_pos h2))
    exact fin_p rfl hS hpv (by show _ = (.v (.iface 44 (.int .i64 ((parted_p_e xs : Nat) : Int))) : D); rw [hM] <;> rfl) rfl
   ·refine wp_skip (then_n (s0 [2] [0] 4 hS fun hS => ?_))
    refine wp_ret ?_
    have hK : parted_k xs = true := (parted_ke xs).trans ((if_pos h1).trans ((if_pos h2).trans (if_pos h3)))
    rw [hK] at hk
    cases hk
  ·have hz2 := rd2_p_pos (((numV xs).2).take (((numV xs).1).toNat)) (((numV xs).2).take (((numV xs).1).toNat)) (((numV (((numV xs).2).drop (((numV xs).1).toNat))).2).take (((numV (((numV xs).2).drop (((numV xs).1).toNat))).1).toNat))
   refine region_p (E := E0) mo hZ [(3, .call ⟨59, (c_rd2_p (((numV xs).2).take (((numV xs).1).toNat)) (((numV xs).2).take (((numV xs).1).toNat)) (((numV (((numV xs).2).drop (((numV xs).1).toNat))).2).take (((numV (((numV xs).2).drop (((numV xs).1).toNat))).1).toNat))), [(0, 0)], []⟩)] ⟨rd2_p_ok _ _ _ lnn (bne_k h2), trivial⟩ (some ⟨71, (c_mustp (rd2_p_e (((numV xs).2).take (((numV xs).1).toNat)) (((numV xs).2).take (((numV xs).1).toNat)) (((numV (((numV xs).2).drop (((numV xs).1).toNat))).2).take (((numV (((numV xs).2).drop (((numV xs).1).toNat))).1).toNat)))), [], []⟩) (fun r hr => by cases hr; exact mustp_ok (rd2_p_e (((numV xs).2).take (((numV xs).1).toNat)) (((numV xs).2).take (((numV xs).1).toNat)) (((numV (((numV xs).2).drop (((numV xs).1).toNat))).2).take (((numV (((numV xs).2).drop (((numV xs).1).toNat))).1).toNat))) omm)  4 0 (fun C => [ndC C 3, nd [vi (((rd2_p_e (((numV xs).2).take (((numV xs).1).toNat)) (((numV xs).2).take (((numV xs).1).toNat)) (((numV (((numV xs).2).drop (((numV xs).1).toNat))).2).take (((numV (((numV xs).2).drop (((numV xs).1).toNat))).1).toNat))) : Nat) : Int)] []]) (.v (.iface 44 (.int .i64 (((rd2_p_e (((numV xs).2).take (((numV xs).1).toNat)) (((numV xs).2).take (((numV xs).1).toNat)) (((numV (((numV xs).2).drop (((numV xs).1).toNat))).2).take (((numV (((numV xs).2).drop (((numV xs).1).toNat))).1).toNat))) : Nat) : Int)))) (by kernel_rfl) ⟨rfl, rfl, trivial⟩ hS.st fun ac gs ws pv hS hpv => ?_
   refine then_pan ?_
   have hM : parted_p_e xs = (rd2_p_e (((numV xs).2).take (((numV xs).1).toNat)) (((numV xs).2).take (((numV xs).1).toNat)) (((numV (((numV xs).2).drop (((numV xs).1).toNat))).2).take (((numV (((numV xs).2).drop (((numV xs).1).toNat))).1).toNat))) := (parted_p_ee xs).trans ((if_pos h1).trans (if_neg h2))
   exact fin_p rfl hS hpv (by show _ = (.v (.iface 44 (.int .i64 ((parted_p_e xs : Nat) : Int))) : D); rw [hM] <;> rfl) rfl
 ·have hz1 := rd1_p_pos xs
  have hnn := numV_nn xs
  refine region_p (E := E0) mo hZ [(2, .call ⟨59, (c_rd1_p xs), [(0, 0)], []⟩)] ⟨rd1_p_ok _ lnn (bne_k h1), trivial⟩ (some ⟨71, (c_mustp (rd1_p_e xs)), [], []⟩) (fun r hr => by cases hr; exact mustp_ok (rd1_p_e xs) omm)  3 0 (fun C => [ndC C 2, nd [vi (((rd1_p_e xs) : Nat) : Int)] []]) (.v (.iface 44 (.int .i64 (((rd1_p_e xs) : Nat) : Int)))) (by kernel_rfl) ⟨rfl, rfl, trivial⟩ hS.st fun ac gs ws pv hS hpv => ?_
  refine then_pan ?_
  have hM : parted_p_e xs = (rd1_p_e xs) := (parted_p_ee xs).trans (if_neg h1)
  exact fin_p rfl hS hpv (by show _ = (.v (.iface 44 (.int .i64 ((parted_p_e xs : Nat) : Int))) : D); rw [hM] <;> rfl) rfl

end
end Go.Sx.Tryz
namespace Go.Sx
open Go.Mi Go.RowKit
abbrev KR := Int × Int × List (List Int)
abbrev kz : KR := rz [.int .i64, .int .i64, .sl (.sl (.int .u8))]
def plc (l : List KR) (i : Int) : Int := if l.findIdx (fun r => r.1 == i) < l.length then ((l.findIdx fun r => r.1 == i : Nat) : Int) else -1
theorem plc_no {l : List KR} {i : Int} (h : ∀ j, j < l.length → ¬ (l.getD j kz).1 = i) : plc l i = -1 := by
 unfold plc
 rw [if_neg]
 intro hlt
 have := List.findIdx_getElem (w := hlt) (p := fun r : KR => r.1 == i)
 refine h _ hlt ?_
 rw [List.getD_eq_getElem?_getD, List.getElem?_eq_getElem hlt]
 simpa using this
theorem plc_at {l : List KR} {i : Int} {k : Nat} (hk : k < l.length) (h : ∀ j, j < k → ¬ (l.getD j kz).1 = i) (h2 : (l.getD k kz).1 = i) : plc l i = (k : Nat) := by
 have e : l.findIdx (fun r => r.1 == i) = k := by
  rw [List.findIdx_eq hk]
  constructor
  ·rw [List.getD_eq_getElem?_getD, List.getElem?_eq_getElem hk] at h2
   simpa using h2
  ·intro j hj
   have := h j hj
   rw [List.getD_eq_getElem?_getD, List.getElem?_eq_getElem (by omega)] at this
   simpa using this
 unfold plc
 rw [e, if_pos hk]
theorem plc_lt {l : List KR} {i : Int} (h : ¬ plc l i < 0) : 0 ≤ plc l i ∧ plc l i < (l.length : Nat) := by
 unfold plc at h ⊢
 split
 ·omega
 ·rename_i h1; rw [if_neg h1] at h; exact absurd (by decide) h
theorem plc_ge {l : List KR} (i : Int) : -1 ≤ plc l i ∧ plc l i < (l.length : Nat) := by
 unfold plc
 split <;> omega
def KOk (l : List KR) : Prop := l.length ≤ 1000 ∧ ∀ j, j < l.length → (0 ≤ (l.getD j kz).1 ∧ (l.getD j kz).1 ≤ 1000000000000) ∧ (0 ≤ (l.getD j kz).2.1 ∧ (l.getD j kz).2.1 ≤ 1000000000000) ∧ (l.getD j kz).2.2.length ≤ 100000 ∧ ∀ k ∈ (l.getD j kz).2.2, k.length = 32
end Go.Sx
namespace Go.Sx.Tryz
open Go.Mi Go.RowKit Go.Sx Go.Proofs
noncomputable section
def c_snoner : Con := ⟨[.im (chain [.top, .top, .top, .im (chain []) 0, .top, .top, .top, .top, .top, .top, .top]) 0], [], .v (.bool false), []⟩
theorem snoner_ok : ConOk Tryz.prog 36 (c_snoner) := by
 refine conOk_of rfl (nb := 0) Tryz.func36 rfl rfl Tryz.ntmps36 rfl rfl rfl fun g0 w0 ac gs ws hg0 hS => ?_
 have hS := hS.sp
 refine s0 [0, 2] [] 0 hS fun hS => ?_
 refine s0 [2] [] 0 hS fun hS => ?_
 refine wp_ret ?_
 exact fin_y rfl (.inr rfl) hS [.v (.bool false)] [] rfl trivial

def c_epochr (low : Nat) (mx : List (List Int)) : Con := ⟨[.im (chain [.top, .top, .top, .im (chain []) 0, .top, .top, vi (low : Int), .ls false [.sl (.int .u8)] mx, .top, .top, .top]) 0], [], vi ((low + mx.length - 1 : Nat) : Int), []⟩
theorem epochr_ok (low : Nat) (mx : List (List Int)) (hm1 : 1 ≤ mx.length ∧ mx.length ≤ 100000) (hlow : low ≤ 100000000000) : ConOk Tryz.prog 18 (c_epochr low mx) := by
 refine conOk_of rfl (nb := 0) Tryz.func18 rfl rfl Tryz.ntmps18 rfl rfl rfl fun g0 w0 ac gs ws hg0 hS => ?_
 have hS := hS.sp
 refine s0 [0, 2] [] 0 hS fun hS => ?_
 refine wp_seq (sC [(1, ⟨36, (c_snoner), [], []⟩, [])] ⟨snoner_ok, trivial⟩ [] [] trivial (fun _ => [([.im (chain [.top, .top, .top, .im (chain []) 0, .top, .top, .top, .top, .top, .top, .top]) 0] : List D) = [.im (chain [.top, .top, .top, .im (chain []) 0, .top, .top, .top, .top, .top, .top, .top]) 0]]) [0, 2, 4] [] 0 ⟨rfl, trivial⟩ hS fun hS => ?_)
 refine cond_f hS ?_
 refine wp_skip (then_n (sA [(9, .oi ((low + mx.length : Nat) : Int)), (10, .oi (((low + mx.length) - 1 : Nat) : Int))] trivial (fun _ => [iadd .i64 (low : Int) ((mx.length : Nat) : Int) = ((low + mx.length : Nat) : Int), isub .i64 ((low + mx.length : Nat) : Int) 1 = (((low + mx.length) - 1 : Nat) : Int)]) [2] [] 0 ⟨by rw [iadd64 omm omm]; omega, by rw [isub64 omm omm]; omega, trivial⟩ hS fun hS => ?_))
 refine wp_ret ?_
 exact fin_y rfl (.inr rfl) hS [vi (((low + mx.length) - 1 : Nat) : Int)] [] rfl trivial

def mixn (fi : Bool) (low len told : Nat) : Nat := if fi = true then low + len - 1 else min (low + len - 1) told
def c_mixingr (fi : Bool) (low : Nat) (mx : List (List Int)) (told : Nat) : Con := ⟨[.im (chain [.top, .v (.bool fi), .top, .im (chain []) 0, .top, .top, vi (low : Int), .ls false [.sl (.int .u8)] mx, .top, vi (told : Int), .top]) 0], [], vi ((mixn fi low mx.length told : Nat) : Int), []⟩
theorem mixingr_ok (fi : Bool) (low : Nat) (mx : List (List Int)) (told : Nat) (hm1 : 1 ≤ mx.length ∧ mx.length ≤ 100000) (hlow : low ≤ 100000000000) : ConOk Tryz.prog 46 (c_mixingr fi low mx told) := by
 refine conOk_of rfl (nb := 0) Tryz.func46 rfl rfl Tryz.ntmps46 rfl rfl rfl fun g0 w0 ac gs ws hg0 hS => ?_
 have hS := hS.sp
 refine s0 [0, 2] [] 0 hS fun hS => ?_
 refine wp_seq (s0 [0, 2, 6] [] 0 hS fun hS => ?_)
 refine if_y fi hS (fun h1 => ?_) (fun h1 => ?_)
 ·refine sC [(1, ⟨18, (c_epochr low mx), [], []⟩, [])] ⟨epochr_ok _ _ lmm omm, trivial⟩ [] [] trivial (fun _ => [([.im (chain [.top, .top, .top, .im (chain []) 0, .top, .top, vi (low : Int), .ls false [.sl (.int .u8)] mx, .top, .top, .top]) 0] : List D) = [.im (chain [.top, .top, .top, .im (chain []) 0, .top, .top, vi (low : Int), .ls false [.sl (.int .u8)] mx, .top, .top, .top]) 0]]) [0, 2] [] 0 ⟨rfl, trivial⟩ hS fun hS => ?_
  refine wp_ret (then_ret ?_)
  exact fin_y rfl (.inr rfl) hS [vi ((low + mx.length - 1 : Nat) : Int)] [] (by show weak _ (vi ((mixn fi low mx.length told : Nat) : Int)) = vi ((mixn fi low mx.length told : Nat) : Int); unfold mixn; first | (rw [if_pos asm]; rfl) | (rw [if_neg (bne_t asm)]; rfl)) trivial
 ·refine wp_skip (then_n (sC [(1, ⟨18, (c_epochr low mx), [], []⟩, [])] ⟨epochr_ok _ _ lmm omm, trivial⟩ [] [(6, .oi ((min (low + mx.length - 1) told : Nat) : Int))] trivial (fun _ => [([.im (chain [.top, .top, .top, .im (chain []) 0, .top, .top, vi (low : Int), .ls false [.sl (.int .u8)] mx, .top, .top, .top]) 0] : List D) = [.im (chain [.top, .top, .top, .im (chain []) 0, .top, .top, vi (low : Int), .ls false [.sl (.int .u8)] mx, .top, .top, .top]) 0], (if (told : Int) < ((low + mx.length - 1 : Nat) : Int) then (told : Int) else ((low + mx.length - 1 : Nat) : Int)) = ((min (low + mx.length - 1) told : Nat) : Int)]) [2] [] 0 ⟨rfl, by split <;> omega, trivial⟩ hS fun hS => ?_))
  refine wp_ret ?_
  exact fin_y rfl (.inr rfl) hS [vi ((min (low + mx.length - 1) told : Nat) : Int)] [] (by show weak _ (vi ((mixn fi low mx.length told : Nat) : Int)) = vi ((mixn fi low mx.length told : Nat) : Int); unfold mixn; first | (rw [if_pos asm]; rfl) | (rw [if_neg (bne_t asm)]; rfl)) trivial

def c_skey (id : List Int) (fi : Bool) (ok : List Int) (oi : Nat) (ik : List Int) (ii low : Nat) (mx : List (List Int)) (last told : Nat) (kl : List KR) (k : List Int) (n : Nat) : Con := ⟨[.cp 0 0, lb k, vi (n : Int)], [(0, .ob 80 (chain [lb id, .v (.bool fi), .v (.bool false), .cp 1 0, .cp 2 0, .v (.pointer none), vi (low : Int), .ls false [.sl (.int .u8)] mx, vi (last : Int), vi (told : Int), .ls false [.int .i64, .int .i64, .sl (.sl (.int .u8))] kl])), (1, .ob 122 (chain [lb ok, vi (oi : Int)])), (2, .ob 122 (chain [lb ik, vi (ii : Int)]))], lb (derive32_m k (mx.getD (n - low) (rz [.sl (.int .u8)])) [109, 101, 115, 115, 97, 103, 101]), [(0, .ob 80 (chain [lb id, .v (.bool fi), .v (.bool false), .cp 1 0, .cp 2 0, .v (.pointer none), vi (low : Int), .ls false [.sl (.int .u8)] mx, vi (last : Int), vi (told : Int), .ls false [.int .i64, .int .i64, .sl (.sl (.int .u8))] kl])), (1, .ob 122 (chain [lb ok, vi (oi : Int)])), (2, .ob 122 (chain [lb ik, vi (ii : Int)]))]⟩
theorem skey_ok (id : List Int) (fi : Bool) (ok : List Int) (oi : Nat) (ik : List Int) (ii low : Nat) (mx : List (List Int)) (last told : Nat) (kl : List KR) (k : List Int) (n : Nat) (hm1 : 1 ≤ mx.length ∧ mx.length ≤ 100000) (hm2 : ∀ j, (mx.getD j (rz [.sl (.int .u8)])).length ≤ 32) (hlow : low ≤ 100000000000) (hk : k.length = 32) (hn : low ≤ n ∧ n < low + mx.length) : ConOk Tryz.prog 51 (c_skey id fi ok oi ik ii low mx last told kl k n) := by
 refine conOk_of rfl (nb := 3) Tryz.func51 rfl rfl Tryz.ntmps51 rfl rfl rfl fun g0 w0 ac gs ws hg0 hS => ?_
 have hlen1 : k.length ≤ 9223372036854775807 := hS.len 1 rfl
 have hS := hS.sp
 refine s0 [0, 1, 2, 6] [0, 1, 2] 3 hS fun hS => ?_
 refine wp_seq ?_
 have hmk := hm2 (n - low)
 refine rA [(10, .oi ((n - low : Nat) : Int)), (13, .own), (15, .call ⟨75, (c_derive32 k (mx.getD (n - low) (rz [.sl (.int .u8)])) [109, 101, 115, 115, 97, 103, 101]), [], []⟩)] ⟨derive32_ok _ _ _ lnn lnn lnn, trivial⟩ (fun C => [isub .i64 (n : Int) (low : Int) = ((n - low : Nat) : Int), (0 : Int) ≤ ((n - low : Nat) : Int) ∧ ((n - low : Nat) : Int) < ((mx.length : Nat) : Int), 0 < [109, 101, 115, 115, 97, 103, 101].length, ndC C 15]) [6] [0, 1, 2] 4 ⟨by rw [isub64 omm omm]; omega, by omega, by decide, rfl, trivial⟩ hS fun hS => ?_
 refine then_n (wp_ret ?_)
 exact fin_y rfl (.inr rfl) hS [lb (derive32_m k (mx.getD (n - low) (rz [.sl (.int .u8)])) [109, 101, 115, 115, 97, 103, 101])] [(0, some (.ob 80 (chain [lb id, .v (.bool fi), .v (.bool false), .cp 1 0, .cp 2 0, .v (.pointer none), vi (low : Int), .ls false [.sl (.int .u8)] mx, vi (last : Int), vi (told : Int), .ls false [.int .i64, .int .i64, .sl (.sl (.int .u8))] kl]))), (1, some (.ob 122 (chain [lb ok, vi (oi : Int)]))), (2, some (.ob 122 (chain [lb ik, vi (ii : Int)])))] rfl ⟨rfl, rfl, rfl, trivial⟩

def c_skeyk (id : List Int) (fi : Bool) (ok : List Int) (oi : Nat) (ik : List Int) (ii low : Nat) (mx : List (List Int)) (last told : Nat) (kl : List KR) (k : List Int) (n : Nat) : Con := ⟨[.cp 0 0, lb k, vi (n : Int)], [(0, .ob 80 (chain [lb id, .v (.bool fi), .v (.bool false), .cp 1 0, .cp 2 0, .v (.pointer none), vi (low : Int), .ls false [.sl (.int .u8)] mx, vi (last : Int), vi (told : Int), .sk 3])), (1, .ob 122 (chain [lb ok, vi (oi : Int)])), (2, .ob 122 (chain [lb ik, vi (ii : Int)])), (3, .sl 86 [.int .i64, .int .i64, .sl (.sl (.int .u8))] kl)], lb (derive32_m k (mx.getD (n - low) (rz [.sl (.int .u8)])) [109, 101, 115, 115, 97, 103, 101]), [(0, .ob 80 (chain [lb id, .v (.bool fi), .v (.bool false), .cp 1 0, .cp 2 0, .v (.pointer none), vi (low : Int), .ls false [.sl (.int .u8)] mx, vi (last : Int), vi (told : Int), .sk 3])), (1, .ob 122 (chain [lb ok, vi (oi : Int)])), (2, .ob 122 (chain [lb ik, vi (ii : Int)])), (3, .sl 86 [.int .i64, .int .i64, .sl (.sl (.int .u8))] kl)]⟩
theorem skeyk_ok (id : List Int) (fi : Bool) (ok : List Int) (oi : Nat) (ik : List Int) (ii low : Nat) (mx : List (List Int)) (last told : Nat) (kl : List KR) (k : List Int) (n : Nat) (hm1 : 1 ≤ mx.length ∧ mx.length ≤ 100000) (hm2 : ∀ j, (mx.getD j (rz [.sl (.int .u8)])).length ≤ 32) (hlow : low ≤ 100000000000) (hk : k.length = 32) (hn : low ≤ n ∧ n < low + mx.length) : ConOk Tryz.prog 51 (c_skeyk id fi ok oi ik ii low mx last told kl k n) := by
 refine conOk_of rfl (nb := 4) Tryz.func51 rfl rfl Tryz.ntmps51 rfl rfl rfl fun g0 w0 ac gs ws hg0 hS => ?_
 have hlen1 : k.length ≤ 9223372036854775807 := hS.len 1 rfl
 have hlenk3 : kl.length ≤ 9223372036854775807 := hS.lens 3 rfl
 have hS := hS.sp
 refine s0 [0, 1, 2, 6] [0, 1, 2, 3] 4 hS fun hS => ?_
 refine wp_seq ?_
 have hmk := hm2 (n - low)
 refine rA [(10, .oi ((n - low : Nat) : Int)), (13, .own), (15, .call ⟨75, (c_derive32 k (mx.getD (n - low) (rz [.sl (.int .u8)])) [109, 101, 115, 115, 97, 103, 101]), [], []⟩)] ⟨derive32_ok _ _ _ lnn lnn lnn, trivial⟩ (fun C => [isub .i64 (n : Int) (low : Int) = ((n - low : Nat) : Int), (0 : Int) ≤ ((n - low : Nat) : Int) ∧ ((n - low : Nat) : Int) < ((mx.length : Nat) : Int), 0 < [109, 101, 115, 115, 97, 103, 101].length, ndC C 15]) [6] [0, 1, 2, 3] 5 ⟨by rw [isub64 omm omm]; omega, by omega, by decide, rfl, trivial⟩ hS fun hS => ?_
 refine then_n (wp_ret ?_)
 exact fin_y rfl (.inr rfl) hS [lb (derive32_m k (mx.getD (n - low) (rz [.sl (.int .u8)])) [109, 101, 115, 115, 97, 103, 101])] [(0, some (.ob 80 (chain [lb id, .v (.bool fi), .v (.bool false), .cp 1 0, .cp 2 0, .v (.pointer none), vi (low : Int), .ls false [.sl (.int .u8)] mx, vi (last : Int), vi (told : Int), .sk 3]))), (1, some (.ob 122 (chain [lb ok, vi (oi : Int)]))), (2, some (.ob 122 (chain [lb ik, vi (ii : Int)]))), (3, some (.sl 86 [.int .i64, .int .i64, .sl (.sl (.int .u8))] kl))] rfl ⟨rfl, rfl, rfl, rfl, trivial⟩

def c_place1 (a b : Int) (c : List (List Int)) (i : Nat) : Con := ⟨[.ag (chain [vi a, vi b, .ls false [.sl (.int .u8)] c]), .cp 0 0], [(0, .ob 3 (chain [vi (i : Int)]))], .v (.bool (decide (a = (i : Int)))), [(0, .ob 3 (chain [vi (i : Int)]))]⟩
theorem place1_ok (a b : Int) (c : List (List Int)) (i : Nat) : ConOk Tryz.prog 131 (c_place1 a b c i) := by
 refine conOk_of rfl (nb := 1) Tryz.func131 rfl rfl Tryz.ntmps131 rfl rfl rfl fun g0 w0 ac gs ws hg0 hS => ?_
 have hS := hS.sp
 refine s0 [1, 2, 3] [0, 1] 2 hS fun hS => ?_
 refine s0 [3] [0] 2 hS fun hS => ?_
 refine wp_ret ?_
 exact fin_y rfl (.inr rfl) hS [.v (.bool (decide (a = (i : Int))))] [(0, some (.ob 3 (chain [vi (i : Int)])))] rfl ⟨rfl, trivial⟩

def c_kidx (kl : List KR) (i : Nat) : Con := ⟨[.sk 0, .fn 131 (chain []) (chain [.cp 1 0])], [(0, .sl 86 [.int .i64, .int .i64, .sl (.sl (.int .u8))] kl), (1, .ob 3 (chain [vi (i : Int)]))], vi (plc kl (i : Int)), [(0, .sl 86 [.int .i64, .int .i64, .sl (.sl (.int .u8))] kl), (1, .ob 3 (chain [vi (i : Int)]))]⟩
theorem kidx_ok (kl : List KR) (i : Nat) : ConOk Tryz.prog 130 (c_kidx kl i) := by
 refine conOk_of rfl (nb := 2) Tryz.func130 rfl rfl Tryz.ntmps130 rfl rfl rfl fun g0 w0 ac gs ws hg0 hS => ?_
 have hlenk0 : kl.length ≤ 9223372036854775807 := hS.lens 0 rfl
 have hS := hS.sp
 refine s0 [0, 1, 4] [0, 1] 2 hS fun hS => ?_
 refine wp_seq (s0 [0, 1, 4, 7, 8] [0, 1] 2 hS fun hS => ?_)
 refine wp_block (loop_y (ι := Nat) hg0 hS (fun x => kl.length - x) (fun x => [(0, .sk 0), (1, .fn 131 (chain []) (chain [.cp 1 0])), (7, vi ((kl.length : Nat) : Int)), (8, vi ((x : Nat) : Int))]) (fun x => [(0, .sl 86 [.int .i64, .int .i64, .sl (.sl (.int .u8))] kl), (1, .ob 3 (chain [vi (i : Int)]))]) (fun x => (x ≤ kl.length) ∧ (∀ j, j < x → ¬ (kl.getD j kz).1 = (i : Int)) ∧ True) 2 0 [(0, 0), (1, 1)] ⟨omm, (fun j h => absurd h (Nat.not_lt_zero j)), trivial⟩ ?_)
 rintro x ac gs ws ⟨hx, pm, _⟩ hS
 refine s0 [0, 1, 7, 8, 9] [0, 1] 2 hS fun hS => ?_
 refine wp_seq ?_
 refine if_d ((x : Int) < ((kl.length : Nat) : Int)) hS (fun h1 => ?_) (fun h1 => ?_)
 ·refine wp_skip (then_n (wp_seq (wp_block (s0 [0, 1, 5, 7, 8] [0, 1] 2 hS fun hS => ?_))))
  refine sA [(5, .call ⟨131, (c_place1 ((kl.getD x (rz [.int .i64, .int .i64, .sl (.sl (.int .u8))])).1) (((kl.getD x (rz [.int .i64, .int .i64, .sl (.sl (.int .u8))])).2).1) (((kl.getD x (rz [.int .i64, .int .i64, .sl (.sl (.int .u8))])).2).2) i), [(0, 1)], []⟩)] ⟨place1_ok _ _ _ _, trivial⟩ (fun C => [(0 : Int) ≤ (x : Int) ∧ (x : Int) < ((kl.length : Nat) : Int), ndC C 5]) [0, 1, 5, 7, 8, 16] [0, 1] 2 ⟨by omega, rfl, trivial⟩ hS fun hS => ?_
  refine if_d (((kl.getD x (rz [.int .i64, .int .i64, .sl (.sl (.int .u8))])).1) = (i : Int)) hS (fun h2 => ?_) (fun h2 => ?_)
  ·refine s0 [0, 1, 4, 7, 8] [0, 1] 2 hS fun hS => ?_
   refine wp_ret (block_ret (then_ret (then_ret (block_ret (then_ret ?_)))))
   exact fin_y rfl (.inr rfl) hS [vi (x : Int)] [(0, some (.sl 86 [.int .i64, .int .i64, .sl (.sl (.int .u8))] kl)), (1, some (.ob 3 (chain [vi (i : Int)])))] (by show weak _ (vi (plc kl (i : Int))) = vi (plc kl (i : Int)); rw [plc_at omm pm asm]; rfl) ⟨rfl, rfl, trivial⟩
  ·refine wp_skip (block_n (then_n (rA [(0, .oi ((x + 1 : Nat) : Int))] trivial (fun _ => [iadd .i64 (x : Int) 1 = ((x + 1 : Nat) : Int)]) [0, 1, 7, 8] [0, 1] 2 ⟨by rw [iadd64 omm omm]; omega, trivial⟩ hS fun hS => ?_)))
   refine then_n ?_
   exact next_y hg0 hS (s := (x)) (x + 1) [(0, 0), (1, 1)] (show kl.length - (x + 1) < kl.length - x from by omega) ⟨omm, (lst_next pm asm), trivial⟩
 ·have hScur := hS
  obtain rfl : kl.length = x := by omega
  have hS := hScur
  clear hScur
  refine wp_exit (then_exit (then_exit (block_exit (then_n (s0 [4] [0, 1] 2 hS fun hS => ?_)))))
  refine wp_ret ?_
  exact fin_y rfl (.inr rfl) hS [vi (-1)] [(0, some (.sl 86 [.int .i64, .int .i64, .sl (.sl (.int .u8))] kl)), (1, some (.ob 3 (chain [vi (i : Int)])))] (by show weak _ (vi (plc kl (i : Int))) = vi (plc kl (i : Int)); rw [plc_no pm]; rfl) ⟨rfl, rfl, trivial⟩

end
end Go.Sx.Tryz
namespace Go.Sx.Tryz
open Go.Mi Go.RowKit Go.Sx Go.Proofs Go.Lib Go.Shelf
noncomputable def c_kdel (kl : List KR) (i j : Nat) : Con := ⟨[.sk 0, .v (.int .i64 ((i : Nat) : Int)), .v (.int .i64 ((j : Nat) : Int))], [(0, .sl 86 [.int .i64, .int .i64, .sl (.sl (.int .u8))] kl)], .sk 1, [(1, .sl 86 [.int .i64, .int .i64, .sl (.sl (.int .u8))] (kl.take i ++ kl.drop j))]⟩
set_option maxHeartbeats 4000000 in
set_option maxRecDepth 1000000 in
theorem kdel_raw (b cap n i j : Nat) (w : World) (cs : List Value) (hl : cs.length = n * 3) (h1 : ∀ u ∈ cs, u.oneCell' = true) (hc : ∀ t u, cs[t]? = some u → w.cell? ⟨b, t, none⟩ = some u) (hz : ∀ t, t < n * 3 → w.frozen? ⟨b, t, none⟩ = false) (hij : i < j) (hj : j ≤ n) (hcap : n ≤ cap) (hm : cap ≤ 9223372036854775807) :
  Calls Tryz.prog 106 #[.slice (some ⟨b, 0, none⟩) n cap, .int .i64 i, .int .i64 j] w fun e w' => e = .returned (.slice (some ⟨b, 0, none⟩) (n - (j - i)) cap) ∧ w' = (w.drew.setCells b (0 + i * 3) (cs.drop (j * 3))).setCells b ((i + (n - j)) * 3) (Builtin.zeroCells #[.int .i64 0, .int .i64 0, .slice none 0 0] (n - (i + (n - j)))).toList := by
 have hi : (Tryz.prog.info? 86).map (·.size) = some 3 := by kernel_rfl
 obtain ⟨i0, hi0, hz1⟩ := Option.map_eq_some_iff.1 hi
 have t78 : Tryz.prog.underlying 78 = some (.slice 86) := by kernel_rfl
 obtain ⟨news, hnews⟩ : ∃ news, news = cs.drop (j * 3) := ⟨_, rfl⟩
 have hlen : news.length = (n - j) * 3 := by rw [hnews, List.length_drop, hl]; omega
 obtain ⟨A, hA, hsrc⟩ : ∃ A : Addr, (if cap = j then some (⟨b, 0, none⟩ : Addr) else some ⟨b, j * 3, none⟩) = some A ∧ Hid (∀ t u, news[t]? = some u → w.drew.cell? (A.add t) = some u) := by
  by_cases h : cap = j
  ·refine ⟨⟨b, 0, none⟩, by simp [h], fun t u hu => ?_⟩
   have h0 : news.length = 0 := by rw [hlen]; omega
   rw [List.length_eq_zero_iff.1 h0] at hu
   simp at hu
  ·refine ⟨⟨b, j * 3, none⟩, by simp [h], fun t u hu => ?_⟩
   rw [hnews, List.getElem?_drop] at hu
   rw [Addr.add_lit]
   exact hc _ _ hu
 have s1 : Hid (news.length = (n - j) * 3) := hlen
 have s2 : Hid (∀ u ∈ news, u.oneCell' = true) := by
  intro u hu
  rw [hnews] at hu
  exact h1 u (List.mem_of_mem_drop hu)
 have s3 : Hid (∀ t, t < news.length → (w.drew.cell? ⟨b, 0 + i * 3 + t, none⟩).isSome = true ∧ w.drew.frozen? ⟨b, 0 + i * 3 + t, none⟩ = false) := by
  intro t ht
  rw [hlen] at ht
  have hlt : 0 + i * 3 + t < cs.length := by rw [hl]; omega
  exact ⟨by show (w.cell? _).isSome = true; rw [hc _ _ (List.getElem?_eq_getElem hlt)]; rfl, hz _ (by omega)⟩
 obtain ⟨W1, hW1⟩ : ∃ W1, W1 = w.drew.setCells b (0 + i * 3) news := ⟨_, rfl⟩
 have hW : Hid (W1 = w.drew.setCells b (0 + i * 3) news) := hW1
 have mixed := mo
 have hic : i ≤ cap := by omega
 have hjc : j ≤ cap := by omega
 obtain ⟨zs, hzs⟩ : ∃ zs : List Value, zs = (Builtin.zeroCells #[.int .i64 0, .int .i64 0, .slice none 0 0] (n - (i + (n - j)))).toList := ⟨_, rfl⟩
 have hcl : ∀ ty, (Builtin.clear_ #[78] ty #[.slice (some ⟨b, (i + (n - j)) * 3, none⟩) (n - (i + (n - j))) (cap - (i + (n - j)))]).run Tryz.prog W1 = .ok (.tuple #[]) (W1.setCells b ((i + (n - j)) * 3) zs) := fun ty => by
  have hzv : ∀ w, (zeroValue 86).run Tryz.prog w = .ok (.agg #[.int .i64 0, .int .i64 0, .slice none 0 0]) w := fun w => rfl
  have hlz : zs.length = (n - (i + (n - j))) * 3 := by rw [hzs]; simp [Builtin.zeroCells]
  have hz1 : ∀ u ∈ zs, u.oneCell' = true := by
   intro u hu
   rw [hzs] at hu
   simp only [Builtin.zeroCells, Array.toList_map, List.mem_map] at hu
   obtain ⟨t, _, rfl⟩ := hu
   have : ∀ r, r < 3 → (#[Value.int .i64 0, .int .i64 0, .slice none 0 0][r]!).oneCell' = true := by
    intro r hr
    match r, hr with
    | 0, _ => rfl
    | 1, _ => rfl
    | 2, _ => rfl
   exact this _ (Nat.mod_lt _ (by decide))
  have hst := run_storeCells_cells (P := Tryz.prog) b ((i + (n - j)) * 3) zs 0 W1 (fun t ht => by
    rw [hW1]
    refine World.isSome_setCells b _ _ _ _ ?_
    have hlt : (i + (n - j)) * 3 + 0 + t < cs.length := by rw [hl]; omega
    show (w.cell? _).isSome = true
    rw [hc _ _ (List.getElem?_eq_getElem hlt)]; rfl) (fun t ht => by
    rw [hW1, World.frozen?_setCells]
    exact hz _ (by omega)) hz1
  obtain ⟨m, hm'⟩ : ∃ m, n - (i + (n - j)) = m + 1 := ⟨n - (i + (n - j)) - 1, by omega⟩
  rw [hm'] at hzs ⊢
  simp only [Nat.add_zero] at hst
  simp only [Builtin.clear_, Sem.run_bind, run_underlying t78, hzv, Result.andThen_ok, ← hzs, hst]
  simp [hst, hzv, run_underlying t78, Value.cells, ← hzs]
 have X : Aside (W1.setCells b ((i + (n - j)) * 3) zs = (w.drew.setCells b (0 + i * 3) (cs.drop (j * 3))).setCells b ((i + (n - j)) * 3) (Builtin.zeroCells #[.int .i64 0, .int .i64 0, .slice none 0 0] (n - (i + (n - j)))).toList) := by subst hzs; subst hW1; subst hnews; rfl
 clear hW1 hnews hlen hi h1 hc hz hzs
 go_enter Tryz.func106, Tryz.ntmps106
 go_wp2_with fail
 go_region_law_o (refine step_append_room rfl (.tmp 22) (.tmp 25) 78 rfl 86 i0 3 t78 hi0 hz1 b 0 i cap (by simp [Act.eval, Act.put]) A (n - j) (cap - j) news (by simp [Act.eval, Act.put]) s1.out hsrc.out s2.out (by omega) s3.out ?_; rw [← hW.out])
 go_wp2
 go_ret
 exact ⟨by rw [show n - (j - i) = i + (n - j) by omega]; rfl, X.out⟩

theorem setCells_blk {b ty : Nat} {fz : Nat × Nat} : ∀ (vs : List Value) (o : Nat) (w : World) (cur : Array Value), w.heap[b]? = some (.cells cur ty fz) → o + vs.length ≤ cur.size →
  ∃ c', (w.setCells b o vs).heap[b]? = some (.cells c' ty fz) ∧ c'.toList = cur.toList.take o ++ vs ++ cur.toList.drop (o + vs.length)
 | [], o, w, cur, h, _ => ⟨cur, h, by simp⟩
 | v :: vs, o, w, cur, h, hl => by
  have h1 : (w.setCell ⟨b, o, none⟩ v).heap[b]? = some (.cells (cur.setIfInBounds o v) ty fz) := by
   simp [World.setCell, Array.getElem?_modify, h]
  obtain ⟨c', k1, k2⟩ := setCells_blk vs (o + 1) _ _ h1 (by simp at hl ⊢; omega)
  refine ⟨c', k1, k2.trans ?_⟩
  simp only [List.length_cons] at hl
  have hlt : o < cur.toList.length := by simp; omega
  rw [Array.toList_setIfInBounds, List.take_succ_eq_append_getElem (by simpa using hlt), List.getElem_set_self, List.take_set_of_le (Nat.le_refl _), List.drop_set_of_lt (by omega)]
  simp [Nat.add_comm, Nat.add_left_comm]
theorem drop_mul {α : Type} {m : Nat} : ∀ {ls : List (List α)} (k : Nat), (∀ l ∈ ls, l.length = m) → (ls.drop k).flatten = ls.flatten.drop (k * m)
 | [], k, _ => by simp
 | l :: ls, 0, _ => by simp
 | l :: ls, k + 1, h => by
  have h1 := h l (by simp)
  have h2 := drop_mul (ls := ls) k fun x hx => h x (by simp [hx])
  have h3 : (k + 1) * m = m + k * m := by rw [Nat.succ_mul]; omega
  rw [List.drop_succ_cons, h2, List.flatten_cons, List.drop_append, h3, h1, show List.drop (m + k * m) l = [] from List.drop_eq_nil_of_le (by omega), List.nil_append, Nat.add_sub_cancel_left]
theorem setCells_ch {b : Nat} (vs : List Value) (o : Nat) (w : World) : Chp (· = b) w (w.setCells b o vs) := by
 induction vs generalizing o w with
 | nil => exact Chp.refl _ _
 | cons v vs ih =>
  have h1 : Chp (· = b) w (w.setCell ⟨b, o, none⟩ v) := ⟨rfl, rfl, rfl, by simp [World.setCell], fun x _ hx => by
   simp only [World.setCell, Array.getElem?_modify]
   rw [if_neg (fun e => hx e.symm)]⟩
  exact h1.trans (ih (o + 1) _)

theorem kdel_ok (kl : List KR) (i j : Nat) (hi : i < j ∧ j ≤ kl.length) : ConOk Tryz.prog 106 (c_kdel kl i j) := by
 refine ⟨⟨⟨_, Tryz.func106, rfl, rfl⟩⟩, fun vs g w hS hN hs => ?_⟩
 obtain ⟨l1, l2, rfl, ⟨v0, hv0, rfl, _⟩, l3, l4, rfl, hq1, l5, l6, rfl, hq2, hq3⟩ := hs
 have hq1 : l3 = [.int .i64 i] := hq1
 have hq2 : l5 = [.int .i64 j] := hq2
 have hq3 : l6 = [] := hq3
 subst hq1; subst hq2; subst hq3
 obtain ⟨v, ls, k1, k2, k3, k4, k5, k6⟩ := hS.os 0 _ rfl
 rw [k1] at hv0; cases hv0
 rcases k3.2 with ⟨rfl, h0⟩ | ⟨b, cap, cur, rfl, _, hb, hc1, hc2, hcs, hct⟩
 ·have h0 : kl.length = 0 := h0
  omega
 have hc1 : kl.length ≤ cap := hc1
 have hrow := k5.row
 have hlen : ls.length = kl.length := k5.len.symm
 have hl0 : ls.flatten.length = kl.length * 3 := k3.1
 have hcs : cur.size = cap * 3 := hcs
 have hct : cur.toList.take (kl.length * 3) = ls.flatten := hct
 have hR := kdel_raw b cap kl.length i j w ls.flatten hl0 k6 (fun t u hu => by
  rw [cell_of_row w b t cur _ _ hb, ← Array.getElem?_toList]
  rw [← hct, List.getElem?_take] at hu
  split at hu
  ·exact hu
  ·cases hu) (fun t ht => by simp [World.frozen?, hb]) hi.1 hi.2 hc1 hc2
 refine Calls.mono hR ?_
 rintro e w' ⟨rfl, rfl⟩
 obtain ⟨zs, hzs⟩ : ∃ zs : List Value, zs = (Builtin.zeroCells #[.int .i64 0, .int .i64 0, .slice none 0 0] (kl.length - (i + (kl.length - j)))).toList := ⟨_, rfl⟩
 have hlz : zs.length = (kl.length - (i + (kl.length - j))) * 3 := by rw [hzs]; simp [Builtin.zeroCells]
 rw [← hzs]
 have hdl : (ls.flatten.drop (j * 3)).length = (kl.length - j) * 3 := by rw [List.length_drop, hl0]; omega
 obtain ⟨c1, a1, a2⟩ := setCells_blk (b := b) (ls.flatten.drop (j * 3)) (0 + i * 3) w.drew cur hb (by rw [hdl, hcs]; have := hi.1; have := hi.2; omega)
 have hc1s : c1.size = cap * 3 := by rw [← Array.length_toList, a2]; simp only [List.length_append, List.length_take, List.length_drop, Array.length_toList, hcs, hl0]; have := hi.1; have := hi.2; omega
 obtain ⟨c2, b1, b2⟩ := setCells_blk (b := b) zs ((i + (kl.length - j)) * 3) _ c1 a1 (by rw [hlz, hc1s]; have := hi.1; have := hi.2; omega)
 have hc2s : c2.size = cap * 3 := by rw [← Array.length_toList, b2]; simp only [List.length_append, List.length_take, List.length_drop, Array.length_toList, hc1s, hlz]; have := hi.1; have := hi.2; omega
 have hch := (setCells_ch (b := b) (ls.flatten.drop (j * 3)) (0 + i * 3) w.drew).trans (setCells_ch zs ((i + (kl.length - j)) * 3) _)
 have hch0 : Chp (· = b) w w.drew := ⟨rfl, rfl, rfl, Nat.le_refl _, fun _ _ _ => rfl⟩
 have hch := hch0.trans hch
 generalize (w.drew.setCells b (0 + i * 3) (ls.flatten.drop (j * 3))).setCells b ((i + (kl.length - j)) * 3) zs = w' at b1 hch ⊢
 have hbX : g.X b := hS.own 0 _ rfl b (by rw [k2]; simp [oblk])
 let g' : G := ⟨fun k => if k = 1 then some (.slice (some ⟨b, 0, none⟩) (kl.length - (j - i)) cap) else g.N k, fun k => if k = 1 then [b] else g.F k, g.X⟩
 have hn1 : ∀ k v, g.N k = some v → k ≠ 1 := fun k v h e => by
  have := hN k v h; subst e; simp [c_kdel, keys] at this
 have hgo : Go (fun x => x = b) g w g' w' := ⟨hch, fun x hx => by rw [hx]; exact hbX, fun x hx => .inl hx, fun x hx _ => hx, fun k v h => by
  show (if k = 1 then _ else _) = _
  rw [if_neg (hn1 k v h)]; exact h, fun k v h => by
  show (if k = 1 then _ else _) = _
  rw [if_neg (hn1 k v h)]⟩
 have hfo : ∀ x, (c_kdel kl i j).foot g x ↔ x = b := fun x => by
  constructor
  ·rintro ⟨k, o, h1, h2⟩
   have : k = 0 := by
    simp only [c_kdel, lkC] at h1
    by_cases e : 0 = k
    ·exact e.symm
    ·rw [beqf e] at h1; cases h1
   subst this
   rw [k2] at h2; simpa [oblk] using h2
  ·rintro rfl
   exact ⟨0, _, rfl, by rw [k2]; simp [oblk]⟩
 have hwf : Wf g' w' := fun x hx => Nat.lt_of_lt_of_le (hS.wf x hx) hch.size
 have hcut : c2.toList.take ((kl.length - (j - i)) * 3) = (ls.take i ++ ls.drop j).flatten := by
  have e1 : cur.toList.take (i * 3) = ls.flatten.take (i * 3) := by
   rw [← hct, List.take_take, Nat.min_eq_left (by have := hi.1; have := hi.2; omega)]
  have h3 := hi.1
  have h4 := hi.2
  have hl1 : (cur.toList.take (0 + i * 3) ++ ls.flatten.drop (j * 3)).length = (i + (kl.length - j)) * 3 := by
   rw [List.length_append, hdl, List.length_take, Array.length_toList, hcs]; omega
  have e2 : c1.toList.take ((i + (kl.length - j)) * 3) = cur.toList.take (0 + i * 3) ++ ls.flatten.drop (j * 3) := by
   rw [a2, List.take_append_of_le_length (by omega), List.take_of_length_le (by omega)]
  rw [b2, e2, List.append_assoc, List.take_append_of_le_length (by omega), List.take_of_length_le (by omega), List.flatten_append, take_mul i hrow, drop_mul j hrow, Nat.zero_add, e1]
  rfl
 have hcon : (kl.take i ++ kl.drop j).length = kl.length - (j - i) := by simp; omega
 have hos : OS g' w' 1 (.sl 86 [.int .i64, .int .i64, .sl (.sl (.int .u8))] (kl.take i ++ kl.drop j)) := by
  have key : ∀ xs : List (RT [.int .i64, .int .i64, .sl (.sl (.int .u8))]), xs.length = kl.length - (j - i) → Fa2 (rS g'.X g'.N w' _) xs (ls.take i ++ ls.drop j) → OS g' w' 1 (.sl 86 _ xs) := by
   intro xs hx hF
   refine ⟨.slice (some ⟨b, 0, none⟩) (kl.length - (j - i)) cap, ls.take i ++ ls.drop j, rfl, rfl, ⟨?_, .inr ⟨b, cap, c2, by rw [hx], Nat.zero_le _, b1, by rw [hx]; omega, hc2, hc2s, by rw [hx]; exact hcut⟩⟩, by rw [hx]; omega, hF, ?_⟩
   ·rw [hx, flat_len (m := 3)]
    ·simp only [List.length_append, List.length_take, List.length_drop, hlen]
     have := hi.1; have := hi.2
     show _ = _ * 3
     omega
    ·intro l hl
     rcases List.mem_append.1 hl with h | h
     ·exact hrow l (List.mem_of_mem_take h)
     ·exact hrow l (List.mem_of_mem_drop h)
   ·intro u hu
    rw [List.flatten_append] at hu
    rcases List.mem_append.1 hu with h | h
    ·obtain ⟨l, h1, h2⟩ := List.mem_flatten.1 h
     exact k6 u (List.mem_flatten.2 ⟨l, List.mem_of_mem_take h1, h2⟩)
    ·obtain ⟨l, h1, h2⟩ := List.mem_flatten.1 h
     exact k6 u (List.mem_flatten.2 ⟨l, List.mem_of_mem_drop h1, h2⟩)
  exact key _ hcon (((k5.take i).append (k5.drop j)).mono (rS_mv hgo.goes _))
 have hone : ∀ k o, lkC (c_kdel kl i j).H1 k = some o → k = 1 ∧ o = .sl 86 [.int .i64, .int .i64, .sl (.sl (.int .u8))] (kl.take i ++ kl.drop j) := fun k o h => by
  simp only [c_kdel, lkC] at h
  by_cases e : 1 = k
  ·subst e; cases h; exact ⟨rfl, rfl⟩
  ·rw [beqf e] at h; cases h
 refine ⟨_, rfl, g', hgo.mono (fun x hx => (hfo x).2 hx) (fun x hx => by rw [(hfo x).1 hx]; exact hbX), ⟨_, rfl, rfl, rfl⟩, ⟨hwf, ?_, ?_, ?_⟩, ?_⟩
 ·intro k o h
  obtain ⟨rfl, rfl⟩ := hone k o h
  exact hos
 ·intro k o h x hx
  obtain ⟨rfl, rfl⟩ := hone k o h
  have : x ∈ [b] := hx
  rw [List.mem_singleton.1 this]
  exact hbX
 ·intro k o k' o' h h' hne
  exact absurd ((hone k o h).1.trans (hone k' o' h').1.symm) hne
 ·intro k o h x hx
  obtain ⟨rfl, rfl⟩ := hone k o h
  have : x ∈ [b] := hx
  exact .inl ((hfo x).2 (List.mem_singleton.1 this))
end Go.Sx.Tryz
namespace Go.Sx.Tryz
open Go.Mi Go.RowKit Go.Sx Go.Proofs
noncomputable section
def c_place (id : List Int) (fi : Bool) (ok : List Int) (oi : Nat) (ik : List Int) (ii low : Nat) (mx : List (List Int)) (last told : Nat) (kl : List KR) (i : Nat) : Con := ⟨[.cp 0 0, vi (i : Int)], [(0, .ob 80 (chain [lb id, .v (.bool fi), .v (.bool false), .cp 1 0, .cp 2 0, .v (.pointer none), vi (low : Int), .ls false [.sl (.int .u8)] mx, vi (last : Int), vi (told : Int), .sk 3])), (1, .ob 122 (chain [lb ok, vi (oi : Int)])), (2, .ob 122 (chain [lb ik, vi (ii : Int)])), (3, .sl 86 [.int .i64, .int .i64, .sl (.sl (.int .u8))] kl)], vi (plc kl (i : Int)), [(0, .ob 80 (chain [lb id, .v (.bool fi), .v (.bool false), .cp 1 0, .cp 2 0, .v (.pointer none), vi (low : Int), .ls false [.sl (.int .u8)] mx, vi (last : Int), vi (told : Int), .sk 3])), (1, .ob 122 (chain [lb ok, vi (oi : Int)])), (2, .ob 122 (chain [lb ik, vi (ii : Int)])), (3, .sl 86 [.int .i64, .int .i64, .sl (.sl (.int .u8))] kl)]⟩
theorem place_ok (id : List Int) (fi : Bool) (ok : List Int) (oi : Nat) (ik : List Int) (ii low : Nat) (mx : List (List Int)) (last told : Nat) (kl : List KR) (i : Nat) : ConOk Tryz.prog 94 (c_place id fi ok oi ik ii low mx last told kl i) := by
 refine conOk_of rfl (nb := 4) Tryz.func94 rfl rfl Tryz.ntmps94 rfl rfl rfl fun g0 w0 ac gs ws hg0 hS => ?_
 have hlenk3 : kl.length ≤ 9223372036854775807 := hS.lens 3 rfl
 have hS := hS.sp
 refine s0 [0, 3, 4] [0, 1, 2, 3, 4] 5 hS fun hS => ?_
 refine sA [(5, .call ⟨130, (c_kidx kl i), [(0, 3), (1, 4)], []⟩)] ⟨kidx_ok _ _, trivial⟩ (fun C => [ndC C 5]) [4] [0, 1, 2, 3] 5 ⟨rfl, trivial⟩ hS fun hS => ?_
 refine wp_ret ?_
 exact fin_y rfl (.inr rfl) hS [vi (plc kl (i : Int))] [(0, some (.ob 80 (chain [lb id, .v (.bool fi), .v (.bool false), .cp 1 0, .cp 2 0, .v (.pointer none), vi (low : Int), .ls false [.sl (.int .u8)] mx, vi (last : Int), vi (told : Int), .sk 3]))), (1, some (.ob 122 (chain [lb ok, vi (oi : Int)]))), (2, some (.ob 122 (chain [lb ik, vi (ii : Int)]))), (3, some (.sl 86 [.int .i64, .int .i64, .sl (.sl (.int .u8))] kl))] rfl ⟨rfl, rfl, rfl, rfl, trivial⟩

def c_kclone (kl : List KR) : Con := ⟨[.ls false [.int .i64, .int .i64, .sl (.sl (.int .u8))] kl], [], .sk 0, [(0, .sl 86 [.int .i64, .int .i64, .sl (.sl (.int .u8))] kl)]⟩
theorem kclone_ok (kl : List KR) (hkl : kl.length ≤ 100000) : ConOk Tryz.prog 64 (c_kclone kl) := by
 refine conOk_of rfl (nb := 0) Tryz.func64 rfl rfl Tryz.ntmps64 rfl rfl rfl fun g0 w0 ac gs ws hg0 hS => ?_
 have hlen0 : kl.length ≤ 9223372036854775807 := hS.len 0 rfl
 have hS := hS.sp
 refine s0 [0, 2] [] 0 hS fun hS => ?_
 refine wp_seq (wp_seq ?_)
 rcases hS.nilor 0 [.int .i64, .int .i64, .sl (.sl (.int .u8))] kl with ⟨hn1, hS⟩ | hS
 ·subst hn1
  refine r0 [0, 2, 4] [] 0 hS fun hS => ?_
  refine then_n (cond_t hS ?_)
  refine s0 [0, 2] [] 0 hS fun hS => ?_
  refine wp_ret (then_ret ?_)
  obtain ⟨gs, hS⟩ := hS.nilk 2 86 [.int .i64, .int .i64, .sl (.sl (.int .u8))]
  exact fin_y rfl (.inr rfl) hS [.sk 0] [(0, some (.sl 86 [.int .i64, .int .i64, .sl (.sl (.int .u8))] []))] rfl ⟨rfl, trivial⟩
 ·refine r0 [0, 2, 4] [] 0 hS fun hS => ?_
  refine then_n (cond_f hS ?_)
  refine wp_skip (then_n (sA [(0, .own)] trivial (fun _ => [([] : List (RT [.int .i64, .int .i64, .sl (.sl (.int .u8))])).length + kl.length ≤ 9223372036854775807, (([] : List (RT [.int .i64, .int .i64, .sl (.sl (.int .u8))])).length + kl.length) * 40 ≤ 140737488355328]) [2] [1] 2 ⟨by simp <;> omega, by simp <;> omega, trivial⟩ hS fun hS => ?_))
  refine wp_ret ?_
  obtain ⟨gs, hS⟩ := hS.rn [(0, 1)] [(2, .sk 0)] [(0, .sl 86 [.int .i64, .int .i64, .sl (.sl (.int .u8))] ([] ++ kl))] 1 hg0
  exact fin_y rfl (.inr rfl) hS [.sk 0] [(0, some (.sl 86 [.int .i64, .int .i64, .sl (.sl (.int .u8))] ([] ++ kl)))] rfl ⟨rfl, trivial⟩

def c_bclone (l : List (List Int)) : Con := ⟨[.ls false [.sl (.int .u8)] l], [], .ls false [.sl (.int .u8)] l, []⟩
theorem bclone_ok (l : List (List Int)) (hl : l.length ≤ 100000) : ConOk Tryz.prog 63 (c_bclone l) := by
 refine conOk_of rfl (nb := 0) Tryz.func63 rfl rfl Tryz.ntmps63 rfl rfl rfl fun g0 w0 ac gs ws hg0 hS => ?_
 have hlen0 : l.length ≤ 9223372036854775807 := hS.len 0 rfl
 have hS := hS.sp
 refine s0 [0, 2] [] 0 hS fun hS => ?_
 refine wp_seq (wp_seq ?_)
 rcases hS.nilor 0 [.sl (.int .u8)] l with ⟨hn1, hS⟩ | hS
 ·subst hn1
  refine r0 [0, 2, 4] [] 0 hS fun hS => ?_
  refine then_n (cond_t hS ?_)
  refine s0 [0, 2] [] 0 hS fun hS => ?_
  refine wp_ret (then_ret ?_)
  exact fin_y rfl (.inr rfl) hS [.v (.slice none 0 0)] [] rfl trivial
 ·refine r0 [0, 2, 4] [] 0 hS fun hS => ?_
  refine then_n (cond_f hS ?_)
  refine wp_skip (then_n (sA [(0, .own)] trivial (fun _ => [([] : List (RT [.sl (.int .u8)])).length + l.length ≤ 9223372036854775807, (([] : List (RT [.sl (.int .u8)])).length + l.length) * 24 ≤ 140737488355328]) [2] [1] 2 ⟨by simp <;> omega, by simp <;> omega, trivial⟩ hS fun hS => ?_))
  refine wp_ret ?_
  obtain ⟨gs, hS⟩ := hS.fz 1
  exact fin_y rfl (.inr rfl) hS [.ls false [.sl (.int .u8)] ([] ++ l)] [] rfl trivial

def cmB (i to : Nat) : Bool := decide (i ≤ to ∧ to ≤ i + 40)
theorem cmB_y {i to : Nat} (h : cmB i to = true) : i ≤ to ∧ to ≤ i + 40 := of_decide_eq_true h
theorem cmB_n {i to : Nat} (h : cmB i to = false) (key : List Int) : 0 < cmay_m key i to := by
 have h := of_decide_eq_false h
 by_cases h1 : to < i
 ·rw [cmay_5 h1]; decide
 ·rw [cmay_6 omm]; decide
theorem chaty_ok (key : List Int) (i to : Nat) (hk : key.length = 32) (hi : i ≤ 900000000000) (hs : cmB i to = true) : ConOk Tryz.prog 105 (c_chat key i to) := chat_ok key i to hk hi (cmB_y hs)
theorem chatz_ok (key : List Int) (i to : Nat) (hk : key.length = 32) (hi : i ≤ 900000000000) (hs : cmB i to = false) : ConOk Tryz.prog 105 (c_chatn key i to) := chatn_ok key i to hk hi (by have := cmB_n hs key; omega)
def opening_kv (id : List Int) (fi : Bool) (ok : List Int) (oi : Nat) (ik : List Int) (ii low : Nat) (mx : List (List Int)) (last told : Nat) (kl : List KR) (hb : List Int) (hi hn hh : Nat) (hp hx : List Int) : Bool := if (hi : Int) < (ii : Int) then (if (plc kl (hi : Int)) < 0 then false else (if (hn : Int) < (((kl.getD (Int.toNat (plc kl (hi : Int))) (rz [.int .i64, .int .i64, .sl (.sl (.int .u8))])).2).1) then false else (if (((((kl.getD (Int.toNat (plc kl (hi : Int))) (rz [.int .i64, .int .i64, .sl (.sl (.int .u8))])).2).2).length : Nat) : Int) ≤ ((hn : Int) - (((kl.getD (Int.toNat (plc kl (hi : Int))) (rz [.int .i64, .int .i64, .sl (.sl (.int .u8))])).2).1)) then false else true))) else (if cmB ii hi = true then (if (hn : Int) < (last : Int) then false else (if ((low + mx.length - 1 : Nat) : Int) < (hn : Int) then false else true)) else false)
def opening_k (id : List Int) (fi : Bool) (ok : List Int) (oi : Nat) (ik : List Int) (ii low : Nat) (mx : List (List Int)) (last told : Nat) (kl : List KR) (hb : List Int) (hi hn hh : Nat) (hp hx : List Int) : Bool := shut (opening_kv id fi ok oi ik ii low mx last told kl hb hi hn hh hp hx)
theorem opening_ke (id : List Int) (fi : Bool) (ok : List Int) (oi : Nat) (ik : List Int) (ii low : Nat) (mx : List (List Int)) (last told : Nat) (kl : List KR) (hb : List Int) (hi hn hh : Nat) (hp hx : List Int) : opening_k id fi ok oi ik ii low mx last told kl hb hi hn hh hp hx = opening_kv id fi ok oi ik ii low mx last told kl hb hi hn hh hp hx := shut_eq _
def opening_p_ev (id : List Int) (fi : Bool) (ok : List Int) (oi : Nat) (ik : List Int) (ii low : Nat) (mx : List (List Int)) (last told : Nat) (kl : List KR) (hb : List Int) (hi hn hh : Nat) (hp hx : List Int) : Nat := if (hi : Int) < (ii : Int) then (if (plc kl (hi : Int)) < 0 then 5 else (if (hn : Int) < (((kl.getD (Int.toNat (plc kl (hi : Int))) (rz [.int .i64, .int .i64, .sl (.sl (.int .u8))])).2).1) then 2 else 2)) else (if cmB ii hi = true then (if (hn : Int) < (last : Int) then 2 else 2) else (cmay_m ik ii hi))
def opening_p_e (id : List Int) (fi : Bool) (ok : List Int) (oi : Nat) (ik : List Int) (ii low : Nat) (mx : List (List Int)) (last told : Nat) (kl : List KR) (hb : List Int) (hi hn hh : Nat) (hp hx : List Int) : Nat := shut (opening_p_ev id fi ok oi ik ii low mx last told kl hb hi hn hh hp hx)
theorem opening_p_ee (id : List Int) (fi : Bool) (ok : List Int) (oi : Nat) (ik : List Int) (ii low : Nat) (mx : List (List Int)) (last told : Nat) (kl : List KR) (hb : List Int) (hi hn hh : Nat) (hp hx : List Int) : opening_p_e id fi ok oi ik ii low mx last told kl hb hi hn hh hp hx = opening_p_ev id fi ok oi ik ii low mx last told kl hb hi hn hh hp hx := shut_eq _
def opening_v (id : List Int) (fi : Bool) (ok : List Int) (oi : Nat) (ik : List Int) (ii low : Nat) (mx : List (List Int)) (last told : Nat) (kl : List KR) (hb : List Int) (hi hn hh : Nat) (hp hx : List Int) : (List Int) := if (hi : Int) < (ii : Int) then (((kl.getD (Int.toNat (plc kl (hi : Int))) (rz [.int .i64, .int .i64, .sl (.sl (.int .u8))])).2).2).getD (Int.toNat ((hn : Int) - (((kl.getD (Int.toNat (plc kl (hi : Int))) (rz [.int .i64, .int .i64, .sl (.sl (.int .u8))])).2).1))) (rz [.sl (.int .u8)]) else (derive32_m (mky (nxtN ik (hi - ii))) (mx.getD (hn - low) (rz [.sl (.int .u8)])) [109, 101, 115, 115, 97, 103, 101])
def opening_m (id : List Int) (fi : Bool) (ok : List Int) (oi : Nat) (ik : List Int) (ii low : Nat) (mx : List (List Int)) (last told : Nat) (kl : List KR) (hb : List Int) (hi hn hh : Nat) (hp hx : List Int) : (List Int) := shut (opening_v id fi ok oi ik ii low mx last told kl hb hi hn hh hp hx)
theorem opening_e (id : List Int) (fi : Bool) (ok : List Int) (oi : Nat) (ik : List Int) (ii low : Nat) (mx : List (List Int)) (last told : Nat) (kl : List KR) (hb : List Int) (hi hn hh : Nat) (hp hx : List Int) : opening_m id fi ok oi ik ii low mx last told kl hb hi hn hh hp hx = opening_v id fi ok oi ik ii low mx last told kl hb hi hn hh hp hx := shut_eq _
def c_opening (id : List Int) (fi : Bool) (ok : List Int) (oi : Nat) (ik : List Int) (ii low : Nat) (mx : List (List Int)) (last told : Nat) (kl : List KR) (hb : List Int) (hi hn hh : Nat) (hp hx : List Int) : Con := ⟨[.cp 0 0, .ag (chain [lb hb, vi (hi : Int), vi (hn : Int), vi (hh : Int), lb hp, lb hx])], [(0, .ob 80 (chain [lb id, .v (.bool fi), .v (.bool false), .cp 1 0, .cp 2 0, .v (.pointer none), vi (low : Int), .ls false [.sl (.int .u8)] mx, vi (last : Int), vi (told : Int), .sk 3])), (1, .ob 122 (chain [lb ok, vi (oi : Int)])), (2, .ob 122 (chain [lb ik, vi (ii : Int)])), (3, .sl 86 [.int .i64, .int .i64, .sl (.sl (.int .u8))] kl)], lb (opening_m id fi ok oi ik ii low mx last told kl hb hi hn hh hp hx), [(0, .ob 80 (chain [lb id, .v (.bool fi), .v (.bool false), .cp 1 0, .cp 2 0, .v (.pointer none), vi (low : Int), .ls false [.sl (.int .u8)] mx, vi (last : Int), vi (told : Int), .sk 3])), (1, .ob 122 (chain [lb ok, vi (oi : Int)])), (2, .ob 122 (chain [lb ik, vi (ii : Int)])), (3, .sl 86 [.int .i64, .int .i64, .sl (.sl (.int .u8))] kl)]⟩
theorem opening_ok (id : List Int) (fi : Bool) (ok : List Int) (oi : Nat) (ik : List Int) (ii low : Nat) (mx : List (List Int)) (last told : Nat) (kl : List KR) (hb : List Int) (hi hn hh : Nat) (hp hx : List Int) (hok : ok.length = 32) (hik : ik.length = 32) (hoi : oi ≤ 100000000000) (hii : ii ≤ 100000000000) (hm1 : 1 ≤ mx.length ∧ mx.length ≤ 100000) (hm2 : ∀ j, (mx.getD j (rz [.sl (.int .u8)])).length ≤ 32) (hlow : low ≤ 100000000000) (hK : KOk kl) (hll : low ≤ last ∧ last ≤ 100000000000) (hhn : hn ≤ 10000000000 ∧ hi ≤ 10000000000) (hk : opening_k id fi ok oi ik ii low mx last told kl hb hi hn hh hp hx = true) : ConOk Tryz.prog 70 (c_opening id fi ok oi ik ii low mx last told kl hb hi hn hh hp hx) := by
 refine conOk_of rfl (nb := 4) Tryz.func70 rfl rfl Tryz.ntmps70 rfl rfl rfl fun g0 w0 ac gs ws hg0 hS => ?_
 have hlenk3 : kl.length ≤ 9223372036854775807 := hS.lens 3 rfl
 have hS := hS.sp
 refine s0 [0, 3, 4] [0, 1, 2, 3, 4] 5 hS fun hS => ?_
 refine wp_seq (sA [(6, .call ⟨40, (c_cindex ik ii), [(0, 2)], []⟩)] ⟨cindex_ok _ _, trivial⟩ (fun C => [ndC C 6]) [0, 3, 4, 16] [0, 1, 2, 3, 4] 5 ⟨rfl, trivial⟩ hS fun hS => ?_)
 refine if_d ((hi : Int) < (ii : Int)) hS (fun h1 => ?_) (fun h1 => ?_)
 ·refine sA [(3, .call ⟨94, (c_place id fi ok oi ik ii low mx last told kl hi), [(0, 0), (1, 1), (2, 2), (3, 3)], []⟩)] ⟨place_ok _ _ _ _ _ _ _ _ _ _ _ _, trivial⟩ (fun C => [ndC C 3]) [0, 3, 4, 5] [0, 1, 2, 3, 4] 5 ⟨rfl, trivial⟩ hS fun hS => ?_
  refine wp_seq (s0 [0, 3, 4, 5, 22] [0, 1, 2, 3, 4] 5 hS fun hS => ?_)
  refine if_d ((plc kl (hi : Int)) < 0) hS (fun h2 => ?_) (fun h2 => ?_)
  ·have hK : opening_k id fi ok oi ik ii low mx last told kl hb hi hn hh hp hx = false := (opening_ke id fi ok oi ik ii low mx last told kl hb hi hn hh hp hx).trans ((if_pos h1).trans (if_pos h2))
   rw [hK] at hk
   cases hk
  ·refine wp_skip (then_n (wp_seq ?_))
   have hpl := plc_lt (l := kl) (i := (hi : Int)) asm
   have hkr := hK.2 (plc kl (hi : Int)).toNat omm
   have hkf : 0 ≤ (kl.getD (Int.toNat (plc kl (hi : Int))) (rz [.int .i64, .int .i64, .sl (.sl (.int .u8))])).2.1 ∧ (kl.getD (Int.toNat (plc kl (hi : Int))) (rz [.int .i64, .int .i64, .sl (.sl (.int .u8))])).2.1 ≤ 1000000000000 := hkr.2.1
   have hkq : (kl.getD (Int.toNat (plc kl (hi : Int))) (rz [.int .i64, .int .i64, .sl (.sl (.int .u8))])).2.2.length ≤ 100000 := hkr.2.2.1
   refine rA [] trivial (fun _ => [(0 : Int) ≤ (plc kl (hi : Int)) ∧ (plc kl (hi : Int)) < ((kl.length : Nat) : Int)]) [0, 3, 4, 6] [0, 1, 2, 3, 4, 5] 6 ⟨by omega, trivial⟩ hS fun hS => ?_
   refine then_n (wp_seq (wp_seq ?_))
   by_cases h3 : (hn : Int) < (((kl.getD (Int.toNat (plc kl (hi : Int))) (rz [.int .i64, .int .i64, .sl (.sl (.int .u8))])).2).1)
   ·refine rA [(4, .ob true)] trivial (fun _ => [(decide ((hn : Int) < (((kl.getD (Int.toNat (plc kl (hi : Int))) (rz [.int .i64, .int .i64, .sl (.sl (.int .u8))])).2).1))) = true]) [0, 3, 4, 6, 46] [0, 1, 2, 3, 4, 5] 6 ⟨decide_eq_true h3, trivial⟩ hS fun hS => ?_
    refine then_n (cond_t hS ?_)
    have hK : opening_k id fi ok oi ik ii low mx last told kl hb hi hn hh hp hx = false := (opening_ke id fi ok oi ik ii low mx last told kl hb hi hn hh hp hx).trans ((if_pos h1).trans ((if_neg h2).trans (if_pos h3)))
    rw [hK] at hk
    cases hk
   ·refine rA [(4, .ob false), (10, .oi ((hn : Int) - (((kl.getD (Int.toNat (plc kl (hi : Int))) (rz [.int .i64, .int .i64, .sl (.sl (.int .u8))])).2).1)))] trivial (fun _ => [(decide ((hn : Int) < (((kl.getD (Int.toNat (plc kl (hi : Int))) (rz [.int .i64, .int .i64, .sl (.sl (.int .u8))])).2).1))) = false, isub .i64 (hn : Int) (((kl.getD (Int.toNat (plc kl (hi : Int))) (rz [.int .i64, .int .i64, .sl (.sl (.int .u8))])).2).1) = ((hn : Int) - (((kl.getD (Int.toNat (plc kl (hi : Int))) (rz [.int .i64, .int .i64, .sl (.sl (.int .u8))])).2).1))]) [0, 3, 4, 6, 46] [0, 1, 2, 3, 4, 5] 6 ⟨decide_eq_false h3, isub64 omm omm, trivial⟩ hS fun hS => ?_
    refine then_n ?_
    refine if_d ((((((kl.getD (Int.toNat (plc kl (hi : Int))) (rz [.int .i64, .int .i64, .sl (.sl (.int .u8))])).2).2).length : Nat) : Int) ≤ ((hn : Int) - (((kl.getD (Int.toNat (plc kl (hi : Int))) (rz [.int .i64, .int .i64, .sl (.sl (.int .u8))])).2).1))) hS (fun h4 => ?_) (fun h4 => ?_)
    ·have hK : opening_k id fi ok oi ik ii low mx last told kl hb hi hn hh hp hx = false := (opening_ke id fi ok oi ik ii low mx last told kl hb hi hn hh hp hx).trans ((if_pos h1).trans ((if_neg h2).trans ((if_neg h3).trans (if_pos h4))))
     rw [hK] at hk
     cases hk
    ·refine wp_skip (then_n (sA [(6, .oi ((hn : Int) - (((kl.getD (Int.toNat (plc kl (hi : Int))) (rz [.int .i64, .int .i64, .sl (.sl (.int .u8))])).2).1)))] trivial (fun _ => [isub .i64 (hn : Int) (((kl.getD (Int.toNat (plc kl (hi : Int))) (rz [.int .i64, .int .i64, .sl (.sl (.int .u8))])).2).1) = ((hn : Int) - (((kl.getD (Int.toNat (plc kl (hi : Int))) (rz [.int .i64, .int .i64, .sl (.sl (.int .u8))])).2).1)), (0 : Int) ≤ ((hn : Int) - (((kl.getD (Int.toNat (plc kl (hi : Int))) (rz [.int .i64, .int .i64, .sl (.sl (.int .u8))])).2).1)) ∧ ((hn : Int) - (((kl.getD (Int.toNat (plc kl (hi : Int))) (rz [.int .i64, .int .i64, .sl (.sl (.int .u8))])).2).1)) < (((((kl.getD (Int.toNat (plc kl (hi : Int))) (rz [.int .i64, .int .i64, .sl (.sl (.int .u8))])).2).2).length : Nat) : Int)]) [0, 3, 4] [0, 1, 2, 3, 4] 6 ⟨isub64 omm omm, by omega, trivial⟩ hS fun hS => ?_))
     refine wp_ret (then_ret ?_)
     have hM : opening_m id fi ok oi ik ii low mx last told kl hb hi hn hh hp hx = (((kl.getD (Int.toNat (plc kl (hi : Int))) (rz [.int .i64, .int .i64, .sl (.sl (.int .u8))])).2).2).getD (Int.toNat ((hn : Int) - (((kl.getD (Int.toNat (plc kl (hi : Int))) (rz [.int .i64, .int .i64, .sl (.sl (.int .u8))])).2).1))) (rz [.sl (.int .u8)]) := (opening_e id fi ok oi ik ii low mx last told kl hb hi hn hh hp hx).trans (if_pos h1)
     exact fin_y rfl (.inr rfl) hS [lb ((((kl.getD (Int.toNat (plc kl (hi : Int))) (rz [.int .i64, .int .i64, .sl (.sl (.int .u8))])).2).2).getD (Int.toNat ((hn : Int) - (((kl.getD (Int.toNat (plc kl (hi : Int))) (rz [.int .i64, .int .i64, .sl (.sl (.int .u8))])).2).1))) (rz [.sl (.int .u8)]))] [(0, some (.ob 80 (chain [lb id, .v (.bool fi), .v (.bool false), .cp 1 0, .cp 2 0, .v (.pointer none), vi (low : Int), .ls false [.sl (.int .u8)] mx, vi (last : Int), vi (told : Int), .sk 3]))), (1, some (.ob 122 (chain [lb ok, vi (oi : Int)]))), (2, some (.ob 122 (chain [lb ik, vi (ii : Int)]))), (3, some (.sl 86 [.int .i64, .int .i64, .sl (.sl (.int .u8))] kl))] (by show weak _ (lb (opening_m id fi ok oi ik ii low mx last told kl hb hi hn hh hp hx)) = (lb (opening_m id fi ok oi ik ii low mx last told kl hb hi hn hh hp hx)); rw [hM]; first | (simp only []; rfl) | (simp only []; done) | rfl) ⟨rfl, rfl, rfl, rfl, trivial⟩
 ·refine wp_skip (then_n (wp_seq ?_))
  by_cases h5 : cmB ii hi = true
  ·refine rA [(6, .call ⟨105, (c_chat ik ii hi), [(0, 2)], []⟩)] ⟨chaty_ok _ _ _ lnn omm h5, trivial⟩ (fun C => [ndC C 6]) [0, 3, 4, 7, 8] [0, 1, 2, 3, 4] 5 ⟨rfl, trivial⟩ hS fun hS => ?_
   refine then_n (sA [(1, .call ⟨71, (c_must0), [], []⟩)] ⟨must0_ok, trivial⟩ (fun C => [ndC C 1]) [0, 3, 4, 7] [0, 1, 2, 3, 4] 5 ⟨rfl, trivial⟩ hS fun hS => ?_)
   refine wp_seq (wp_seq ?_)
   by_cases h6 : (hn : Int) < (last : Int)
   ·refine rA [(6, .ob true)] trivial (fun _ => [(decide ((hn : Int) < (last : Int))) = true]) [0, 3, 4, 7, 82] [0, 1, 2, 3, 4] 5 ⟨decide_eq_true h6, trivial⟩ hS fun hS => ?_
    refine then_n (cond_t hS ?_)
    have hK : opening_k id fi ok oi ik ii low mx last told kl hb hi hn hh hp hx = false := (opening_ke id fi ok oi ik ii low mx last told kl hb hi hn hh hp hx).trans ((if_neg h1).trans ((if_pos h5).trans (if_pos h6)))
    rw [hK] at hk
    cases hk
   ·refine rC [(11, ⟨18, (c_epochr low mx), [], []⟩, [0, 1])] ⟨epochr_ok _ _ lmm omm, trivial⟩ [] [(6, .ob false)] trivial (fun _ => [(decide ((hn : Int) < (last : Int))) = false, ([.im (chain [.top, .top, .top, .im (chain []) 0, .top, .top, vi (low : Int), .ls false [.sl (.int .u8)] mx, .top, .top, .top]) 0] : List D) = [.im (chain [.top, .top, .top, .im (chain []) 0, .top, .top, vi (low : Int), .ls false [.sl (.int .u8)] mx, .top, .top, .top]) 0]]) [0, 3, 4, 7, 82] [0, 1, 2, 3, 4] 5 ⟨decide_eq_false h6, rfl, trivial⟩ hS fun hS => ?_
    refine then_n ?_
    refine if_d (((low + mx.length - 1 : Nat) : Int) < (hn : Int)) hS (fun h7 => ?_) (fun h7 => ?_)
    ·have hK : opening_k id fi ok oi ik ii low mx last told kl hb hi hn hh hp hx = false := (opening_ke id fi ok oi ik ii low mx last told kl hb hi hn hh hp hx).trans ((if_neg h1).trans ((if_pos h5).trans ((if_neg h6).trans (if_pos h7))))
     rw [hK] at hk
     cases hk
    ·refine wp_skip (then_n (sA [(4, .call ⟨51, (c_skeyk id fi ok oi ik ii low mx last told kl (mky (nxtN ik (hi - ii))) hn), [(0, 0), (1, 1), (2, 2), (3, 3)], []⟩)] ⟨skeyk_ok _ _ _ _ _ _ _ _ _ _ _ _ _ lmm (by first | assumption | (intro j; simp <;> omega)) omm lnn omm, trivial⟩ (fun C => [ndC C 4]) [4] [0, 1, 2, 3] 5 ⟨rfl, trivial⟩ hS fun hS => ?_))
     refine wp_ret ?_
     have hM : opening_m id fi ok oi ik ii low mx last told kl hb hi hn hh hp hx = (derive32_m (mky (nxtN ik (hi - ii))) (mx.getD (hn - low) (rz [.sl (.int .u8)])) [109, 101, 115, 115, 97, 103, 101]) := (opening_e id fi ok oi ik ii low mx last told kl hb hi hn hh hp hx).trans (if_neg h1)
     exact fin_y rfl (.inr rfl) hS [lb (derive32_m (mky (nxtN ik (hi - ii))) (mx.getD (hn - low) (rz [.sl (.int .u8)])) [109, 101, 115, 115, 97, 103, 101])] [(0, some (.ob 80 (chain [lb id, .v (.bool fi), .v (.bool false), .cp 1 0, .cp 2 0, .v (.pointer none), vi (low : Int), .ls false [.sl (.int .u8)] mx, vi (last : Int), vi (told : Int), .sk 3]))), (1, some (.ob 122 (chain [lb ok, vi (oi : Int)]))), (2, some (.ob 122 (chain [lb ik, vi (ii : Int)]))), (3, some (.sl 86 [.int .i64, .int .i64, .sl (.sl (.int .u8))] kl))] (by show weak _ (lb (opening_m id fi ok oi ik ii low mx last told kl hb hi hn hh hp hx)) = (lb (opening_m id fi ok oi ik ii low mx last told kl hb hi hn hh hp hx)); rw [hM]; first | (simp only []; rfl) | (simp only []; done) | rfl) ⟨rfl, rfl, rfl, rfl, trivial⟩
  ·refine rA [(6, .call ⟨105, (c_chatn ik ii hi), [(0, 2)], []⟩)] ⟨chatz_ok _ _ _ lnn omm (bne_k h5), trivial⟩ (fun C => [ndC C 6]) [0, 3, 4, 7, 8] [0, 1, 2, 3, 4] 5 ⟨rfl, trivial⟩ hS fun hS => ?_
   refine then_n (wp_seq ?_)
   have hcm := cmB_n (bne_k h5) ik
   have hK : opening_k id fi ok oi ik ii low mx last told kl hb hi hn hh hp hx = false := (opening_ke id fi ok oi ik ii low mx last told kl hb hi hn hh hp hx).trans ((if_neg h1).trans (if_neg h5))
   rw [hK] at hk
   cases hk
def c_opening_p (id : List Int) (fi : Bool) (ok : List Int) (oi : Nat) (ik : List Int) (ii low : Nat) (mx : List (List Int)) (last told : Nat) (kl : List KR) (hb : List Int) (hi hn hh : Nat) (hp hx : List Int) : Con := ⟨[.cp 0 0, .ag (chain [lb hb, vi (hi : Int), vi (hn : Int), vi (hh : Int), lb hp, lb hx])], [(0, .ob 80 (chain [lb id, .v (.bool fi), .v (.bool false), .cp 1 0, .cp 2 0, .v (.pointer none), vi (low : Int), .ls false [.sl (.int .u8)] mx, vi (last : Int), vi (told : Int), .sk 3])), (1, .ob 122 (chain [lb ok, vi (oi : Int)])), (2, .ob 122 (chain [lb ik, vi (ii : Int)])), (3, .sl 86 [.int .i64, .int .i64, .sl (.sl (.int .u8))] kl)], .v (.iface 44 (.int .i64 ((opening_p_e id fi ok oi ik ii low mx last told kl hb hi hn hh hp hx : Nat) : Int))), []⟩
theorem opening_p_ok (id : List Int) (fi : Bool) (ok : List Int) (oi : Nat) (ik : List Int) (ii low : Nat) (mx : List (List Int)) (last told : Nat) (kl : List KR) (hb : List Int) (hi hn hh : Nat) (hp hx : List Int) (hok : ok.length = 32) (hik : ik.length = 32) (hoi : oi ≤ 100000000000) (hii : ii ≤ 100000000000) (hm1 : 1 ≤ mx.length ∧ mx.length ≤ 100000) (hm2 : ∀ j, (mx.getD j (rz [.sl (.int .u8)])).length ≤ 32) (hlow : low ≤ 100000000000) (hK : KOk kl) (hll : low ≤ last ∧ last ≤ 100000000000) (hhn : hn ≤ 10000000000 ∧ hi ≤ 10000000000) (hk : opening_k id fi ok oi ik ii low mx last told kl hb hi hn hh hp hx = false) : PanOk Tryz.prog 70 (c_opening_p id fi ok oi ik ii low mx last told kl hb hi hn hh hp hx) := by
 refine conOk_ofE rfl (nb := 4) Tryz.func70 rfl rfl Tryz.ntmps70 rfl rfl rfl fun g0 w0 ac gs ws hg0 hS => ?_
 have hlenk3 : kl.length ≤ 9223372036854775807 := hS.lens 3 rfl
 have hS := hS.sp
 refine s0 [0, 3, 4] [0, 1, 2, 3, 4] 5 hS fun hS => ?_
 refine wp_seq (sA [(6, .call ⟨40, (c_cindex ik ii), [(0, 2)], []⟩)] ⟨cindex_ok _ _, trivial⟩ (fun C => [ndC C 6]) [0, 3, 4, 16] [0, 1, 2, 3, 4] 5 ⟨rfl, trivial⟩ hS fun hS => ?_)
 refine if_d ((hi : Int) < (ii : Int)) hS (fun h1 => ?_) (fun h1 => ?_)
 ·refine sA [(3, .call ⟨94, (c_place id fi ok oi ik ii low mx last told kl hi), [(0, 0), (1, 1), (2, 2), (3, 3)], []⟩)] ⟨place_ok _ _ _ _ _ _ _ _ _ _ _ _, trivial⟩ (fun C => [ndC C 3]) [0, 3, 4, 5] [0, 1, 2, 3, 4] 5 ⟨rfl, trivial⟩ hS fun hS => ?_
  refine wp_seq (s0 [0, 3, 4, 5, 22] [0, 1, 2, 3, 4] 5 hS fun hS => ?_)
  refine if_d ((plc kl (hi : Int)) < 0) hS (fun h2 => ?_) (fun h2 => ?_)
  ·refine region_p (E := E0) mo hZ [] trivial none (fun r hr => by cases hr)  1 0 (fun _ => []) (.v (.iface 44 (.int .i64 5))) (by kernel_rfl) trivial hS.st fun ac gs ws pv hS hpv => ?_
   refine then_pan (then_pan ?_)
   have hM : opening_p_e id fi ok oi ik ii low mx last told kl hb hi hn hh hp hx = 5 := (opening_p_ee id fi ok oi ik ii low mx last told kl hb hi hn hh hp hx).trans ((if_pos h1).trans (if_pos h2))
   exact fin_p rfl hS hpv (by show _ = (.v (.iface 44 (.int .i64 ((opening_p_e id fi ok oi ik ii low mx last told kl hb hi hn hh hp hx : Nat) : Int))) : D); rw [hM] <;> rfl) rfl
  ·refine wp_skip (then_n (wp_seq ?_))
   have hpl := plc_lt (l := kl) (i := (hi : Int)) asm
   have hkr := hK.2 (plc kl (hi : Int)).toNat omm
   have hkf : 0 ≤ (kl.getD (Int.toNat (plc kl (hi : Int))) (rz [.int .i64, .int .i64, .sl (.sl (.int .u8))])).2.1 ∧ (kl.getD (Int.toNat (plc kl (hi : Int))) (rz [.int .i64, .int .i64, .sl (.sl (.int .u8))])).2.1 ≤ 1000000000000 := hkr.2.1
   have hkq : (kl.getD (Int.toNat (plc kl (hi : Int))) (rz [.int .i64, .int .i64, .sl (.sl (.int .u8))])).2.2.length ≤ 100000 := hkr.2.2.1
   refine rA [] trivial (fun _ => [(0 : Int) ≤ (plc kl (hi : Int)) ∧ (plc kl (hi : Int)) < ((kl.length : Nat) : Int)]) [0, 3, 4, 6] [0, 1, 2, 3, 4, 5] 6 ⟨by omega, trivial⟩ hS fun hS => ?_
   refine then_n (wp_seq (wp_seq ?_))
   by_cases h3 : (hn : Int) < (((kl.getD (Int.toNat (plc kl (hi : Int))) (rz [.int .i64, .int .i64, .sl (.sl (.int .u8))])).2).1)
   ·refine rA [(4, .ob true)] trivial (fun _ => [(decide ((hn : Int) < (((kl.getD (Int.toNat (plc kl (hi : Int))) (rz [.int .i64, .int .i64, .sl (.sl (.int .u8))])).2).1))) = true]) [0, 3, 4, 6, 46] [0, 1, 2, 3, 4, 5] 6 ⟨decide_eq_true h3, trivial⟩ hS fun hS => ?_
    refine then_n (cond_t hS ?_)
    refine region_p (E := E0) mo hZ [] trivial none (fun r hr => by cases hr)  1 0 (fun _ => []) (.v (.iface 44 (.int .i64 2))) (by kernel_rfl) trivial hS.st fun ac gs ws pv hS hpv => ?_
    refine then_pan (then_pan ?_)
    have hM : opening_p_e id fi ok oi ik ii low mx last told kl hb hi hn hh hp hx = 2 := (opening_p_ee id fi ok oi ik ii low mx last told kl hb hi hn hh hp hx).trans ((if_pos h1).trans ((if_neg h2).trans (if_pos h3)))
    exact fin_p rfl hS hpv (by show _ = (.v (.iface 44 (.int .i64 ((opening_p_e id fi ok oi ik ii low mx last told kl hb hi hn hh hp hx : Nat) : Int))) : D); rw [hM] <;> rfl) rfl
   ·refine rA [(4, .ob false), (10, .oi ((hn : Int) - (((kl.getD (Int.toNat (plc kl (hi : Int))) (rz [.int .i64, .int .i64, .sl (.sl (.int .u8))])).2).1)))] trivial (fun _ => [(decide ((hn : Int) < (((kl.getD (Int.toNat (plc kl (hi : Int))) (rz [.int .i64, .int .i64, .sl (.sl (.int .u8))])).2).1))) = false, isub .i64 (hn : Int) (((kl.getD (Int.toNat (plc kl (hi : Int))) (rz [.int .i64, .int .i64, .sl (.sl (.int .u8))])).2).1) = ((hn : Int) - (((kl.getD (Int.toNat (plc kl (hi : Int))) (rz [.int .i64, .int .i64, .sl (.sl (.int .u8))])).2).1))]) [0, 3, 4, 6, 46] [0, 1, 2, 3, 4, 5] 6 ⟨decide_eq_false h3, isub64 omm omm, trivial⟩ hS fun hS => ?_
    refine then_n ?_
    refine if_d ((((((kl.getD (Int.toNat (plc kl (hi : Int))) (rz [.int .i64, .int .i64, .sl (.sl (.int .u8))])).2).2).length : Nat) : Int) ≤ ((hn : Int) - (((kl.getD (Int.toNat (plc kl (hi : Int))) (rz [.int .i64, .int .i64, .sl (.sl (.int .u8))])).2).1))) hS (fun h4 => ?_) (fun h4 => ?_)
    ·refine region_p (E := E0) mo hZ [] trivial none (fun r hr => by cases hr)  1 0 (fun _ => []) (.v (.iface 44 (.int .i64 2))) (by kernel_rfl) trivial hS.st fun ac gs ws pv hS hpv => ?_
     refine then_pan (then_pan ?_)
     have hM : opening_p_e id fi ok oi ik ii low mx last told kl hb hi hn hh hp hx = 2 := (opening_p_ee id fi ok oi ik ii low mx last told kl hb hi hn hh hp hx).trans ((if_pos h1).trans ((if_neg h2).trans (if_neg h3)))
     exact fin_p rfl hS hpv (by show _ = (.v (.iface 44 (.int .i64 ((opening_p_e id fi ok oi ik ii low mx last told kl hb hi hn hh hp hx : Nat) : Int))) : D); rw [hM] <;> rfl) rfl
    ·refine wp_skip (then_n (sA [(6, .oi ((hn : Int) - (((kl.getD (Int.toNat (plc kl (hi : Int))) (rz [.int .i64, .int .i64, .sl (.sl (.int .u8))])).2).1)))] trivial (fun _ => [isub .i64 (hn : Int) (((kl.getD (Int.toNat (plc kl (hi : Int))) (rz [.int .i64, .int .i64, .sl (.sl (.int .u8))])).2).1) = ((hn : Int) - (((kl.getD (Int.toNat (plc kl (hi : Int))) (rz [.int .i64, .int .i64, .sl (.sl (.int .u8))])).2).1)), (0 : Int) ≤ ((hn : Int) - (((kl.getD (Int.toNat (plc kl (hi : Int))) (rz [.int .i64, .int .i64, .sl (.sl (.int .u8))])).2).1)) ∧ ((hn : Int) - (((kl.getD (Int.toNat (plc kl (hi : Int))) (rz [.int .i64, .int .i64, .sl (.sl (.int .u8))])).2).1)) < (((((kl.getD (Int.toNat (plc kl (hi : Int))) (rz [.int .i64, .int .i64, .sl (.sl (.int .u8))])).2).2).length : Nat) : Int)]) [0, 3, 4] [0, 1, 2, 3, 4] 6 ⟨isub64 omm omm, by omega, trivial⟩ hS fun hS => ?_))
     refine wp_ret (then_ret ?_)
     have hK : opening_k id fi ok oi ik ii low mx last told kl hb hi hn hh hp hx = true := (opening_ke id fi ok oi ik ii low mx last told kl hb hi hn hh hp hx).trans ((if_pos h1).trans ((if_neg h2).trans ((if_neg h3).trans (if_neg h4))))
     rw [hK] at hk
     cases hk
 ·refine wp_skip (then_n (wp_seq ?_))
  by_cases h5 : cmB ii hi = true
  ·refine rA [(6, .call ⟨105, (c_chat ik ii hi), [(0, 2)], []⟩)] ⟨chaty_ok _ _ _ lnn omm h5, trivial⟩ (fun C => [ndC C 6]) [0, 3, 4, 7, 8] [0, 1, 2, 3, 4] 5 ⟨rfl, trivial⟩ hS fun hS => ?_
   refine then_n (sA [(1, .call ⟨71, (c_must0), [], []⟩)] ⟨must0_ok, trivial⟩ (fun C => [ndC C 1]) [0, 3, 4, 7] [0, 1, 2, 3, 4] 5 ⟨rfl, trivial⟩ hS fun hS => ?_)
   refine wp_seq (wp_seq ?_)
   by_cases h6 : (hn : Int) < (last : Int)
   ·refine rA [(6, .ob true)] trivial (fun _ => [(decide ((hn : Int) < (last : Int))) = true]) [0, 3, 4, 7, 82] [0, 1, 2, 3, 4] 5 ⟨decide_eq_true h6, trivial⟩ hS fun hS => ?_
    refine then_n (cond_t hS ?_)
    refine region_p (E := E0) mo hZ [] trivial none (fun r hr => by cases hr)  1 0 (fun _ => []) (.v (.iface 44 (.int .i64 2))) (by kernel_rfl) trivial hS.st fun ac gs ws pv hS hpv => ?_
    refine then_pan ?_
    have hM : opening_p_e id fi ok oi ik ii low mx last told kl hb hi hn hh hp hx = 2 := (opening_p_ee id fi ok oi ik ii low mx last told kl hb hi hn hh hp hx).trans ((if_neg h1).trans ((if_pos h5).trans (if_pos h6)))
    exact fin_p rfl hS hpv (by show _ = (.v (.iface 44 (.int .i64 ((opening_p_e id fi ok oi ik ii low mx last told kl hb hi hn hh hp hx : Nat) : Int))) : D); rw [hM] <;> rfl) rfl
   ·refine rC [(11, ⟨18, (c_epochr low mx), [], []⟩, [0, 1])] ⟨epochr_ok _ _ lmm omm, trivial⟩ [] [(6, .ob false)] trivial (fun _ => [(decide ((hn : Int) < (last : Int))) = false, ([.im (chain [.top, .top, .top, .im (chain []) 0, .top, .top, vi (low : Int), .ls false [.sl (.int .u8)] mx, .top, .top, .top]) 0] : List D) = [.im (chain [.top, .top, .top, .im (chain []) 0, .top, .top, vi (low : Int), .ls false [.sl (.int .u8)] mx, .top, .top, .top]) 0]]) [0, 3, 4, 7, 82] [0, 1, 2, 3, 4] 5 ⟨decide_eq_false h6, rfl, trivial⟩ hS fun hS => ?_
    refine then_n ?_
    refine if_d (((low + mx.length - 1 : Nat) : Int) < (hn : Int)) hS (fun h7 => ?_) (fun h7 => ?_)
    ·refine region_p (E := E0) mo hZ [] trivial none (fun r hr => by cases hr)  1 0 (fun _ => []) (.v (.iface 44 (.int .i64 2))) (by kernel_rfl) trivial hS.st fun ac gs ws pv hS hpv => ?_
     refine then_pan ?_
     have hM : opening_p_e id fi ok oi ik ii low mx last told kl hb hi hn hh hp hx = 2 := (opening_p_ee id fi ok oi ik ii low mx last told kl hb hi hn hh hp hx).trans ((if_neg h1).trans ((if_pos h5).trans (if_neg h6)))
     exact fin_p rfl hS hpv (by show _ = (.v (.iface 44 (.int .i64 ((opening_p_e id fi ok oi ik ii low mx last told kl hb hi hn hh hp hx : Nat) : Int))) : D); rw [hM] <;> rfl) rfl
    ·refine wp_skip (then_n (sA [(4, .call ⟨51, (c_skeyk id fi ok oi ik ii low mx last told kl (mky (nxtN ik (hi - ii))) hn), [(0, 0), (1, 1), (2, 2), (3, 3)], []⟩)] ⟨skeyk_ok _ _ _ _ _ _ _ _ _ _ _ _ _ lmm (by first | assumption | (intro j; simp <;> omega)) omm lnn omm, trivial⟩ (fun C => [ndC C 4]) [4] [0, 1, 2, 3] 5 ⟨rfl, trivial⟩ hS fun hS => ?_))
     refine wp_ret ?_
     have hK : opening_k id fi ok oi ik ii low mx last told kl hb hi hn hh hp hx = true := (opening_ke id fi ok oi ik ii low mx last told kl hb hi hn hh hp hx).trans ((if_neg h1).trans ((if_pos h5).trans ((if_neg h6).trans (if_neg h7))))
     rw [hK] at hk
     cases hk
  ·refine rA [(6, .call ⟨105, (c_chatn ik ii hi), [(0, 2)], []⟩)] ⟨chatz_ok _ _ _ lnn omm (bne_k h5), trivial⟩ (fun C => [ndC C 6]) [0, 3, 4, 7, 8] [0, 1, 2, 3, 4] 5 ⟨rfl, trivial⟩ hS fun hS => ?_
   refine then_n (wp_seq ?_)
   have hcm := cmB_n (bne_k h5) ik
   refine region_p (E := E0) mo hZ [] trivial (some ⟨71, (c_mustp (cmay_m ik ii hi)), [], []⟩) (fun r hr => by cases hr; exact mustp_ok (cmay_m ik ii hi) omm)  1 0 (fun _ => [nd [vi (((cmay_m ik ii hi) : Nat) : Int)] []]) (.v (.iface 44 (.int .i64 (((cmay_m ik ii hi) : Nat) : Int)))) (by kernel_rfl) ⟨rfl, trivial⟩ hS.st fun ac gs ws pv hS hpv => ?_
   refine then_pan ?_
   have hM : opening_p_e id fi ok oi ik ii low mx last told kl hb hi hn hh hp hx = (cmay_m ik ii hi) := (opening_p_ee id fi ok oi ik ii low mx last told kl hb hi hn hh hp hx).trans ((if_neg h1).trans (if_neg h5))
   exact fin_p rfl hS hpv (by show _ = (.v (.iface 44 (.int .i64 ((opening_p_e id fi ok oi ik ii low mx last told kl hb hi hn hh hp hx : Nat) : Int))) : D); rw [hM] <;> rfl) rfl

end
end Go.Sx.Tryz
namespace Go.Sx.Tryz
open Go.Mi Go.RowKit Go.Sx Go.Proofs
noncomputable section
theorem skL_get' (key z : List Int) : ∀ (n j : Nat), j < n → (skL key n).getD j z = mky (nxtN key j)
 | 0, j, h => absurd h (Nat.not_lt_zero _)
 | n + 1, j, h => by
  rw [skL, List.getD_eq_getElem?_getD]
  by_cases e : j < n
  ·rw [List.getElem?_append_left (by rw [skL_len]; exact e), ← List.getD_eq_getElem?_getD]; exact skL_get' key z n j e
  ·have : j = n := by omega
   subst this
   rw [List.getElem?_append_right (by rw [skL_len]; exact Nat.le_refl _), skL_len, Nat.sub_self]; rfl
theorem skL_get (key : List Int) {n j : Nat} (h : j < n) : (skL key n).getD j (rz [.sl (.int .u8)]) = mky (nxtN key j) := skL_get' key _ n j h
theorem skL_get32 {key : List Int} {n j : Nat} (h : j < n) : ((skL key n).getD j (rz [.sl (.int .u8)])).length = 32 := (congrArg List.length (skL_get key h)).trans (mky_len _)
def came_l2_s (id : List Int) (fi : Bool) (ok : List Int) (oi : Nat) (ik : List Int) (ii low : Nat) (mx : List (List Int)) (last told : Nat) (kl : List KR) (hb : List Int) (hi hn hh : Nat) (hp hx : List Int) (x53 : Nat) (o6 : List (Int × Int × (List (List Int)))) (k2 : Nat) : (Nat × (List (List Int))) → (Nat × (List (List Int))) := fun z_ => match z_ with | (x11, o8) => (x11 + 1, o8 ++ [(derive32_m ((skL ik (hi - ii)).getD x53 (rz [.sl (.int .u8)])) (mx.getD (x11 - low) (rz [.sl (.int .u8)])) [109, 101, 115, 115, 97, 103, 101])])
def came_l2 (id : List Int) (fi : Bool) (ok : List Int) (oi : Nat) (ik : List Int) (ii low : Nat) (mx : List (List Int)) (last told : Nat) (kl : List KR) (hb : List Int) (hi hn hh : Nat) (hp hx : List Int) (x53 : Nat) (o6 : List (Int × Int × (List (List Int)))) : Nat → Nat × (List (List Int))
 | 0 => (last, [])
 | k2 + 1 => came_l2_s id fi ok oi ik ii low mx last told kl hb hi hn hh hp hx x53 o6 k2 (came_l2 id fi ok oi ik ii low mx last told kl hb hi hn hh hp hx x53 o6 k2)
def came_l2_c (id : List Int) (fi : Bool) (ok : List Int) (oi : Nat) (ik : List Int) (ii low : Nat) (mx : List (List Int)) (last told : Nat) (kl : List KR) (hb : List Int) (hi hn hh : Nat) (hp hx : List Int) (x53 : Nat) (o6 : List (Int × Int × (List (List Int)))) : (Nat × (List (List Int))) → Prop := fun z_ => match z_ with | (x11, o8) => ((x11 : Nat) : Int) ≤ (hn : Int)
def came_l1_s (id : List Int) (fi : Bool) (ok : List Int) (oi : Nat) (ik : List Int) (ii low : Nat) (mx : List (List Int)) (last told : Nat) (kl : List KR) (hb : List Int) (hi hn hh : Nat) (hp hx : List Int) (x53 : Nat) : (List (Int × Int × (List (List Int)))) → (List (Int × Int × (List (List Int)))) := fun o6 => o6 ++ [(((ii + x53 : Nat) : Int), (last : Int), (came_l2 id fi ok oi ik ii low mx last told kl hb hi hn hh hp hx x53 o6 (lst fun j => came_l2_c id fi ok oi ik ii low mx last told kl hb hi hn hh hp hx x53 o6 (came_l2 id fi ok oi ik ii low mx last told kl hb hi hn hh hp hx x53 o6 j))).2)]
def came_l1 (id : List Int) (fi : Bool) (ok : List Int) (oi : Nat) (ik : List Int) (ii low : Nat) (mx : List (List Int)) (last told : Nat) (kl : List KR) (hb : List Int) (hi hn hh : Nat) (hp hx : List Int) : Nat → (List (Int × Int × (List (List Int))))
 | 0 => kl
 | x53 + 1 => came_l1_s id fi ok oi ik ii low mx last told kl hb hi hn hh hp hx x53 (came_l1 id fi ok oi ik ii low mx last told kl hb hi hn hh hp hx x53)
def came_v (id : List Int) (fi : Bool) (ok : List Int) (oi : Nat) (ik : List Int) (ii low : Nat) (mx : List (List Int)) (last told : Nat) (kl : List KR) (hb : List Int) (hi hn hh : Nat) (hp hx : List Int) : Nat × (List (Int × Int × (List (List Int)))) × (List Int) × Nat := if (hi : Int) < (ii : Int) then (last, kl.take ((plc kl (hi : Int)).toNat) ++ kl.drop (((plc kl (hi : Int)).toNat) + 1), ik, ii) else (hn, (came_l1 id fi ok oi ik ii low mx last told kl hb hi hn hh hp hx ((skL ik (hi - ii)).length)).drop (Int.toNat (max ((((came_l1 id fi ok oi ik ii low mx last told kl hb hi hn hh hp hx ((skL ik (hi - ii)).length)).length : Nat) : Int) - 60) 0)), nxt (nxtN ik (hi - ii)), (hi + 1))
def came_m (id : List Int) (fi : Bool) (ok : List Int) (oi : Nat) (ik : List Int) (ii low : Nat) (mx : List (List Int)) (last told : Nat) (kl : List KR) (hb : List Int) (hi hn hh : Nat) (hp hx : List Int) : Nat × (List (Int × Int × (List (List Int)))) × (List Int) × Nat := shut (came_v id fi ok oi ik ii low mx last told kl hb hi hn hh hp hx)
theorem came_e (id : List Int) (fi : Bool) (ok : List Int) (oi : Nat) (ik : List Int) (ii low : Nat) (mx : List (List Int)) (last told : Nat) (kl : List KR) (hb : List Int) (hi hn hh : Nat) (hp hx : List Int) : came_m id fi ok oi ik ii low mx last told kl hb hi hn hh hp hx = came_v id fi ok oi ik ii low mx last told kl hb hi hn hh hp hx := shut_eq _
def c_came (id : List Int) (fi : Bool) (ok : List Int) (oi : Nat) (ik : List Int) (ii low : Nat) (mx : List (List Int)) (last told : Nat) (kl : List KR) (hb : List Int) (hi hn hh : Nat) (hp hx : List Int) : Con := ⟨[.cp 0 0, .ag (chain [lb hb, vi (hi : Int), vi (hn : Int), vi (hh : Int), lb hp, lb hx])], [(0, .ob 80 (chain [lb id, .v (.bool fi), .v (.bool false), .cp 1 0, .cp 2 0, .v (.pointer none), vi (low : Int), .ls false [.sl (.int .u8)] mx, vi (last : Int), vi (told : Int), .sk 3])), (1, .ob 122 (chain [lb ok, vi (oi : Int)])), (2, .ob 122 (chain [lb ik, vi (ii : Int)])), (3, .sl 86 [.int .i64, .int .i64, .sl (.sl (.int .u8))] kl)], .tu (chain []), [(0, .ob 80 (chain [lb id, .v (.bool fi), .v (.bool false), .cp 1 0, .cp 2 0, .v (.pointer none), vi (low : Int), .ls false [.sl (.int .u8)] mx, vi (((came_m id fi ok oi ik ii low mx last told kl hb hi hn hh hp hx).1 : Nat) : Int), vi (told : Int), .sk 4])), (1, .ob 122 (chain [lb ok, vi (oi : Int)])), (2, .ob 122 (chain [lb ((came_m id fi ok oi ik ii low mx last told kl hb hi hn hh hp hx).2.2.1), vi (((came_m id fi ok oi ik ii low mx last told kl hb hi hn hh hp hx).2.2.2 : Nat) : Int)])), (4, .sl 86 [.int .i64, .int .i64, .sl (.sl (.int .u8))] ((came_m id fi ok oi ik ii low mx last told kl hb hi hn hh hp hx).2.1))]⟩
theorem came_ok (id : List Int) (fi : Bool) (ok : List Int) (oi : Nat) (ik : List Int) (ii low : Nat) (mx : List (List Int)) (last told : Nat) (kl : List KR) (hb : List Int) (hi hn hh : Nat) (hp hx : List Int) (hok : ok.length = 32) (hik : ik.length = 32) (hoi : oi ≤ 100000000000) (hii : ii ≤ 100000000000) (hm1 : 1 ≤ mx.length ∧ mx.length ≤ 100000) (hm2 : ∀ j, (mx.getD j (rz [.sl (.int .u8)])).length ≤ 32) (hlow : low ≤ 100000000000) (hK : KOk kl) (hll : low ≤ last ∧ last ≤ 100000000000) (hhn : hn ≤ 10000000000 ∧ hi ≤ 10000000000) (hc : (hi < ii ∧ 0 ≤ plc kl (hi : Int)) ∨ (ii ≤ hi ∧ hi ≤ ii + 40 ∧ last ≤ hn ∧ hn + 1 ≤ low + mx.length)) : ConOk Tryz.prog 72 (c_came id fi ok oi ik ii low mx last told kl hb hi hn hh hp hx) := by
 refine conOk_of rfl (nb := 4) Tryz.func72 rfl rfl Tryz.ntmps72 rfl rfl rfl fun g0 w0 ac gs ws hg0 hS => ?_
 have hlenk3 : kl.length ≤ 9223372036854775807 := hS.lens 3 rfl
 have hS := hS.sp
 refine s0 [0, 3] [0, 1, 2, 3, 4] 5 hS fun hS => ?_
 refine wp_seq (sA [(6, .call ⟨40, (c_cindex ik ii), [(0, 2)], []⟩)] ⟨cindex_ok _ _, trivial⟩ (fun C => [ndC C 6]) [0, 3, 19] [0, 1, 2, 3, 4] 5 ⟨rfl, trivial⟩ hS fun hS => ?_)
 refine if_d ((hi : Int) < (ii : Int)) hS (fun h1 => ?_) (fun h1 => ?_)
 ·refine wp_seq ?_
  have hpg := plc_ge (l := kl) (hi : Int)
  have hkl := hK.1
  refine rA [(3, .call ⟨94, (c_place id fi ok oi ik ii low mx last told kl hi), [(0, 0), (1, 1), (2, 2), (3, 3)], []⟩), (4, .oi ((((plc kl (hi : Int)).toNat) : Nat) : Int))] ⟨place_ok _ _ _ _ _ _ _ _ _ _ _ _, trivial⟩ (fun C => [ndC C 3, (plc kl (hi : Int)) = ((((plc kl (hi : Int)).toNat) : Nat) : Int)]) [0, 3, 4] [0, 1, 2, 3, 4] 5 ⟨rfl, by omega, trivial⟩ hS fun hS => ?_
  refine then_n (wp_seq ?_)
  have hpg := plc_ge (l := kl) (hi : Int)
  have hkl := hK.1
  obtain ⟨gs, hS⟩ := hS.fz 3
  refine rA [(5, .call ⟨64, (c_kclone kl), [], [(0, 5)]⟩), (8, .oi ((((plc kl (hi : Int)).toNat) + 1 : Nat) : Int)), (9, .call ⟨106, (c_kdel kl ((plc kl (hi : Int)).toNat) (((plc kl (hi : Int)).toNat) + 1)), [(0, 5)], [(1, 6)]⟩)] ⟨kclone_ok _ lnn, kdel_ok _ _ _ omm, trivial⟩ (fun C => [ndC C 5, iadd .i64 ((((plc kl (hi : Int)).toNat) : Nat) : Int) 1 = ((((plc kl (hi : Int)).toNat) + 1 : Nat) : Int), ndC C 9]) [0, 3] [0, 1, 2, 4, 6] 7 ⟨rfl, by rw [iadd64 omm omm]; omega, rfl, trivial⟩ hS fun hS => ?_
  refine then_n (wp_ret (then_ret ?_))
  have hM : came_m id fi ok oi ik ii low mx last told kl hb hi hn hh hp hx = (last, kl.take ((plc kl (hi : Int)).toNat) ++ kl.drop (((plc kl (hi : Int)).toNat) + 1), ik, ii) := (came_e id fi ok oi ik ii low mx last told kl hb hi hn hh hp hx).trans (if_pos h1)
  obtain ⟨gs, hS⟩ := hS.rn [(0, 0), (1, 1), (2, 2), (3, 3), (4, 6)] [] [(0, .ob 80 (chain [lb id, .v (.bool fi), .v (.bool false), .cp 1 0, .cp 2 0, .v (.pointer none), vi (low : Int), .ls false [.sl (.int .u8)] mx, vi (last : Int), vi (told : Int), .sk 4])), (1, .ob 122 (chain [lb ok, vi (oi : Int)])), (2, .ob 122 (chain [lb ik, vi (ii : Int)])), (4, .sl 86 [.int .i64, .int .i64, .sl (.sl (.int .u8))] (kl.take ((plc kl (hi : Int)).toNat) ++ kl.drop (((plc kl (hi : Int)).toNat) + 1)))] 5 hg0
  exact fin_y rfl (.inr rfl) hS [] [(0, some (.ob 80 (chain [lb id, .v (.bool fi), .v (.bool false), .cp 1 0, .cp 2 0, .v (.pointer none), vi (low : Int), .ls false [.sl (.int .u8)] mx, vi (last : Int), vi (told : Int), .sk 4]))), (1, some (.ob 122 (chain [lb ok, vi (oi : Int)]))), (2, some (.ob 122 (chain [lb ik, vi (ii : Int)]))), (4, some (.sl 86 [.int .i64, .int .i64, .sl (.sl (.int .u8))] (kl.take ((plc kl (hi : Int)).toNat) ++ kl.drop (((plc kl (hi : Int)).toNat) + 1))))] rfl (by show H1Ok _ [(0, .ob 80 (chain [lb id, .v (.bool fi), .v (.bool false), .cp 1 0, .cp 2 0, .v (.pointer none), vi (low : Int), .ls false [.sl (.int .u8)] mx, vi (((came_m id fi ok oi ik ii low mx last told kl hb hi hn hh hp hx).1 : Nat) : Int), vi (told : Int), .sk 4])), (1, .ob 122 (chain [lb ok, vi (oi : Int)])), (2, .ob 122 (chain [lb ((came_m id fi ok oi ik ii low mx last told kl hb hi hn hh hp hx).2.2.1), vi (((came_m id fi ok oi ik ii low mx last told kl hb hi hn hh hp hx).2.2.2 : Nat) : Int)])), (4, .sl 86 [.int .i64, .int .i64, .sl (.sl (.int .u8))] ((came_m id fi ok oi ik ii low mx last told kl hb hi hn hh hp hx).2.1))] true; rw [hM]; first | (simp only []; exact ⟨rfl, rfl, rfl, rfl, trivial⟩) | exact ⟨rfl, rfl, rfl, rfl, trivial⟩)
 ·refine wp_skip (then_n (sA [(4, .call ⟨40, (c_cindex ik ii), [(0, 2)], []⟩)] ⟨cindex_ok _ _, trivial⟩ (fun C => [ndC C 4]) [0, 3, 5] [0, 1, 2, 3, 4] 5 ⟨rfl, trivial⟩ hS fun hS => ?_))
  refine sA [(6, .call ⟨107, (c_cskip ik ii hi), [(0, 2)], [(1, 5)]⟩)] ⟨cskip_ok _ _ _ lnn omm omm, trivial⟩ (fun C => [ndC C 6]) [0, 3, 5, 6] [0, 1, 2, 3, 4, 5] 6 ⟨rfl, trivial⟩ hS fun hS => ?_
  refine wp_seq (wp_seq ?_)
  obtain ⟨gs, hS⟩ := hS.alias 3
  have hpg := plc_ge (l := kl) (hi : Int)
  have hkl := hK.1
  have hsl := skL_len ik (hi - ii)
  refine r0 [0, 3, 5, 51, 52, 53] [0, 1, 2, 4, 5, 6] 7 hS fun hS => ?_
  refine then_n (wp_block (loop_y (ι := Nat × (List (Int × Int × (List (List Int))))) hg0 hS (fun z_ => match z_ with | (x53, o6) => (skL ik (hi - ii)).length - x53) (fun z_ => match z_ with | (x53, o6) => [(0, .cp 0 0), (3, .cp 4 0), (5, vi (ii : Int)), (51, .sk 5), (52, vi (((skL ik (hi - ii)).length : Nat) : Int)), (53, vi ((x53 : Nat) : Int))]) (fun z_ => match z_ with | (x53, o6) => [(0, .ob 80 (chain [lb id, .v (.bool fi), .v (.bool false), .cp 1 0, .cp 2 0, .v (.pointer none), vi (low : Int), .ls false [.sl (.int .u8)] mx, vi (last : Int), vi (told : Int), .sk 6])), (1, .ob 122 (chain [lb ok, vi (oi : Int)])), (2, .ob 122 (chain [lb (nxtN ik (hi - ii)), vi (hi : Int)])), (4, .ob 115 (chain [lb hb, vi (hi : Int), vi (hn : Int), vi (hh : Int), lb hp, lb hx])), (5, .sl 22 [.sl (.int .u8)] (skL ik (hi - ii))), (6, .sl 86 [.int .i64, .int .i64, .sl (.sl (.int .u8))] o6)]) (fun z_ => match z_ with | (x53, o6) => (x53 ≤ (skL ik (hi - ii)).length) ∧ (o6 = came_l1 id fi ok oi ik ii low mx last told kl hb hi hn hh hp hx x53) ∧ (o6.length ≤ kl.length + x53) ∧ True) 7 (0, kl) [(0, 0), (1, 1), (2, 2), (3, 3), (4, 4), (5, 5), (6, 6)] ⟨omm, rfl, omm, trivial⟩ ?_))
  rintro ⟨x53, o6⟩ ac gs ws ⟨hx53, hq1, p1, _⟩ hS
  refine s0 [0, 3, 5, 51, 52, 53, 54] [0, 1, 2, 4, 5, 6] 7 hS fun hS => ?_
  refine wp_seq ?_
  refine if_d ((x53 : Int) < (((skL ik (hi - ii)).length : Nat) : Int)) hS (fun h2 => ?_) (fun h2 => ?_)
  ·refine wp_skip (then_n (wp_seq (wp_block (sA [] trivial (fun _ => [(0 : Int) ≤ (x53 : Int) ∧ (x53 : Int) < (((skL ik (hi - ii)).length : Nat) : Int)]) [0, 3, 5, 8, 9, 51, 52, 53] [0, 1, 2, 4, 5, 6] 7 ⟨by omega, trivial⟩ hS fun hS => ?_))))
   refine sA [(2, .oi ((ii + x53 : Nat) : Int))] trivial (fun _ => [iadd .i64 (ii : Int) (x53 : Int) = ((ii + x53 : Nat) : Int)]) [0, 3, 5, 9, 10, 51, 52, 53] [0, 1, 2, 4, 5, 6, 7] 8 ⟨by rw [iadd64 omm omm]; omega, trivial⟩ hS fun hS => ?_
   refine wp_seq (wp_seq ?_)
   obtain ⟨gs, hS⟩ := hS.nilob 7 2 22 [.sl (.int .u8)]
   refine r0 [0, 3, 5, 9, 10, 11, 51, 52, 53] [0, 1, 2, 4, 5, 6, 7, 8] 9 hS fun hS => ?_
   refine then_n (wp_block (loop_y (ι := Nat × Nat × (List (List Int))) hg0 hS (fun z_ => match z_ with | (k2, x11, o8) => hn + 1 - x11) (fun z_ => match z_ with | (k2, x11, o8) => [(0, .cp 0 0), (3, .cp 4 0), (5, vi (ii : Int)), (9, lb ((skL ik (hi - ii)).getD x53 (rz [.sl (.int .u8)]))), (10, .cp 7 0), (11, vi ((x11 : Nat) : Int)), (51, .sk 5), (52, vi (((skL ik (hi - ii)).length : Nat) : Int)), (53, vi (x53 : Int))]) (fun z_ => match z_ with | (k2, x11, o8) => [(0, .ob 80 (chain [lb id, .v (.bool fi), .v (.bool false), .cp 1 0, .cp 2 0, .v (.pointer none), vi (low : Int), .ls false [.sl (.int .u8)] mx, vi (last : Int), vi (told : Int), .sk 6])), (1, .ob 122 (chain [lb ok, vi (oi : Int)])), (2, .ob 122 (chain [lb (nxtN ik (hi - ii)), vi (hi : Int)])), (4, .ob 115 (chain [lb hb, vi (hi : Int), vi (hn : Int), vi (hh : Int), lb hp, lb hx])), (5, .sl 22 [.sl (.int .u8)] (skL ik (hi - ii))), (6, .sl 86 [.int .i64, .int .i64, .sl (.sl (.int .u8))] o6), (7, .ob 86 (chain [vi ((ii + x53 : Nat) : Int), vi (last : Int), .sk 8])), (8, .sl 22 [.sl (.int .u8)] o8)]) (fun z_ => match z_ with | (k2, x11, o8) => ((x11, o8) = came_l2 id fi ok oi ik ii low mx last told kl hb hi hn hh hp hx x53 o6 k2) ∧ (∀ j, j < k2 → came_l2_c id fi ok oi ik ii low mx last told kl hb hi hn hh hp hx x53 o6 (came_l2 id fi ok oi ik ii low mx last told kl hb hi hn hh hp hx x53 o6 j)) ∧ (last ≤ x11 ∧ x11 ≤ hn + 1) ∧ (o8.length + last = x11) ∧ True) 9 (0, last, []) [(0, 0), (1, 1), (2, 2), (3, 3), (4, 4), (5, 5), (6, 6), (7, 7), (8, 8)] ⟨rfl, (fun j h => absurd h (Nat.not_lt_zero j)), omm, (by simp), trivial⟩ ?_))
   rintro ⟨k2, x11, o8⟩ ac gs ws ⟨hq2, hj2, p2, p3, _⟩ hS
   refine wp_seq (s0 [0, 3, 5, 9, 10, 11, 51, 52, 53, 73] [0, 1, 2, 4, 5, 6, 7, 8] 9 hS fun hS => ?_)
   refine if_d ((x11 : Int) ≤ (hn : Int)) hS (fun h3 => ?_) (fun h3 => ?_)
   ·refine wp_skip (then_n (wp_seq (wp_block ?_)))
    have hsk := skL_get32 (key := ik) (n := hi - ii) (j := x53) omm
    refine rA [(5, .call ⟨51, (c_skeyk id fi ok oi (nxtN ik (hi - ii)) hi low mx last told o6 ((skL ik (hi - ii)).getD x53 (rz [.sl (.int .u8)])) x11), [(0, 0), (1, 1), (2, 2), (3, 6)], []⟩)] ⟨skeyk_ok _ _ _ _ _ _ _ _ _ _ _ _ _ lmm (by first | assumption | (intro j; simp <;> omega)) omm lnn omm, trivial⟩ (fun C => [ndC C 5, o8.length + [(derive32_m ((skL ik (hi - ii)).getD x53 (rz [.sl (.int .u8)])) (mx.getD (x11 - low) (rz [.sl (.int .u8)])) [109, 101, 115, 115, 97, 103, 101])].length ≤ 9223372036854775807, (o8.length + [(derive32_m ((skL ik (hi - ii)).getD x53 (rz [.sl (.int .u8)])) (mx.getD (x11 - low) (rz [.sl (.int .u8)])) [109, 101, 115, 115, 97, 103, 101])].length) * 24 ≤ 140737488355328]) [0, 3, 5, 9, 10, 11, 51, 52, 53] [0, 1, 2, 4, 5, 6, 7, 9] 10 ⟨rfl, by (first | omega | (simp only [List.length_cons, List.length_nil]; omega)), by (first | omega | (simp only [List.length_cons, List.length_nil]; omega)), trivial⟩ hS fun hS => ?_
    refine block_n (then_n (rA [(1, .oi ((x11 + 1 : Nat) : Int))] trivial (fun _ => [iadd .i64 (x11 : Int) 1 = ((x11 + 1 : Nat) : Int)]) [0, 3, 5, 9, 10, 11, 51, 52, 53] [0, 1, 2, 4, 5, 6, 7, 9] 10 ⟨by rw [iadd64 omm omm]; omega, trivial⟩ hS fun hS => ?_))
    refine then_n ?_
    exact next_y hg0 hS (s := (k2, x11, o8)) (k2 + 1, x11 + 1, o8 ++ [(derive32_m ((skL ik (hi - ii)).getD x53 (rz [.sl (.int .u8)])) (mx.getD (x11 - low) (rz [.sl (.int .u8)])) [109, 101, 115, 115, 97, 103, 101])]) [(0, 0), (1, 1), (2, 2), (3, 3), (4, 4), (5, 5), (6, 6), (7, 7), (8, 9)] (show hn + 1 - (x11 + 1) < hn + 1 - x11 from by omega) ⟨(it_next (F := came_l2 id fi ok oi ik ii low mx last told kl hb hi hn hh hp hx x53 o6) (st := came_l2_s id fi ok oi ik ii low mx last told kl hb hi hn hh hp hx x53 o6) (fun _ => rfl) hq2 rfl), (lst_next hj2 (by rw [← hq2]; exact h3)), omm, (by rw [List.length_append, List.length_cons, List.length_nil]; omega), trivial⟩
   ·have hScur := hS
    obtain rfl := lst_eq (P := fun j => came_l2_c id fi ok oi ik ii low mx last told kl hb hi hn hh hp hx x53 o6 (came_l2 id fi ok oi ik ii low mx last told kl hb hi hn hh hp hx x53 o6 j)) (by rw [← hq2]; first | exact h3 | exact not_not_intro h3) hj2
    obtain rfl : (came_l2 id fi ok oi ik ii low mx last told kl hb hi hn hh hp hx x53 o6 (lst fun j => came_l2_c id fi ok oi ik ii low mx last told kl hb hi hn hh hp hx x53 o6 (came_l2 id fi ok oi ik ii low mx last told kl hb hi hn hh hp hx x53 o6 j))).1 = x11 := Eq.symm (congrArg (fun z => z.1) hq2)
    obtain rfl : (came_l2 id fi ok oi ik ii low mx last told kl hb hi hn hh hp hx x53 o6 (lst fun j => came_l2_c id fi ok oi ik ii low mx last told kl hb hi hn hh hp hx x53 o6 (came_l2 id fi ok oi ik ii low mx last told kl hb hi hn hh hp hx x53 o6 j))).2 = o8 := Eq.symm (congrArg (fun z => z.2) hq2)
    have hS := hScur
    clear hScur
    refine wp_exit (then_exit (then_exit (block_exit (then_n ?_))))
    obtain ⟨gs, hS⟩ := hS.fz 8
    refine rA [] trivial (fun _ => [o6.length + [(((ii + x53 : Nat) : Int), (last : Int), (came_l2 id fi ok oi ik ii low mx last told kl hb hi hn hh hp hx x53 o6 (lst fun j => came_l2_c id fi ok oi ik ii low mx last told kl hb hi hn hh hp hx x53 o6 (came_l2 id fi ok oi ik ii low mx last told kl hb hi hn hh hp hx x53 o6 j))).2)].length ≤ 9223372036854775807, (o6.length + [(((ii + x53 : Nat) : Int), (last : Int), (came_l2 id fi ok oi ik ii low mx last told kl hb hi hn hh hp hx x53 o6 (lst fun j => came_l2_c id fi ok oi ik ii low mx last told kl hb hi hn hh hp hx x53 o6 (came_l2 id fi ok oi ik ii low mx last told kl hb hi hn hh hp hx x53 o6 j))).2)].length) * 40 ≤ 140737488355328]) [0, 3, 5, 51, 52, 53] [0, 1, 2, 4, 5, 9] 10 ⟨by (first | omega | (simp only [List.length_cons, List.length_nil]; omega)), by (first | omega | (simp only [List.length_cons, List.length_nil]; omega)), trivial⟩ hS fun hS => ?_
    refine block_n (then_n (rA [(0, .oi ((x53 + 1 : Nat) : Int))] trivial (fun _ => [iadd .i64 (x53 : Int) 1 = ((x53 + 1 : Nat) : Int)]) [0, 3, 5, 51, 52, 53] [0, 1, 2, 4, 5, 9] 10 ⟨by rw [iadd64 omm omm]; omega, trivial⟩ hS fun hS => ?_))
    refine then_n ?_
    exact next_y hg0 hS (s := (x53, o6)) (x53 + 1, o6 ++ [(((ii + x53 : Nat) : Int), (last : Int), (came_l2 id fi ok oi ik ii low mx last told kl hb hi hn hh hp hx x53 o6 (lst fun j => came_l2_c id fi ok oi ik ii low mx last told kl hb hi hn hh hp hx x53 o6 (came_l2 id fi ok oi ik ii low mx last told kl hb hi hn hh hp hx x53 o6 j))).2)]) [(0, 0), (1, 1), (2, 2), (3, 3), (4, 4), (5, 5), (6, 9)] (show (skL ik (hi - ii)).length - (x53 + 1) < (skL ik (hi - ii)).length - x53 from by omega) ⟨omm, (it_next (F := came_l1 id fi ok oi ik ii low mx last told kl hb hi hn hh hp hx) (st := came_l1_s id fi ok oi ik ii low mx last told kl hb hi hn hh hp hx) (fun _ => rfl) hq1 rfl), (by rw [List.length_append, List.length_cons, List.length_nil]; omega), trivial⟩
  ·have hScur := hS
   obtain rfl : (skL ik (hi - ii)).length = x53 := by omega
   obtain rfl : came_l1 id fi ok oi ik ii low mx last told kl hb hi hn hh hp hx ((skL ik (hi - ii)).length) = o6 := Eq.symm (congrArg (fun z => z) hq1)
   have hS := hScur
   clear hScur
   refine wp_exit (then_exit (then_exit (block_exit (then_n (wp_seq ?_)))))
   obtain ⟨gs, hS⟩ := hS.fz 6
   refine rA [(10, .oi ((((came_l1 id fi ok oi ik ii low mx last told kl hb hi hn hh hp hx ((skL ik (hi - ii)).length)).length : Nat) : Int) - 60)), (11, .oi (max ((((came_l1 id fi ok oi ik ii low mx last told kl hb hi hn hh hp hx ((skL ik (hi - ii)).length)).length : Nat) : Int) - 60) 0)), (13, .call ⟨64, (c_kclone ((came_l1 id fi ok oi ik ii low mx last told kl hb hi hn hh hp hx ((skL ik (hi - ii)).length)).drop (Int.toNat (max ((((came_l1 id fi ok oi ik ii low mx last told kl hb hi hn hh hp hx ((skL ik (hi - ii)).length)).length : Nat) : Int) - 60) 0)))), [], [(0, 7)]⟩)] ⟨kclone_ok _ lnn, trivial⟩ (fun C => [isub .i64 (((came_l1 id fi ok oi ik ii low mx last told kl hb hi hn hh hp hx ((skL ik (hi - ii)).length)).length : Nat) : Int) 60 = ((((came_l1 id fi ok oi ik ii low mx last told kl hb hi hn hh hp hx ((skL ik (hi - ii)).length)).length : Nat) : Int) - 60), (if 0 > ((((came_l1 id fi ok oi ik ii low mx last told kl hb hi hn hh hp hx ((skL ik (hi - ii)).length)).length : Nat) : Int) - 60) then 0 else ((((came_l1 id fi ok oi ik ii low mx last told kl hb hi hn hh hp hx ((skL ik (hi - ii)).length)).length : Nat) : Int) - 60)) = (max ((((came_l1 id fi ok oi ik ii low mx last told kl hb hi hn hh hp hx ((skL ik (hi - ii)).length)).length : Nat) : Int) - 60) 0), bndP (some (max ((((came_l1 id fi ok oi ik ii low mx last told kl hb hi hn hh hp hx ((skL ik (hi - ii)).length)).length : Nat) : Int) - 60) 0)) none none (came_l1 id fi ok oi ik ii low mx last told kl hb hi hn hh hp hx ((skL ik (hi - ii)).length)).length (came_l1 id fi ok oi ik ii low mx last told kl hb hi hn hh hp hx ((skL ik (hi - ii)).length)).length, ndC C 13]) [0, 3] [0, 1, 2, 4, 7] 8 ⟨isub64 omm omm, by split <;> omega, ⟨by simp only [nnI] <;> omega, by simp only [nnI] <;> omega, by simp only [nnI] <;> omega, by simp, by simp only [bl] <;> omega, by simp only [bl] <;> omega, by simp only [bl] <;> omega⟩, rfl, trivial⟩ hS fun hS => ?_
   refine then_n (wp_seq ?_)
   have hnl := nxtN_len hik (hi - ii)
   refine rA [(4, .call ⟨52, (c_cnext (nxtN ik (hi - ii)) hi), [(0, 2)], []⟩)] ⟨cnext_ok _ _ lnn omm, trivial⟩ (fun C => [ndC C 4]) [0, 3] [0, 1, 2, 4, 7] 8 ⟨rfl, trivial⟩ hS fun hS => ?_
   refine then_n (r0 [] [0, 1, 2, 7] 8 hS fun hS => ?_)
   have hM : came_m id fi ok oi ik ii low mx last told kl hb hi hn hh hp hx = (hn, (came_l1 id fi ok oi ik ii low mx last told kl hb hi hn hh hp hx ((skL ik (hi - ii)).length)).drop (Int.toNat (max ((((came_l1 id fi ok oi ik ii low mx last told kl hb hi hn hh hp hx ((skL ik (hi - ii)).length)).length : Nat) : Int) - 60) 0)), nxt (nxtN ik (hi - ii)), (hi + 1)) := (came_e id fi ok oi ik ii low mx last told kl hb hi hn hh hp hx).trans (if_neg h1)
   obtain ⟨gs, hS⟩ := hS.rn [(0, 0), (1, 1), (2, 2), (3, 3), (4, 7)] [] [(0, .ob 80 (chain [lb id, .v (.bool fi), .v (.bool false), .cp 1 0, .cp 2 0, .v (.pointer none), vi (low : Int), .ls false [.sl (.int .u8)] mx, vi (hn : Int), vi (told : Int), .sk 4])), (1, .ob 122 (chain [lb ok, vi (oi : Int)])), (2, .ob 122 (chain [lb (nxt (nxtN ik (hi - ii))), vi ((hi + 1 : Nat) : Int)])), (4, .sl 86 [.int .i64, .int .i64, .sl (.sl (.int .u8))] ((came_l1 id fi ok oi ik ii low mx last told kl hb hi hn hh hp hx ((skL ik (hi - ii)).length)).drop (Int.toNat (max ((((came_l1 id fi ok oi ik ii low mx last told kl hb hi hn hh hp hx ((skL ik (hi - ii)).length)).length : Nat) : Int) - 60) 0))))] 5 hg0
   exact fin_y rfl (.inl rfl) hS [] [(0, some (.ob 80 (chain [lb id, .v (.bool fi), .v (.bool false), .cp 1 0, .cp 2 0, .v (.pointer none), vi (low : Int), .ls false [.sl (.int .u8)] mx, vi (hn : Int), vi (told : Int), .sk 4]))), (1, some (.ob 122 (chain [lb ok, vi (oi : Int)]))), (2, some (.ob 122 (chain [lb (nxt (nxtN ik (hi - ii))), vi ((hi + 1 : Nat) : Int)]))), (4, some (.sl 86 [.int .i64, .int .i64, .sl (.sl (.int .u8))] ((came_l1 id fi ok oi ik ii low mx last told kl hb hi hn hh hp hx ((skL ik (hi - ii)).length)).drop (Int.toNat (max ((((came_l1 id fi ok oi ik ii low mx last told kl hb hi hn hh hp hx ((skL ik (hi - ii)).length)).length : Nat) : Int) - 60) 0)))))] rfl (by show H1Ok _ [(0, .ob 80 (chain [lb id, .v (.bool fi), .v (.bool false), .cp 1 0, .cp 2 0, .v (.pointer none), vi (low : Int), .ls false [.sl (.int .u8)] mx, vi (((came_m id fi ok oi ik ii low mx last told kl hb hi hn hh hp hx).1 : Nat) : Int), vi (told : Int), .sk 4])), (1, .ob 122 (chain [lb ok, vi (oi : Int)])), (2, .ob 122 (chain [lb ((came_m id fi ok oi ik ii low mx last told kl hb hi hn hh hp hx).2.2.1), vi (((came_m id fi ok oi ik ii low mx last told kl hb hi hn hh hp hx).2.2.2 : Nat) : Int)])), (4, .sl 86 [.int .i64, .int .i64, .sl (.sl (.int .u8))] ((came_m id fi ok oi ik ii low mx last told kl hb hi hn hh hp hx).2.1))] true; rw [hM]; first | (simp only []; exact ⟨rfl, rfl, rfl, rfl, trivial⟩) | exact ⟨rfl, rfl, rfl, rfl, trivial⟩)

end
end Go.Sx.Tryz
namespace Go.Sx.Tryz
open Go.Mi Go.RowKit Go.Sx Go.Proofs
noncomputable section
theorem snum_le {xs : List Int} (h : snum_k xs = true) : (numV xs).1.toNat ≤ 2147483648 := by
 rw [snum_ke] at h
 unfold snum_kv at h
 split at h
 ·split at h
  ·cases h
  ·omega
 ·cases h
theorem pc2_le {xs ba bb : List Int} (h : pc2_k xs ba bb = true) : (pc2_m xs ba bb).2.1 ≤ 2147483648 ∧ (pc2_m xs ba bb).2.2.1 ≤ 2147483648 ∧ (pc2_m xs ba bb).2.2.2.1 ≤ 2147483648 ∧ (pc2_m xs ba bb).2.2.2.2.length ≤ xs.length := by
 rw [pc2_ke] at h
 unfold pc2_kv at h
 have h3 := numV_le3 xs
 have h4 := (numV_nn (numV (numV (numV xs).2).2).2).2
 rw [pc2_e]
 split at h
 ·split at h
  ·split at h
   ·refine ⟨snum_le asm, snum_le asm, snum_le asm, ?_⟩
    show (List.take _ _).length ≤ _
    rw [List.length_take]
    omega
   ·cases h
  ·cases h
 ·cases h
theorem rd2_le {xs ba bb : List Int} (h : rd2_k xs ba bb = true) : (rd2_m xs ba bb).1 ≤ 2147483648 ∧ (rd2_m xs ba bb).2.1 ≤ 2147483648 ∧ (rd2_m xs ba bb).2.2.1 ≤ 2147483648 ∧ (rd2_m xs ba bb).2.2.2.length ≤ xs.length := by
 rw [rd2_ke] at h
 unfold rd2_kv at h
 rw [rd2_e]
 split at h
 ·exact pc2_le asm
 ·cases h
theorem parted_le {xs : List Int} (h : parted_k xs = true) : (parted_m xs).1.length ≤ xs.length ∧ (parted_m xs).2.1 ≤ 2147483648 ∧ (parted_m xs).2.2.1 ≤ 2147483648 ∧ (parted_m xs).2.2.2.1 ≤ 2147483648 ∧ (parted_m xs).2.2.2.2.1.length ≤ xs.length ∧ (parted_m xs).2.2.2.2.2.length ≤ xs.length := by
 have h1 := numV_nn xs
 have h2 := numV_nn ((numV xs).2.drop (numV xs).1.toNat)
 rw [List.length_drop] at h2
 rw [parted_ke] at h
 unfold parted_kv at h
 rw [parted_e]
 split at h
 ·split at h
  ·rename_i _ hr
   obtain ⟨k1, k2, k3, k4⟩ := rd2_le hr
   rw [List.length_take] at k4
   refine ⟨?_, k1, k2, k3, ?_, ?_⟩
   ·show (List.take _ _).length ≤ _; rw [List.length_take]; omega
   ·show (rd2_m _ _ _).2.2.2.length ≤ _; omega
   ·show (List.take _ _).length ≤ _; rw [List.length_take]; omega
  ·cases h
 ·cases h
theorem mem32 {l : List (List Int)} {i : Nat} {z : List Int} (h : ∀ k ∈ l, k.length = 32) (hi : i < l.length) : (l.getD i z).length = 32 := by
 rw [List.getD_eq_getElem?_getD, List.getElem?_eq_getElem hi]
 exact h _ (List.getElem_mem hi)
theorem opening_of {id : List Int} {fi : Bool} {ok : List Int} {oi : Nat} {ik : List Int} {ii : Nat} {low : Nat} {mx : List (List Int)} {last : Nat} {told : Nat} {kl : List KR} {hb : List Int} {hi : Nat} {hn : Nat} {hh : Nat} {hp : List Int} {hx : List Int} (h : opening_k id fi ok oi ik ii low mx last told kl hb hi hn hh hp hx = true) (hm : 1 ≤ mx.length) (hK : KOk kl) : ((hi < ii ∧ 0 ≤ plc kl (hi : Int)) ∨ (ii ≤ hi ∧ hi ≤ ii + 40 ∧ last ≤ hn ∧ hn + 1 ≤ low + mx.length)) ∧ (opening_m id fi ok oi ik ii low mx last told kl hb hi hn hh hp hx).length = 32 := by
 rw [opening_ke] at h
 unfold opening_kv at h
 rw [opening_e]
 unfold opening_v
 by_cases h1 : (hi : Int) < (ii : Int)
 ·rw [if_pos h1] at h ⊢
  by_cases h2 : plc kl (hi : Int) < 0
  ·rw [if_pos h2] at h; cases h
  ·rw [if_neg h2] at h
   refine ⟨.inl ⟨by omega, by omega⟩, ?_⟩
   split at h
   ·cases h
   ·split at h
    ·cases h
    ·rename_i h3 h4
     have hpl := plc_lt (l := kl) h2
     have hkr := hK.2 (plc kl (hi : Int)).toNat omm
     exact mem32 hkr.2.2.2 omm
 ·rw [if_neg h1] at h ⊢
  split at h
  ·rename_i h2
   have h3 := cmB_y h2
   refine ⟨.inr ⟨h3.1, h3.2, ?_⟩, derive32_len ..⟩
   split at h
   ·cases h
   ·split at h
    ·cases h
    ·omega
  ·cases h
def c_mustn (n : Nat) : Con := ⟨[vi (n : Int)], [], .tu (chain []), []⟩
theorem mustn_ok (n : Nat) (hn : n = 0) : ConOk Tryz.prog 71 (c_mustn n) := by
 refine conOk_of rfl (nb := 0) Tryz.func71 rfl rfl Tryz.ntmps71 rfl rfl rfl fun g0 w0 ac gs ws hg0 hS => ?_
 have hS := hS.sp
 have hn0 : (n : Int) = 0 := omm
 refine sA [(1, .ob false)] trivial (fun _ => [(!decide ((n : Int) = 0)) = false]) [0, 3] [] 0 ⟨by rw [decide_eq_true hn0]; rfl, trivial⟩ hS fun hS => ?_
 refine cond_f hS ?_
 refine wp_skip ?_
 exact fin_y rfl (.inl rfl) hS [] [] rfl trivial

def muB (n : Nat) : Bool := Nat.beq n 0
theorem muB_y {n : Nat} (h : muB n = true) : n = 0 := Nat.eq_of_beq_eq_true h
theorem muB_n {n : Nat} (h : muB n = false) : 0 < n := Nat.pos_of_ne_zero fun e => by subst e; cases h
theorem musty_ok (n : Nat) (hs : muB n = true) : ConOk Tryz.prog 71 (c_mustn n) := mustn_ok n (muB_y hs)
theorem mustz_ok (n : Nat) (hs : muB n = false) : PanOk Tryz.prog 71 (c_mustp n) := mustp_ok n (muB_n hs)
def take_kv (id : List Int) (fi : Bool) (ok : List Int) (oi : Nat) (ik : List Int) (ii low : Nat) (mx : List (List Int)) (last told : Nat) (kl : List KR) (xs rand : List Int) : Bool := if parted_k xs = true then (if opening_k id fi ok oi ik ii low mx last told kl ((parted_m xs).1) ((parted_m xs).2.1) ((parted_m xs).2.2.1) ((parted_m xs).2.2.2.1) ((parted_m xs).2.2.2.2.1) ((parted_m xs).2.2.2.2.2) = true then (if muB ((sopen_m (opening_m id fi ok oi ik ii low mx last told kl ((parted_m xs).1) ((parted_m xs).2.1) ((parted_m xs).2.2.1) ((parted_m xs).2.2.2.1) ((parted_m xs).2.2.2.2.1) ((parted_m xs).2.2.2.2.2)) (List.replicate 12 (0 : Int)) ((parted_m xs).1) ((parted_m xs).2.2.2.2.2)).2) = true then true else false) else false) else false
def take_k (id : List Int) (fi : Bool) (ok : List Int) (oi : Nat) (ik : List Int) (ii low : Nat) (mx : List (List Int)) (last told : Nat) (kl : List KR) (xs rand : List Int) : Bool := shut (take_kv id fi ok oi ik ii low mx last told kl xs rand)
theorem take_ke (id : List Int) (fi : Bool) (ok : List Int) (oi : Nat) (ik : List Int) (ii low : Nat) (mx : List (List Int)) (last told : Nat) (kl : List KR) (xs rand : List Int) : take_k id fi ok oi ik ii low mx last told kl xs rand = take_kv id fi ok oi ik ii low mx last told kl xs rand := shut_eq _
def take_p_ev (id : List Int) (fi : Bool) (ok : List Int) (oi : Nat) (ik : List Int) (ii low : Nat) (mx : List (List Int)) (last told : Nat) (kl : List KR) (xs rand : List Int) : Nat := if parted_k xs = true then (if opening_k id fi ok oi ik ii low mx last told kl ((parted_m xs).1) ((parted_m xs).2.1) ((parted_m xs).2.2.1) ((parted_m xs).2.2.2.1) ((parted_m xs).2.2.2.2.1) ((parted_m xs).2.2.2.2.2) = true then ((sopen_m (opening_m id fi ok oi ik ii low mx last told kl ((parted_m xs).1) ((parted_m xs).2.1) ((parted_m xs).2.2.1) ((parted_m xs).2.2.2.1) ((parted_m xs).2.2.2.2.1) ((parted_m xs).2.2.2.2.2)) (List.replicate 12 (0 : Int)) ((parted_m xs).1) ((parted_m xs).2.2.2.2.2)).2) else (opening_p_e id fi ok oi ik ii low mx last told kl ((parted_m xs).1) ((parted_m xs).2.1) ((parted_m xs).2.2.1) ((parted_m xs).2.2.2.1) ((parted_m xs).2.2.2.2.1) ((parted_m xs).2.2.2.2.2))) else (parted_p_e xs)
def take_p_e (id : List Int) (fi : Bool) (ok : List Int) (oi : Nat) (ik : List Int) (ii low : Nat) (mx : List (List Int)) (last told : Nat) (kl : List KR) (xs rand : List Int) : Nat := shut (take_p_ev id fi ok oi ik ii low mx last told kl xs rand)
theorem take_p_ee (id : List Int) (fi : Bool) (ok : List Int) (oi : Nat) (ik : List Int) (ii low : Nat) (mx : List (List Int)) (last told : Nat) (kl : List KR) (xs rand : List Int) : take_p_e id fi ok oi ik ii low mx last told kl xs rand = take_p_ev id fi ok oi ik ii low mx last told kl xs rand := shut_eq _
def take_v (id : List Int) (fi : Bool) (ok : List Int) (oi : Nat) (ik : List Int) (ii low : Nat) (mx : List (List Int)) (last told : Nat) (kl : List KR) (xs rand : List Int) : Nat × Nat × (List (Int × Int × (List (List Int)))) × (List Int) × Nat × (List Int) × Nat := (((came_m id fi ok oi ik ii low mx last told kl ((parted_m xs).1) ((parted_m xs).2.1) ((parted_m xs).2.2.1) ((parted_m xs).2.2.2.1) ((parted_m xs).2.2.2.2.1) ((parted_m xs).2.2.2.2.2)).1), (max told ((parted_m xs).2.2.2.1)), (came_m id fi ok oi ik ii low mx last told kl ((parted_m xs).1) ((parted_m xs).2.1) ((parted_m xs).2.2.1) ((parted_m xs).2.2.2.1) ((parted_m xs).2.2.2.2.1) ((parted_m xs).2.2.2.2.2)).2.1, (came_m id fi ok oi ik ii low mx last told kl ((parted_m xs).1) ((parted_m xs).2.1) ((parted_m xs).2.2.1) ((parted_m xs).2.2.2.1) ((parted_m xs).2.2.2.2.1) ((parted_m xs).2.2.2.2.2)).2.2.1, ((came_m id fi ok oi ik ii low mx last told kl ((parted_m xs).1) ((parted_m xs).2.1) ((parted_m xs).2.2.1) ((parted_m xs).2.2.2.1) ((parted_m xs).2.2.2.2.1) ((parted_m xs).2.2.2.2.2)).2.2.2), (sopen_m (opening_m id fi ok oi ik ii low mx last told kl ((parted_m xs).1) ((parted_m xs).2.1) ((parted_m xs).2.2.1) ((parted_m xs).2.2.2.1) ((parted_m xs).2.2.2.2.1) ((parted_m xs).2.2.2.2.2)) (List.replicate 12 (0 : Int)) ((parted_m xs).1) ((parted_m xs).2.2.2.2.2)).1, ((parted_m xs).2.1))
def take_m (id : List Int) (fi : Bool) (ok : List Int) (oi : Nat) (ik : List Int) (ii low : Nat) (mx : List (List Int)) (last told : Nat) (kl : List KR) (xs rand : List Int) : Nat × Nat × (List (Int × Int × (List (List Int)))) × (List Int) × Nat × (List Int) × Nat := shut (take_v id fi ok oi ik ii low mx last told kl xs rand)
theorem take_e (id : List Int) (fi : Bool) (ok : List Int) (oi : Nat) (ik : List Int) (ii low : Nat) (mx : List (List Int)) (last told : Nat) (kl : List KR) (xs rand : List Int) : take_m id fi ok oi ik ii low mx last told kl xs rand = take_v id fi ok oi ik ii low mx last told kl xs rand := shut_eq _
def c_take (id : List Int) (fi : Bool) (ok : List Int) (oi : Nat) (ik : List Int) (ii low : Nat) (mx : List (List Int)) (last told : Nat) (kl : List KR) (xs rand : List Int) : Con := ⟨[.cp 0 0, lb xs, lb rand], [(0, .ob 80 (chain [lb id, .v (.bool fi), .v (.bool false), .cp 1 0, .cp 2 0, .v (.pointer none), vi (low : Int), .ls false [.sl (.int .u8)] mx, vi (last : Int), vi (told : Int), .sk 3])), (1, .ob 122 (chain [lb ok, vi (oi : Int)])), (2, .ob 122 (chain [lb ik, vi (ii : Int)])), (3, .sl 86 [.int .i64, .int .i64, .sl (.sl (.int .u8))] kl)], .tu (chain [lb ((take_m id fi ok oi ik ii low mx last told kl xs rand).2.2.2.2.2.1), vi (((take_m id fi ok oi ik ii low mx last told kl xs rand).2.2.2.2.2.2 : Nat) : Int)]), [(0, .ob 80 (chain [lb id, .v (.bool fi), .v (.bool false), .cp 1 0, .cp 2 0, .v (.pointer none), vi (low : Int), .ls false [.sl (.int .u8)] mx, vi (((take_m id fi ok oi ik ii low mx last told kl xs rand).1 : Nat) : Int), vi (((take_m id fi ok oi ik ii low mx last told kl xs rand).2.1 : Nat) : Int), .sk 4])), (1, .ob 122 (chain [lb ok, vi (oi : Int)])), (2, .ob 122 (chain [lb ((take_m id fi ok oi ik ii low mx last told kl xs rand).2.2.2.1), vi (((take_m id fi ok oi ik ii low mx last told kl xs rand).2.2.2.2.1 : Nat) : Int)])), (4, .sl 86 [.int .i64, .int .i64, .sl (.sl (.int .u8))] ((take_m id fi ok oi ik ii low mx last told kl xs rand).2.2.1))]⟩
theorem take_ok (id : List Int) (fi : Bool) (ok : List Int) (oi : Nat) (ik : List Int) (ii low : Nat) (mx : List (List Int)) (last told : Nat) (kl : List KR) (xs rand : List Int) (hok : ok.length = 32) (hik : ik.length = 32) (hoi : oi ≤ 100000000000) (hii : ii ≤ 100000000000) (hm1 : 1 ≤ mx.length ∧ mx.length ≤ 100000) (hm2 : ∀ j, (mx.getD j (rz [.sl (.int .u8)])).length ≤ 32) (hlow : low ≤ 100000000000) (hK : KOk kl) (hll : low ≤ last ∧ last ≤ 100000000000) (htd : told ≤ 100000000000) (hf : xs.length ≤ 50000) (hk : take_k id fi ok oi ik ii low mx last told kl xs rand = true) : ConOk Tryz.prog 39 (c_take id fi ok oi ik ii low mx last told kl xs rand) := by
 refine conOk_of rfl (nb := 4) Tryz.func39 rfl rfl Tryz.ntmps39 rfl rfl rfl fun g0 w0 ac gs ws hg0 hS => ?_
 have hlen1 : xs.length ≤ 9223372036854775807 := hS.len 1 rfl
 have hlen2 : rand.length ≤ 9223372036854775807 := hS.len 2 rfl
 have hlenk3 : kl.length ≤ 9223372036854775807 := hS.lens 3 rfl
 have hS := hS.sp
 refine s0 [0, 1, 2, 6, 7] [0, 1, 2, 3] 4 hS fun hS => ?_
 refine wp_seq ?_
 by_cases h1 : parted_k xs = true
 ·refine rA [(1, .call ⟨68, (c_parted xs), [], []⟩)] ⟨parted_ok _ lnn h1, trivial⟩ (fun C => [ndC C 1]) [0, 2, 6, 7, 8] [0, 1, 2, 3, 4] 5 ⟨rfl, trivial⟩ hS fun hS => ?_
  refine then_n (wp_seq ?_)
  have hpl := parted_le (xs := xs) asm
  by_cases h2 : opening_k id fi ok oi ik ii low mx last told kl ((parted_m xs).1) ((parted_m xs).2.1) ((parted_m xs).2.2.1) ((parted_m xs).2.2.2.1) ((parted_m xs).2.2.2.2.1) ((parted_m xs).2.2.2.2.2) = true
  ·have hpl := parted_le (xs := xs) asm
   refine rB [(3, .mf)] [(2, .call ⟨70, (c_opening id fi ok oi ik ii low mx last told kl ((parted_m xs).1) ((parted_m xs).2.1) ((parted_m xs).2.2.1) ((parted_m xs).2.2.2.1) ((parted_m xs).2.2.2.2.1) ((parted_m xs).2.2.2.2.2)), [(0, 0), (1, 1), (2, 2), (3, 3)], []⟩), (8, .call ⟨69, (c_sopen (opening_m id fi ok oi ik ii low mx last told kl ((parted_m xs).1) ((parted_m xs).2.1) ((parted_m xs).2.2.1) ((parted_m xs).2.2.2.1) ((parted_m xs).2.2.2.2.1) ((parted_m xs).2.2.2.2.2)) (List.replicate 12 (0 : Int)) ((parted_m xs).1) ((parted_m xs).2.2.2.2.2)), [], []⟩)] ⟨opening_ok _ _ _ _ _ _ _ _ _ _ _ _ _ _ _ _ _ lnn lnn omm omm lmm (by first | assumption | (intro j; simp <;> omega)) omm asm omm omm h2, sopen_ok _ _ _ _ (opening_of asm omm hK).2 (by have := parted_le (xs := xs) asm; omega) (by have := parted_le (xs := xs) asm; omega) (by simp), trivial⟩ (fun C => [ndC C 2, (12 : Int) = 12, (0 : Int) ≤ 12, 1 * 12 ≤ 281474976710656, (12 : Int) ≤ 9223372036854775807, ndC C 8]) [0, 2, 6, 7, 8, 9] [0, 1, 2, 3, 4] 5 ⟨rfl, rfl, by omega, by omega, by omega, rfl, trivial⟩ hS fun hS => ?_
   refine then_n (wp_seq ?_)
   by_cases h3 : muB ((sopen_m (opening_m id fi ok oi ik ii low mx last told kl ((parted_m xs).1) ((parted_m xs).2.1) ((parted_m xs).2.2.1) ((parted_m xs).2.2.2.1) ((parted_m xs).2.2.2.2.1) ((parted_m xs).2.2.2.2.2)) (List.replicate 12 (0 : Int)) ((parted_m xs).1) ((parted_m xs).2.2.2.2.2)).2) = true
   ·refine rA [(1, .call ⟨71, (c_mustn ((sopen_m (opening_m id fi ok oi ik ii low mx last told kl ((parted_m xs).1) ((parted_m xs).2.1) ((parted_m xs).2.2.1) ((parted_m xs).2.2.2.1) ((parted_m xs).2.2.2.2.1) ((parted_m xs).2.2.2.2.2)) (List.replicate 12 (0 : Int)) ((parted_m xs).1) ((parted_m xs).2.2.2.2.2)).2)), [], []⟩)] ⟨musty_ok _ h3, trivial⟩ (fun C => [ndC C 1]) [0, 2, 6, 7, 8] [0, 1, 2, 3, 4] 5 ⟨rfl, trivial⟩ hS fun hS => ?_
    refine then_n (wp_seq ?_)
    have hpl := parted_le (xs := xs) asm
    have hof := (opening_of asm omm hK).1
    refine rA [(2, .call ⟨72, (c_came id fi ok oi ik ii low mx last told kl ((parted_m xs).1) ((parted_m xs).2.1) ((parted_m xs).2.2.1) ((parted_m xs).2.2.2.1) ((parted_m xs).2.2.2.2.1) ((parted_m xs).2.2.2.2.2)), [(0, 0), (1, 1), (2, 2), (3, 3)], [(4, 5)]⟩)] ⟨came_ok _ _ _ _ _ _ _ _ _ _ _ _ _ _ _ _ _ lnn lnn omm omm lmm (by first | assumption | (intro j; simp <;> omega)) omm asm omm omm asm, trivial⟩ (fun C => [ndC C 2]) [0, 2, 6, 7, 8] [0, 1, 2, 4, 5] 6 ⟨rfl, trivial⟩ hS fun hS => ?_
    refine then_n (sA [(7, .oi ((max told ((parted_m xs).2.2.2.1) : Nat) : Int))] trivial (fun _ => [(if (((parted_m xs).2.2.2.1 : Nat) : Int) > (told : Int) then (((parted_m xs).2.2.2.1 : Nat) : Int) else (told : Int)) = ((max told ((parted_m xs).2.2.2.1) : Nat) : Int)]) [0, 2, 6, 7, 8] [0, 1, 2, 4, 5] 6 ⟨by split <;> omega, trivial⟩ hS fun hS => ?_)
    refine wp_seq (s0 [0, 2, 6, 7, 8, 43] [0, 1, 2, 4, 5] 6 hS fun hS => ?_)
    refine cond_f hS ?_
    refine wp_skip (then_n (s0 [6, 7] [0, 1, 2, 5] 6 hS fun hS => ?_))
    refine wp_ret ?_
    have hM : take_m id fi ok oi ik ii low mx last told kl xs rand = (((came_m id fi ok oi ik ii low mx last told kl ((parted_m xs).1) ((parted_m xs).2.1) ((parted_m xs).2.2.1) ((parted_m xs).2.2.2.1) ((parted_m xs).2.2.2.2.1) ((parted_m xs).2.2.2.2.2)).1), (max told ((parted_m xs).2.2.2.1)), (came_m id fi ok oi ik ii low mx last told kl ((parted_m xs).1) ((parted_m xs).2.1) ((parted_m xs).2.2.1) ((parted_m xs).2.2.2.1) ((parted_m xs).2.2.2.2.1) ((parted_m xs).2.2.2.2.2)).2.1, (came_m id fi ok oi ik ii low mx last told kl ((parted_m xs).1) ((parted_m xs).2.1) ((parted_m xs).2.2.1) ((parted_m xs).2.2.2.1) ((parted_m xs).2.2.2.2.1) ((parted_m xs).2.2.2.2.2)).2.2.1, ((came_m id fi ok oi ik ii low mx last told kl ((parted_m xs).1) ((parted_m xs).2.1) ((parted_m xs).2.2.1) ((parted_m xs).2.2.2.1) ((parted_m xs).2.2.2.2.1) ((parted_m xs).2.2.2.2.2)).2.2.2), (sopen_m (opening_m id fi ok oi ik ii low mx last told kl ((parted_m xs).1) ((parted_m xs).2.1) ((parted_m xs).2.2.1) ((parted_m xs).2.2.2.1) ((parted_m xs).2.2.2.2.1) ((parted_m xs).2.2.2.2.2)) (List.replicate 12 (0 : Int)) ((parted_m xs).1) ((parted_m xs).2.2.2.2.2)).1, ((parted_m xs).2.1)) := take_e id fi ok oi ik ii low mx last told kl xs rand
    obtain ⟨gs, hS⟩ := hS.rn [(0, 0), (1, 1), (2, 2), (3, 3), (4, 5)] [(6, lb ((sopen_m (opening_m id fi ok oi ik ii low mx last told kl ((parted_m xs).1) ((parted_m xs).2.1) ((parted_m xs).2.2.1) ((parted_m xs).2.2.2.1) ((parted_m xs).2.2.2.2.1) ((parted_m xs).2.2.2.2.2)) (List.replicate 12 (0 : Int)) ((parted_m xs).1) ((parted_m xs).2.2.2.2.2)).1)), (7, vi (((parted_m xs).2.1 : Nat) : Int))] [(0, .ob 80 (chain [lb id, .v (.bool fi), .v (.bool false), .cp 1 0, .cp 2 0, .v (.pointer none), vi (low : Int), .ls false [.sl (.int .u8)] mx, vi (((came_m id fi ok oi ik ii low mx last told kl ((parted_m xs).1) ((parted_m xs).2.1) ((parted_m xs).2.2.1) ((parted_m xs).2.2.2.1) ((parted_m xs).2.2.2.2.1) ((parted_m xs).2.2.2.2.2)).1 : Nat) : Int), vi ((max told ((parted_m xs).2.2.2.1) : Nat) : Int), .sk 4])), (1, .ob 122 (chain [lb ok, vi (oi : Int)])), (2, .ob 122 (chain [lb ((came_m id fi ok oi ik ii low mx last told kl ((parted_m xs).1) ((parted_m xs).2.1) ((parted_m xs).2.2.1) ((parted_m xs).2.2.2.1) ((parted_m xs).2.2.2.2.1) ((parted_m xs).2.2.2.2.2)).2.2.1), vi (((came_m id fi ok oi ik ii low mx last told kl ((parted_m xs).1) ((parted_m xs).2.1) ((parted_m xs).2.2.1) ((parted_m xs).2.2.2.1) ((parted_m xs).2.2.2.2.1) ((parted_m xs).2.2.2.2.2)).2.2.2 : Nat) : Int)])), (4, .sl 86 [.int .i64, .int .i64, .sl (.sl (.int .u8))] ((came_m id fi ok oi ik ii low mx last told kl ((parted_m xs).1) ((parted_m xs).2.1) ((parted_m xs).2.2.1) ((parted_m xs).2.2.2.1) ((parted_m xs).2.2.2.2.1) ((parted_m xs).2.2.2.2.2)).2.1))] 5 hg0
    exact fin_y rfl (.inr rfl) hS [lb ((sopen_m (opening_m id fi ok oi ik ii low mx last told kl ((parted_m xs).1) ((parted_m xs).2.1) ((parted_m xs).2.2.1) ((parted_m xs).2.2.2.1) ((parted_m xs).2.2.2.2.1) ((parted_m xs).2.2.2.2.2)) (List.replicate 12 (0 : Int)) ((parted_m xs).1) ((parted_m xs).2.2.2.2.2)).1), vi (((parted_m xs).2.1 : Nat) : Int)] [(0, some (.ob 80 (chain [lb id, .v (.bool fi), .v (.bool false), .cp 1 0, .cp 2 0, .v (.pointer none), vi (low : Int), .ls false [.sl (.int .u8)] mx, vi (((came_m id fi ok oi ik ii low mx last told kl ((parted_m xs).1) ((parted_m xs).2.1) ((parted_m xs).2.2.1) ((parted_m xs).2.2.2.1) ((parted_m xs).2.2.2.2.1) ((parted_m xs).2.2.2.2.2)).1 : Nat) : Int), vi ((max told ((parted_m xs).2.2.2.1) : Nat) : Int), .sk 4]))), (1, some (.ob 122 (chain [lb ok, vi (oi : Int)]))), (2, some (.ob 122 (chain [lb ((came_m id fi ok oi ik ii low mx last told kl ((parted_m xs).1) ((parted_m xs).2.1) ((parted_m xs).2.2.1) ((parted_m xs).2.2.2.1) ((parted_m xs).2.2.2.2.1) ((parted_m xs).2.2.2.2.2)).2.2.1), vi (((came_m id fi ok oi ik ii low mx last told kl ((parted_m xs).1) ((parted_m xs).2.1) ((parted_m xs).2.2.1) ((parted_m xs).2.2.2.1) ((parted_m xs).2.2.2.2.1) ((parted_m xs).2.2.2.2.2)).2.2.2 : Nat) : Int)]))), (4, some (.sl 86 [.int .i64, .int .i64, .sl (.sl (.int .u8))] ((came_m id fi ok oi ik ii low mx last told kl ((parted_m xs).1) ((parted_m xs).2.1) ((parted_m xs).2.2.1) ((parted_m xs).2.2.2.1) ((parted_m xs).2.2.2.2.1) ((parted_m xs).2.2.2.2.2)).2.1)))] (by show weak _ (.tu (chain [lb ((take_m id fi ok oi ik ii low mx last told kl xs rand).2.2.2.2.2.1), vi (((take_m id fi ok oi ik ii low mx last told kl xs rand).2.2.2.2.2.2 : Nat) : Int)])) = (.tu (chain [lb ((take_m id fi ok oi ik ii low mx last told kl xs rand).2.2.2.2.2.1), vi (((take_m id fi ok oi ik ii low mx last told kl xs rand).2.2.2.2.2.2 : Nat) : Int)])); rw [hM]; first | (simp only []; rfl) | (simp only []; done) | rfl) (by show H1Ok _ [(0, .ob 80 (chain [lb id, .v (.bool fi), .v (.bool false), .cp 1 0, .cp 2 0, .v (.pointer none), vi (low : Int), .ls false [.sl (.int .u8)] mx, vi (((take_m id fi ok oi ik ii low mx last told kl xs rand).1 : Nat) : Int), vi (((take_m id fi ok oi ik ii low mx last told kl xs rand).2.1 : Nat) : Int), .sk 4])), (1, .ob 122 (chain [lb ok, vi (oi : Int)])), (2, .ob 122 (chain [lb ((take_m id fi ok oi ik ii low mx last told kl xs rand).2.2.2.1), vi (((take_m id fi ok oi ik ii low mx last told kl xs rand).2.2.2.2.1 : Nat) : Int)])), (4, .sl 86 [.int .i64, .int .i64, .sl (.sl (.int .u8))] ((take_m id fi ok oi ik ii low mx last told kl xs rand).2.2.1))] true; rw [hM]; first | (simp only []; exact ⟨rfl, rfl, rfl, rfl, trivial⟩) | exact ⟨rfl, rfl, rfl, rfl, trivial⟩)
   ·have hK : take_k id fi ok oi ik ii low mx last told kl xs rand = false := (take_ke id fi ok oi ik ii low mx last told kl xs rand).trans ((if_pos h1).trans ((if_pos h2).trans (if_neg h3)))
    rw [hK] at hk
    cases hk
  ·have hpl := parted_le (xs := xs) asm
   have hK : take_k id fi ok oi ik ii low mx last told kl xs rand = false := (take_ke id fi ok oi ik ii low mx last told kl xs rand).trans ((if_pos h1).trans (if_neg h2))
   rw [hK] at hk
   cases hk
 ·have hK : take_k id fi ok oi ik ii low mx last told kl xs rand = false := (take_ke id fi ok oi ik ii low mx last told kl xs rand).trans (if_neg h1)
  rw [hK] at hk
  cases hk
def c_take_p (id : List Int) (fi : Bool) (ok : List Int) (oi : Nat) (ik : List Int) (ii low : Nat) (mx : List (List Int)) (last told : Nat) (kl : List KR) (xs rand : List Int) : Con := ⟨[.cp 0 0, lb xs, lb rand], [(0, .ob 80 (chain [lb id, .v (.bool fi), .v (.bool false), .cp 1 0, .cp 2 0, .v (.pointer none), vi (low : Int), .ls false [.sl (.int .u8)] mx, vi (last : Int), vi (told : Int), .sk 3])), (1, .ob 122 (chain [lb ok, vi (oi : Int)])), (2, .ob 122 (chain [lb ik, vi (ii : Int)])), (3, .sl 86 [.int .i64, .int .i64, .sl (.sl (.int .u8))] kl)], .v (.iface 44 (.int .i64 ((take_p_e id fi ok oi ik ii low mx last told kl xs rand : Nat) : Int))), []⟩
theorem take_p_ok (id : List Int) (fi : Bool) (ok : List Int) (oi : Nat) (ik : List Int) (ii low : Nat) (mx : List (List Int)) (last told : Nat) (kl : List KR) (xs rand : List Int) (hok : ok.length = 32) (hik : ik.length = 32) (hoi : oi ≤ 100000000000) (hii : ii ≤ 100000000000) (hm1 : 1 ≤ mx.length ∧ mx.length ≤ 100000) (hm2 : ∀ j, (mx.getD j (rz [.sl (.int .u8)])).length ≤ 32) (hlow : low ≤ 100000000000) (hK : KOk kl) (hll : low ≤ last ∧ last ≤ 100000000000) (htd : told ≤ 100000000000) (hf : xs.length ≤ 50000) (hk : take_k id fi ok oi ik ii low mx last told kl xs rand = false) : PanOk Tryz.prog 39 (c_take_p id fi ok oi ik ii low mx last told kl xs rand) := by
 refine conOk_ofE rfl (nb := 4) Tryz.func39 rfl rfl Tryz.ntmps39 rfl rfl rfl fun g0 w0 ac gs ws hg0 hS => ?_
 have hlen1 : xs.length ≤ 9223372036854775807 := hS.len 1 rfl
 have hlen2 : rand.length ≤ 9223372036854775807 := hS.len 2 rfl
 have hlenk3 : kl.length ≤ 9223372036854775807 := hS.lens 3 rfl
 have hS := hS.sp
 refine s0 [0, 1, 2, 6, 7] [0, 1, 2, 3] 4 hS fun hS => ?_
 refine wp_seq ?_
 by_cases h1 : parted_k xs = true
 ·refine rA [(1, .call ⟨68, (c_parted xs), [], []⟩)] ⟨parted_ok _ lnn h1, trivial⟩ (fun C => [ndC C 1]) [0, 2, 6, 7, 8] [0, 1, 2, 3, 4] 5 ⟨rfl, trivial⟩ hS fun hS => ?_
  refine then_n (wp_seq ?_)
  have hpl := parted_le (xs := xs) asm
  by_cases h2 : opening_k id fi ok oi ik ii low mx last told kl ((parted_m xs).1) ((parted_m xs).2.1) ((parted_m xs).2.2.1) ((parted_m xs).2.2.2.1) ((parted_m xs).2.2.2.2.1) ((parted_m xs).2.2.2.2.2) = true
  ·have hpl := parted_le (xs := xs) asm
   refine rB [(3, .mf)] [(2, .call ⟨70, (c_opening id fi ok oi ik ii low mx last told kl ((parted_m xs).1) ((parted_m xs).2.1) ((parted_m xs).2.2.1) ((parted_m xs).2.2.2.1) ((parted_m xs).2.2.2.2.1) ((parted_m xs).2.2.2.2.2)), [(0, 0), (1, 1), (2, 2), (3, 3)], []⟩), (8, .call ⟨69, (c_sopen (opening_m id fi ok oi ik ii low mx last told kl ((parted_m xs).1) ((parted_m xs).2.1) ((parted_m xs).2.2.1) ((parted_m xs).2.2.2.1) ((parted_m xs).2.2.2.2.1) ((parted_m xs).2.2.2.2.2)) (List.replicate 12 (0 : Int)) ((parted_m xs).1) ((parted_m xs).2.2.2.2.2)), [], []⟩)] ⟨opening_ok _ _ _ _ _ _ _ _ _ _ _ _ _ _ _ _ _ lnn lnn omm omm lmm (by first | assumption | (intro j; simp <;> omega)) omm asm omm omm h2, sopen_ok _ _ _ _ (opening_of asm omm hK).2 (by have := parted_le (xs := xs) asm; omega) (by have := parted_le (xs := xs) asm; omega) (by simp), trivial⟩ (fun C => [ndC C 2, (12 : Int) = 12, (0 : Int) ≤ 12, 1 * 12 ≤ 281474976710656, (12 : Int) ≤ 9223372036854775807, ndC C 8]) [0, 2, 6, 7, 8, 9] [0, 1, 2, 3, 4] 5 ⟨rfl, rfl, by omega, by omega, by omega, rfl, trivial⟩ hS fun hS => ?_
   refine then_n (wp_seq ?_)
   by_cases h3 : muB ((sopen_m (opening_m id fi ok oi ik ii low mx last told kl ((parted_m xs).1) ((parted_m xs).2.1) ((parted_m xs).2.2.1) ((parted_m xs).2.2.2.1) ((parted_m xs).2.2.2.2.1) ((parted_m xs).2.2.2.2.2)) (List.replicate 12 (0 : Int)) ((parted_m xs).1) ((parted_m xs).2.2.2.2.2)).2) = true
   ·refine rA [(1, .call ⟨71, (c_mustn ((sopen_m (opening_m id fi ok oi ik ii low mx last told kl ((parted_m xs).1) ((parted_m xs).2.1) ((parted_m xs).2.2.1) ((parted_m xs).2.2.2.1) ((parted_m xs).2.2.2.2.1) ((parted_m xs).2.2.2.2.2)) (List.replicate 12 (0 : Int)) ((parted_m xs).1) ((parted_m xs).2.2.2.2.2)).2)), [], []⟩)] ⟨musty_ok _ h3, trivial⟩ (fun C => [ndC C 1]) [0, 2, 6, 7, 8] [0, 1, 2, 3, 4] 5 ⟨rfl, trivial⟩ hS fun hS => ?_
    refine then_n (wp_seq ?_)
    have hpl := parted_le (xs := xs) asm
    have hof := (opening_of asm omm hK).1
    refine rA [(2, .call ⟨72, (c_came id fi ok oi ik ii low mx last told kl ((parted_m xs).1) ((parted_m xs).2.1) ((parted_m xs).2.2.1) ((parted_m xs).2.2.2.1) ((parted_m xs).2.2.2.2.1) ((parted_m xs).2.2.2.2.2)), [(0, 0), (1, 1), (2, 2), (3, 3)], [(4, 5)]⟩)] ⟨came_ok _ _ _ _ _ _ _ _ _ _ _ _ _ _ _ _ _ lnn lnn omm omm lmm (by first | assumption | (intro j; simp <;> omega)) omm asm omm omm asm, trivial⟩ (fun C => [ndC C 2]) [0, 2, 6, 7, 8] [0, 1, 2, 4, 5] 6 ⟨rfl, trivial⟩ hS fun hS => ?_
    refine then_n (sA [(7, .oi ((max told ((parted_m xs).2.2.2.1) : Nat) : Int))] trivial (fun _ => [(if (((parted_m xs).2.2.2.1 : Nat) : Int) > (told : Int) then (((parted_m xs).2.2.2.1 : Nat) : Int) else (told : Int)) = ((max told ((parted_m xs).2.2.2.1) : Nat) : Int)]) [0, 2, 6, 7, 8] [0, 1, 2, 4, 5] 6 ⟨by split <;> omega, trivial⟩ hS fun hS => ?_)
    refine wp_seq (s0 [0, 2, 6, 7, 8, 43] [0, 1, 2, 4, 5] 6 hS fun hS => ?_)
    refine cond_f hS ?_
    refine wp_skip (then_n (s0 [6, 7] [0, 1, 2, 5] 6 hS fun hS => ?_))
    refine wp_ret ?_
    have hK : take_k id fi ok oi ik ii low mx last told kl xs rand = true := (take_ke id fi ok oi ik ii low mx last told kl xs rand).trans ((if_pos h1).trans ((if_pos h2).trans (if_pos h3)))
    rw [hK] at hk
    cases hk
   ·refine region_p (E := E0) mo hZ [] trivial (some ⟨71, (c_mustp ((sopen_m (opening_m id fi ok oi ik ii low mx last told kl ((parted_m xs).1) ((parted_m xs).2.1) ((parted_m xs).2.2.1) ((parted_m xs).2.2.2.1) ((parted_m xs).2.2.2.2.1) ((parted_m xs).2.2.2.2.2)) (List.replicate 12 (0 : Int)) ((parted_m xs).1) ((parted_m xs).2.2.2.2.2)).2)), [], []⟩) (fun r hr => by cases hr; exact mustz_ok ((sopen_m (opening_m id fi ok oi ik ii low mx last told kl ((parted_m xs).1) ((parted_m xs).2.1) ((parted_m xs).2.2.1) ((parted_m xs).2.2.2.1) ((parted_m xs).2.2.2.2.1) ((parted_m xs).2.2.2.2.2)) (List.replicate 12 (0 : Int)) ((parted_m xs).1) ((parted_m xs).2.2.2.2.2)).2) (bne_k h3))  1 0 (fun _ => [nd [vi ((((sopen_m (opening_m id fi ok oi ik ii low mx last told kl ((parted_m xs).1) ((parted_m xs).2.1) ((parted_m xs).2.2.1) ((parted_m xs).2.2.2.1) ((parted_m xs).2.2.2.2.1) ((parted_m xs).2.2.2.2.2)) (List.replicate 12 (0 : Int)) ((parted_m xs).1) ((parted_m xs).2.2.2.2.2)).2) : Nat) : Int)] []]) (.v (.iface 44 (.int .i64 ((((sopen_m (opening_m id fi ok oi ik ii low mx last told kl ((parted_m xs).1) ((parted_m xs).2.1) ((parted_m xs).2.2.1) ((parted_m xs).2.2.2.1) ((parted_m xs).2.2.2.2.1) ((parted_m xs).2.2.2.2.2)) (List.replicate 12 (0 : Int)) ((parted_m xs).1) ((parted_m xs).2.2.2.2.2)).2) : Nat) : Int)))) (by kernel_rfl) ⟨rfl, trivial⟩ hS.st fun ac gs ws pv hS hpv => ?_
    refine then_pan ?_
    have hM : take_p_e id fi ok oi ik ii low mx last told kl xs rand = ((sopen_m (opening_m id fi ok oi ik ii low mx last told kl ((parted_m xs).1) ((parted_m xs).2.1) ((parted_m xs).2.2.1) ((parted_m xs).2.2.2.1) ((parted_m xs).2.2.2.2.1) ((parted_m xs).2.2.2.2.2)) (List.replicate 12 (0 : Int)) ((parted_m xs).1) ((parted_m xs).2.2.2.2.2)).2) := (take_p_ee id fi ok oi ik ii low mx last told kl xs rand).trans ((if_pos h1).trans (if_pos h2))
    exact fin_p rfl hS hpv (by show _ = (.v (.iface 44 (.int .i64 ((take_p_e id fi ok oi ik ii low mx last told kl xs rand : Nat) : Int))) : D); rw [hM] <;> rfl) rfl
  ·have hpl := parted_le (xs := xs) asm
   refine region_p (E := E0) mo hZ [] trivial (some ⟨70, (c_opening_p id fi ok oi ik ii low mx last told kl ((parted_m xs).1) ((parted_m xs).2.1) ((parted_m xs).2.2.1) ((parted_m xs).2.2.2.1) ((parted_m xs).2.2.2.2.1) ((parted_m xs).2.2.2.2.2)), [(0, 0), (1, 1), (2, 2), (3, 3)], []⟩) (fun r hr => by cases hr; exact opening_p_ok id fi ok oi ik ii low mx last told kl ((parted_m xs).1) ((parted_m xs).2.1) ((parted_m xs).2.2.1) ((parted_m xs).2.2.2.1) ((parted_m xs).2.2.2.2.1) ((parted_m xs).2.2.2.2.2) lnn lnn omm omm lmm (by first | assumption | (intro j; simp <;> omega)) omm asm omm omm (bne_k h2))  2 16128 (fun _ => [nd [.cp 0 0, .ag (chain [lb ((parted_m xs).1), vi ((((parted_m xs).2.1) : Nat) : Int), vi ((((parted_m xs).2.2.1) : Nat) : Int), vi ((((parted_m xs).2.2.2.1) : Nat) : Int), lb ((parted_m xs).2.2.2.2.1), lb ((parted_m xs).2.2.2.2.2)])] [some (.ob 80 (chain [lb id, .v (.bool fi), .v (.bool false), .cp 1 0, .cp 2 0, .v (.pointer none), vi (low : Int), .ls false [.sl (.int .u8)] mx, vi (last : Int), vi (told : Int), .sk 3])), some (.ob 122 (chain [lb ok, vi (oi : Int)])), some (.ob 122 (chain [lb ik, vi (ii : Int)])), some (.sl 86 [.int .i64, .int .i64, .sl (.sl (.int .u8))] kl)], (12 : Int) = 12, (0 : Int) ≤ 12, 1 * 12 ≤ 281474976710656, (12 : Int) ≤ 9223372036854775807]) (.v (.iface 44 (.int .i64 ((opening_p_e id fi ok oi ik ii low mx last told kl ((parted_m xs).1) ((parted_m xs).2.1) ((parted_m xs).2.2.1) ((parted_m xs).2.2.2.1) ((parted_m xs).2.2.2.2.1) ((parted_m xs).2.2.2.2.2) : Nat) : Int)))) (by kernel_rfl) ⟨rfl, rfl, by omega, by omega, by omega, trivial⟩ hS.st fun ac gs ws pv hS hpv => ?_
   refine then_pan ?_
   have hM : take_p_e id fi ok oi ik ii low mx last told kl xs rand = (opening_p_e id fi ok oi ik ii low mx last told kl ((parted_m xs).1) ((parted_m xs).2.1) ((parted_m xs).2.2.1) ((parted_m xs).2.2.2.1) ((parted_m xs).2.2.2.2.1) ((parted_m xs).2.2.2.2.2)) := (take_p_ee id fi ok oi ik ii low mx last told kl xs rand).trans ((if_pos h1).trans (if_neg h2))
   exact fin_p rfl hS hpv (by show _ = (.v (.iface 44 (.int .i64 ((take_p_e id fi ok oi ik ii low mx last told kl xs rand : Nat) : Int))) : D); rw [hM] <;> rfl) rfl
 ·refine region_p (E := E0) mo hZ [] trivial (some ⟨68, (c_parted_p xs), [], []⟩) (fun r hr => by cases hr; exact parted_p_ok xs lnn (bne_k h1))  1 12 (fun _ => [nd [lb xs] []]) (.v (.iface 44 (.int .i64 ((parted_p_e xs : Nat) : Int)))) (by kernel_rfl) ⟨rfl, trivial⟩ hS.st fun ac gs ws pv hS hpv => ?_
  refine then_pan ?_
  have hM : take_p_e id fi ok oi ik ii low mx last told kl xs rand = (parted_p_e xs) := (take_p_ee id fi ok oi ik ii low mx last told kl xs rand).trans (if_neg h1)
  exact fin_p rfl hS hpv (by show _ = (.v (.iface 44 (.int .i64 ((take_p_e id fi ok oi ik ii low mx last told kl xs rand : Nat) : Int))) : D); rw [hM] <;> rfl) rfl

end
end Go.Sx.Tryz
namespace Go.Sx.Tryz
open Go.Mi Go.RowKit Go.Sx Go.Proofs
noncomputable section
def c_kcopyn : Con := ⟨[.v (.pointer none)], [], .v (.pointer none), []⟩
theorem kcopyn_ok : ConOk Tryz.prog 62 (c_kcopyn) := by
 refine conOk_of rfl (nb := 0) Tryz.func62 rfl rfl Tryz.ntmps62 rfl rfl rfl fun g0 w0 ac gs ws hg0 hS => ?_
 have hS := hS.sp
 refine s0 [0, 2] [] 0 hS fun hS => ?_
 refine wp_seq (s0 [0, 2, 5] [] 0 hS fun hS => ?_)
 refine cond_t hS ?_
 refine s0 [0, 2] [] 0 hS fun hS => ?_
 refine wp_ret (then_ret ?_)
 exact fin_y rfl (.inr rfl) hS [.v (.pointer none)] [] rfl trivial

def c_scopy (id : List Int) (fi : Bool) (ok : List Int) (oi : Nat) (ik : List Int) (ii low : Nat) (mx : List (List Int)) (last told : Nat) (kl : List KR) : Con := ⟨[.cp 0 0], [(0, .ob 80 (chain [lb id, .v (.bool fi), .v (.bool false), .cp 1 0, .cp 2 0, .v (.pointer none), vi (low : Int), .ls false [.sl (.int .u8)] mx, vi (last : Int), vi (told : Int), .ls false [.int .i64, .int .i64, .sl (.sl (.int .u8))] kl])), (1, .ob 122 (chain [lb ok, vi (oi : Int)])), (2, .ob 122 (chain [lb ik, vi (ii : Int)]))], .cp 3 0, [(0, .ob 80 (chain [lb id, .v (.bool fi), .v (.bool false), .cp 1 0, .cp 2 0, .v (.pointer none), vi (low : Int), .ls false [.sl (.int .u8)] mx, vi (last : Int), vi (told : Int), .ls false [.int .i64, .int .i64, .sl (.sl (.int .u8))] kl])), (1, .ob 122 (chain [lb ok, vi (oi : Int)])), (2, .ob 122 (chain [lb ik, vi (ii : Int)])), (3, .ob 80 (chain [lb id, .v (.bool fi), .v (.bool false), .cp 4 0, .cp 5 0, .v (.pointer none), vi (low : Int), .ls false [.sl (.int .u8)] mx, vi (last : Int), vi (told : Int), .sk 6])), (4, .ob 122 (chain [lb ok, vi (oi : Int)])), (5, .ob 122 (chain [lb ik, vi (ii : Int)])), (6, .sl 86 [.int .i64, .int .i64, .sl (.sl (.int .u8))] kl)]⟩
theorem scopy_ok (id : List Int) (fi : Bool) (ok : List Int) (oi : Nat) (ik : List Int) (ii low : Nat) (mx : List (List Int)) (last told : Nat) (kl : List KR) (hok : ok.length = 32) (hik : ik.length = 32) (hoi : oi ≤ 100000000000) (hii : ii ≤ 100000000000) (hm1 : 1 ≤ mx.length ∧ mx.length ≤ 100000) (hm2 : ∀ j, (mx.getD j (rz [.sl (.int .u8)])).length ≤ 32) (hlow : low ≤ 100000000000) (hK : KOk kl) : ConOk Tryz.prog 30 (c_scopy id fi ok oi ik ii low mx last told kl) := by
 refine conOk_of rfl (nb := 3) Tryz.func30 rfl rfl Tryz.ntmps30 rfl rfl rfl fun g0 w0 ac gs ws hg0 hS => ?_
 have hS := hS.sp
 refine s0 [0, 2] [0, 1, 2] 3 hS fun hS => ?_
 refine wp_seq (sC [(1, ⟨36, (c_snoner), [], []⟩, [0, 1])] ⟨snoner_ok, trivial⟩ [] [] trivial (fun _ => [([.im (chain [.top, .top, .top, .im (chain []) 0, .top, .top, .top, .top, .top, .top, .top]) 0] : List D) = [.im (chain [.top, .top, .top, .im (chain []) 0, .top, .top, .top, .top, .top, .top, .top]) 0]]) [0, 2, 5] [0, 1, 2] 3 ⟨rfl, trivial⟩ hS fun hS => ?_)
 refine cond_f hS ?_
 refine wp_skip (then_n (s0 [0, 2, 3] [0, 1, 2, 3] 4 hS fun hS => ?_))
 refine sA [(4, .call ⟨61, (c_ccopy ok oi), [(0, 1)], [(1, 4)]⟩), (9, .call ⟨61, (c_ccopy ik ii), [(0, 2)], [(1, 5)]⟩), (14, .call ⟨62, (c_kcopyn), [], []⟩)] ⟨ccopy_ok _ _ lnn, ccopy_ok _ _ lnn, kcopyn_ok, trivial⟩ (fun C => [ndC C 4, ndC C 9, ndC C 14]) [0, 2, 3] [0, 1, 2, 3, 4, 5] 6 ⟨rfl, rfl, rfl, trivial⟩ hS fun hS => ?_
 refine wp_seq ?_
 have hkl := hK.1
 refine rA [(4, .call ⟨63, (c_bclone mx), [], []⟩), (9, .call ⟨64, (c_kclone kl), [], [(0, 6)]⟩)] ⟨bclone_ok _ lnn, kclone_ok _ lnn, trivial⟩ (fun C => [ndC C 4, ndC C 9]) [2, 3] [0, 1, 2, 3, 4, 5, 6] 7 ⟨rfl, rfl, trivial⟩ hS fun hS => ?_
 refine then_n (s0 [2] [0, 1, 2, 3, 4, 5, 6] 7 hS fun hS => ?_)
 refine wp_ret ?_
 exact fin_y rfl (.inr rfl) hS [.cp 3 0] [(0, some (.ob 80 (chain [lb id, .v (.bool fi), .v (.bool false), .cp 1 0, .cp 2 0, .v (.pointer none), vi (low : Int), .ls false [.sl (.int .u8)] mx, vi (last : Int), vi (told : Int), .ls false [.int .i64, .int .i64, .sl (.sl (.int .u8))] kl]))), (1, some (.ob 122 (chain [lb ok, vi (oi : Int)]))), (2, some (.ob 122 (chain [lb ik, vi (ii : Int)]))), (3, some (.ob 80 (chain [lb id, .v (.bool fi), .v (.bool false), .cp 4 0, .cp 5 0, .v (.pointer none), vi (low : Int), .ls false [.sl (.int .u8)] mx, vi (last : Int), vi (told : Int), .sk 6]))), (4, some (.ob 122 (chain [lb ok, vi (oi : Int)]))), (5, some (.ob 122 (chain [lb ik, vi (ii : Int)]))), (6, some (.sl 86 [.int .i64, .int .i64, .sl (.sl (.int .u8))] kl))] rfl ⟨rfl, rfl, rfl, rfl, rfl, rfl, rfl, trivial⟩

end
end Go.Sx.Tryz
namespace Go.Sx.Tryz
open Go.Mi Go.RowKit Go.Sx Go.Proofs
noncomputable section
def c_rcv_r (t : List Int) (i : Nat) : Con := ⟨[.cp 0 0, .cp 1 0, .cp 2 0], [(0, .ob 22 (chain [lb t])), (1, .ob 3 (chain [vi (i : Int)])), (2, .ob 44 (chain [vi 0]))], .tu (chain []), [(0, .ob 22 (chain [lb t])), (1, .ob 3 (chain [vi (i : Int)])), (2, .ob 44 (chain [vi 0]))]⟩
theorem rcv_r_ok (t : List Int) (i : Nat) : ConOkD Tryz.prog 38 .returning .returning (c_rcv_r t i) := by
 refine conD_of rfl (nb := 3) (t0 := 6) (t1 := 3) Tryz.func38 rfl rfl Tryz.ntmps38 rfl rfl rfl rfl rfl rfl fun g0 w0 ac gs ws hg0 hS => ?_
 have hS := hS.sp
 refine sB [(1, .nn)] [] trivial (fun _ => []) [0, 1, 2, 3, 8] [0, 1, 2] 3 trivial hS fun hS => ?_
 refine cond_f hS ?_
 refine wp_skip ?_
 exact fin_y rfl (.inl rfl) hS [] [(0, some (.ob 22 (chain [lb t]))), (1, some (.ob 3 (chain [vi (i : Int)]))), (2, some (.ob 44 (chain [vi 0])))] rfl ⟨rfl, rfl, rfl, trivial⟩

def c_rcv_p (n : Nat) : Con := ⟨[.cp 0 0, .cp 1 0, .cp 2 0], [(0, .ob 22 (chain [.v (.slice none 0 0)])), (1, .ob 3 (chain [vi 0])), (2, .ob 44 (chain [vi 0]))], .tu (chain []), [(0, .ob 22 (chain [.v (.slice none 0 0)])), (1, .ob 3 (chain [vi 0])), (2, .ob 44 (chain [vi (n : Int)]))]⟩
theorem rcv_p_ok (n : Nat) : ConOkD Tryz.prog 38 (pnd (.iface 44 (.int .i64 (n : Int)))) (rcd (.iface 44 (.int .i64 (n : Int)))) (c_rcv_p n) := by
 refine conD_of rfl (nb := 3) (t0 := 6) (t1 := 3) Tryz.func38 rfl rfl Tryz.ntmps38 rfl rfl rfl rfl rfl rfl fun g0 w0 ac gs ws hg0 hS => ?_
 have hS := hS.sp
 refine s0 [0, 1, 2, 3, 8] [0, 1, 2] 3 hS fun hS => ?_
 refine cond_t hS ?_
 refine sB [(1, .ta)] [] trivial (fun _ => []) [0, 1, 2, 3, 4, 5] [0, 1, 2] 3 trivial hS fun hS => ?_
 refine wp_seq (s0 [0, 1, 2, 3, 4, 15] [0, 1, 2] 3 hS fun hS => ?_)
 refine cond_f hS ?_
 refine wp_skip (then_n (r0 [] [0, 1, 2] 3 hS fun hS => ?_))
 exact fin_y rfl (.inl rfl) hS [] [(0, some (.ob 22 (chain [.v (.slice none 0 0)]))), (1, some (.ob 3 (chain [vi 0]))), (2, some (.ob 44 (chain [vi (n : Int)])))] rfl ⟨rfl, rfl, rfl, trivial⟩

def receive_kv (id : List Int) (fi : Bool) (ok : List Int) (oi : Nat) (ik : List Int) (ii low : Nat) (mx : List (List Int)) (last told : Nat) (kl : List KR) (xs rand : List Int) : Bool := if take_k id fi ok oi ik ii low mx last told kl xs (rand.drop 64) = true then true else false
def receive_k (id : List Int) (fi : Bool) (ok : List Int) (oi : Nat) (ik : List Int) (ii low : Nat) (mx : List (List Int)) (last told : Nat) (kl : List KR) (xs rand : List Int) : Bool := shut (receive_kv id fi ok oi ik ii low mx last told kl xs rand)
theorem receive_ke (id : List Int) (fi : Bool) (ok : List Int) (oi : Nat) (ik : List Int) (ii low : Nat) (mx : List (List Int)) (last told : Nat) (kl : List KR) (xs rand : List Int) : receive_k id fi ok oi ik ii low mx last told kl xs rand = receive_kv id fi ok oi ik ii low mx last told kl xs rand := shut_eq _
def receive_v (id : List Int) (fi : Bool) (ok : List Int) (oi : Nat) (ik : List Int) (ii low : Nat) (mx : List (List Int)) (last told : Nat) (kl : List KR) (xs rand : List Int) : (List Int) × Nat × Nat × Nat × (List (Int × Int × (List (List Int)))) × (List Int) × Nat := ((take_m id fi ok oi ik ii low mx last told kl xs (rand.drop 64)).2.2.2.1, ((take_m id fi ok oi ik ii low mx last told kl xs (rand.drop 64)).2.2.2.2.1), ((take_m id fi ok oi ik ii low mx last told kl xs (rand.drop 64)).1), ((take_m id fi ok oi ik ii low mx last told kl xs (rand.drop 64)).2.1), (take_m id fi ok oi ik ii low mx last told kl xs (rand.drop 64)).2.2.1, (take_m id fi ok oi ik ii low mx last told kl xs (rand.drop 64)).2.2.2.2.2.1, ((take_m id fi ok oi ik ii low mx last told kl xs (rand.drop 64)).2.2.2.2.2.2))
def receive_m (id : List Int) (fi : Bool) (ok : List Int) (oi : Nat) (ik : List Int) (ii low : Nat) (mx : List (List Int)) (last told : Nat) (kl : List KR) (xs rand : List Int) : (List Int) × Nat × Nat × Nat × (List (Int × Int × (List (List Int)))) × (List Int) × Nat := shut (receive_v id fi ok oi ik ii low mx last told kl xs rand)
theorem receive_e (id : List Int) (fi : Bool) (ok : List Int) (oi : Nat) (ik : List Int) (ii low : Nat) (mx : List (List Int)) (last told : Nat) (kl : List KR) (xs rand : List Int) : receive_m id fi ok oi ik ii low mx last told kl xs rand = receive_v id fi ok oi ik ii low mx last told kl xs rand := shut_eq _
def c_receive (id : List Int) (fi : Bool) (ok : List Int) (oi : Nat) (ik : List Int) (ii low : Nat) (mx : List (List Int)) (last told : Nat) (kl : List KR) (xs rand : List Int) : Con := ⟨[.cp 0 0, lb xs, lb rand], [(0, .ob 80 (chain [lb id, .v (.bool fi), .v (.bool false), .cp 1 0, .cp 2 0, .v (.pointer none), vi (low : Int), .ls false [.sl (.int .u8)] mx, vi (last : Int), vi (told : Int), .ls false [.int .i64, .int .i64, .sl (.sl (.int .u8))] kl])), (1, .ob 122 (chain [lb ok, vi (oi : Int)])), (2, .ob 122 (chain [lb ik, vi (ii : Int)]))], .tu (chain [lb ((receive_m id fi ok oi ik ii low mx last told kl xs rand).2.2.2.2.2.1), vi (((receive_m id fi ok oi ik ii low mx last told kl xs rand).2.2.2.2.2.2 : Nat) : Int), vi 0]), [(0, .ob 80 (chain [lb id, .v (.bool fi), .v (.bool false), .cp 7 0, .cp 8 0, .v (.pointer none), vi (low : Int), .ls false [.sl (.int .u8)] mx, vi (((receive_m id fi ok oi ik ii low mx last told kl xs rand).2.2.1 : Nat) : Int), vi (((receive_m id fi ok oi ik ii low mx last told kl xs rand).2.2.2.1 : Nat) : Int), .ls false [.int .i64, .int .i64, .sl (.sl (.int .u8))] ((receive_m id fi ok oi ik ii low mx last told kl xs rand).2.2.2.2.1)])), (1, .ob 122 (chain [lb ok, vi (oi : Int)])), (2, .ob 122 (chain [lb ik, vi (ii : Int)])), (7, .ob 122 (chain [lb ok, vi (oi : Int)])), (8, .ob 122 (chain [lb ((receive_m id fi ok oi ik ii low mx last told kl xs rand).1), vi (((receive_m id fi ok oi ik ii low mx last told kl xs rand).2.1 : Nat) : Int)]))]⟩
theorem receive_ok (id : List Int) (fi : Bool) (ok : List Int) (oi : Nat) (ik : List Int) (ii low : Nat) (mx : List (List Int)) (last told : Nat) (kl : List KR) (xs rand : List Int) (hok : ok.length = 32) (hik : ik.length = 32) (hoi : oi ≤ 100000000000) (hii : ii ≤ 100000000000) (hm1 : 1 ≤ mx.length ∧ mx.length ≤ 100000) (hm2 : ∀ j, (mx.getD j (rz [.sl (.int .u8)])).length ≤ 32) (hlow : low ≤ 100000000000) (hK : KOk kl) (hll : low ≤ last ∧ last ≤ 100000000000) (htd : told ≤ 100000000000) (hf : xs.length ≤ 50000) (hr : rand.length = 128) (hk : receive_k id fi ok oi ik ii low mx last told kl xs rand = true) : ConOk Tryz.prog 19 (c_receive id fi ok oi ik ii low mx last told kl xs rand) := by
 refine conOk_ofDf rfl (nb := 3) Tryz.func19 rfl rfl Tryz.ntmps19 rfl rfl rfl fun g0 w0 ac gs ws hg0 hS => ?_
 have hlen1 : xs.length ≤ 9223372036854775807 := hS.len 1 rfl
 have hlen2 : rand.length ≤ 9223372036854775807 := hS.len 2 rfl
 have hS := hS.sp
 have hr1 : ((rand.length : Nat) : Int) = 128 := omm
 refine s0 [0, 1, 2, 6, 7, 8] [0, 1, 2, 3, 4, 5] 6 hS fun hS => ?_
 refine wp_seq (sC [(1, ⟨36, (c_snoner), [], []⟩, [0, 1])] ⟨snoner_ok, trivial⟩ [] [(5, .ob false)] trivial (fun _ => [([.im (chain [.top, .top, .top, .im (chain []) 0, .top, .top, .top, .top, .top, .top, .top]) 0] : List D) = [.im (chain [.top, .top, .top, .im (chain []) 0, .top, .top, .top, .top, .top, .top, .top]) 0], (!decide (((rand.length : Nat) : Int) = 128)) = false]) [0, 1, 2, 6, 7, 8, 16] [0, 1, 2, 3, 4, 5] 6 ⟨rfl, by rw [decide_eq_true hr1]; rfl, trivial⟩ hS fun hS => ?_)
 refine cond_f hS ?_
 refine wp_skip (then_n (wp_seq ?_))
 have hS := hS.rv [(0, .cp 0 0), (1, lb xs), (2, lb rand), (6, .cp 3 0), (7, .cp 4 0), (8, .cp 5 0), (16, .v (.bool false))] [(0, some (.ob 80 (chain [lb id, .v (.bool fi), .v (.bool false), .cp 1 0, .cp 2 0, .v (.pointer none), vi (low : Int), .ls false [.sl (.int .u8)] mx, vi (last : Int), vi (told : Int), .ls false [.int .i64, .int .i64, .sl (.sl (.int .u8))] kl]))), (1, some (.ob 122 (chain [lb ok, vi (oi : Int)]))), (2, some (.ob 122 (chain [lb ik, vi (ii : Int)]))), (3, some (.ob 22 (chain [.v (.slice none 0 0)]))), (4, some (.ob 3 (chain [vi 0]))), (5, some (.ob 44 (chain [vi 0])))]
 refine defer_x rfl hS (cs := [.cp 3 0, .cp 4 0, .cp 5 0]) rfl rfl rfl fun D vds ac hD hcv hB hS => ?_
 have hS := hS.sp
 refine then_n (sA [(1, .call ⟨30, (c_scopy id fi ok oi ik ii low mx last told kl), [(0, 0), (1, 1), (2, 2)], [(3, 6), (4, 7), (5, 8), (6, 9)]⟩)] ⟨scopy_ok _ _ _ _ _ _ _ _ _ _ _ lnn lnn omm omm lmm (by first | assumption | (intro j; simp <;> omega)) omm asm, trivial⟩ (fun C => [ndC C 1]) [0, 1, 2, 6, 7, 8, 9] [0, 1, 2, 3, 4, 5, 6, 7, 8, 9] 10 ⟨rfl, trivial⟩ hS fun hS => ?_)
 refine wp_seq ?_
 by_cases h1 : take_k id fi ok oi ik ii low mx last told kl xs (rand.drop 64) = true
 ·refine rA [(4, .call ⟨39, (c_take id fi ok oi ik ii low mx last told kl xs (rand.drop 64)), [(0, 6), (1, 7), (2, 8), (3, 9)], [(4, 10)]⟩)] ⟨take_ok _ _ _ _ _ _ _ _ _ _ _ _ _ lnn lnn omm omm lmm (by first | assumption | (intro j; simp <;> omega)) omm asm omm omm lnn h1, trivial⟩ (fun C => [bndP (some 64) none none rand.length rand.length, ndC C 4]) [0, 6, 7, 8, 9] [0, 1, 2, 3, 4, 5, 6, 7, 8, 10] 11 ⟨⟨by simp only [nnI] <;> omega, by simp only [nnI] <;> omega, by simp only [nnI] <;> omega, by simp, by simp only [bl] <;> omega, by simp only [bl] <;> omega, by simp only [bl] <;> omega⟩, rfl, trivial⟩ hS fun hS => ?_
  refine then_n (wp_seq (r0 [6, 7, 8] [0, 1, 2, 3, 4, 5, 7, 8, 10] 11 hS fun hS => ?_))
  obtain ⟨gs, hS⟩ := hS.fz 10
  refine then_n (s0 [6, 7, 8] [0, 1, 2, 3, 4, 5, 7, 8] 11 hS fun hS => ?_)
  refine wp_ret ?_
  have hM : receive_m id fi ok oi ik ii low mx last told kl xs rand = ((take_m id fi ok oi ik ii low mx last told kl xs (rand.drop 64)).2.2.2.1, ((take_m id fi ok oi ik ii low mx last told kl xs (rand.drop 64)).2.2.2.2.1), ((take_m id fi ok oi ik ii low mx last told kl xs (rand.drop 64)).1), ((take_m id fi ok oi ik ii low mx last told kl xs (rand.drop 64)).2.1), (take_m id fi ok oi ik ii low mx last told kl xs (rand.drop 64)).2.2.1, (take_m id fi ok oi ik ii low mx last told kl xs (rand.drop 64)).2.2.2.2.2.1, ((take_m id fi ok oi ik ii low mx last told kl xs (rand.drop 64)).2.2.2.2.2.2)) := receive_e id fi ok oi ik ii low mx last told kl xs rand
  have hS := hS.rv [(6, .cp 3 0), (7, .cp 4 0), (8, .cp 5 0)] [(0, some (.ob 80 (chain [lb id, .v (.bool fi), .v (.bool false), .cp 7 0, .cp 8 0, .v (.pointer none), vi (low : Int), .ls false [.sl (.int .u8)] mx, vi (((take_m id fi ok oi ik ii low mx last told kl xs (rand.drop 64)).1 : Nat) : Int), vi (((take_m id fi ok oi ik ii low mx last told kl xs (rand.drop 64)).2.1 : Nat) : Int), .ls false [.int .i64, .int .i64, .sl (.sl (.int .u8))] ((take_m id fi ok oi ik ii low mx last told kl xs (rand.drop 64)).2.2.1)]))), (1, some (.ob 122 (chain [lb ok, vi (oi : Int)]))), (2, some (.ob 122 (chain [lb ik, vi (ii : Int)]))), (3, some (.ob 22 (chain [lb ((take_m id fi ok oi ik ii low mx last told kl xs (rand.drop 64)).2.2.2.2.2.1)]))), (4, some (.ob 3 (chain [vi (((take_m id fi ok oi ik ii low mx last told kl xs (rand.drop 64)).2.2.2.2.2.2 : Nat) : Int)]))), (5, some (.ob 44 (chain [vi 0]))), (7, some (.ob 122 (chain [lb ok, vi (oi : Int)]))), (8, some (.ob 122 (chain [lb ((take_m id fi ok oi ik ii low mx last told kl xs (rand.drop 64)).2.2.2.1), vi (((take_m id fi ok oi ik ii low mx last told kl xs (rand.drop 64)).2.2.2.2.1 : Nat) : Int)])))]
  exact fin_dr (.inr rfl) hS hD (leaves_d ⟨38, (c_rcv_r ((take_m id fi ok oi ik ii low mx last told kl xs (rand.drop 64)).2.2.2.2.2.1) ((take_m id fi ok oi ik ii low mx last told kl xs (rand.drop 64)).2.2.2.2.2.2)), [(0, 3), (1, 4), (2, 5)], []⟩ [(3, some (.ob 22 (chain [lb ((take_m id fi ok oi ik ii low mx last told kl xs (rand.drop 64)).2.2.2.2.2.1)]))), (4, some (.ob 3 (chain [vi ((((take_m id fi ok oi ik ii low mx last told kl xs (rand.drop 64)).2.2.2.2.2.2) : Nat) : Int)]))), (5, some (.ob 44 (chain [vi 0]))), (0, some (.ob 80 (chain [lb id, .v (.bool fi), .v (.bool false), .cp 7 0, .cp 8 0, .v (.pointer none), vi (low : Int), .ls false [.sl (.int .u8)] mx, vi (((take_m id fi ok oi ik ii low mx last told kl xs (rand.drop 64)).1 : Nat) : Int), vi (((take_m id fi ok oi ik ii low mx last told kl xs (rand.drop 64)).2.1 : Nat) : Int), .ls false [.int .i64, .int .i64, .sl (.sl (.int .u8))] ((take_m id fi ok oi ik ii low mx last told kl xs (rand.drop 64)).2.2.1)]))), (1, some (.ob 122 (chain [lb ok, vi (oi : Int)]))), (2, some (.ob 122 (chain [lb ik, vi (ii : Int)]))), (3, some (.ob 22 (chain [lb ((take_m id fi ok oi ik ii low mx last told kl xs (rand.drop 64)).2.2.2.2.2.1)]))), (4, some (.ob 3 (chain [vi (((take_m id fi ok oi ik ii low mx last told kl xs (rand.drop 64)).2.2.2.2.2.2 : Nat) : Int)]))), (5, some (.ob 44 (chain [vi 0]))), (7, some (.ob 122 (chain [lb ok, vi (oi : Int)]))), (8, some (.ob 122 (chain [lb ((take_m id fi ok oi ik ii low mx last told kl xs (rand.drop 64)).2.2.2.1), vi (((take_m id fi ok oi ik ii low mx last told kl xs (rand.drop 64)).2.2.2.2.1 : Nat) : Int)])))] hB hS hcv (show FrameMode.returning ≠ .run from nofun) rfl rfl rfl (rcv_r_ok ((take_m id fi ok oi ik ii low mx last told kl xs (rand.drop 64)).2.2.2.2.2.1) ((take_m id fi ok oi ik ii low mx last told kl xs (rand.drop 64)).2.2.2.2.2.2)) rfl ⟨rfl, rfl, rfl, trivial⟩ rfl (ds := [lb ((take_m id fi ok oi ik ii low mx last told kl xs (rand.drop 64)).2.2.2.2.2.1), vi ((((take_m id fi ok oi ik ii low mx last told kl xs (rand.drop 64)).2.2.2.2.2.2) : Nat) : Int), vi 0]) (by kernel_rfl) (by show weak _ (.tu (chain [lb ((receive_m id fi ok oi ik ii low mx last told kl xs rand).2.2.2.2.2.1), vi (((receive_m id fi ok oi ik ii low mx last told kl xs rand).2.2.2.2.2.2 : Nat) : Int), vi 0])) = (.tu (chain [lb ((receive_m id fi ok oi ik ii low mx last told kl xs rand).2.2.2.2.2.1), vi (((receive_m id fi ok oi ik ii low mx last told kl xs rand).2.2.2.2.2.2 : Nat) : Int), vi 0])); first | rfl | (rw [hM]; first | (simp only []; rfl) | (simp only []; done) | rfl)) (by show H1Ok _ [(0, .ob 80 (chain [lb id, .v (.bool fi), .v (.bool false), .cp 7 0, .cp 8 0, .v (.pointer none), vi (low : Int), .ls false [.sl (.int .u8)] mx, vi (((receive_m id fi ok oi ik ii low mx last told kl xs rand).2.2.1 : Nat) : Int), vi (((receive_m id fi ok oi ik ii low mx last told kl xs rand).2.2.2.1 : Nat) : Int), .ls false [.int .i64, .int .i64, .sl (.sl (.int .u8))] ((receive_m id fi ok oi ik ii low mx last told kl xs rand).2.2.2.2.1)])), (1, .ob 122 (chain [lb ok, vi (oi : Int)])), (2, .ob 122 (chain [lb ik, vi (ii : Int)])), (7, .ob 122 (chain [lb ok, vi (oi : Int)])), (8, .ob 122 (chain [lb ((receive_m id fi ok oi ik ii low mx last told kl xs rand).1), vi (((receive_m id fi ok oi ik ii low mx last told kl xs rand).2.1 : Nat) : Int)]))] true; first | exact ⟨rfl, rfl, rfl, rfl, rfl, trivial⟩ | (rw [hM]; first | (simp only []; exact ⟨rfl, rfl, rfl, rfl, rfl, trivial⟩) | exact ⟨rfl, rfl, rfl, rfl, rfl, trivial⟩)))
 ·have hK : receive_k id fi ok oi ik ii low mx last told kl xs rand = false := (receive_ke id fi ok oi ik ii low mx last told kl xs rand).trans (if_neg h1)
  rw [hK] at hk
  cases hk
def c_receive_p (id : List Int) (fi : Bool) (ok : List Int) (oi : Nat) (ik : List Int) (ii low : Nat) (mx : List (List Int)) (last told : Nat) (kl : List KR) (xs rand : List Int) : Con := ⟨[.cp 0 0, lb xs, lb rand], [(0, .ob 80 (chain [lb id, .v (.bool fi), .v (.bool false), .cp 1 0, .cp 2 0, .v (.pointer none), vi (low : Int), .ls false [.sl (.int .u8)] mx, vi (last : Int), vi (told : Int), .ls false [.int .i64, .int .i64, .sl (.sl (.int .u8))] kl])), (1, .ob 122 (chain [lb ok, vi (oi : Int)])), (2, .ob 122 (chain [lb ik, vi (ii : Int)]))], .tu (chain [.v (.slice none 0 0), vi 0, vi ((take_p_e id fi ok oi ik ii low mx last told kl xs (rand.drop 64) : Nat) : Int)]), [(0, .ob 80 (chain [lb id, .v (.bool fi), .v (.bool false), .cp 1 0, .cp 2 0, .v (.pointer none), vi (low : Int), .ls false [.sl (.int .u8)] mx, vi (last : Int), vi (told : Int), .ls false [.int .i64, .int .i64, .sl (.sl (.int .u8))] kl])), (1, .ob 122 (chain [lb ok, vi (oi : Int)])), (2, .ob 122 (chain [lb ik, vi (ii : Int)]))]⟩
theorem receive_p_ok (id : List Int) (fi : Bool) (ok : List Int) (oi : Nat) (ik : List Int) (ii low : Nat) (mx : List (List Int)) (last told : Nat) (kl : List KR) (xs rand : List Int) (hok : ok.length = 32) (hik : ik.length = 32) (hoi : oi ≤ 100000000000) (hii : ii ≤ 100000000000) (hm1 : 1 ≤ mx.length ∧ mx.length ≤ 100000) (hm2 : ∀ j, (mx.getD j (rz [.sl (.int .u8)])).length ≤ 32) (hlow : low ≤ 100000000000) (hK : KOk kl) (hll : low ≤ last ∧ last ≤ 100000000000) (htd : told ≤ 100000000000) (hf : xs.length ≤ 50000) (hr : rand.length = 128) (hk : receive_k id fi ok oi ik ii low mx last told kl xs rand = false) : ConOk Tryz.prog 19 (c_receive_p id fi ok oi ik ii low mx last told kl xs rand) := by
 refine conOk_ofDf rfl (nb := 3) Tryz.func19 rfl rfl Tryz.ntmps19 rfl rfl rfl fun g0 w0 ac gs ws hg0 hS => ?_
 have hlen1 : xs.length ≤ 9223372036854775807 := hS.len 1 rfl
 have hlen2 : rand.length ≤ 9223372036854775807 := hS.len 2 rfl
 have hS := hS.sp
 have hr1 : ((rand.length : Nat) : Int) = 128 := omm
 refine s0 [0, 1, 2, 6, 7, 8] [0, 1, 2, 3, 4, 5] 6 hS fun hS => ?_
 refine wp_seq (sC [(1, ⟨36, (c_snoner), [], []⟩, [0, 1])] ⟨snoner_ok, trivial⟩ [] [(5, .ob false)] trivial (fun _ => [([.im (chain [.top, .top, .top, .im (chain []) 0, .top, .top, .top, .top, .top, .top, .top]) 0] : List D) = [.im (chain [.top, .top, .top, .im (chain []) 0, .top, .top, .top, .top, .top, .top, .top]) 0], (!decide (((rand.length : Nat) : Int) = 128)) = false]) [0, 1, 2, 6, 7, 8, 16] [0, 1, 2, 3, 4, 5] 6 ⟨rfl, by rw [decide_eq_true hr1]; rfl, trivial⟩ hS fun hS => ?_)
 refine cond_f hS ?_
 refine wp_skip (then_n (wp_seq ?_))
 have hS := hS.rv [(0, .cp 0 0), (1, lb xs), (2, lb rand), (6, .cp 3 0), (7, .cp 4 0), (8, .cp 5 0), (16, .v (.bool false))] [(0, some (.ob 80 (chain [lb id, .v (.bool fi), .v (.bool false), .cp 1 0, .cp 2 0, .v (.pointer none), vi (low : Int), .ls false [.sl (.int .u8)] mx, vi (last : Int), vi (told : Int), .ls false [.int .i64, .int .i64, .sl (.sl (.int .u8))] kl]))), (1, some (.ob 122 (chain [lb ok, vi (oi : Int)]))), (2, some (.ob 122 (chain [lb ik, vi (ii : Int)]))), (3, some (.ob 22 (chain [.v (.slice none 0 0)]))), (4, some (.ob 3 (chain [vi 0]))), (5, some (.ob 44 (chain [vi 0])))]
 refine defer_x rfl hS (cs := [.cp 3 0, .cp 4 0, .cp 5 0]) rfl rfl rfl fun D vds ac hD hcv hB hS => ?_
 have hS := hS.sp
 refine then_n (sA [(1, .call ⟨30, (c_scopy id fi ok oi ik ii low mx last told kl), [(0, 0), (1, 1), (2, 2)], [(3, 6), (4, 7), (5, 8), (6, 9)]⟩)] ⟨scopy_ok _ _ _ _ _ _ _ _ _ _ _ lnn lnn omm omm lmm (by first | assumption | (intro j; simp <;> omega)) omm asm, trivial⟩ (fun C => [ndC C 1]) [0, 1, 2, 6, 7, 8, 9] [0, 1, 2, 3, 4, 5, 6, 7, 8, 9] 10 ⟨rfl, trivial⟩ hS fun hS => ?_)
 refine wp_seq ?_
 by_cases h1 : take_k id fi ok oi ik ii low mx last told kl xs (rand.drop 64) = true
 ·refine rA [(4, .call ⟨39, (c_take id fi ok oi ik ii low mx last told kl xs (rand.drop 64)), [(0, 6), (1, 7), (2, 8), (3, 9)], [(4, 10)]⟩)] ⟨take_ok _ _ _ _ _ _ _ _ _ _ _ _ _ lnn lnn omm omm lmm (by first | assumption | (intro j; simp <;> omega)) omm asm omm omm lnn h1, trivial⟩ (fun C => [bndP (some 64) none none rand.length rand.length, ndC C 4]) [0, 6, 7, 8, 9] [0, 1, 2, 3, 4, 5, 6, 7, 8, 10] 11 ⟨⟨by simp only [nnI] <;> omega, by simp only [nnI] <;> omega, by simp only [nnI] <;> omega, by simp, by simp only [bl] <;> omega, by simp only [bl] <;> omega, by simp only [bl] <;> omega⟩, rfl, trivial⟩ hS fun hS => ?_
  refine then_n (wp_seq (r0 [6, 7, 8] [0, 1, 2, 3, 4, 5, 7, 8, 10] 11 hS fun hS => ?_))
  obtain ⟨gs, hS⟩ := hS.fz 10
  refine then_n (s0 [6, 7, 8] [0, 1, 2, 3, 4, 5, 7, 8] 11 hS fun hS => ?_)
  refine wp_ret ?_
  have hK : receive_k id fi ok oi ik ii low mx last told kl xs rand = true := (receive_ke id fi ok oi ik ii low mx last told kl xs rand).trans (if_pos h1)
  rw [hK] at hk
  cases hk
 ·refine region_p2 (E := E0) mo hZ [] trivial (some ⟨39, (c_take_p id fi ok oi ik ii low mx last told kl xs (rand.drop 64)), [(0, 6), (1, 7), (2, 8), (3, 9)], []⟩) (fun r hr => by cases hr; exact take_p_ok id fi ok oi ik ii low mx last told kl xs (rand.drop 64) lnn lnn omm omm lmm (by first | assumption | (intro j; simp <;> omega)) omm asm omm omm lnn (bne_k h1)) 4 992 (fun _ => [bndP (some 64) none none rand.length rand.length, nd [.cp 6 0, lb xs, lb (rand.drop 64)] [some (.ob 80 (chain [lb id, .v (.bool fi), .v (.bool false), .cp 7 0, .cp 8 0, .v (.pointer none), vi (low : Int), .ls false [.sl (.int .u8)] mx, vi (last : Int), vi (told : Int), .sk 9])), some (.ob 122 (chain [lb ok, vi (oi : Int)])), some (.ob 122 (chain [lb ik, vi (ii : Int)])), some (.sl 86 [.int .i64, .int .i64, .sl (.sl (.int .u8))] kl)]]) (.v (.iface 44 (.int .i64 ((take_p_e id fi ok oi ik ii low mx last told kl xs (rand.drop 64) : Nat) : Int)))) [6, 7, 8] [0, 1, 2, 3, 4, 5] [(6, .cp 3 0), (7, .cp 4 0), (8, .cp 5 0)] [(0, some (.ob 80 (chain [lb id, .v (.bool fi), .v (.bool false), .cp 1 0, .cp 2 0, .v (.pointer none), vi (low : Int), .ls false [.sl (.int .u8)] mx, vi (last : Int), vi (told : Int), .ls false [.int .i64, .int .i64, .sl (.sl (.int .u8))] kl]))), (1, some (.ob 122 (chain [lb ok, vi (oi : Int)]))), (2, some (.ob 122 (chain [lb ik, vi (ii : Int)]))), (3, some (.ob 22 (chain [.v (.slice none 0 0)]))), (4, some (.ob 3 (chain [vi 0]))), (5, some (.ob 44 (chain [vi 0])))] (by kernel_rfl) ⟨⟨by simp only [nnI] <;> omega, by simp only [nnI] <;> omega, by simp only [nnI] <;> omega, by simp, by simp only [bl] <;> omega, by simp only [bl] <;> omega, by simp only [bl] <;> omega⟩, rfl, trivial⟩ (by kernel_rfl) (by kernel_rfl) hS.st fun ac gs ws pv hS hpv => ?_
  refine then_pan ?_
  obtain rfl := hpv.v_of
  exact fin_dp hS hD (leaves_d ⟨38, (c_rcv_p (take_p_e id fi ok oi ik ii low mx last told kl xs (rand.drop 64))), [(0, 3), (1, 4), (2, 5)], []⟩ [(3, some (.ob 22 (chain [.v (.slice none 0 0)]))), (4, some (.ob 3 (chain [vi 0]))), (5, some (.ob 44 (chain [vi (((take_p_e id fi ok oi ik ii low mx last told kl xs (rand.drop 64)) : Nat) : Int)]))), (0, some (.ob 80 (chain [lb id, .v (.bool fi), .v (.bool false), .cp 1 0, .cp 2 0, .v (.pointer none), vi (low : Int), .ls false [.sl (.int .u8)] mx, vi (last : Int), vi (told : Int), .ls false [.int .i64, .int .i64, .sl (.sl (.int .u8))] kl]))), (1, some (.ob 122 (chain [lb ok, vi (oi : Int)]))), (2, some (.ob 122 (chain [lb ik, vi (ii : Int)]))), (3, some (.ob 22 (chain [.v (.slice none 0 0)]))), (4, some (.ob 3 (chain [vi 0]))), (5, some (.ob 44 (chain [vi 0])))] hB hS hcv (show FrameMode.panicking _ ≠ .run from nofun) rfl rfl rfl (rcv_p_ok (take_p_e id fi ok oi ik ii low mx last told kl xs (rand.drop 64))) rfl ⟨rfl, rfl, rfl, trivial⟩ rfl (ds := [.v (.slice none 0 0), vi 0, vi (((take_p_e id fi ok oi ik ii low mx last told kl xs (rand.drop 64)) : Nat) : Int)]) (by kernel_rfl) (by show weak _ (.tu (chain [.v (.slice none 0 0), vi 0, vi ((take_p_e id fi ok oi ik ii low mx last told kl xs (rand.drop 64) : Nat) : Int)])) = (.tu (chain [.v (.slice none 0 0), vi 0, vi ((take_p_e id fi ok oi ik ii low mx last told kl xs (rand.drop 64) : Nat) : Int)])); first | rfl | (rw [hM]; first | (simp only []; rfl) | (simp only []; done) | rfl)) ⟨rfl, rfl, rfl, trivial⟩)

end
end Go.Sx.Tryz
namespace Go.Sx.Tryz
open Go.Mi Go.RowKit Go.Sx Go.Proofs
noncomputable section
theorem mixn_le (fi : Bool) (low len told : Nat) (h : 1 ≤ len) : mixn fi low len told < low + len := by
 unfold mixn; split <;> omega
@[simp] theorem seal_len (key num data text : List Int) : (seal_m key num data text).length = text.length + 32 := by
 rw [seal_e]; unfold seal_v; rw [bseal_e]; unfold bseal_v; rw [List.length_append, crypt_len, stag_len]
def send_v (id : List Int) (fi : Bool) (ok : List Int) (oi : Nat) (ik : List Int) (ii low : Nat) (mx : List (List Int)) (last told : Nat) (kl : List KR) (text rand : List Int) : (List Int) × Nat × (List Int) := (nxt ok, (oi + 1), ((((([] : List Int) ++ numW (((((([] : List Int) ++ numW oi) ++ numW (mixn fi low mx.length told)) ++ numW (low + mx.length - 1)) ++ numW ([] : List Int).length) ++ ([] : List Int)).length) ++ (((((([] : List Int) ++ numW oi) ++ numW (mixn fi low mx.length told)) ++ numW (low + mx.length - 1)) ++ numW ([] : List Int).length) ++ ([] : List Int))) ++ numW (seal_m (derive32_m (mky ok) (mx.getD ((mixn fi low mx.length told) - low) (rz [.sl (.int .u8)])) [109, 101, 115, 115, 97, 103, 101]) (List.replicate 12 (0 : Int)) (((((([] : List Int) ++ numW oi) ++ numW (mixn fi low mx.length told)) ++ numW (low + mx.length - 1)) ++ numW ([] : List Int).length) ++ ([] : List Int)) text).length) ++ (seal_m (derive32_m (mky ok) (mx.getD ((mixn fi low mx.length told) - low) (rz [.sl (.int .u8)])) [109, 101, 115, 115, 97, 103, 101]) (List.replicate 12 (0 : Int)) (((((([] : List Int) ++ numW oi) ++ numW (mixn fi low mx.length told)) ++ numW (low + mx.length - 1)) ++ numW ([] : List Int).length) ++ ([] : List Int)) text)))
def send_m (id : List Int) (fi : Bool) (ok : List Int) (oi : Nat) (ik : List Int) (ii low : Nat) (mx : List (List Int)) (last told : Nat) (kl : List KR) (text rand : List Int) : (List Int) × Nat × (List Int) := shut (send_v id fi ok oi ik ii low mx last told kl text rand)
theorem send_e (id : List Int) (fi : Bool) (ok : List Int) (oi : Nat) (ik : List Int) (ii low : Nat) (mx : List (List Int)) (last told : Nat) (kl : List KR) (text rand : List Int) : send_m id fi ok oi ik ii low mx last told kl text rand = send_v id fi ok oi ik ii low mx last told kl text rand := shut_eq _
def c_send (id : List Int) (fi : Bool) (ok : List Int) (oi : Nat) (ik : List Int) (ii low : Nat) (mx : List (List Int)) (last told : Nat) (kl : List KR) (text rand : List Int) : Con := ⟨[.cp 0 0, lb text, lb rand], [(0, .ob 80 (chain [lb id, .v (.bool fi), .v (.bool false), .cp 1 0, .cp 2 0, .v (.pointer none), vi (low : Int), .ls false [.sl (.int .u8)] mx, vi (last : Int), vi (told : Int), .ls false [.int .i64, .int .i64, .sl (.sl (.int .u8))] kl])), (1, .ob 122 (chain [lb ok, vi (oi : Int)])), (2, .ob 122 (chain [lb ik, vi (ii : Int)]))], .tu (chain [lb ((send_m id fi ok oi ik ii low mx last told kl text rand).2.2), vi (oi : Int), vi 0]), [(0, .ob 80 (chain [lb id, .v (.bool fi), .v (.bool false), .cp 1 0, .cp 2 0, .v (.pointer none), vi (low : Int), .ls false [.sl (.int .u8)] mx, vi (last : Int), vi (told : Int), .ls false [.int .i64, .int .i64, .sl (.sl (.int .u8))] kl])), (1, .ob 122 (chain [lb ((send_m id fi ok oi ik ii low mx last told kl text rand).1), vi (((send_m id fi ok oi ik ii low mx last told kl text rand).2.1 : Nat) : Int)])), (2, .ob 122 (chain [lb ik, vi (ii : Int)]))]⟩
theorem send_ok (id : List Int) (fi : Bool) (ok : List Int) (oi : Nat) (ik : List Int) (ii low : Nat) (mx : List (List Int)) (last told : Nat) (kl : List KR) (text rand : List Int) (hok : ok.length = 32) (hik : ik.length = 32) (hoi : oi ≤ 100000000000) (hii : ii ≤ 100000000000) (hm1 : 1 ≤ mx.length ∧ mx.length ≤ 100000) (hm2 : ∀ j, (mx.getD j (rz [.sl (.int .u8)])).length ≤ 32) (hlow : low ≤ 100000000000) (hmn : low ≤ mixn fi low mx.length told) (htx : text.length ≤ 500) (hr : rand.length = 128) : ConOk Tryz.prog 24 (c_send id fi ok oi ik ii low mx last told kl text rand) := by
 refine conOk_of rfl (nb := 3) Tryz.func24 rfl rfl Tryz.ntmps24 rfl rfl rfl fun g0 w0 ac gs ws hg0 hS => ?_
 have hlen1 : text.length ≤ 9223372036854775807 := hS.len 1 rfl
 have hlen2 : rand.length ≤ 9223372036854775807 := hS.len 2 rfl
 have hS := hS.sp
 have hr1 : ((rand.length : Nat) : Int) = 128 := omm
 have hx1 : ¬ (500 : Int) < ((text.length : Nat) : Int) := omm
 refine s0 [0, 1, 2, 6, 7, 8] [0, 1, 2] 3 hS fun hS => ?_
 refine wp_seq (wp_block (sC [(1, ⟨36, (c_snoner), [], []⟩, [0, 1])] ⟨snoner_ok, trivial⟩ [] [(5, .ob false)] trivial (fun _ => [([.im (chain [.top, .top, .top, .im (chain []) 0, .top, .top, .top, .top, .top, .top, .top]) 0] : List D) = [.im (chain [.top, .top, .top, .im (chain []) 0, .top, .top, .top, .top, .top, .top, .top]) 0], (!decide (((rand.length : Nat) : Int) = 128)) = false]) [0, 1, 2, 6, 7, 8, 16] [0, 1, 2] 3 ⟨rfl, by rw [decide_eq_true hr1]; rfl, trivial⟩ hS fun hS => ?_))
 refine cond_f hS ?_
 refine sA [(2, .ob false)] trivial (fun _ => [(decide ((500 : Int) < ((text.length : Nat) : Int))) = false]) [0, 1, 2, 6, 7, 8, 24] [0, 1, 2] 3 ⟨decide_eq_false hx1, trivial⟩ hS fun hS => ?_
 refine cond_f hS ?_
 refine wp_skip (block_n (then_n (s0 [0, 1, 2, 6, 7, 8, 9] [0, 1, 2] 3 hS fun hS => ?_)))
 refine wp_seq (s0 [0, 1, 2, 6, 7, 8, 9, 31] [0, 1, 2] 3 hS fun hS => ?_)
 refine cond_f hS ?_
 refine wp_skip (then_n (sA [(4, .call ⟨40, (c_cindex ok oi), [(0, 1)], []⟩)] ⟨cindex_ok _ _, trivial⟩ (fun C => [ndC C 4]) [0, 1, 6, 7, 8, 9] [0, 1, 2] 3 ⟨rfl, trivial⟩ hS fun hS => ?_))
 refine sC [(1, ⟨46, (c_mixingr fi low mx told), [], []⟩, [0, 1])] ⟨mixingr_ok _ _ _ _ lmm omm, trivial⟩ [] [] trivial (fun _ => [([.im (chain [.top, .v (.bool fi), .top, .im (chain []) 0, .top, .top, vi (low : Int), .ls false [.sl (.int .u8)] mx, .top, vi (told : Int), .top]) 0] : List D) = [.im (chain [.top, .v (.bool fi), .top, .im (chain []) 0, .top, .top, vi (low : Int), .ls false [.sl (.int .u8)] mx, .top, vi (told : Int), .top]) 0]]) [0, 1, 6, 7, 8, 9, 11] [0, 1, 2] 3 ⟨rfl, trivial⟩ hS fun hS => ?_
 refine s0 [0, 1, 6, 7, 8, 9, 11, 12] [0, 1, 2, 3] 4 hS fun hS => ?_
 refine wp_seq ?_
 have hmx := mixn_le fi low mx.length told omm
 have hw1 := numW_10 (n := oi) omm
 have hw2 := numW_10 (n := mixn fi low mx.length told) omm
 have hw3 := numW_10 (n := low + mx.length - 1) omm
 have hw4 := numW_10 (n := ([] : List Int).length) (by decide)
 have hw4b := numW_10 (n := 0) (by decide)
 refine rC [(8, ⟨18, (c_epochr low mx), [], []⟩, [0, 1])] ⟨epochr_ok _ _ lmm omm, trivial⟩ [] [(2, .oi (oi : Int)), (3, .call ⟨47, (c_wnum0 oi), [(0, 3)], [(1, 4)]⟩), (5, .oi ((mixn fi low mx.length told : Nat) : Int)), (6, .call ⟨47, (c_wnum (([] : List Int) ++ numW oi) (mixn fi low mx.length told)), [(0, 3), (1, 4)], [(2, 5)]⟩), (9, .oi ((low + mx.length - 1 : Nat) : Int)), (10, .call ⟨47, (c_wnum ((([] : List Int) ++ numW oi) ++ numW (mixn fi low mx.length told)) (low + mx.length - 1)), [(0, 3), (1, 5)], [(2, 6)]⟩), (12, .call ⟨48, (c_wbytes (((([] : List Int) ++ numW oi) ++ numW (mixn fi low mx.length told)) ++ numW (low + mx.length - 1)) []), [(0, 3), (1, 6)], [(2, 7)]⟩), (13, .call ⟨49, (c_wdone (((((([] : List Int) ++ numW oi) ++ numW (mixn fi low mx.length told)) ++ numW (low + mx.length - 1)) ++ numW ([] : List Int).length) ++ ([] : List Int))), [(0, 3), (1, 7)], []⟩)] ⟨wnum0_ok _ omm, wnum_ok _ _ lnn omm, wnum_ok _ _ lnn omm, wbytes_ok _ _ lnn lnn, wdone_ok _ lnn, trivial⟩ (fun C => [IntKind.wrap .u64 (oi : Int) = (oi : Int), ndC C 3, IntKind.wrap .u64 ((mixn fi low mx.length told : Nat) : Int) = ((mixn fi low mx.length told : Nat) : Int), ndC C 6, ([.im (chain [.top, .top, .top, .im (chain []) 0, .top, .top, vi (low : Int), .ls false [.sl (.int .u8)] mx, .top, .top, .top]) 0] : List D) = [.im (chain [.top, .top, .top, .im (chain []) 0, .top, .top, vi (low : Int), .ls false [.sl (.int .u8)] mx, .top, .top, .top]) 0], IntKind.wrap .u64 ((low + mx.length - 1 : Nat) : Int) = ((low + mx.length - 1 : Nat) : Int), ndC C 10, ndC C 12, ndC C 13]) [0, 1, 6, 7, 8, 11, 13] [0, 1, 2] 8 ⟨wrap_u64 omm omm, rfl, wrap_u64 omm omm, rfl, rfl, wrap_u64 omm omm, rfl, rfl, rfl, trivial⟩ hS fun hS => ?_
 refine then_n (wp_seq ?_)
 have hmx := mixn_le fi low mx.length told omm
 have hw1 := numW_10 (n := oi) omm
 have hw2 := numW_10 (n := mixn fi low mx.length told) omm
 have hw3 := numW_10 (n := low + mx.length - 1) omm
 have hw4 := numW_10 (n := ([] : List Int).length) (by decide)
 have hw4b := numW_10 (n := 0) (by decide)
 have hhd : (((((([] : List Int) ++ numW oi) ++ numW (mixn fi low mx.length told)) ++ numW (low + mx.length - 1)) ++ numW ([] : List Int).length) ++ ([] : List Int)).length ≤ 50 := by simp only [List.length_append, List.length_nil]; omega
 refine rB [(8, .mf)] [(5, .call ⟨52, (c_cnext ok oi), [(0, 1)], []⟩), (7, .call ⟨51, (c_skey id fi (nxt ok) (oi + 1) ik ii low mx last told kl (mky ok) (mixn fi low mx.length told)), [(0, 0), (1, 1), (2, 2)], []⟩), (11, .call ⟨50, (c_seal (derive32_m (mky ok) (mx.getD ((mixn fi low mx.length told) - low) (rz [.sl (.int .u8)])) [109, 101, 115, 115, 97, 103, 101]) (List.replicate 12 (0 : Int)) (((((([] : List Int) ++ numW oi) ++ numW (mixn fi low mx.length told)) ++ numW (low + mx.length - 1)) ++ numW ([] : List Int).length) ++ ([] : List Int)) text), [], []⟩)] ⟨cnext_ok _ _ lnn omm, skey_ok _ _ _ _ _ _ _ _ _ _ _ _ _ lmm (by first | assumption | (intro j; simp <;> omega)) omm lnn omm, seal_ok _ _ _ _ lnn lnn lnn lnn, trivial⟩ (fun C => [ndC C 5, ndC C 7, (12 : Int) = 12, (0 : Int) ≤ 12, 1 * 12 ≤ 281474976710656, (12 : Int) ≤ 9223372036854775807, ndC C 11]) [6, 7, 8, 13, 14] [0, 1, 2] 8 ⟨rfl, rfl, rfl, by omega, by omega, by omega, rfl, trivial⟩ hS fun hS => ?_
 refine then_n (wp_seq ?_)
 have hmx := mixn_le fi low mx.length told omm
 have hw1 := numW_10 (n := oi) omm
 have hw2 := numW_10 (n := mixn fi low mx.length told) omm
 have hw3 := numW_10 (n := low + mx.length - 1) omm
 have hw4 := numW_10 (n := ([] : List Int).length) (by decide)
 have hw4b := numW_10 (n := 0) (by decide)
 have hhd : (((((([] : List Int) ++ numW oi) ++ numW (mixn fi low mx.length told)) ++ numW (low + mx.length - 1)) ++ numW ([] : List Int).length) ++ ([] : List Int)).length ≤ 50 := by simp only [List.length_append, List.length_nil]; omega
 have hw5 := numW_10 (n := (((((([] : List Int) ++ numW oi) ++ numW (mixn fi low mx.length told)) ++ numW (low + mx.length - 1)) ++ numW ([] : List Int).length) ++ ([] : List Int)).length) omm
 have hw5s := hw5
 simp only [List.length_append, List.length_nil] at hw5s
 have hsl : (seal_m (derive32_m (mky ok) (mx.getD ((mixn fi low mx.length told) - low) (rz [.sl (.int .u8)])) [109, 101, 115, 115, 97, 103, 101]) (List.replicate 12 (0 : Int)) (((((([] : List Int) ++ numW oi) ++ numW (mixn fi low mx.length told)) ++ numW (low + mx.length - 1)) ++ numW ([] : List Int).length) ++ ([] : List Int)) text).length = text.length + 32 := seal_len ..
 have hw6 := numW_10 (n := (seal_m (derive32_m (mky ok) (mx.getD ((mixn fi low mx.length told) - low) (rz [.sl (.int .u8)])) [109, 101, 115, 115, 97, 103, 101]) (List.replicate 12 (0 : Int)) (((((([] : List Int) ++ numW oi) ++ numW (mixn fi low mx.length told)) ++ numW (low + mx.length - 1)) ++ numW ([] : List Int).length) ++ ([] : List Int)) text).length) omm
 have hw5t := hw5
 simp at hw5t
 have hw6t := hw6
 simp at hw6t
 refine rA [(2, .call ⟨48, (c_wbytes0 (((((([] : List Int) ++ numW oi) ++ numW (mixn fi low mx.length told)) ++ numW (low + mx.length - 1)) ++ numW ([] : List Int).length) ++ ([] : List Int))), [(0, 8)], [(1, 9)]⟩), (4, .call ⟨48, (c_wbytes ((([] : List Int) ++ numW (((((([] : List Int) ++ numW oi) ++ numW (mixn fi low mx.length told)) ++ numW (low + mx.length - 1)) ++ numW ([] : List Int).length) ++ ([] : List Int)).length) ++ (((((([] : List Int) ++ numW oi) ++ numW (mixn fi low mx.length told)) ++ numW (low + mx.length - 1)) ++ numW ([] : List Int).length) ++ ([] : List Int))) (seal_m (derive32_m (mky ok) (mx.getD ((mixn fi low mx.length told) - low) (rz [.sl (.int .u8)])) [109, 101, 115, 115, 97, 103, 101]) (List.replicate 12 (0 : Int)) (((((([] : List Int) ++ numW oi) ++ numW (mixn fi low mx.length told)) ++ numW (low + mx.length - 1)) ++ numW ([] : List Int).length) ++ ([] : List Int)) text)), [(0, 8), (1, 9)], [(2, 10)]⟩), (5, .call ⟨49, (c_wdone ((((([] : List Int) ++ numW (((((([] : List Int) ++ numW oi) ++ numW (mixn fi low mx.length told)) ++ numW (low + mx.length - 1)) ++ numW ([] : List Int).length) ++ ([] : List Int)).length) ++ (((((([] : List Int) ++ numW oi) ++ numW (mixn fi low mx.length told)) ++ numW (low + mx.length - 1)) ++ numW ([] : List Int).length) ++ ([] : List Int))) ++ numW (seal_m (derive32_m (mky ok) (mx.getD ((mixn fi low mx.length told) - low) (rz [.sl (.int .u8)])) [109, 101, 115, 115, 97, 103, 101]) (List.replicate 12 (0 : Int)) (((((([] : List Int) ++ numW oi) ++ numW (mixn fi low mx.length told)) ++ numW (low + mx.length - 1)) ++ numW ([] : List Int).length) ++ ([] : List Int)) text).length) ++ (seal_m (derive32_m (mky ok) (mx.getD ((mixn fi low mx.length told) - low) (rz [.sl (.int .u8)])) [109, 101, 115, 115, 97, 103, 101]) (List.replicate 12 (0 : Int)) (((((([] : List Int) ++ numW oi) ++ numW (mixn fi low mx.length told)) ++ numW (low + mx.length - 1)) ++ numW ([] : List Int).length) ++ ([] : List Int)) text))), [(0, 8), (1, 10)], []⟩)] ⟨wbytes0_ok _ lnn, wbytes_ok _ _ lnn lnn, wdone_ok _ lnn, trivial⟩ (fun C => [ndC C 2, ndC C 4, ndC C 5]) [6, 7, 8] [0, 1, 2] 11 ⟨rfl, rfl, rfl, trivial⟩ hS fun hS => ?_
 refine then_n (wp_ret ?_)
 have hM : send_m id fi ok oi ik ii low mx last told kl text rand = (nxt ok, (oi + 1), ((((([] : List Int) ++ numW (((((([] : List Int) ++ numW oi) ++ numW (mixn fi low mx.length told)) ++ numW (low + mx.length - 1)) ++ numW ([] : List Int).length) ++ ([] : List Int)).length) ++ (((((([] : List Int) ++ numW oi) ++ numW (mixn fi low mx.length told)) ++ numW (low + mx.length - 1)) ++ numW ([] : List Int).length) ++ ([] : List Int))) ++ numW (seal_m (derive32_m (mky ok) (mx.getD ((mixn fi low mx.length told) - low) (rz [.sl (.int .u8)])) [109, 101, 115, 115, 97, 103, 101]) (List.replicate 12 (0 : Int)) (((((([] : List Int) ++ numW oi) ++ numW (mixn fi low mx.length told)) ++ numW (low + mx.length - 1)) ++ numW ([] : List Int).length) ++ ([] : List Int)) text).length) ++ (seal_m (derive32_m (mky ok) (mx.getD ((mixn fi low mx.length told) - low) (rz [.sl (.int .u8)])) [109, 101, 115, 115, 97, 103, 101]) (List.replicate 12 (0 : Int)) (((((([] : List Int) ++ numW oi) ++ numW (mixn fi low mx.length told)) ++ numW (low + mx.length - 1)) ++ numW ([] : List Int).length) ++ ([] : List Int)) text))) := send_e id fi ok oi ik ii low mx last told kl text rand
 exact fin_y rfl (.inr rfl) hS [lb ((((([] : List Int) ++ numW (((((([] : List Int) ++ numW oi) ++ numW (mixn fi low mx.length told)) ++ numW (low + mx.length - 1)) ++ numW ([] : List Int).length) ++ ([] : List Int)).length) ++ (((((([] : List Int) ++ numW oi) ++ numW (mixn fi low mx.length told)) ++ numW (low + mx.length - 1)) ++ numW ([] : List Int).length) ++ ([] : List Int))) ++ numW (seal_m (derive32_m (mky ok) (mx.getD ((mixn fi low mx.length told) - low) (rz [.sl (.int .u8)])) [109, 101, 115, 115, 97, 103, 101]) (List.replicate 12 (0 : Int)) (((((([] : List Int) ++ numW oi) ++ numW (mixn fi low mx.length told)) ++ numW (low + mx.length - 1)) ++ numW ([] : List Int).length) ++ ([] : List Int)) text).length) ++ (seal_m (derive32_m (mky ok) (mx.getD ((mixn fi low mx.length told) - low) (rz [.sl (.int .u8)])) [109, 101, 115, 115, 97, 103, 101]) (List.replicate 12 (0 : Int)) (((((([] : List Int) ++ numW oi) ++ numW (mixn fi low mx.length told)) ++ numW (low + mx.length - 1)) ++ numW ([] : List Int).length) ++ ([] : List Int)) text)), vi (oi : Int), vi 0] [(0, some (.ob 80 (chain [lb id, .v (.bool fi), .v (.bool false), .cp 1 0, .cp 2 0, .v (.pointer none), vi (low : Int), .ls false [.sl (.int .u8)] mx, vi (last : Int), vi (told : Int), .ls false [.int .i64, .int .i64, .sl (.sl (.int .u8))] kl]))), (1, some (.ob 122 (chain [lb (nxt ok), vi (((oi + 1) : Nat) : Int)]))), (2, some (.ob 122 (chain [lb ik, vi (ii : Int)])))] (by show weak _ (.tu (chain [lb ((send_m id fi ok oi ik ii low mx last told kl text rand).2.2), vi (oi : Int), vi 0])) = (.tu (chain [lb ((send_m id fi ok oi ik ii low mx last told kl text rand).2.2), vi (oi : Int), vi 0])); rw [hM]; first | (simp only []; rfl) | (simp only []; done) | rfl) (by show H1Ok _ [(0, .ob 80 (chain [lb id, .v (.bool fi), .v (.bool false), .cp 1 0, .cp 2 0, .v (.pointer none), vi (low : Int), .ls false [.sl (.int .u8)] mx, vi (last : Int), vi (told : Int), .ls false [.int .i64, .int .i64, .sl (.sl (.int .u8))] kl])), (1, .ob 122 (chain [lb ((send_m id fi ok oi ik ii low mx last told kl text rand).1), vi (((send_m id fi ok oi ik ii low mx last told kl text rand).2.1 : Nat) : Int)])), (2, .ob 122 (chain [lb ik, vi (ii : Int)]))] true; rw [hM]; first | (simp only []; exact ⟨rfl, rfl, rfl, trivial⟩) | exact ⟨rfl, rfl, rfl, trivial⟩)

end
end Go.Sx.Tryz
namespace Go.Sx.Tryz
open Go.Mi Go.RowKit Go.Sx Go.Proofs
noncomputable section
theorem strInts_len (s : ByteArray) : (strInts s).length = s.size := by unfold strInts; rw [List.length_map, Array.length_toList]; rfl
def part_v (root : List Int) (nm : ByteArray) : (List Int) := derive32_m ([] : List Int) root (strInts nm)
def part_m (root : List Int) (nm : ByteArray) : (List Int) := shut (part_v root nm)
theorem part_e (root : List Int) (nm : ByteArray) : part_m root nm = part_v root nm := shut_eq _
@[simp] theorem part_len (root : List Int) (nm : ByteArray) : (part_m root nm).length = 32 := by rw [part_e]; exact derive32_len ..
def c_part (root : List Int) (nm : ByteArray) : Con := ⟨[lb root, .v (.string nm)], [], lb (part_m root nm), []⟩
theorem part_ok (root : List Int) (nm : ByteArray) (hr : root.length = 32) (hn : nm.size ≤ 1000) : ConOk Tryz.prog 42 (c_part root nm) := by
 refine conOk_of rfl (nb := 0) Tryz.func42 rfl rfl Tryz.ntmps42 rfl rfl rfl fun g0 w0 ac gs ws hg0 hS => ?_
 have hlen0 : root.length ≤ 9223372036854775807 := hS.len 0 rfl
 have hS := hS.sp
 refine s0 [0, 1, 4] [] 0 hS fun hS => ?_
 refine wp_seq ?_
 have hsn := strInts_len nm
 refine rA [(3, .call ⟨75, (c_derive32 [] root (strInts nm)), [], []⟩)] ⟨derive32_ok _ _ _ lnn lnn lnn, trivial⟩ (fun C => [nm.size ≤ 140737488355328, ndC C 3]) [4] [] 0 ⟨by omega, rfl, trivial⟩ hS fun hS => ?_
 refine then_n (wp_ret ?_)
 have hM : part_m root nm = derive32_m ([] : List Int) root (strInts nm) := part_e root nm
 exact fin_y rfl (.inr rfl) hS [lb (derive32_m ([] : List Int) root (strInts nm))] [] (by show weak _ (lb (part_m root nm)) = (lb (part_m root nm)); rw [hM]; first | (simp only []; rfl) | (simp only []; done) | rfl) trivial

def snew_v (root : List Int) (fi : Bool) : (List Int) × (List Int) × (List Int) × (List (List Int)) := if (!fi) = true then (part_m root (ByteArray.mk #[112, 97, 105, 114]), part_m root (ByteArray.mk #[111, 116, 104, 101, 114]), part_m root (ByteArray.mk #[102, 105, 114, 115, 116]), [part_m root (ByteArray.mk #[109, 105, 120])]) else (part_m root (ByteArray.mk #[112, 97, 105, 114]), part_m root (ByteArray.mk #[102, 105, 114, 115, 116]), part_m root (ByteArray.mk #[111, 116, 104, 101, 114]), [part_m root (ByteArray.mk #[109, 105, 120])])
def snew_m (root : List Int) (fi : Bool) : (List Int) × (List Int) × (List Int) × (List (List Int)) := shut (snew_v root fi)
theorem snew_e (root : List Int) (fi : Bool) : snew_m root fi = snew_v root fi := shut_eq _
def c_snew (root : List Int) (fi : Bool) : Con := ⟨[lb root, .v (.bool fi), .v (.bool false)], [], .tu (chain [.cp 0 0, vi 0]), [(0, .ob 80 (chain [lb ((snew_m root fi).1), .v (.bool fi), .v (.bool false), .cp 1 0, .cp 2 0, .v (.pointer none), vi 0, .ls true [.sl (.int .u8)] ((snew_m root fi).2.2.2), vi 0, vi 0, .v (.slice none 0 0)])), (1, .ob 122 (chain [lb ((snew_m root fi).2.1), vi 0])), (2, .ob 122 (chain [lb ((snew_m root fi).2.2.1), vi 0]))]⟩
theorem snew_ok (root : List Int) (fi : Bool) (hr : root.length = 32) : ConOk Tryz.prog 23 (c_snew root fi) := by
 refine conOk_of rfl (nb := 0) Tryz.func23 rfl rfl Tryz.ntmps23 rfl rfl rfl fun g0 w0 ac gs ws hg0 hS => ?_
 have hlen0 : root.length ≤ 9223372036854775807 := hS.len 0 rfl
 have hS := hS.sp
 have hr1 : ((root.length : Nat) : Int) = 32 := omm
 refine s0 [0, 1, 2, 6, 7] [] 0 hS fun hS => ?_
 refine wp_seq (sA [(2, .ob false)] trivial (fun _ => [(!decide (((root.length : Nat) : Int) = 32)) = false]) [0, 1, 2, 6, 7, 11] [] 0 ⟨by rw [decide_eq_true hr1]; rfl, trivial⟩ hS fun hS => ?_)
 refine cond_f hS ?_
 refine wp_skip (then_n (sA [(1, .call ⟨42, (c_part root (ByteArray.mk #[112, 97, 105, 114])), [], []⟩), (5, .call ⟨42, (c_part root (ByteArray.mk #[109, 105, 120])), [], []⟩)] ⟨part_ok _ _ lnn (by decide), part_ok _ _ lnn (by decide), trivial⟩ (fun C => [ndC C 1, ndC C 5]) [0, 1, 2, 6, 7, 8] [0] 1 ⟨rfl, rfl, trivial⟩ hS fun hS => ?_))
 refine sA [(2, .call ⟨42, (c_part root (ByteArray.mk #[102, 105, 114, 115, 116])), [], []⟩), (3, .call ⟨43, (c_cnew (part_m root (ByteArray.mk #[102, 105, 114, 115, 116]))), [], [(0, 1)]⟩)] ⟨part_ok _ _ lnn (by decide), cnew_ok _ lnn, trivial⟩ (fun C => [ndC C 2, ndC C 3]) [0, 1, 2, 6, 7, 8] [0, 1] 2 ⟨rfl, rfl, trivial⟩ hS fun hS => ?_
 refine sA [(2, .call ⟨42, (c_part root (ByteArray.mk #[111, 116, 104, 101, 114])), [], []⟩), (3, .call ⟨43, (c_cnew (part_m root (ByteArray.mk #[111, 116, 104, 101, 114]))), [], [(0, 2)]⟩)] ⟨part_ok _ _ lnn (by decide), cnew_ok _ lnn, trivial⟩ (fun C => [ndC C 2, ndC C 3]) [1, 2, 6, 7, 8] [0, 1, 2] 3 ⟨rfl, rfl, trivial⟩ hS fun hS => ?_
 refine wp_seq (s0 [1, 2, 6, 7, 8, 40] [0, 1, 2] 3 hS fun hS => ?_)
 refine if_y (!fi) hS (fun h1 => ?_) (fun h1 => ?_)
 ·refine r0 [1, 2, 6, 7, 8] [0, 1, 2] 3 hS fun hS => ?_
  refine then_n (wp_seq (s0 [1, 6, 7, 8, 55] [0, 1, 2] 3 hS fun hS => ?_))
  refine cond_f hS ?_
  refine wp_skip (then_n (s0 [6, 7] [0, 1, 2] 3 hS fun hS => ?_))
  refine wp_ret ?_
  have hM : snew_m root fi = (part_m root (ByteArray.mk #[112, 97, 105, 114]), part_m root (ByteArray.mk #[111, 116, 104, 101, 114]), part_m root (ByteArray.mk #[102, 105, 114, 115, 116]), [part_m root (ByteArray.mk #[109, 105, 120])]) := (snew_e root fi).trans (if_pos h1)
  obtain ⟨gs, hS⟩ := hS.rn [(0, 0), (1, 2), (2, 1)] [(6, .cp 0 0), (7, vi 0)] [(0, .ob 80 (chain [lb (part_m root (ByteArray.mk #[112, 97, 105, 114])), .v (.bool fi), .v (.bool false), .cp 1 0, .cp 2 0, .v (.pointer none), vi 0, .ls true [.sl (.int .u8)] [part_m root (ByteArray.mk #[109, 105, 120])], vi 0, vi 0, .v (.slice none 0 0)])), (1, .ob 122 (chain [lb (part_m root (ByteArray.mk #[111, 116, 104, 101, 114])), vi 0])), (2, .ob 122 (chain [lb (part_m root (ByteArray.mk #[102, 105, 114, 115, 116])), vi 0]))] 3 hg0
  exact fin_y rfl (.inr rfl) hS [.cp 0 0, vi 0] [(0, some (.ob 80 (chain [lb (part_m root (ByteArray.mk #[112, 97, 105, 114])), .v (.bool fi), .v (.bool false), .cp 1 0, .cp 2 0, .v (.pointer none), vi 0, .ls true [.sl (.int .u8)] [part_m root (ByteArray.mk #[109, 105, 120])], vi 0, vi 0, .v (.slice none 0 0)]))), (1, some (.ob 122 (chain [lb (part_m root (ByteArray.mk #[111, 116, 104, 101, 114])), vi 0]))), (2, some (.ob 122 (chain [lb (part_m root (ByteArray.mk #[102, 105, 114, 115, 116])), vi 0])))] rfl (by show H1Ok _ [(0, .ob 80 (chain [lb ((snew_m root fi).1), .v (.bool fi), .v (.bool false), .cp 1 0, .cp 2 0, .v (.pointer none), vi 0, .ls true [.sl (.int .u8)] ((snew_m root fi).2.2.2), vi 0, vi 0, .v (.slice none 0 0)])), (1, .ob 122 (chain [lb ((snew_m root fi).2.1), vi 0])), (2, .ob 122 (chain [lb ((snew_m root fi).2.2.1), vi 0]))] true; rw [hM]; first | (simp only []; exact ⟨rfl, rfl, rfl, trivial⟩) | exact ⟨rfl, rfl, rfl, trivial⟩)
 ·refine wp_skip (then_n (wp_seq (s0 [1, 6, 7, 8, 55] [0, 1, 2] 3 hS fun hS => ?_)))
  refine cond_f hS ?_
  refine wp_skip (then_n (s0 [6, 7] [0, 1, 2] 3 hS fun hS => ?_))
  refine wp_ret ?_
  have hM : snew_m root fi = (part_m root (ByteArray.mk #[112, 97, 105, 114]), part_m root (ByteArray.mk #[102, 105, 114, 115, 116]), part_m root (ByteArray.mk #[111, 116, 104, 101, 114]), [part_m root (ByteArray.mk #[109, 105, 120])]) := (snew_e root fi).trans (if_neg (bne_t h1))
  exact fin_y rfl (.inr rfl) hS [.cp 0 0, vi 0] [(0, some (.ob 80 (chain [lb (part_m root (ByteArray.mk #[112, 97, 105, 114])), .v (.bool fi), .v (.bool false), .cp 1 0, .cp 2 0, .v (.pointer none), vi 0, .ls true [.sl (.int .u8)] [part_m root (ByteArray.mk #[109, 105, 120])], vi 0, vi 0, .v (.slice none 0 0)]))), (1, some (.ob 122 (chain [lb (part_m root (ByteArray.mk #[102, 105, 114, 115, 116])), vi 0]))), (2, some (.ob 122 (chain [lb (part_m root (ByteArray.mk #[111, 116, 104, 101, 114])), vi 0])))] rfl (by show H1Ok _ [(0, .ob 80 (chain [lb ((snew_m root fi).1), .v (.bool fi), .v (.bool false), .cp 1 0, .cp 2 0, .v (.pointer none), vi 0, .ls true [.sl (.int .u8)] ((snew_m root fi).2.2.2), vi 0, vi 0, .v (.slice none 0 0)])), (1, .ob 122 (chain [lb ((snew_m root fi).2.1), vi 0])), (2, .ob 122 (chain [lb ((snew_m root fi).2.2.1), vi 0]))] true; rw [hM]; first | (simp only []; exact ⟨rfl, rfl, rfl, trivial⟩) | exact ⟨rfl, rfl, rfl, trivial⟩)

def c_ssent (id : List Int) (fi : Bool) (ok : List Int) (oi : Nat) (ik : List Int) (ii low : Nat) (mx : List (List Int)) (last told : Nat) (kl : List KR) : Con := ⟨[.cp 0 0], [(0, .ob 80 (chain [lb id, .v (.bool fi), .v (.bool false), .cp 1 0, .cp 2 0, .v (.pointer none), vi (low : Int), .ls false [.sl (.int .u8)] mx, vi (last : Int), vi (told : Int), .ls false [.int .i64, .int .i64, .sl (.sl (.int .u8))] kl])), (1, .ob 122 (chain [lb ok, vi (oi : Int)])), (2, .ob 122 (chain [lb ik, vi (ii : Int)]))], vi (oi : Int), [(0, .ob 80 (chain [lb id, .v (.bool fi), .v (.bool false), .cp 1 0, .cp 2 0, .v (.pointer none), vi (low : Int), .ls false [.sl (.int .u8)] mx, vi (last : Int), vi (told : Int), .ls false [.int .i64, .int .i64, .sl (.sl (.int .u8))] kl])), (1, .ob 122 (chain [lb ok, vi (oi : Int)])), (2, .ob 122 (chain [lb ik, vi (ii : Int)]))]⟩
theorem ssent_ok (id : List Int) (fi : Bool) (ok : List Int) (oi : Nat) (ik : List Int) (ii low : Nat) (mx : List (List Int)) (last told : Nat) (kl : List KR) : ConOk Tryz.prog 32 (c_ssent id fi ok oi ik ii low mx last told kl) := by
 refine conOk_of rfl (nb := 3) Tryz.func32 rfl rfl Tryz.ntmps32 rfl rfl rfl fun g0 w0 ac gs ws hg0 hS => ?_
 have hS := hS.sp
 refine s0 [0, 2] [0, 1, 2] 3 hS fun hS => ?_
 refine wp_seq (sC [(1, ⟨36, (c_snoner), [], []⟩, [0, 1])] ⟨snoner_ok, trivial⟩ [] [] trivial (fun _ => [([.im (chain [.top, .top, .top, .im (chain []) 0, .top, .top, .top, .top, .top, .top, .top]) 0] : List D) = [.im (chain [.top, .top, .top, .im (chain []) 0, .top, .top, .top, .top, .top, .top, .top]) 0]]) [0, 2, 4] [0, 1, 2] 3 ⟨rfl, trivial⟩ hS fun hS => ?_)
 refine cond_f hS ?_
 refine wp_skip (then_n (sA [(4, .call ⟨40, (c_cindex ok oi), [(0, 1)], []⟩)] ⟨cindex_ok _ _, trivial⟩ (fun C => [ndC C 4]) [2] [0, 1, 2] 3 ⟨rfl, trivial⟩ hS fun hS => ?_))
 refine wp_ret ?_
 exact fin_y rfl (.inr rfl) hS [vi (oi : Int)] [(0, some (.ob 80 (chain [lb id, .v (.bool fi), .v (.bool false), .cp 1 0, .cp 2 0, .v (.pointer none), vi (low : Int), .ls false [.sl (.int .u8)] mx, vi (last : Int), vi (told : Int), .ls false [.int .i64, .int .i64, .sl (.sl (.int .u8))] kl]))), (1, some (.ob 122 (chain [lb ok, vi (oi : Int)]))), (2, some (.ob 122 (chain [lb ik, vi (ii : Int)])))] rfl ⟨rfl, rfl, rfl, trivial⟩

def c_snext (id : List Int) (fi : Bool) (ok : List Int) (oi : Nat) (ik : List Int) (ii low : Nat) (mx : List (List Int)) (last told : Nat) (kl : List KR) : Con := ⟨[.cp 0 0], [(0, .ob 80 (chain [lb id, .v (.bool fi), .v (.bool false), .cp 1 0, .cp 2 0, .v (.pointer none), vi (low : Int), .ls false [.sl (.int .u8)] mx, vi (last : Int), vi (told : Int), .ls false [.int .i64, .int .i64, .sl (.sl (.int .u8))] kl])), (1, .ob 122 (chain [lb ok, vi (oi : Int)])), (2, .ob 122 (chain [lb ik, vi (ii : Int)]))], vi (ii : Int), [(0, .ob 80 (chain [lb id, .v (.bool fi), .v (.bool false), .cp 1 0, .cp 2 0, .v (.pointer none), vi (low : Int), .ls false [.sl (.int .u8)] mx, vi (last : Int), vi (told : Int), .ls false [.int .i64, .int .i64, .sl (.sl (.int .u8))] kl])), (1, .ob 122 (chain [lb ok, vi (oi : Int)])), (2, .ob 122 (chain [lb ik, vi (ii : Int)]))]⟩
theorem snext_ok (id : List Int) (fi : Bool) (ok : List Int) (oi : Nat) (ik : List Int) (ii low : Nat) (mx : List (List Int)) (last told : Nat) (kl : List KR) : ConOk Tryz.prog 20 (c_snext id fi ok oi ik ii low mx last told kl) := by
 refine conOk_of rfl (nb := 3) Tryz.func20 rfl rfl Tryz.ntmps20 rfl rfl rfl fun g0 w0 ac gs ws hg0 hS => ?_
 have hS := hS.sp
 refine s0 [0, 2] [0, 1, 2] 3 hS fun hS => ?_
 refine wp_seq (sC [(1, ⟨36, (c_snoner), [], []⟩, [0, 1])] ⟨snoner_ok, trivial⟩ [] [] trivial (fun _ => [([.im (chain [.top, .top, .top, .im (chain []) 0, .top, .top, .top, .top, .top, .top, .top]) 0] : List D) = [.im (chain [.top, .top, .top, .im (chain []) 0, .top, .top, .top, .top, .top, .top, .top]) 0]]) [0, 2, 4] [0, 1, 2] 3 ⟨rfl, trivial⟩ hS fun hS => ?_)
 refine cond_f hS ?_
 refine wp_skip (then_n (sA [(4, .call ⟨40, (c_cindex ik ii), [(0, 2)], []⟩)] ⟨cindex_ok _ _, trivial⟩ (fun C => [ndC C 4]) [2] [0, 1, 2] 3 ⟨rfl, trivial⟩ hS fun hS => ?_))
 refine wp_ret ?_
 exact fin_y rfl (.inr rfl) hS [vi (ii : Int)] [(0, some (.ob 80 (chain [lb id, .v (.bool fi), .v (.bool false), .cp 1 0, .cp 2 0, .v (.pointer none), vi (low : Int), .ls false [.sl (.int .u8)] mx, vi (last : Int), vi (told : Int), .ls false [.int .i64, .int .i64, .sl (.sl (.int .u8))] kl]))), (1, some (.ob 122 (chain [lb ok, vi (oi : Int)]))), (2, some (.ob 122 (chain [lb ik, vi (ii : Int)])))] rfl ⟨rfl, rfl, rfl, trivial⟩

end
end Go.Sx.Tryz
