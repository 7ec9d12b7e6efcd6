/- General lemmas, walks. -/
import Derived.Test.YtmkplecnmklbfaaJ5PLost
set_option maxRecDepth 100000
set_option maxHeartbeats 1000000
set_option linter.unusedSimpArgs false
set_option linter.unusedVariables false
set_option linter.unnecessarySimpa false
set_option linter.unusedSectionVars false
namespace Go.Sx.Try
open Go.Mi Go.RowKit Go.Sx Go.Proofs
noncomputable section
theorem cntb {ln sz : Nat} (h : 1 ≤ ln ∧ ln ≤ 10000) (hz : 1 ≤ sz) : 1 ≤ (ln + sz - 1) / sz ∧ (ln + sz - 1) / sz ≤ 10000 :=
 ⟨(Nat.le_div_iff_mul_le omm).2 omm, Nat.le_trans (cnt_le hz) h.2⟩
def c_emptyg (sz ep : Nat) : Con := ⟨[.cp 0 0, vi (ep : Int)], [(0, .ob 77 (chain [vi (sz : Int), vi 1, vi 0, vi 0, .v (.slice none 0 0), .v (.slice none 0 0), .v (.pointer none), .v (.slice none 0 0)]))], .cp 1 0, [(0, .ob 77 (chain [vi (sz : Int), vi 1, vi 0, vi 0, .v (.slice none 0 0), .v (.slice none 0 0), .v (.pointer none), .v (.slice none 0 0)])), (1, .ob 135 (chain [vi ((((2 * ep) + 1) : Nat) : Int), vi (sz : Int), vi 1088, .sk 2])), (2, .sl 22 [.os (.int .u8)] (List.replicate (((1088 + sz) - 1) / sz) none))]⟩
theorem emptyg_ok (sz ep : Nat) (hz : 1 ≤ sz ∧ sz ≤ 1000) (he : ep ≤ 500000000) : ConOk Try.prog 80 (c_emptyg sz ep) := by
 refine conOk_of rfl (nb := 1) Try.func80 rfl rfl Try.ntmps80 rfl rfl rfl fun g0 w0 ac gs ws hg0 hS => ?_
 have hS := hS.sp
 refine v0 [0, 1, 4] [0] 1 hS fun hS => ?_
 refine vA [(1, .oi ((2 * ep : Nat) : Int))] trivial (fun _ => [imul .i64 2 (ep : Int) = ((2 * ep : Nat) : Int)]) [0, 1, 4, 5, 6] [0] 1 ⟨by rw [imul64 omm omm]; omega, trivial⟩ hS fun hS => ?_
 refine wp_seq (v0 [0, 1, 4, 5, 6, 15] [0] 1 hS fun hS => ?_)
 refine cond_t hS ?_
 refine uA [(1, .oi ((2 * ep : Nat) : Int)), (2, .oi (((2 * ep) + 1 : Nat) : Int))] trivial (fun _ => [imul .i64 2 (ep : Int) = ((2 * ep : Nat) : Int), iadd .i64 ((2 * ep : Nat) : Int) 1 = (((2 * ep) + 1 : Nat) : Int)]) [0, 4, 5, 6] [0] 1 ⟨by rw [imul64 omm omm]; omega, by rw [iadd64 omm omm]; omega, trivial⟩ hS fun hS => ?_
 refine then_n (wp_seq ?_)
 have hcb := cntb (ln := 1088) (sz := sz) (by decide) hz.1
 refine uA [(6, .oi ((1088 + sz : Nat) : Int)), (7, .oi (((1088 + sz) - 1 : Nat) : Int)), (12, .oi ((((1088 + sz) - 1) / sz : Nat) : Int)), (18, .call ⟨103, (c_bnew ((2 * ep) + 1) (((1088 + sz) - 1) / sz) sz 1088), [], [(0, 1), (1, 2)]⟩)] ⟨bnew_ok _ _ _ _ omm omm, trivial⟩ (fun C => [iadd .i64 1088 (sz : Int) = ((1088 + sz : Nat) : Int), isub .i64 ((1088 + sz : Nat) : Int) 1 = (((1088 + sz) - 1 : Nat) : Int), iquo .i64 (((1088 + sz) - 1 : Nat) : Int) (sz : Int) = ((((1088 + sz) - 1) / sz : Nat) : Int), ((sz : Int) : Int) ≠ 0, ndC C 18]) [4, 7] [0, 1, 2] 3 ⟨by rw [iadd64 omm omm]; omega, by rw [isub64 omm omm]; omega, by rw [iquo64 omm omm omm]; exact (Int.natCast_ediv _ _).symm, by omega, rfl, trivial⟩ hS fun hS => ?_
 refine then_n (v0 [4] [0, 1, 2] 3 hS fun hS => ?_)
 refine wp_ret ?_
 exact fin_y rfl (.inr rfl) hS [.cp 1 0] [(0, some (.ob 77 (chain [vi (sz : Int), vi 1, vi 0, vi 0, .v (.slice none 0 0), .v (.slice none 0 0), .v (.pointer none), .v (.slice none 0 0)]))), (1, some (.ob 135 (chain [vi ((((2 * ep) + 1) : Nat) : Int), vi (sz : Int), vi 1088, .sk 2]))), (2, some (.sl 22 [.os (.int .u8)] (List.replicate (((1088 + sz) - 1) / sz) none)))] rfl ⟨rfl, rfl, rfl, trivial⟩

def c_emptyt (sz ep : Nat) : Con := ⟨[.cp 0 0, vi (ep : Int)], [(0, .ob 77 (chain [vi (sz : Int), vi 2, vi 0, vi 0, .v (.slice none 0 0), .v (.slice none 0 0), .v (.pointer none), .v (.slice none 0 0)]))], .cp 1 0, [(0, .ob 77 (chain [vi (sz : Int), vi 2, vi 0, vi 0, .v (.slice none 0 0), .v (.slice none 0 0), .v (.pointer none), .v (.slice none 0 0)])), (1, .ob 135 (chain [vi (((2 * ep) : Nat) : Int), vi (sz : Int), vi 1184, .sk 2])), (2, .sl 22 [.os (.int .u8)] (List.replicate (((1184 + sz) - 1) / sz) none))]⟩
theorem emptyt_ok (sz ep : Nat) (hz : 1 ≤ sz ∧ sz ≤ 1000) (he : ep ≤ 500000000) : ConOk Try.prog 80 (c_emptyt sz ep) := by
 refine conOk_of rfl (nb := 1) Try.func80 rfl rfl Try.ntmps80 rfl rfl rfl fun g0 w0 ac gs ws hg0 hS => ?_
 have hS := hS.sp
 refine v0 [0, 1, 4] [0] 1 hS fun hS => ?_
 refine vA [(1, .oi ((2 * ep : Nat) : Int))] trivial (fun _ => [imul .i64 2 (ep : Int) = ((2 * ep : Nat) : Int)]) [0, 1, 4, 5, 6] [0] 1 ⟨by rw [imul64 omm omm]; omega, trivial⟩ hS fun hS => ?_
 refine wp_seq (v0 [0, 1, 4, 5, 6, 15] [0] 1 hS fun hS => ?_)
 refine cond_f hS ?_
 refine wp_skip (then_n (wp_seq ?_))
 have hcb := cntb (ln := 1184) (sz := sz) (by decide) hz.1
 refine uA [(6, .oi ((1184 + sz : Nat) : Int)), (7, .oi (((1184 + sz) - 1 : Nat) : Int)), (12, .oi ((((1184 + sz) - 1) / sz : Nat) : Int)), (18, .call ⟨103, (c_bnew (2 * ep) (((1184 + sz) - 1) / sz) sz 1184), [], [(0, 1), (1, 2)]⟩)] ⟨bnew_ok _ _ _ _ omm omm, trivial⟩ (fun C => [iadd .i64 1184 (sz : Int) = ((1184 + sz : Nat) : Int), isub .i64 ((1184 + sz : Nat) : Int) 1 = (((1184 + sz) - 1 : Nat) : Int), iquo .i64 (((1184 + sz) - 1 : Nat) : Int) (sz : Int) = ((((1184 + sz) - 1) / sz : Nat) : Int), ((sz : Int) : Int) ≠ 0, ndC C 18]) [4, 7] [0, 1, 2] 3 ⟨by rw [iadd64 omm omm]; omega, by rw [isub64 omm omm]; omega, by rw [iquo64 omm omm omm]; exact (Int.natCast_ediv _ _).symm, by omega, rfl, trivial⟩ hS fun hS => ?_
 refine then_n (v0 [4] [0, 1, 2] 3 hS fun hS => ?_)
 refine wp_ret ?_
 exact fin_y rfl (.inr rfl) hS [.cp 1 0] [(0, some (.ob 77 (chain [vi (sz : Int), vi 2, vi 0, vi 0, .v (.slice none 0 0), .v (.slice none 0 0), .v (.pointer none), .v (.slice none 0 0)]))), (1, some (.ob 135 (chain [vi (((2 * ep) : Nat) : Int), vi (sz : Int), vi 1184, .sk 2]))), (2, some (.sl 22 [.os (.int .u8)] (List.replicate (((1184 + sz) - 1) / sz) none)))] rfl ⟨rfl, rfl, rfl, trivial⟩

def c_freshg (sz ep : Nat) : Con := ⟨[.cp 0 0, vi (ep : Int)], [(0, .ob 77 (chain [vi (sz : Int), vi 1, vi 0, vi 0, .v (.slice none 0 0), .v (.slice none 0 0), .v (.pointer none), .v (.slice none 0 0)]))], .cp 0 0, [(0, .ob 77 (chain [vi (sz : Int), vi 1, vi (ep : Int), vi 0, .v (.slice none 0 0), .v (.slice none 0 0), .cp 1 0, .v (.slice none 0 0)])), (1, .ob 135 (chain [vi ((((2 * ep) + 1) : Nat) : Int), vi (sz : Int), vi 1088, .sk 2])), (2, .sl 22 [.os (.int .u8)] (List.replicate (((1088 + sz) - 1) / sz) none))]⟩
theorem freshg_ok (sz ep : Nat) (hz : 1 ≤ sz ∧ sz ≤ 1000) (he : ep ≤ 500000000) : ConOk Try.prog 48 (c_freshg sz ep) := by
 refine conOk_of rfl (nb := 1) Try.func48 rfl rfl Try.ntmps48 rfl rfl rfl fun g0 w0 ac gs ws hg0 hS => ?_
 have hS := hS.sp
 refine v0 [0, 1, 4] [0] 1 hS fun hS => ?_
 refine vA [(8, .call ⟨80, (c_emptyg sz ep), [(0, 0)], [(1, 1), (2, 2)]⟩)] ⟨emptyg_ok _ _ omm omm, trivial⟩ (fun C => [ndC C 8]) [0, 4] [0, 1, 2] 3 ⟨rfl, trivial⟩ hS fun hS => ?_
 refine v0 [4] [0, 1, 2] 3 hS fun hS => ?_
 refine wp_ret ?_
 exact fin_y rfl (.inr rfl) hS [.cp 0 0] [(0, some (.ob 77 (chain [vi (sz : Int), vi 1, vi (ep : Int), vi 0, .v (.slice none 0 0), .v (.slice none 0 0), .cp 1 0, .v (.slice none 0 0)]))), (1, some (.ob 135 (chain [vi ((((2 * ep) + 1) : Nat) : Int), vi (sz : Int), vi 1088, .sk 2]))), (2, some (.sl 22 [.os (.int .u8)] (List.replicate (((1088 + sz) - 1) / sz) none)))] rfl ⟨rfl, rfl, rfl, trivial⟩

def c_fresht (sz ep : Nat) : Con := ⟨[.cp 0 0, vi (ep : Int)], [(0, .ob 77 (chain [vi (sz : Int), vi 2, vi 0, vi 0, .v (.slice none 0 0), .v (.slice none 0 0), .v (.pointer none), .v (.slice none 0 0)]))], .cp 0 0, [(0, .ob 77 (chain [vi (sz : Int), vi 2, vi (ep : Int), vi 0, .v (.slice none 0 0), .v (.slice none 0 0), .cp 1 0, .v (.slice none 0 0)])), (1, .ob 135 (chain [vi (((2 * ep) : Nat) : Int), vi (sz : Int), vi 1184, .sk 2])), (2, .sl 22 [.os (.int .u8)] (List.replicate (((1184 + sz) - 1) / sz) none))]⟩
theorem fresht_ok (sz ep : Nat) (hz : 1 ≤ sz ∧ sz ≤ 1000) (he : ep ≤ 500000000) : ConOk Try.prog 48 (c_fresht sz ep) := by
 refine conOk_of rfl (nb := 1) Try.func48 rfl rfl Try.ntmps48 rfl rfl rfl fun g0 w0 ac gs ws hg0 hS => ?_
 have hS := hS.sp
 refine v0 [0, 1, 4] [0] 1 hS fun hS => ?_
 refine vA [(8, .call ⟨80, (c_emptyt sz ep), [(0, 0)], [(1, 1), (2, 2)]⟩)] ⟨emptyt_ok _ _ omm omm, trivial⟩ (fun C => [ndC C 8]) [0, 4] [0, 1, 2] 3 ⟨rfl, trivial⟩ hS fun hS => ?_
 refine v0 [4] [0, 1, 2] 3 hS fun hS => ?_
 refine wp_ret ?_
 exact fin_y rfl (.inr rfl) hS [.cp 0 0] [(0, some (.ob 77 (chain [vi (sz : Int), vi 2, vi (ep : Int), vi 0, .v (.slice none 0 0), .v (.slice none 0 0), .cp 1 0, .v (.slice none 0 0)]))), (1, some (.ob 135 (chain [vi (((2 * ep) : Nat) : Int), vi (sz : Int), vi 1184, .sk 2]))), (2, some (.sl 22 [.os (.int .u8)] (List.replicate (((1184 + sz) - 1) / sz) none)))] rfl ⟨rfl, rfl, rfl, trivial⟩

def c_newg (sz : Nat) : Con := ⟨[.v (.bool true), vi (sz : Int)], [], .tu (chain [.cp 0 0, vi 0]), [(0, .ob 77 (chain [vi (sz : Int), vi 1, vi 0, vi 0, .v (.slice none 0 0), .v (.slice none 0 0), .cp 1 0, .v (.slice none 0 0)])), (1, .ob 135 (chain [vi ((((2 * 0) + 1) : Nat) : Int), vi (sz : Int), vi 1088, .sk 2])), (2, .sl 22 [.os (.int .u8)] (List.replicate (((1088 + sz) - 1) / sz) none))]⟩
theorem newg_ok (sz : Nat) (hz : 10 ≤ sz ∧ sz ≤ 1000) : ConOk Try.prog 17 (c_newg sz) := by
 refine conOk_of rfl (nb := 0) Try.func17 rfl rfl Try.ntmps17 rfl rfl rfl fun g0 w0 ac gs ws hg0 hS => ?_
 have hS := hS.sp
 have hs1 : ¬ (sz : Int) < 10 := omm
 have hs2 : ¬ (1000 : Int) < (sz : Int) := omm
 refine v0 [0, 1, 4, 5] [] 0 hS fun hS => ?_
 refine wp_seq (vA [(1, .ob false), (4, .ob false)] trivial (fun _ => [(decide ((sz : Int) < 10)) = false, (decide ((1000 : Int) < (sz : Int))) = false]) [0, 1, 4, 5, 12] [] 0 ⟨decide_eq_false hs1, decide_eq_false hs2, trivial⟩ hS fun hS => ?_)
 refine cond_f hS ?_
 refine wp_skip (then_n (v0 [0, 4, 5, 6] [0] 1 hS fun hS => ?_))
 refine wp_seq (v0 [4, 5, 6, 16] [0] 1 hS fun hS => ?_)
 refine cond_t hS ?_
 refine u0 [4, 5, 6] [0] 1 hS fun hS => ?_
 refine then_n (vA [(1, .call ⟨48, (c_freshg sz 0), [(0, 0)], [(1, 1), (2, 2)]⟩)] ⟨freshg_ok _ _ omm omm, trivial⟩ (fun C => [ndC C 1]) [4, 5] [0, 1, 2] 3 ⟨rfl, trivial⟩ hS fun hS => ?_)
 refine wp_ret ?_
 exact fin_y rfl (.inr rfl) hS [.cp 0 0, vi 0] [(0, some (.ob 77 (chain [vi (sz : Int), vi 1, vi 0, vi 0, .v (.slice none 0 0), .v (.slice none 0 0), .cp 1 0, .v (.slice none 0 0)]))), (1, some (.ob 135 (chain [vi ((((2 * 0) + 1) : Nat) : Int), vi (sz : Int), vi 1088, .sk 2]))), (2, some (.sl 22 [.os (.int .u8)] (List.replicate (((1088 + sz) - 1) / sz) none)))] rfl ⟨rfl, rfl, rfl, trivial⟩

def c_newt (sz : Nat) : Con := ⟨[.v (.bool false), vi (sz : Int)], [], .tu (chain [.cp 0 0, vi 0]), [(0, .ob 77 (chain [vi (sz : Int), vi 2, vi 0, vi 0, .v (.slice none 0 0), .v (.slice none 0 0), .cp 1 0, .v (.slice none 0 0)])), (1, .ob 135 (chain [vi (((2 * 0) : Nat) : Int), vi (sz : Int), vi 1184, .sk 2])), (2, .sl 22 [.os (.int .u8)] (List.replicate (((1184 + sz) - 1) / sz) none))]⟩
theorem newt_ok (sz : Nat) (hz : 10 ≤ sz ∧ sz ≤ 1000) : ConOk Try.prog 17 (c_newt sz) := by
 refine conOk_of rfl (nb := 0) Try.func17 rfl rfl Try.ntmps17 rfl rfl rfl fun g0 w0 ac gs ws hg0 hS => ?_
 have hS := hS.sp
 have hs1 : ¬ (sz : Int) < 10 := omm
 have hs2 : ¬ (1000 : Int) < (sz : Int) := omm
 refine v0 [0, 1, 4, 5] [] 0 hS fun hS => ?_
 refine wp_seq (vA [(1, .ob false), (4, .ob false)] trivial (fun _ => [(decide ((sz : Int) < 10)) = false, (decide ((1000 : Int) < (sz : Int))) = false]) [0, 1, 4, 5, 12] [] 0 ⟨decide_eq_false hs1, decide_eq_false hs2, trivial⟩ hS fun hS => ?_)
 refine cond_f hS ?_
 refine wp_skip (then_n (v0 [0, 4, 5, 6] [0] 1 hS fun hS => ?_))
 refine wp_seq (v0 [4, 5, 6, 16] [0] 1 hS fun hS => ?_)
 refine cond_f hS ?_
 refine wp_skip (then_n (vA [(1, .call ⟨48, (c_fresht sz 0), [(0, 0)], [(1, 1), (2, 2)]⟩)] ⟨fresht_ok _ _ omm omm, trivial⟩ (fun C => [ndC C 1]) [4, 5] [0, 1, 2] 3 ⟨rfl, trivial⟩ hS fun hS => ?_))
 refine wp_ret ?_
 exact fin_y rfl (.inr rfl) hS [.cp 0 0, vi 0] [(0, some (.ob 77 (chain [vi (sz : Int), vi 2, vi 0, vi 0, .v (.slice none 0 0), .v (.slice none 0 0), .cp 1 0, .v (.slice none 0 0)]))), (1, some (.ob 135 (chain [vi (((2 * 0) : Nat) : Int), vi (sz : Int), vi 1184, .sk 2]))), (2, some (.sl 22 [.os (.int .u8)] (List.replicate (((1184 + sz) - 1) / sz) none)))] rfl ⟨rfl, rfl, rfl, trivial⟩

def c_newbad (b : Bool) (sz : Nat) : Con := ⟨[.v (.bool b), vi (sz : Int)], [], .tu (chain [.v (.pointer none), vi 1]), []⟩
theorem newbad_ok (b : Bool) (sz : Nat) (hz : sz < 10) : ConOk Try.prog 17 (c_newbad b sz) := by
 refine conOk_of rfl (nb := 0) Try.func17 rfl rfl Try.ntmps17 rfl rfl rfl fun g0 w0 ac gs ws hg0 hS => ?_
 have hS := hS.sp
 have hs1 : (sz : Int) < 10 := omm
 refine s0 [0, 1, 4, 5] [] 0 hS fun hS => ?_
 refine wp_seq (sA [(1, .ob true)] trivial (fun _ => [(decide ((sz : Int) < 10)) = true]) [0, 1, 4, 5, 12] [] 0 ⟨decide_eq_true hs1, trivial⟩ hS fun hS => ?_)
 refine cond_t hS ?_
 refine s0 [0, 1, 4, 5] [] 0 hS fun hS => ?_
 refine wp_ret (then_ret ?_)
 exact fin_y rfl (.inr rfl) hS [.v (.pointer none), vi 1] [] rfl trivial

theorem gD_at {l : List PcR} {j : Nat} {x : PcR} (z : PcR) (h : l[j]? = some x) : l.getD j z = x := by
 rw [List.getD_eq_getElem?_getD, h]; rfl
theorem pcs_at (id : Nat) (xs : List Int) (sz n j : Nat) (hj : j < n) : (pcs id xs sz (List.range n))[j]? = some ((id : Int), (j : Int), (0 : Int), (xs.drop (j * sz)).take sz) := by
 unfold pcs
 rw [List.getElem?_eq_getElem (by rw [List.length_mapIdx, List.length_range]; exact hj), List.getElem_mapIdx, List.getElem_range]
theorem spl_at (id : Nat) (xs : List Int) (sz : Nat) : ∀ i, (split_l1 id xs sz i).length = (xs.length + sz - 1) / sz ∧ ∀ j, j < (xs.length + sz - 1) / sz → (split_l1 id xs sz i)[j]? = some ((id : Int), ((j : Nat) : Int), ((if j < i then (xs.length + sz - 1) / sz else 0 : Nat) : Int), (xs.drop (j * sz)).take sz)
 | 0 => ⟨by show (pcs ..).length = _; rw [pcs_len, List.length_range], fun j hj => by
   rw [if_neg (Nat.not_lt_zero j)]
   exact pcs_at id xs sz _ j hj⟩
 | i + 1 => by
  obtain ⟨h1, h2⟩ := spl_at id xs sz i
  have e : ∃ v : PcR, split_l1 id xs sz (i + 1) = (split_l1 id xs sz i).set i v ∧ ∀ x : PcR, (split_l1 id xs sz i)[i]? = some x → v = (x.1, x.2.1, (((split_l1 id xs sz i).length : Nat) : Int), x.2.2.2) := ⟨_, rfl, fun x hx => congrArg (fun q : PcR => (q.1, q.2.1, (((split_l1 id xs sz i).length : Nat) : Int), q.2.2.2)) (gD_at _ hx)⟩
  obtain ⟨v, e, hv⟩ := e
  rw [e]
  refine ⟨by rw [List.length_set, h1], fun j hj => ?_⟩
  by_cases hji : i = j
  ·subst hji
   rw [List.getElem?_set_self (by rw [h1]; exact hj), hv _ (h2 i hj), h1, if_pos (Nat.lt_succ_self i)]
  ·rw [List.getElem?_set_ne hji, h2 j hj]
   by_cases h3 : j < i
   ·rw [if_pos h3, if_pos omm]
   ·rw [if_neg h3, if_neg omm]
theorem spl_len (id : Nat) (xs : List Int) (sz : Nat) : (split_m id xs sz).length = (xs.length + sz - 1) / sz := by
 rw [split_e]; exact (spl_at id xs sz _).1
theorem spl_row (id : Nat) (xs : List Int) (sz i : Nat) (hi : i < (split_m id xs sz).length) : (split_m id xs sz).getD i (rz [.int .i64, .int .i64, .int .i64, .sl (.int .u8)]) = ((id : Int), (i : Int), (((split_m id xs sz).length : Nat) : Int), (xs.drop (i * sz)).take sz) := by
 refine gD_at _ ?_
 rw [spl_len] at hi
 rw [spl_len, split_e]
 unfold split_v
 rw [(spl_at id xs sz _).2 i hi, if_pos (by rw [pcs_len, List.length_range]; exact hi)]
end
end Go.Sx.Try
namespace Go.Sx.Try
open Go.Mi Go.RowKit Go.Sx Go.Proofs
noncomputable section
def encB (id ai ct : Nat) (d : List Int) : List Int := numW id ++ numW ai ++ numW ct ++ numW d.length ++ d
theorem encode_y {id ai ct : Nat} {d : List Int} (h : id ≤ 1073741824 ∧ ct ≤ 1073741824 ∧ ai < ct) (hd : 1 ≤ d.length ∧ d.length ≤ 1000) : encode_m id ai ct d = (encB id ai ct d, 0) := by
 rw [encode_e]; unfold encode_v
 rw [if_pos (wB_i ⟨by omega, by omega⟩), if_pos (wB_i ⟨by omega, by omega⟩), if_pos (wB_i ⟨by omega, by omega⟩), if_neg omm, if_neg omm]
 rfl
def c_encodey (id ai ct : Nat) (d : List Int) : Con := ⟨[.ag (chain [vi (id : Int), vi (ai : Int), vi (ct : Int), lb d])], [], .tu (chain [lb (encB id ai ct d), vi 0]), []⟩
theorem encodey_ok (id ai ct : Nat) (d : List Int) (h : id ≤ 1073741824 ∧ ct ≤ 1073741824 ∧ ai < ct) (hd : 1 ≤ d.length ∧ d.length ≤ 1000) : ConOk Try.prog 51 (c_encodey id ai ct d) := by
 have h1 := encode_ok id ai ct d omm omm
 unfold c_encode at h1
 rw [encode_y h hd] at h1
 exact h1
def c_rkeys (sz ep : Nat) (at_ id ln : Nat) (bx : List (Option (List Int))) (s : List Int) : Con := ⟨[.cp 0 0, lb s], [(0, .ob 77 (chain [vi (sz : Int), vi 1, vi (ep : Int), vi (at_ : Int), .v (.slice none 0 0), .v (.slice none 0 0), .cp 1 0, .v (.slice none 0 0)])), (1, .ob 135 (chain [vi (id : Int), vi (sz : Int), vi (ln : Int), .sk 2])), (2, .sl 22 [.os (.int .u8)] bx)], .tu (chain []), [(0, .ob 77 (chain [vi (sz : Int), vi 1, vi (ep : Int), vi (at_ : Int), lb s, lb ((keys_m (s.take 32) (s.drop 32)).1), .cp 1 0, .v (.slice none 0 0)])), (1, .ob 135 (chain [vi (id : Int), vi (sz : Int), vi (ln : Int), .sk 2])), (2, .sl 22 [.os (.int .u8)] bx)]⟩
theorem rkeys_ok (sz ep : Nat) (at_ id ln : Nat) (bx : List (Option (List Int))) (s : List Int) (hs : s.length = 64) : ConOk Try.prog 49 (c_rkeys sz ep at_ id ln bx s) := by
 refine conOk_of rfl (nb := 3) Try.func49 rfl rfl Try.ntmps49 rfl rfl rfl fun g0 w0 ac gs ws hg0 hS => ?_
 have hlen1 : s.length ≤ 9223372036854775807 := hS.len 1 rfl
 have hlenk2 : bx.length ≤ 9223372036854775807 := hS.lens 2 rfl
 have hS := hS.sp
 refine vA [(2, .call ⟨81, (c_clone s), [], []⟩)] ⟨clone_ok _ lnn, trivial⟩ (fun C => [ndC C 2]) [0, 1] [0, 1, 2] 3 ⟨rfl, trivial⟩ hS fun hS => ?_
 refine uA [(5, .call ⟨14, (c_keys (s.take 32) (s.drop 32)), [], [(0, 3)]⟩)] ⟨keys_ok _ _ lnn lnn, trivial⟩ (fun C => [bndP none (some 32) none s.length s.length, bndP (some 32) none none s.length s.length, ndC C 5]) [] [0, 1, 2] 4 ⟨⟨by simp only [nnI] <;> omega, by simp only [nnI] <;> omega, by simp only [nnI] <;> omega, by simp, by simp only [bl] <;> omega, by simp only [bl] <;> omega, by simp only [bl] <;> omega⟩, ⟨by simp only [nnI] <;> omega, by simp only [nnI] <;> omega, by simp only [nnI] <;> omega, by simp, by simp only [bl] <;> omega, by simp only [bl] <;> omega, by simp only [bl] <;> omega⟩, rfl, trivial⟩ hS fun hS => ?_
 exact fin_y rfl (.inl rfl) hS [] [(0, some (.ob 77 (chain [vi (sz : Int), vi 1, vi (ep : Int), vi (at_ : Int), lb s, lb ((keys_m (s.take 32) (s.drop 32)).1), .cp 1 0, .v (.slice none 0 0)]))), (1, some (.ob 135 (chain [vi (id : Int), vi (sz : Int), vi (ln : Int), .sk 2]))), (2, some (.sl 22 [.os (.int .u8)] bx))] rfl ⟨rfl, rfl, rfl, trivial⟩

theorem spl_dl {xs : List Int} {sz i : Nat} (hz : 1 ≤ sz) (hi : i < (xs.length + sz - 1) / sz) : 1 ≤ ((xs.drop (i * sz)).take sz).length ∧ ((xs.drop (i * sz)).take sz).length ≤ sz := by
 have h := (cnt_of (len := xs.length) hz i).1 hi
 rw [List.length_take, List.length_drop]; omega
def c_outk (sz ep : Nat) (at_ id ln : Nat) (bx : List (Option (List Int))) (r : List Int) : Con := ⟨[.cp 0 0, lb r], [(0, .ob 77 (chain [vi (sz : Int), vi 1, vi (ep : Int), vi (at_ : Int), .v (.slice none 0 0), .v (.slice none 0 0), .cp 1 0, .v (.slice none 0 0)])), (1, .ob 135 (chain [vi (id : Int), vi (sz : Int), vi (ln : Int), .sk 2])), (2, .sl 22 [.os (.int .u8)] bx)], .tu (chain [lb (encB (2 * ep) (at_ % ((split_m (2 * ep) ((keys_m (r.take 32) (r.drop 32)).1) sz).length)) ((split_m (2 * ep) ((keys_m (r.take 32) (r.drop 32)).1) sz).length) ((((keys_m (r.take 32) (r.drop 32)).1).drop ((at_ % ((split_m (2 * ep) ((keys_m (r.take 32) (r.drop 32)).1) sz).length)) * sz)).take sz)), vi 0]), [(0, .ob 77 (chain [vi (sz : Int), vi 1, vi (ep : Int), vi (((at_ + 1) : Nat) : Int), lb r, lb ((keys_m (r.take 32) (r.drop 32)).1), .cp 1 0, .v (.slice none 0 0)])), (1, .ob 135 (chain [vi (id : Int), vi (sz : Int), vi (ln : Int), .sk 2])), (2, .sl 22 [.os (.int .u8)] bx)]⟩
theorem outk_ok (sz ep : Nat) (at_ id ln : Nat) (bx : List (Option (List Int))) (r : List Int) (hr : r.length = 64) (hz : 1 ≤ sz ∧ sz ≤ 1000) (he : ep ≤ 500000000) (ha : at_ ≤ 1000000000) : ConOk Try.prog 19 (c_outk sz ep at_ id ln bx r) := by
 refine conOk_of rfl (nb := 3) Try.func19 rfl rfl Try.ntmps19 rfl rfl rfl fun g0 w0 ac gs ws hg0 hS => ?_
 have hlen1 : r.length ≤ 9223372036854775807 := hS.len 1 rfl
 have hlenk2 : bx.length ≤ 9223372036854775807 := hS.lens 2 rfl
 have hS := hS.sp
 have hf1 : ¬ (sz : Int) = 0 := omm
 have hf2 : ((r.length : Nat) : Int) = 64 := omm
 refine v0 [0, 1, 4, 5] [0, 1, 2] 3 hS fun hS => ?_
 refine wp_seq (vA [(7, .ob false), (12, .ob false)] trivial (fun _ => [(decide ((sz : Int) = 0)) = false, (!decide (((r.length : Nat) : Int) = 64)) = false]) [0, 1, 4, 5, 23] [0, 1, 2] 3 ⟨decide_eq_false hf1, by rw [decide_eq_true hf2]; rfl, trivial⟩ hS fun hS => ?_)
 refine cond_f hS ?_
 refine wp_skip (then_n (vA [(4, .oi ((2 * ep : Nat) : Int))] trivial (fun _ => [imul .i64 2 (ep : Int) = ((2 * ep : Nat) : Int)]) [0, 1, 4, 5, 6] [0, 1, 2] 3 ⟨by rw [imul64 omm omm]; omega, trivial⟩ hS fun hS => ?_))
 refine wp_seq (v0 [0, 1, 4, 5, 6, 32] [0, 1, 2] 3 hS fun hS => ?_)
 refine wp_block (v0 [0, 1, 4, 5, 6, 32, 33] [0, 1, 2] 3 hS fun hS => ?_)
 refine cond_f hS ?_
 refine v0 [0, 1, 4, 5, 6, 35] [0, 1, 2] 3 hS fun hS => ?_
 refine cond_f hS ?_
 refine wp_skip (block_n (then_n (wp_seq (v0 [0, 1, 4, 5, 6, 44] [0, 1, 2] 3 hS fun hS => ?_))))
 refine cond_t hS ?_
 refine uA [(2, .call ⟨49, (c_rkeys sz ep at_ id ln bx r), [(0, 0), (1, 1), (2, 2)], []⟩)] ⟨rkeys_ok _ _ _ _ _ _ _ lnn, trivial⟩ (fun C => [ndC C 2]) [0, 4, 5, 6] [0, 1, 2] 3 ⟨rfl, trivial⟩ hS fun hS => ?_
 refine then_n (wp_seq ?_)
 have hkl := keys_len (r.take 32) (r.drop 32) (by rw [List.length_drop]; omega)
 refine uA [(9, .call ⟨50, (c_split (2 * ep) ((keys_m (r.take 32) (r.drop 32)).1) sz), [], [(0, 3)]⟩)] ⟨split_ok _ _ _ omm lnn omm, trivial⟩ (fun C => [ndC C 9]) [0, 4, 5, 7] [0, 1, 2, 3] 4 ⟨rfl, trivial⟩ hS fun hS => ?_
 refine then_n (wp_seq ?_)
 have hcb := cntb (ln := ((keys_m (r.take 32) (r.drop 32)).1).length) (sz := sz) omm omm
 have hsl := spl_len (2 * ep) ((keys_m (r.take 32) (r.drop 32)).1) sz
 have hix : at_ % (split_m (2 * ep) ((keys_m (r.take 32) (r.drop 32)).1) sz).length < (split_m (2 * ep) ((keys_m (r.take 32) (r.drop 32)).1) sz).length := Nat.mod_lt _ omm
 have hRow := spl_row (2 * ep) ((keys_m (r.take 32) (r.drop 32)).1) sz _ hix
 have hdl := spl_dl (xs := ((keys_m (r.take 32) (r.drop 32)).1)) (sz := sz) (i := at_ % (split_m (2 * ep) ((keys_m (r.take 32) (r.drop 32)).1) sz).length) omm (by rw [← hsl]; exact hix)
 refine uA [(7, .oi ((at_ % ((split_m (2 * ep) ((keys_m (r.take 32) (r.drop 32)).1) sz).length) : Nat) : Int)), (9, .ov (.ag (chain [vi ((2 * ep : Nat) : Int), vi (((at_ % ((split_m (2 * ep) ((keys_m (r.take 32) (r.drop 32)).1) sz).length)) : Nat) : Int), vi (((split_m (2 * ep) ((keys_m (r.take 32) (r.drop 32)).1) sz).length : Nat) : Int), lb ((((keys_m (r.take 32) (r.drop 32)).1).drop ((at_ % ((split_m (2 * ep) ((keys_m (r.take 32) (r.drop 32)).1) sz).length)) * sz)).take sz)])))] trivial (fun _ => [irem (at_ : Int) (((split_m (2 * ep) ((keys_m (r.take 32) (r.drop 32)).1) sz).length : Nat) : Int) = ((at_ % ((split_m (2 * ep) ((keys_m (r.take 32) (r.drop 32)).1) sz).length) : Nat) : Int), ((((split_m (2 * ep) ((keys_m (r.take 32) (r.drop 32)).1) sz).length : Nat) : Int) : Int) ≠ 0, (0 : Int) ≤ ((at_ % ((split_m (2 * ep) ((keys_m (r.take 32) (r.drop 32)).1) sz).length) : Nat) : Int) ∧ ((at_ % ((split_m (2 * ep) ((keys_m (r.take 32) (r.drop 32)).1) sz).length) : Nat) : Int) < (((split_m (2 * ep) ((keys_m (r.take 32) (r.drop 32)).1) sz).length : Nat) : Int), (.ag (chain [vi (((split_m (2 * ep) ((keys_m (r.take 32) (r.drop 32)).1) sz).getD (at_ % ((split_m (2 * ep) ((keys_m (r.take 32) (r.drop 32)).1) sz).length)) (rz [.int .i64, .int .i64, .int .i64, .sl (.int .u8)])).1), vi ((((split_m (2 * ep) ((keys_m (r.take 32) (r.drop 32)).1) sz).getD (at_ % ((split_m (2 * ep) ((keys_m (r.take 32) (r.drop 32)).1) sz).length)) (rz [.int .i64, .int .i64, .int .i64, .sl (.int .u8)])).2).1), vi (((((split_m (2 * ep) ((keys_m (r.take 32) (r.drop 32)).1) sz).getD (at_ % ((split_m (2 * ep) ((keys_m (r.take 32) (r.drop 32)).1) sz).length)) (rz [.int .i64, .int .i64, .int .i64, .sl (.int .u8)])).2).2).1), lb (((((split_m (2 * ep) ((keys_m (r.take 32) (r.drop 32)).1) sz).getD (at_ % ((split_m (2 * ep) ((keys_m (r.take 32) (r.drop 32)).1) sz).length)) (rz [.int .i64, .int .i64, .int .i64, .sl (.int .u8)])).2).2).2)]) : D) = .ag (chain [vi ((2 * ep : Nat) : Int), vi (((at_ % ((split_m (2 * ep) ((keys_m (r.take 32) (r.drop 32)).1) sz).length)) : Nat) : Int), vi (((split_m (2 * ep) ((keys_m (r.take 32) (r.drop 32)).1) sz).length : Nat) : Int), lb ((((keys_m (r.take 32) (r.drop 32)).1).drop ((at_ % ((split_m (2 * ep) ((keys_m (r.take 32) (r.drop 32)).1) sz).length)) * sz)).take sz)])]) [0, 4, 5, 9] [0, 1, 2, 4] 5 ⟨by rw [irem64 omm]; exact (Int.natCast_emod _ _).symm, by omega, by omega, (by first | (rw [hRow]; done) | (rw [hRow]; rfl)), trivial⟩ hS fun hS => ?_
 refine then_n (vA [(4, .oi ((at_ + 1 : Nat) : Int))] trivial (fun _ => [iadd .i64 (at_ : Int) 1 = ((at_ + 1 : Nat) : Int)]) [4, 5, 9] [0, 1, 2, 4] 5 ⟨by rw [iadd64 omm omm]; omega, trivial⟩ hS fun hS => ?_)
 refine vA [(1, .call ⟨51, (c_encodey (2 * ep) (at_ % ((split_m (2 * ep) ((keys_m (r.take 32) (r.drop 32)).1) sz).length)) ((split_m (2 * ep) ((keys_m (r.take 32) (r.drop 32)).1) sz).length) ((((keys_m (r.take 32) (r.drop 32)).1).drop ((at_ % ((split_m (2 * ep) ((keys_m (r.take 32) (r.drop 32)).1) sz).length)) * sz)).take sz)), [], []⟩)] ⟨encodey_ok _ _ _ _ omm omm, trivial⟩ (fun C => [ndC C 1]) [4, 5] [0, 1, 2] 5 ⟨rfl, trivial⟩ hS fun hS => ?_
 refine wp_ret ?_
 exact fin_y rfl (.inr rfl) hS [lb (encB (2 * ep) (at_ % ((split_m (2 * ep) ((keys_m (r.take 32) (r.drop 32)).1) sz).length)) ((split_m (2 * ep) ((keys_m (r.take 32) (r.drop 32)).1) sz).length) ((((keys_m (r.take 32) (r.drop 32)).1).drop ((at_ % ((split_m (2 * ep) ((keys_m (r.take 32) (r.drop 32)).1) sz).length)) * sz)).take sz)), vi 0] [(0, some (.ob 77 (chain [vi (sz : Int), vi 1, vi (ep : Int), vi ((at_ + 1 : Nat) : Int), lb r, lb ((keys_m (r.take 32) (r.drop 32)).1), .cp 1 0, .v (.slice none 0 0)]))), (1, some (.ob 135 (chain [vi (id : Int), vi (sz : Int), vi (ln : Int), .sk 2]))), (2, some (.sl 22 [.os (.int .u8)] bx))] rfl ⟨rfl, rfl, rfl, trivial⟩

def c_outt (sz ep : Nat) (at_ id ln : Nat) (bx : List (Option (List Int))) (r : List Int) : Con := ⟨[.cp 0 0, lb r], [(0, .ob 77 (chain [vi (sz : Int), vi 2, vi (ep : Int), vi (at_ : Int), .v (.slice none 0 0), .v (.slice none 0 0), .cp 1 0, .v (.slice none 0 0)])), (1, .ob 135 (chain [vi (id : Int), vi (sz : Int), vi (ln : Int), .sk 2])), (2, .sl 22 [.os (.int .u8)] bx)], .tu (chain [.v (.slice none 0 0), vi 0]), [(0, .ob 77 (chain [vi (sz : Int), vi 2, vi (ep : Int), vi (at_ : Int), .v (.slice none 0 0), .v (.slice none 0 0), .cp 1 0, .v (.slice none 0 0)])), (1, .ob 135 (chain [vi (id : Int), vi (sz : Int), vi (ln : Int), .sk 2])), (2, .sl 22 [.os (.int .u8)] bx)]⟩
theorem outt_ok (sz ep : Nat) (at_ id ln : Nat) (bx : List (Option (List Int))) (r : List Int) (hr : r.length = 64) (hz : 1 ≤ sz ∧ sz ≤ 1000) (he : ep ≤ 500000000) (ha : at_ ≤ 1000000000) : ConOk Try.prog 19 (c_outt sz ep at_ id ln bx r) := by
 refine conOk_of rfl (nb := 3) Try.func19 rfl rfl Try.ntmps19 rfl rfl rfl fun g0 w0 ac gs ws hg0 hS => ?_
 have hlen1 : r.length ≤ 9223372036854775807 := hS.len 1 rfl
 have hlenk2 : bx.length ≤ 9223372036854775807 := hS.lens 2 rfl
 have hS := hS.sp
 have hf1 : ¬ (sz : Int) = 0 := omm
 have hf2 : ((r.length : Nat) : Int) = 64 := omm
 refine v0 [0, 1, 4, 5] [0, 1, 2] 3 hS fun hS => ?_
 refine wp_seq (vA [(7, .ob false), (12, .ob false)] trivial (fun _ => [(decide ((sz : Int) = 0)) = false, (!decide (((r.length : Nat) : Int) = 64)) = false]) [0, 1, 4, 5, 23] [0, 1, 2] 3 ⟨decide_eq_false hf1, by rw [decide_eq_true hf2]; rfl, trivial⟩ hS fun hS => ?_)
 refine cond_f hS ?_
 refine wp_skip (then_n (vA [(4, .oi ((2 * ep : Nat) : Int))] trivial (fun _ => [imul .i64 2 (ep : Int) = ((2 * ep : Nat) : Int)]) [0, 1, 4, 5, 6] [0, 1, 2] 3 ⟨by rw [imul64 omm omm]; omega, trivial⟩ hS fun hS => ?_))
 refine wp_seq (v0 [0, 1, 4, 5, 6, 32] [0, 1, 2] 3 hS fun hS => ?_)
 refine wp_block (v0 [0, 1, 4, 5, 6, 32, 33] [0, 1, 2] 3 hS fun hS => ?_)
 refine cond_t hS ?_
 refine v0 [0, 1, 4, 5, 6] [0, 1, 2] 3 hS fun hS => ?_
 refine wp_ret (block_ret (then_ret ?_))
 exact fin_y rfl (.inr rfl) hS [.v (.slice none 0 0), vi 0] [(0, some (.ob 77 (chain [vi (sz : Int), vi 2, vi (ep : Int), vi (at_ : Int), .v (.slice none 0 0), .v (.slice none 0 0), .cp 1 0, .v (.slice none 0 0)]))), (1, some (.ob 135 (chain [vi (id : Int), vi (sz : Int), vi (ln : Int), .sk 2]))), (2, some (.sl 22 [.os (.int .u8)] bx))] rfl ⟨rfl, rfl, rfl, trivial⟩

def c_statet (sz ep : Nat) (at_ id ln : Nat) (bx : List (Option (List Int))) : Con := ⟨[.cp 0 0], [(0, .ob 77 (chain [vi (sz : Int), vi 2, vi (ep : Int), vi (at_ : Int), .v (.slice none 0 0), .v (.slice none 0 0), .cp 1 0, .v (.slice none 0 0)])), (1, .ob 135 (chain [vi (id : Int), vi (sz : Int), vi (ln : Int), .sk 2])), (2, .sl 22 [.os (.int .u8)] bx)], vi 2, [(0, .ob 77 (chain [vi (sz : Int), vi 2, vi (ep : Int), vi (at_ : Int), .v (.slice none 0 0), .v (.slice none 0 0), .cp 1 0, .v (.slice none 0 0)])), (1, .ob 135 (chain [vi (id : Int), vi (sz : Int), vi (ln : Int), .sk 2])), (2, .sl 22 [.os (.int .u8)] bx)]⟩
theorem statet_ok (sz ep : Nat) (at_ id ln : Nat) (bx : List (Option (List Int))) : ConOk Try.prog 18 (c_statet sz ep at_ id ln bx) := by
 refine conOk_of rfl (nb := 3) Try.func18 rfl rfl Try.ntmps18 rfl rfl rfl fun g0 w0 ac gs ws hg0 hS => ?_
 have hlenk2 : bx.length ≤ 9223372036854775807 := hS.lens 2 rfl
 have hS := hS.sp
 refine s0 [0, 2] [0, 1, 2] 3 hS fun hS => ?_
 refine wp_seq (s0 [0, 2, 4] [0, 1, 2] 3 hS fun hS => ?_)
 refine cond_f hS ?_
 refine wp_skip (then_n (s0 [2] [0, 1, 2] 3 hS fun hS => ?_))
 refine wp_ret ?_
 exact fin_y rfl (.inr rfl) hS [vi 2] [(0, some (.ob 77 (chain [vi (sz : Int), vi 2, vi (ep : Int), vi (at_ : Int), .v (.slice none 0 0), .v (.slice none 0 0), .cp 1 0, .v (.slice none 0 0)]))), (1, some (.ob 135 (chain [vi (id : Int), vi (sz : Int), vi (ln : Int), .sk 2]))), (2, some (.sl 22 [.os (.int .u8)] bx))] rfl ⟨rfl, rfl, rfl, trivial⟩

def c_inarg (sz ep : Nat) (at_ id ln : Nat) (bx : List (Option (List Int))) : Con := ⟨[.cp 0 0, .v (.slice none 0 0), .v (.slice none 0 0)], [(0, .ob 77 (chain [vi (sz : Int), vi 2, vi (ep : Int), vi (at_ : Int), .v (.slice none 0 0), .v (.slice none 0 0), .cp 1 0, .v (.slice none 0 0)])), (1, .ob 135 (chain [vi (id : Int), vi (sz : Int), vi (ln : Int), .sk 2])), (2, .sl 22 [.os (.int .u8)] bx)], vi 1, [(0, .ob 77 (chain [vi (sz : Int), vi 2, vi (ep : Int), vi (at_ : Int), .v (.slice none 0 0), .v (.slice none 0 0), .cp 1 0, .v (.slice none 0 0)])), (1, .ob 135 (chain [vi (id : Int), vi (sz : Int), vi (ln : Int), .sk 2])), (2, .sl 22 [.os (.int .u8)] bx)]⟩
theorem inarg_ok (sz ep : Nat) (at_ id ln : Nat) (bx : List (Option (List Int))) (hz : 1 ≤ sz ∧ sz ≤ 1000) : ConOk Try.prog 21 (c_inarg sz ep at_ id ln bx) := by
 refine conOk_of rfl (nb := 3) Try.func21 rfl rfl Try.ntmps21 rfl rfl rfl fun g0 w0 ac gs ws hg0 hS => ?_
 have hlenk2 : bx.length ≤ 9223372036854775807 := hS.lens 2 rfl
 have hS := hS.sp
 have hf1 : ¬ (sz : Int) = 0 := omm
 refine v0 [0, 1, 2, 6] [0, 1, 2] 3 hS fun hS => ?_
 refine wp_seq (vA [(7, .ob false)] trivial (fun _ => [(decide ((sz : Int) = 0)) = false]) [0, 1, 2, 6, 25] [0, 1, 2] 3 ⟨decide_eq_false hf1, trivial⟩ hS fun hS => ?_)
 refine cond_t hS ?_
 refine v0 [0, 1, 2, 6] [0, 1, 2] 3 hS fun hS => ?_
 refine wp_ret (then_ret ?_)
 exact fin_y rfl (.inr rfl) hS [vi 1] [(0, some (.ob 77 (chain [vi (sz : Int), vi 2, vi (ep : Int), vi (at_ : Int), .v (.slice none 0 0), .v (.slice none 0 0), .cp 1 0, .v (.slice none 0 0)]))), (1, some (.ob 135 (chain [vi (id : Int), vi (sz : Int), vi (ln : Int), .sk 2]))), (2, some (.sl 22 [.os (.int .u8)] bx))] rfl ⟨rfl, rfl, rfl, trivial⟩

def c_inbad (sz ep : Nat) (at_ id ln : Nat) (bx : List (Option (List Int))) (b r : List Int) : Con := ⟨[.cp 0 0, lb b, lb r], [(0, .ob 77 (chain [vi (sz : Int), vi 2, vi (ep : Int), vi (at_ : Int), .v (.slice none 0 0), .v (.slice none 0 0), .cp 1 0, .v (.slice none 0 0)])), (1, .ob 135 (chain [vi (id : Int), vi (sz : Int), vi (ln : Int), .sk 2])), (2, .sl 22 [.os (.int .u8)] bx)], vi ((((decode_m b).2.2.2.2) : Nat) : Int), [(0, .ob 77 (chain [vi (sz : Int), vi 2, vi (ep : Int), vi (at_ : Int), .v (.slice none 0 0), .v (.slice none 0 0), .cp 1 0, .v (.slice none 0 0)])), (1, .ob 135 (chain [vi (id : Int), vi (sz : Int), vi (ln : Int), .sk 2])), (2, .sl 22 [.os (.int .u8)] bx)]⟩
theorem inbad_ok (sz ep : Nat) (at_ id ln : Nat) (bx : List (Option (List Int))) (b r : List Int) (hz : 1 ≤ sz ∧ sz ≤ 1000) (hr : r.length = 64) (hb : 1 ≤ b.length ∧ b.length ≤ 100000) (hd : 0 < (decode_m b).2.2.2.2) : ConOk Try.prog 21 (c_inbad sz ep at_ id ln bx b r) := by
 refine conOk_of rfl (nb := 3) Try.func21 rfl rfl Try.ntmps21 rfl rfl rfl fun g0 w0 ac gs ws hg0 hS => ?_
 have hlen1 : b.length ≤ 9223372036854775807 := hS.len 1 rfl
 have hlen2 : r.length ≤ 9223372036854775807 := hS.len 2 rfl
 have hlenk2 : bx.length ≤ 9223372036854775807 := hS.lens 2 rfl
 have hS := hS.sp
 have hf1 : ¬ (sz : Int) = 0 := omm
 have hf2 : ((r.length : Nat) : Int) = 64 := omm
 have hf3 : ¬ ((b.length : Nat) : Int) = 0 := omm
 have hf4 : ¬ (((decode_m b).2.2.2.2 : Nat) : Int) = 0 := omm
 refine v0 [0, 1, 2, 6] [0, 1, 2] 3 hS fun hS => ?_
 refine wp_seq (vA [(7, .ob false), (12, .ob false)] trivial (fun _ => [(decide ((sz : Int) = 0)) = false, (!decide (((r.length : Nat) : Int) = 64)) = false]) [0, 1, 2, 6, 25] [0, 1, 2] 3 ⟨decide_eq_false hf1, by rw [decide_eq_true hf2]; rfl, trivial⟩ hS fun hS => ?_)
 refine cond_f hS ?_
 refine wp_skip (then_n (wp_seq (vA [(2, .ob false)] trivial (fun _ => [(decide (((b.length : Nat) : Int) = 0)) = false]) [0, 1, 2, 6, 28] [0, 1, 2] 3 ⟨decide_eq_false hf3, trivial⟩ hS fun hS => ?_)))
 refine cond_f hS ?_
 refine wp_skip (then_n (vA [(1, .call ⟨54, (c_decode b), [], []⟩)] ⟨decode_ok _ lnn, trivial⟩ (fun C => [ndC C 1]) [0, 2, 6, 7, 8] [0, 1, 2, 3] 4 ⟨rfl, trivial⟩ hS fun hS => ?_))
 refine wp_seq (vA [(1, .ob true)] trivial (fun _ => [(!decide ((((decode_m b).2.2.2.2 : Nat) : Int) = 0)) = true]) [0, 2, 6, 7, 8, 35] [0, 1, 2, 3] 4 ⟨by rw [decide_eq_false hf4]; rfl, trivial⟩ hS fun hS => ?_)
 refine cond_t hS ?_
 refine v0 [0, 2, 6, 7] [0, 1, 2, 3] 4 hS fun hS => ?_
 refine wp_ret (then_ret ?_)
 exact fin_y rfl (.inr rfl) hS [vi (((decode_m b).2.2.2.2 : Nat) : Int)] [(0, some (.ob 77 (chain [vi (sz : Int), vi 2, vi (ep : Int), vi (at_ : Int), .v (.slice none 0 0), .v (.slice none 0 0), .cp 1 0, .v (.slice none 0 0)]))), (1, some (.ob 135 (chain [vi (id : Int), vi (sz : Int), vi (ln : Int), .sk 2]))), (2, some (.sl 22 [.os (.int .u8)] bx))] rfl ⟨rfl, rfl, rfl, trivial⟩

end
end Go.Sx.Try
namespace Go.Sx.Try
open Go.Mi Go.RowKit Go.Sx Go.Proofs
noncomputable section
end
end Go.Sx.Try
namespace Go.Sx.Try
open Go.Mi Go.RowKit Go.Sx Go.Proofs
noncomputable section
def rexp6_l1_s (k xs : List Int) (k1 : Nat) : (Nat × (List Int) × (List Int)) → (Nat × (List Int) × (List Int)) := fun z_ => match z_ with | (x9, x7, x8) => (x9 + 1, x7 ++ (rmac_m k (rcat_m [x8, xs, [(IntKind.wrap .u8 ((x9 : Nat) : Int))]])), rmac_m k (rcat_m [x8, xs, [(IntKind.wrap .u8 ((x9 : Nat) : Int))]]))
def rexp6_l1 (k xs : List Int) : Nat → Nat × (List Int) × (List Int)
 | 0 => (1, [], [])
 | k1 + 1 => rexp6_l1_s k xs k1 (rexp6_l1 k xs k1)
def rexp6_l1_c (k xs : List Int) : (Nat × (List Int) × (List Int)) → Prop := fun z_ => match z_ with | (x9, x7, x8) => ((x7.length : Nat) : Int) < 64
def rexp6_v (k xs : List Int) : (List Int) := ((rexp6_l1 k xs (lst fun j => rexp6_l1_c k xs (rexp6_l1 k xs j))).2.1).take 64
def rexp6_m (k xs : List Int) : (List Int) := shut (rexp6_v k xs)
theorem rexp6_e (k xs : List Int) : rexp6_m k xs = rexp6_v k xs := shut_eq _
def c_rexp6 (k xs : List Int) : Con := ⟨[lb k, lb xs, vi 64], [], lb (rexp6_m k xs), []⟩
theorem rexp6_ok (k xs : List Int) (hk : k.length ≤ 64) (hx : xs.length ≤ 100) : ConOk Try.prog 87 (c_rexp6 k xs) := by
 refine conOk_of rfl (nb := 0) Try.func87 rfl rfl Try.ntmps87 rfl rfl rfl fun g0 w0 ac gs ws hg0 hS => ?_
 have hlen0 : k.length ≤ 9223372036854775807 := hS.len 0 rfl
 have hlen1 : xs.length ≤ 9223372036854775807 := hS.len 1 rfl
 have hS := hS.sp
 refine s0 [0, 1, 2, 6] [] 0 hS fun hS => ?_
 refine wp_seq (s0 [0, 1, 2, 6, 15] [] 0 hS fun hS => ?_)
 refine cond_f hS ?_
 refine wp_skip (then_n (s0 [0, 1, 2, 6, 7, 8] [] 0 hS fun hS => ?_))
 refine wp_seq (s0 [0, 1, 2, 6, 7, 8, 9] [] 0 hS fun hS => ?_)
 refine wp_block ?_
 obtain ⟨gs, hS⟩ := hS.nilk 7 5 [.int .u8]
 have hS := hS.wk 8 (lb [])
 refine loop_y (ι := Nat × Nat × (List Int) × (List Int)) hg0 hS (fun z_ => match z_ with | (k1, x9, x7, x8) => 64 - x7.length) (fun z_ => match z_ with | (k1, x9, x7, x8) => [(0, lb k), (1, lb xs), (2, vi 64), (6, .v (.slice none 0 0)), (7, .sk 0), (8, lb x8), (9, vi ((x9 : Nat) : Int))]) (fun z_ => match z_ with | (k1, x9, x7, x8) => [(0, .sl 5 [.int .u8] x7)]) (fun z_ => match z_ with | (k1, x9, x7, x8) => ((x9, x7, x8) = rexp6_l1 k xs k1) ∧ (∀ j, j < k1 → rexp6_l1_c k xs (rexp6_l1 k xs j)) ∧ (x7.length ≤ 96 ∧ x8.length ≤ 32 ∧ x9 ≤ 1 + x7.length) ∧ True) 1 (0, 1, [], []) [(0, 0)] ⟨rfl, (fun j h => absurd h (Nat.not_lt_zero j)), (by simp), trivial⟩ ?_
 rintro ⟨k1, x9, x7, x8⟩ ac gs ws ⟨hq1, hj1, p5, _⟩ hS
 refine wp_seq (s0 [0, 1, 2, 6, 7, 8, 9, 19] [0] 1 hS fun hS => ?_)
 refine if_d (((x7.length : Nat) : Int) < 64) hS (fun h1 => ?_) (fun h1 => ?_)
 ·refine wp_skip (then_n (wp_seq (wp_block (sA [(7, .call ⟨26, (c_rcatf [x8, xs, [(IntKind.wrap .u8 (x9 : Int))]]), [], []⟩), (8, .call ⟨88, (c_rmac k (rcat_m [x8, xs, [(IntKind.wrap .u8 (x9 : Int))]])), [], []⟩)] ⟨rcatf_ok _ lnn (fm_getD (by repeat (first | exact fm_nil | (apply fm_cons; focus (first | omega | (simp <;> omega)))))), rmac_ok _ _ lnn lnn, trivial⟩ (fun C => [ndC C 7, ndC C 8]) [0, 1, 2, 6, 7, 8, 9] [0] 1 ⟨rfl, rfl, trivial⟩ hS fun hS => ?_))))
  refine rA [] trivial (fun _ => [x7.length + (rmac_m k (rcat_m [x8, xs, [(IntKind.wrap .u8 (x9 : Int))]])).length ≤ 9223372036854775807, (x7.length + (rmac_m k (rcat_m [x8, xs, [(IntKind.wrap .u8 (x9 : Int))]])).length) * 1 ≤ 140737488355328]) [0, 1, 2, 6, 7, 8, 9] [1] 2 ⟨by simp <;> omega, by simp <;> omega, trivial⟩ hS fun hS => ?_
  refine block_n (then_n (rA [(1, .oi ((x9 + 1 : Nat) : Int))] trivial (fun _ => [iadd .i64 (x9 : Int) 1 = ((x9 + 1 : Nat) : Int)]) [0, 1, 2, 6, 7, 8, 9] [1] 2 ⟨by rw [iadd64 omm omm]; omega, trivial⟩ hS fun hS => ?_))
  refine then_n ?_
  exact next_y hg0 hS (s := (k1, x9, x7, x8)) (k1 + 1, x9 + 1, x7 ++ (rmac_m k (rcat_m [x8, xs, [(IntKind.wrap .u8 (x9 : Int))]])), rmac_m k (rcat_m [x8, xs, [(IntKind.wrap .u8 (x9 : Int))]])) [(0, 1)] (by show 64 - (x7 ++ _).length < 64 - x7.length; rw [List.length_append, rmac_len]; omega) ⟨(it_next (F := rexp6_l1 k xs) (st := rexp6_l1_s k xs) (fun _ => rfl) hq1 rfl), (lst_next hj1 (by rw [← hq1]; exact h1)), (by rw [List.length_append, rmac_len]; omega), trivial⟩
 ·have hScur := hS
  obtain rfl := lst_eq (P := fun j => rexp6_l1_c k xs (rexp6_l1 k xs j)) (by rw [← hq1]; first | exact h1 | exact not_not_intro h1) hj1
  obtain rfl : (rexp6_l1 k xs (lst fun j => rexp6_l1_c k xs (rexp6_l1 k xs j))).1 = x9 := Eq.symm (congrArg (fun z => z.1) hq1)
  obtain rfl : (rexp6_l1 k xs (lst fun j => rexp6_l1_c k xs (rexp6_l1 k xs j))).2.1 = x7 := Eq.symm (congrArg (fun z => z.2.1) hq1)
  obtain rfl : (rexp6_l1 k xs (lst fun j => rexp6_l1_c k xs (rexp6_l1 k xs j))).2.2 = x8 := Eq.symm (congrArg (fun z => z.2.2) hq1)
  have hS := hScur
  clear hScur
  refine wp_exit (then_exit (then_exit (block_exit (then_n (wp_seq ?_)))))
  obtain ⟨gs, hS⟩ := hS.fz 0
  refine rA [] trivial (fun _ => [bndP none (some 64) none ((rexp6_l1 k xs (lst fun j => rexp6_l1_c k xs (rexp6_l1 k xs j))).2.1).length ((rexp6_l1 k xs (lst fun j => rexp6_l1_c k xs (rexp6_l1 k xs j))).2.1).length]) [6] [] 1 ⟨⟨by simp only [nnI] <;> omega, by simp only [nnI] <;> omega, by simp only [nnI] <;> omega, by simp, by simp only [bl] <;> omega, by simp only [bl] <;> omega, by simp only [bl] <;> omega⟩, trivial⟩ hS fun hS => ?_
  refine then_n (wp_ret ?_)
  have hM : rexp6_m k xs = ((rexp6_l1 k xs (lst fun j => rexp6_l1_c k xs (rexp6_l1 k xs j))).2.1).take 64 := rexp6_e k xs
  exact fin_y rfl (.inr rfl) hS [lb (((rexp6_l1 k xs (lst fun j => rexp6_l1_c k xs (rexp6_l1 k xs j))).2.1).take 64)] [] (by show weak _ (lb (rexp6_m k xs)) = (lb (rexp6_m k xs)); rw [hM]; first | (simp only []; rfl) | (simp only []; done) | rfl) trivial

def rder6_v (k xs : List Int) : (List Int) := rexp6_m (rmac_m ([] : List Int) k) xs
def rder6_m (k xs : List Int) : (List Int) := shut (rder6_v k xs)
theorem rder6_e (k xs : List Int) : rder6_m k xs = rder6_v k xs := shut_eq _
def c_rder6 (k xs : List Int) : Con := ⟨[.v (.slice none 0 0), lb k, lb xs, vi 64], [], lb (rder6_m k xs), []⟩
theorem rder6_ok (k xs : List Int) (hk : k.length ≤ 900) (hx : xs.length ≤ 100) : ConOk Try.prog 52 (c_rder6 k xs) := by
 refine conOk_of rfl (nb := 0) Try.func52 rfl rfl Try.ntmps52 rfl rfl rfl fun g0 w0 ac gs ws hg0 hS => ?_
 have hlen1 : k.length ≤ 9223372036854775807 := hS.len 1 rfl
 have hlen2 : xs.length ≤ 9223372036854775807 := hS.len 2 rfl
 have hS := hS.sp
 refine s0 [0, 1, 2, 3, 8] [] 0 hS fun hS => ?_
 refine sA [(2, .call ⟨88, (c_rmac [] k), [], []⟩), (5, .call ⟨87, (c_rexp6 (rmac_m ([] : List Int) k) xs), [], []⟩)] ⟨rmac_ok _ _ lnn lnn, rexp6_ok _ _ lnn lnn, trivial⟩ (fun C => [ndC C 2, ndC C 5]) [8] [] 0 ⟨rfl, rfl, trivial⟩ hS fun hS => ?_
 refine wp_ret ?_
 have hM : rder6_m k xs = rexp6_m (rmac_m ([] : List Int) k) xs := rder6_e k xs
 exact fin_y rfl (.inr rfl) hS [lb (rexp6_m (rmac_m ([] : List Int) k) xs)] [] (by show weak _ (lb (rder6_m k xs)) = (lb (rder6_m k xs)); rw [hM]; first | (simp only []; rfl) | (simp only []; done) | rfl) trivial

theorem rexp6_len (k xs : List Int) : (rexp6_m k xs).length = 64 := by
 have key : ∀ j, (rexp6_l1 k xs j).2.1.length = 32 * j := by
  intro j
  induction j with
  | zero => rfl
  | succ j ih =>
   show (rexp6_l1_s k xs j (rexp6_l1 k xs j)).2.1.length = _
   generalize rexp6_l1 k xs j = z at ih ⊢
   obtain ⟨a, b, c⟩ := z
   show (b ++ rmac_m _ _).length = _
   rw [List.length_append, rmac_len]
   have ih : b.length = 32 * j := ih
   omega
 have hc : ∀ j, rexp6_l1_c k xs (rexp6_l1 k xs j) ↔ 32 * j < 64 := by
  intro j
  have hj := key j
  generalize rexp6_l1 k xs j = z at hj ⊢
  obtain ⟨a, b, c⟩ := z
  show ((b.length : Nat) : Int) < 64 ↔ _
  have hj : b.length = 32 * j := hj
  omega
 have hl : 2 = lst fun j => rexp6_l1_c k xs (rexp6_l1 k xs j) := lst_eq (P := fun j => rexp6_l1_c k xs (rexp6_l1 k xs j)) (fun h => absurd ((hc 2).1 h) (by decide)) (fun j hj => (hc j).2 omm)
 rw [rexp6_e]; unfold rexp6_v
 rw [← hl, List.length_take, key]; rfl
@[simp] theorem rder6_len (k xs : List Int) : (rder6_m k xs).length = 64 := by rw [rder6_e]; exact rexp6_len ..
theorem dec1e : (decode_m [1]).2.2.2.2 = 2 := by
 have h1 : numB (numV [1]).2 = false := by decide
 have h2 : dc1_k [1] = false := by
  rw [dc1_ke]; unfold dc1_kv
  rw [h1]; simp
 have h3 : rdp_k [1] = false := by
  rw [rdp_ke]; unfold rdp_kv
  rw [h2]; simp
 rw [decode_e]; unfold decode_v
 rw [h3]; simp
theorem dec1 : 0 < (decode_m [1]).2.2.2.2 := by rw [dec1e]; decide
def c_rbigf (v : Int) (n : Nat) : Con := ⟨[.v (.int .u64 v), vi (n : Int)], [], lb (rbig_m v n), []⟩
theorem rbigf_ok (v : Int) (n : Nat) (hn : n ≤ 1000) : ConOk Try.prog 53 (c_rbigf v n) := ConOk.frz [] 0 5 [.int .u8] (rbig_m v n) (rbig_ok v n hn) (by kernel_rfl)
def draw_v (n : Int) : (List Int) := rder6_m [100, 114, 97, 119] (rbig_m (IntKind.wrap .u64 n) 8)
def draw_m (n : Int) : (List Int) := shut (draw_v n)
theorem draw_e (n : Int) : draw_m n = draw_v n := shut_eq _
@[simp] theorem draw_len (n : Int) : (draw_m n).length = 64 := by rw [draw_e]; exact rder6_len ..
def c_draw (n : Int) : Con := ⟨[vi n], [], lb (draw_m n), []⟩
theorem draw_ok (n : Int) : ConOk Try.prog 20 (c_draw n) := by
 refine conOk_of rfl (nb := 0) Try.func20 rfl rfl Try.ntmps20 rfl rfl rfl fun g0 w0 ac gs ws hg0 hS => ?_
 have hS := hS.sp
 refine s0 [0, 2] [] 0 hS fun hS => ?_
 refine sA [(0, .own), (4, .call ⟨53, (c_rbigf (IntKind.wrap .u64 n) 8), [], []⟩), (5, .call ⟨52, (c_rder6 [100, 114, 97, 119] (rbig_m (IntKind.wrap .u64 n) 8)), [], []⟩)] ⟨rbigf_ok _ _ omm, rder6_ok _ _ lnn lnn, trivial⟩ (fun C => [0 < [100, 114, 97, 119].length, ndC C 4, ndC C 5]) [2] [] 1 ⟨by decide, rfl, rfl, trivial⟩ hS fun hS => ?_
 refine wp_ret ?_
 have hM : draw_m n = rder6_m [100, 114, 97, 119] (rbig_m (IntKind.wrap .u64 n) 8) := draw_e n
 exact fin_y rfl (.inr rfl) hS [lb (rder6_m [100, 114, 97, 119] (rbig_m (IntKind.wrap .u64 n) 8))] [] (by show weak _ (lb (draw_m n)) = (lb (draw_m n)); rw [hM]; first | (simp only []; rfl) | (simp only []; done) | rfl) trivial

def awake22_v : Bool := if ((((decode_m [1]).2.2.2.2) : Nat) : Int) = 2 then true else false
def awake22_m : Bool := shut (awake22_v)
theorem awake22_e : awake22_m = awake22_v := shut_eq _
def c_awake22 : Con := ⟨[], [], .v (.bool awake22_m), []⟩
theorem awake22_ok : ConOk Try.prog 16 (c_awake22) := by
 refine conOk_of rfl (nb := 0) Try.func16 rfl rfl Try.ntmps16 rfl rfl rfl fun g0 w0 ac gs ws hg0 hS => ?_
 have hS := hS.sp
 refine v0 [0] [] 0 hS fun hS => ?_
 refine vA [(0, .call ⟨17, (c_newt 500), [], [(0, 0), (1, 1), (2, 2)]⟩)] ⟨newt_ok _ omm, trivial⟩ (fun C => [ndC C 0]) [0, 1, 2] [0, 1, 2] 3 ⟨rfl, trivial⟩ hS fun hS => ?_
 refine vA [(0, .call ⟨17, (c_newbad true 9), [], []⟩)] ⟨newbad_ok _ _ omm, trivial⟩ (fun C => [ndC C 0]) [0, 1, 2, 4] [0, 1, 2] 3 ⟨rfl, trivial⟩ hS fun hS => ?_
 refine wp_seq (v0 [0, 1, 24] [0, 1, 2] 3 hS fun hS => ?_)
 refine cond_f hS ?_
 refine wp_skip (then_n (vB [(1, .mf)] [(2, .call ⟨19, (c_outt 500 0 0 (2 * 0) 1184 (List.replicate (((1184 + 500) - 1) / 500) none) (List.replicate 64 (0 : Int))), [(0, 0), (1, 1), (2, 2)], []⟩)] ⟨outt_ok _ _ _ _ _ _ _ lnn omm omm omm, trivial⟩ (fun C => [(64 : Int) = 64, (0 : Int) ≤ 64, 1 * 64 ≤ 281474976710656, (64 : Int) ≤ 9223372036854775807, ndC C 2]) [0, 1, 5, 6] [0, 1, 2] 3 ⟨rfl, by omega, by omega, by omega, rfl, trivial⟩ hS fun hS => ?_))
 refine wp_seq ?_
 by_cases h1 : ((((decode_m [1]).2.2.2.2) : Nat) : Int) = 2
 ·refine uB [(15, .mf)] [(9, .call ⟨18, (c_statet 500 0 0 (2 * 0) 1184 (List.replicate (((1184 + 500) - 1) / 500) none)), [(0, 0), (1, 1), (2, 2)], []⟩), (16, .call ⟨21, (c_inbad 500 0 0 (2 * 0) 1184 (List.replicate (((1184 + 500) - 1) / 500) none) [1] (List.replicate 64 (0 : Int))), [(0, 0), (1, 1), (2, 2)], []⟩), (17, .ob true), (21, .call ⟨21, (c_inarg 500 0 0 (2 * 0) 1184 (List.replicate (((1184 + 500) - 1) / 500) none)), [(0, 0), (1, 1), (2, 2)], []⟩)] ⟨statet_ok _ _ _ _ _ _, inbad_ok _ _ _ _ _ _ _ _ omm List.length_replicate (by simp) dec1, inarg_ok _ _ _ _ _ _ omm, trivial⟩ (fun C => [ndC C 9, (64 : Int) = 64, (0 : Int) ≤ 64, 1 * 64 ≤ 281474976710656, (64 : Int) ≤ 9223372036854775807, ndC C 16, (decide (((((decode_m [1]).2.2.2.2) : Nat) : Int) = 2)) = true, ndC C 21]) [0] [] 3 ⟨rfl, rfl, by omega, by omega, by omega, rfl, decide_eq_true h1, rfl, trivial⟩ hS fun hS => ?_
  refine then_n (wp_ret ?_)
  have hM : awake22_m = true := (awake22_e).trans (if_pos h1)
  exact fin_y rfl (.inr rfl) hS [.v (.bool true)] [] (by show weak _ (.v (.bool awake22_m)) = (.v (.bool awake22_m)); rw [hM]; first | (simp only []; rfl) | (simp only []; done) | rfl) trivial
 ·refine uB [(15, .mf)] [(9, .call ⟨18, (c_statet 500 0 0 (2 * 0) 1184 (List.replicate (((1184 + 500) - 1) / 500) none)), [(0, 0), (1, 1), (2, 2)], []⟩), (16, .call ⟨21, (c_inbad 500 0 0 (2 * 0) 1184 (List.replicate (((1184 + 500) - 1) / 500) none) [1] (List.replicate 64 (0 : Int))), [(0, 0), (1, 1), (2, 2)], []⟩), (17, .ob false)] ⟨statet_ok _ _ _ _ _ _, inbad_ok _ _ _ _ _ _ _ _ omm List.length_replicate (by simp) dec1, trivial⟩ (fun C => [ndC C 9, (64 : Int) = 64, (0 : Int) ≤ 64, 1 * 64 ≤ 281474976710656, (64 : Int) ≤ 9223372036854775807, ndC C 16, (decide (((((decode_m [1]).2.2.2.2) : Nat) : Int) = 2)) = false]) [0] [] 3 ⟨rfl, rfl, by omega, by omega, by omega, rfl, decide_eq_false h1, trivial⟩ hS fun hS => ?_
  refine then_n (wp_ret ?_)
  have hM : awake22_m = false := (awake22_e).trans (if_neg h1)
  exact fin_y rfl (.inr rfl) hS [.v (.bool false)] [] (by show weak _ (.v (.bool awake22_m)) = (.v (.bool awake22_m)); rw [hM]; first | (simp only []; rfl) | (simp only []; done) | rfl) trivial

def c_awaket : Con := ⟨[], [], .v (.bool true), []⟩
theorem awaket_ok : ConOk Try.prog 16 (c_awaket) := by
 have h := awake22_ok
 have e : awake22_m = true := by rw [awake22_e]; unfold awake22_v; rw [dec1e]; rfl
 unfold c_awake22 at h
 rw [e] at h
 exact h
end
end Go.Sx.Try
namespace Go.Sx.Try
open Go.Mi Go.RowKit Go.Sx Go.Proofs
noncomputable section
def ekD (r : List Int) : List Int := (keys_m (r.take 32) (r.drop 32)).1
theorem ekD_len {r : List Int} (h : r.length = 64) : (ekD r).length = 1184 := (keys_len (r.take 32) (r.drop 32) (by rw [List.length_drop]; omega)).1
theorem spB_len (ep : Nat) {r : List Int} (hr : r.length = 64) (sz : Nat) : (split_m (2 * ep) (ekD r) sz).length = (1184 + sz - 1) / sz := by rw [spl_len, ekD_len hr]
def Txt (r sd tx : List Int) : Prop := (sd = [] ∧ tx = []) ∨ (sd = r ∧ tx = ekD r)
theorem Txt.nil (r : List Int) : Txt r [] [] := .inl ⟨rfl, rfl⟩
theorem Txt.y (r : List Int) : Txt r r (ekD r) := .inr ⟨rfl, rfl⟩
end
end Go.Sx.Try
namespace Go.Sx
open Go.Mi Go.RowKit
variable [Dfr]
theorem ConOk.args {P : Program} {f : FuncId} {ays as' : List D} {H0 H1 : Hc} {r : D} (h : ConOk P f ⟨ays, H0, r, H1⟩) (hw : ∀ (g : G) (w : World) (vs : List Value), sem g.X g.N w (chain as') true vs → sem g.X g.N w (chain ays) true vs) : ConOk P f ⟨as', H0, r, H1⟩ :=
 ⟨h.1, fun vs g w hS hN hv => (h.2 vs g w hS hN (hw g w vs hv)).mono fun r w' ⟨v, e, g', hp⟩ => ⟨v, e, g', ⟨hp.go, hp.r, hp.hs, hp.fp⟩⟩⟩
section
variable {X : Nat → Prop} {N : Nat → Option Value} {w : World}
theorem fS_os {e : Fk} {o : Option (List e.T)} {v : Value} (h : fS X N w (.os e) o v) : fS X N w (.sl e) (o.getD []) v := by
 cases o with
 | none =>
  have h : v = vN := h
  subst h
  exact ⟨[], Lsl.nil, trivial⟩
 | some xs =>
  obtain ⟨vs, h1, h2⟩ := h
  exact ⟨vs, h1.gen, h2⟩
theorem ones {e : Fk} : ∀ {xs : List e.T} {vs : List Value}, Fa2 (fS X N w e) xs vs → Fa2 (rS X N w [e]) (xs : List (RT [e])) (vs.map fun v => [v])
 | [], [], _ => trivial
 | _ :: _, v :: _, h => ⟨⟨v, rfl, h.1⟩, ones h.2⟩
theorem flat1s : ∀ (vs : List Value), (vs.map fun v => [v]).flatten = vs
 | [] => rfl
 | v :: vs => by rw [List.map_cons, List.flatten_cons, flat1s vs]; rfl
theorem sem_os {e : Fk} {o : Option (List e.T)} {m : Bool} {l : List Value} (h : sem X N w (.os e o) m l) : sem X N w (.ls false [e] (o.getD [] : List e.T)) m l := by
 obtain ⟨v, rfl, h⟩ := h
 obtain ⟨vs, h1, h2⟩ := fS_os h
 exact ⟨v, vs.map fun v => [v], rfl, (flat1s vs).symm ▸ h1, ones h2⟩
theorem rows_os {e : Fk} : ∀ {xs : List (RT [.os e])} {ls : List (List Value)}, Fa2 (rS X N w [.os e]) xs ls → Fa2 (rS X N w [.sl e]) ((xs.map fun (o : Option (List e.T)) => o.getD [] : List (List e.T)) : List (RT [.sl e])) ls
 | [], [], _ => trivial
 | _ :: _, _ :: _, h => ⟨by
   obtain ⟨v, rfl, h1⟩ := h.1
   exact ⟨v, rfl, fS_os h1⟩, rows_os h.2⟩
theorem sem_oss {e : Fk} {nn : Bool} {xs : List (Option (List e.T))} {m : Bool} {l : List Value} (h : sem X N w (.ls nn [.os e] xs) m l) : sem X N w (.ls nn [.sl e] (xs.map fun o => o.getD [])) m l := by
 obtain ⟨v, ls, rfl, h1, h2⟩ := h
 exact ⟨v, ls, rfl, by
  have q : (xs.map fun (o : Option (List e.T)) => o.getD []).length = xs.length := List.length_map _
  exact q.symm ▸ h1, rows_os h2⟩
end
theorem ConOk.os0 {P : Program} {f : FuncId} {ays : List D} {H0 H1 : Hc} {r : D} {e : Fk} (o : Option (List e.T)) (h : ConOk P f ⟨.ls false [e] (o.getD [] : List e.T) :: ays, H0, r, H1⟩) : ConOk P f ⟨.os e o :: ays, H0, r, H1⟩ :=
 h.args fun _ _ _ ⟨l1, l2, e, k1, k2⟩ => ⟨l1, l2, e, sem_os k1, k2⟩
theorem ConOk.oss0 {P : Program} {f : FuncId} {ays : List D} {H0 H1 : Hc} {r : D} {e : Fk} {nn : Bool} (xs : List (Option (List e.T))) (h : ConOk P f ⟨.ls nn [.sl e] (xs.map fun o => o.getD [] : List (List e.T)) :: ays, H0, r, H1⟩) : ConOk P f ⟨.ls nn [.os e] (xs : List (Option (List e.T))) :: ays, H0, r, H1⟩ :=
 h.args fun _ _ _ ⟨l1, l2, e, k1, k2⟩ => ⟨l1, l2, e, sem_oss k1, k2⟩
theorem ConOk.nnr {P : Program} {f : FuncId} {ays : List D} {H0 H1 : Hc} {e : List Fk} {xs : List (RT e)} (h : ConOk P f ⟨ays, H0, .ls false e xs, H1⟩) (hx : xs ≠ []) : ConOk P f ⟨ays, H0, .ls true e xs, H1⟩ :=
 ⟨h.1, fun vs g w hS hN hv => (h.2 vs g w hS hN hv).mono fun r w' ⟨v, e, g', hp⟩ => ⟨v, e, g', ⟨hp.go, by
  obtain ⟨u, ls, h1, h2, h3⟩ := hp.r
  refine ⟨u, ls, h1, ⟨h2.le, h2.len, ?_⟩, h3⟩
  rcases h2.at' with ⟨_, h4, _⟩ | h4
  ·exact absurd (List.eq_nil_of_length_eq_zero h4) hx
  ·exact .inr h4, hp.hs, hp.fp⟩⟩⟩
end Go.Sx
namespace Go.Sx.Try
open Go.Mi Go.RowKit Go.Sx Go.Proofs
noncomputable section
def c_equalo (o : Option (List Int)) (ys : List Int) : Con := ⟨[.os (.int .u8) o, lb ys], [], .v (.bool (decide (o.getD [] = ys))), []⟩
theorem equalo_ok (o : Option (List Int)) (ys : List Int) : ConOk Try.prog 36 (c_equalo o ys) := ConOk.os0 (e := .int .u8) o (equal_ok (o.getD []) ys)
def c_clonen (xs : List Int) : Con := ⟨[lb xs], [], .ls true [.int .u8] xs, []⟩
theorem clonen_ok (xs : List Int) (h : 1 ≤ xs.length ∧ xs.length ≤ 100000000000000) : ConOk Try.prog 81 (c_clonen xs) := (clone_ok xs h.2).nnr (fun e => by rw [e] at h; exact absurd h.1 (by decide))
theorem imulN {a b q : Nat} (hq : q = a * b) (h : q ≤ 1000000000) : (imul .i64 (a : Int) <| (b : Int)) = (q : Int) := by
 rw [hq, imul64 (by rw [← Int.natCast_mul, ← hq]; omega) (by rw [← Int.natCast_mul, ← hq]; omega)]
 exact (Int.natCast_mul _ _).symm
def badd_v (id sz ln : Nat) (bx : List (Option (List Int))) (pa ct q : Nat) (d : List Int) : (List (Option (List Int))) × Nat := if ((d.length : Nat) : Int) = (min (sz : Int) ((ln : Int) - (q : Int))) then (if ((bx.getD pa (rz [.os (.int .u8)])).isNone) = true then (bx.set pa (some d), 0) else (if (bx.getD pa (rz [.os (.int .u8)])).getD [] = d then (bx, 8) else (bx, 2))) else (bx, 2)
def badd_m (id sz ln : Nat) (bx : List (Option (List Int))) (pa ct q : Nat) (d : List Int) : (List (Option (List Int))) × Nat := shut (badd_v id sz ln bx pa ct q d)
theorem badd_e (id sz ln : Nat) (bx : List (Option (List Int))) (pa ct q : Nat) (d : List Int) : badd_m id sz ln bx pa ct q d = badd_v id sz ln bx pa ct q d := shut_eq _
def c_badd (id sz ln : Nat) (bx : List (Option (List Int))) (pa ct q : Nat) (d : List Int) : Con := ⟨[.cp 0 0, .ag (chain [vi (id : Int), vi (pa : Int), vi (ct : Int), lb d])], [(0, .ob 135 (chain [vi (id : Int), vi (sz : Int), vi (ln : Int), .sk 1])), (1, .sl 22 [.os (.int .u8)] bx)], vi (((badd_m id sz ln bx pa ct q d).2 : Nat) : Int), [(0, .ob 135 (chain [vi (id : Int), vi (sz : Int), vi (ln : Int), .sk 1])), (1, .sl 22 [.os (.int .u8)] ((badd_m id sz ln bx pa ct q d).1))]⟩
theorem badd_ok (id sz ln : Nat) (bx : List (Option (List Int))) (pa ct q : Nat) (d : List Int) (hb : bx.length ≤ 10000) (hz : sz ≤ 1000 ∧ ln ≤ 10000) (hq : q = pa * sz) (hql : q < ln) (hpa : pa < bx.length) (hct : ct = bx.length) (hdl : d.length = min sz (ln - q)) (hd : 1 ≤ d.length ∧ d.length ≤ 100000) : ConOk Try.prog 113 (c_badd id sz ln bx pa ct q d) := by
 refine conOk_of rfl (nb := 2) Try.func113 rfl rfl Try.ntmps113 rfl rfl rfl fun g0 w0 ac gs ws hg0 hS => ?_
 have hlenk1 : bx.length ≤ 9223372036854775807 := hS.lens 1 rfl
 have hS := hS.sp
 have hf0 : (id : Int) = (id : Int) := rfl
 have hf1 : (ct : Int) = ((bx.length : Nat) : Int) := omm
 have hf2 : wB (pa : Int) 0 ((bx.length - 1 : Nat) : Int) = true := (wB_i ⟨by omega, by omega⟩)
 refine v0 [0, 3, 4] [0, 1, 2] 3 hS fun hS => ?_
 refine wp_seq (wp_block (v0 [0, 3, 4, 5] [0, 1, 2] 3 hS fun hS => ?_))
 refine cond_f hS ?_
 refine vA [(6, .ob false), (15, .ob false), (25, .oi ((bx.length - 1 : Nat) : Int)), (26, .call ⟨82, (c_withy (pa : Int) 0 ((bx.length - 1 : Nat) : Int)), [], []⟩), (47, .oi (q : Int)), (48, .oi ((ln : Int) - (q : Int))), (49, .oi (min (sz : Int) ((ln : Int) - (q : Int))))] ⟨withy_ok _ _ _ hf2, trivial⟩ (fun C => [(!decide ((id : Int) = (id : Int))) = false, (!decide ((ct : Int) = ((bx.length : Nat) : Int))) = false, isub .i64 ((bx.length : Nat) : Int) 1 = ((bx.length - 1 : Nat) : Int), ndC C 26, imul .i64 (pa : Int) (sz : Int) = (q : Int), isub .i64 (ln : Int) (q : Int) = (ln : Int) - (q : Int), (if ((ln : Int) - (q : Int)) < (sz : Int) then ((ln : Int) - (q : Int)) else (sz : Int)) = (min (sz : Int) ((ln : Int) - (q : Int)))]) [0, 3, 4, 8] [0, 1, 2] 3 ⟨by rw [decide_eq_true hf0]; rfl, by rw [decide_eq_true hf1]; rfl, by rw [isub64 omm omm]; omega, rfl, imulN hq omm, isub64 omm omm, by split <;> omega, trivial⟩ hS fun hS => ?_
 refine if_n (((d.length : Nat) : Int) = (min (sz : Int) ((ln : Int) - (q : Int)))) hS (fun h1 => ?_) (fun h1 => ?_)
 ·refine v0 [4] [0, 1] 3 hS fun hS => ?_
  refine wp_ret (block_ret (then_ret ?_))
  have hM : badd_m id sz ln bx pa ct q d = (bx, 2) := (badd_e id sz ln bx pa ct q d).trans (if_neg h1)
  exact fin_y rfl (.inr rfl) hS [vi 2] [(0, some (.ob 135 (chain [vi (id : Int), vi (sz : Int), vi (ln : Int), .sk 1]))), (1, some (.sl 22 [.os (.int .u8)] bx))] (by show weak _ (vi (((badd_m id sz ln bx pa ct q d).2 : Nat) : Int)) = (vi (((badd_m id sz ln bx pa ct q d).2 : Nat) : Int)); rw [hM]; first | (simp only []; rfl) | (simp only []; done) | rfl) (by show H1Ok _ [(0, .ob 135 (chain [vi (id : Int), vi (sz : Int), vi (ln : Int), .sk 1])), (1, .sl 22 [.os (.int .u8)] ((badd_m id sz ln bx pa ct q d).1))] true; rw [hM]; first | (simp only []; exact ⟨rfl, rfl, trivial⟩) | exact ⟨rfl, rfl, trivial⟩)
 ·refine vA [] trivial (fun _ => [(0 : Int) ≤ (pa : Int) ∧ (pa : Int) < ((bx.length : Nat) : Int)]) [0, 3, 4, 61] [0, 1, 2] 3 ⟨by omega, trivial⟩ hS fun hS => ?_
  refine if_y ((bx.getD pa (rz [.os (.int .u8)])).isNone) hS (fun h2 => ?_) (fun h2 => ?_)
  ·refine vA [(8, .call ⟨81, (c_clonen d), [], []⟩)] ⟨clonen_ok _ lnn, trivial⟩ (fun C => [ndC C 8, (0 : Int) ≤ (pa : Int) ∧ (pa : Int) < ((bx.length : Nat) : Int)]) [4] [0, 1] 3 ⟨rfl, by omega, trivial⟩ hS fun hS => ?_
   refine v0 [4] [0, 1] 3 hS fun hS => ?_
   refine wp_ret (block_ret (then_ret ?_))
   have hM : badd_m id sz ln bx pa ct q d = (bx.set pa (some d), 0) := (badd_e id sz ln bx pa ct q d).trans ((if_pos h1).trans (if_pos h2))
   exact fin_y rfl (.inr rfl) hS [vi 0] [(0, some (.ob 135 (chain [vi (id : Int), vi (sz : Int), vi (ln : Int), .sk 1]))), (1, some (.sl 22 [.os (.int .u8)] (bx.set pa (some d))))] (by show weak _ (vi (((badd_m id sz ln bx pa ct q d).2 : Nat) : Int)) = (vi (((badd_m id sz ln bx pa ct q d).2 : Nat) : Int)); rw [hM]; first | (simp only []; rfl) | (simp only []; done) | rfl) (by show H1Ok _ [(0, .ob 135 (chain [vi (id : Int), vi (sz : Int), vi (ln : Int), .sk 1])), (1, .sl 22 [.os (.int .u8)] ((badd_m id sz ln bx pa ct q d).1))] true; rw [hM]; first | (simp only []; exact ⟨rfl, rfl, trivial⟩) | exact ⟨rfl, rfl, trivial⟩)
  ·refine vA [(10, .call ⟨36, (c_equalo (bx.getD pa (rz [.os (.int .u8)])) d), [], []⟩)] ⟨equalo_ok _ _, trivial⟩ (fun C => [(0 : Int) ≤ (pa : Int) ∧ (pa : Int) < ((bx.length : Nat) : Int), ndC C 10]) [4, 81] [0, 1] 3 ⟨by omega, rfl, trivial⟩ hS fun hS => ?_
   refine if_d ((bx.getD pa (rz [.os (.int .u8)])).getD [] = d) hS (fun h3 => ?_) (fun h3 => ?_)
   ·refine v0 [4] [0, 1] 3 hS fun hS => ?_
    refine wp_ret (block_ret (then_ret ?_))
    have hM : badd_m id sz ln bx pa ct q d = (bx, 8) := (badd_e id sz ln bx pa ct q d).trans ((if_pos h1).trans ((if_neg (bne_t h2)).trans (if_pos h3)))
    exact fin_y rfl (.inr rfl) hS [vi 8] [(0, some (.ob 135 (chain [vi (id : Int), vi (sz : Int), vi (ln : Int), .sk 1]))), (1, some (.sl 22 [.os (.int .u8)] bx))] (by show weak _ (vi (((badd_m id sz ln bx pa ct q d).2 : Nat) : Int)) = (vi (((badd_m id sz ln bx pa ct q d).2 : Nat) : Int)); rw [hM]; first | (simp only []; rfl) | (simp only []; done) | rfl) (by show H1Ok _ [(0, .ob 135 (chain [vi (id : Int), vi (sz : Int), vi (ln : Int), .sk 1])), (1, .sl 22 [.os (.int .u8)] ((badd_m id sz ln bx pa ct q d).1))] true; rw [hM]; first | (simp only []; exact ⟨rfl, rfl, trivial⟩) | exact ⟨rfl, rfl, trivial⟩)
   ·refine wp_skip (block_n (then_n (v0 [4] [0, 1] 3 hS fun hS => ?_)))
    refine wp_ret ?_
    have hM : badd_m id sz ln bx pa ct q d = (bx, 2) := (badd_e id sz ln bx pa ct q d).trans ((if_pos h1).trans ((if_neg (bne_t h2)).trans (if_neg h3)))
    exact fin_y rfl (.inr rfl) hS [vi 2] [(0, some (.ob 135 (chain [vi (id : Int), vi (sz : Int), vi (ln : Int), .sk 1]))), (1, some (.sl 22 [.os (.int .u8)] bx))] (by show weak _ (vi (((badd_m id sz ln bx pa ct q d).2 : Nat) : Int)) = (vi (((badd_m id sz ln bx pa ct q d).2 : Nat) : Int)); rw [hM]; first | (simp only []; rfl) | (simp only []; done) | rfl) (by show H1Ok _ [(0, .ob 135 (chain [vi (id : Int), vi (sz : Int), vi (ln : Int), .sk 1])), (1, .sl 22 [.os (.int .u8)] ((badd_m id sz ln bx pa ct q d).1))] true; rw [hM]; first | (simp only []; exact ⟨rfl, rfl, trivial⟩) | exact ⟨rfl, rfl, trivial⟩)

end
end Go.Sx.Try
namespace Go.Sx.Try
open Go.Mi Go.RowKit Go.Sx Go.Proofs
noncomputable section
def bmiss_l1_s (id sz ln : Nat) (bx : List (Option (List Int))) (x12 : Nat) : (List Int) → (List Int) := fun x2 => if ((bx.getD x12 (rz [.os (.int .u8)])).isNone) = true then x2 ++ [(x12 : Int)] else x2
def bmiss_l1 (id sz ln : Nat) (bx : List (Option (List Int))) : Nat → (List Int)
 | 0 => []
 | x12 + 1 => bmiss_l1_s id sz ln bx x12 (bmiss_l1 id sz ln bx x12)
def bmiss_v (id sz ln : Nat) (bx : List (Option (List Int))) : (List Int) := bmiss_l1 id sz ln bx bx.length
def bmiss_m (id sz ln : Nat) (bx : List (Option (List Int))) : (List Int) := shut (bmiss_v id sz ln bx)
theorem bmiss_e (id sz ln : Nat) (bx : List (Option (List Int))) : bmiss_m id sz ln bx = bmiss_v id sz ln bx := shut_eq _
def c_bmiss (id sz ln : Nat) (bx : List (Option (List Int))) : Con := ⟨[.cp 0 0], [(0, .ob 135 (chain [vi (id : Int), vi (sz : Int), vi (ln : Int), .sk 1])), (1, .sl 22 [.os (.int .u8)] bx)], .ls false [.int .i64] (bmiss_m id sz ln bx), [(0, .ob 135 (chain [vi (id : Int), vi (sz : Int), vi (ln : Int), .sk 1])), (1, .sl 22 [.os (.int .u8)] bx)]⟩
theorem bmiss_ok (id sz ln : Nat) (bx : List (Option (List Int))) (hb : 1 ≤ bx.length ∧ bx.length ≤ 10000) : ConOk Try.prog 124 (c_bmiss id sz ln bx) := by
 refine conOk_of rfl (nb := 2) Try.func124 rfl rfl Try.ntmps124 rfl rfl rfl fun g0 w0 ac gs ws hg0 hS => ?_
 have hlenk1 : bx.length ≤ 9223372036854775807 := hS.lens 1 rfl
 have hS := hS.sp
 refine v0 [0, 2] [0, 1] 2 hS fun hS => ?_
 refine wp_seq (v0 [0, 2, 6] [0, 1] 2 hS fun hS => ?_)
 refine cond_f hS ?_
 refine wp_skip (then_n (wp_seq (v0 [2, 10, 11, 12] [0, 1] 2 hS fun hS => ?_)))
 refine wp_block ?_
 obtain ⟨gs, hS⟩ := hS.nilk 2 3 [.int .i64]
 refine loop_y (ι := Nat × (List Int)) hg0 hS (fun z_ => match z_ with | (x12, x2) => bx.length - x12) (fun z_ => match z_ with | (x12, x2) => [(2, .sk 2), (10, .sk 1), (11, vi ((bx.length : Nat) : Int)), (12, vi ((x12 : Nat) : Int))]) (fun z_ => match z_ with | (x12, x2) => [(0, .ob 135 (chain [vi (id : Int), vi (sz : Int), vi (ln : Int), .sk 1])), (1, .sl 22 [.os (.int .u8)] bx), (2, .sl 3 [.int .i64] x2)]) (fun z_ => match z_ with | (x12, x2) => (x12 ≤ bx.length) ∧ (x2 = bmiss_l1 id sz ln bx x12) ∧ (x2.length ≤ x12) ∧ True) 3 (0, []) [(0, 0), (1, 1), (2, 2)] ⟨omm, rfl, (by simp), trivial⟩ ?_
 rintro ⟨x12, x2⟩ ac gs ws ⟨hx12, hq1, p1, _⟩ hS
 refine v0 [2, 10, 11, 12, 13] [0, 1, 2] 3 hS fun hS => ?_
 refine wp_seq ?_
 refine if_d ((x12 : Int) < ((bx.length : Nat) : Int)) hS (fun h1 => ?_) (fun h1 => ?_)
 ·refine wp_skip (then_n (wp_seq (wp_block (vA [] trivial (fun _ => [(0 : Int) ≤ (x12 : Int) ∧ (x12 : Int) < ((bx.length : Nat) : Int)]) [2, 3, 4, 10, 11, 12] [0, 1, 2] 3 ⟨by omega, trivial⟩ hS fun hS => ?_))))
  refine v0 [2, 3, 10, 11, 12, 18] [0, 1, 2] 3 hS fun hS => ?_
  refine if_y ((bx.getD x12 (rz [.os (.int .u8)])).isNone) hS (fun h2 => ?_) (fun h2 => ?_)
  ·refine uA [] trivial (fun _ => [x2.length + [(x12 : Int)].length ≤ 9223372036854775807, (x2.length + [(x12 : Int)].length) * 8 ≤ 140737488355328]) [2, 10, 11, 12] [0, 1, 3] 4 ⟨by simp <;> omega, by simp <;> omega, trivial⟩ hS fun hS => ?_
   refine block_n (then_n (uA [(0, .oi ((x12 + 1 : Nat) : Int))] trivial (fun _ => [iadd .i64 (x12 : Int) 1 = ((x12 + 1 : Nat) : Int)]) [2, 10, 11, 12] [0, 1, 3] 4 ⟨by rw [iadd64 omm omm]; omega, trivial⟩ hS fun hS => ?_))
   refine then_n ?_
   exact next_y hg0 hS (s := (x12, x2)) (x12 + 1, x2 ++ [(x12 : Int)]) [(0, 0), (1, 1), (2, 3)] (show bx.length - (x12 + 1) < bx.length - x12 from by omega) ⟨omm, (it_next (F := bmiss_l1 id sz ln bx) (st := bmiss_l1_s id sz ln bx) (fun _ => rfl) hq1 (Eq.symm (if_pos h2))), (by first | (rw [List.length_append]; simp; omega) | omega), trivial⟩
  ·refine wp_skip (block_n (then_n (uA [(0, .oi ((x12 + 1 : Nat) : Int))] trivial (fun _ => [iadd .i64 (x12 : Int) 1 = ((x12 + 1 : Nat) : Int)]) [2, 10, 11, 12] [0, 1, 2] 3 ⟨by rw [iadd64 omm omm]; omega, trivial⟩ hS fun hS => ?_)))
   refine then_n ?_
   exact next_y hg0 hS (s := (x12, x2)) (x12 + 1, x2) [(0, 0), (1, 1), (2, 2)] (show bx.length - (x12 + 1) < bx.length - x12 from by omega) ⟨omm, (it_next (F := bmiss_l1 id sz ln bx) (st := bmiss_l1_s id sz ln bx) (fun _ => rfl) hq1 (Eq.symm (if_neg (bne_t h2)))), (by first | (rw [List.length_append]; simp; omega) | omega), trivial⟩
 ·have hScur := hS
  obtain rfl : bx.length = x12 := by omega
  obtain rfl : bmiss_l1 id sz ln bx bx.length = x2 := Eq.symm (congrArg (fun z => z) hq1)
  have hS := hScur
  clear hScur
  refine wp_exit (then_exit (then_exit (block_exit (then_n (v0 [2] [0, 1, 2] 3 hS fun hS => ?_)))))
  refine wp_ret ?_
  have hM : bmiss_m id sz ln bx = bmiss_l1 id sz ln bx bx.length := bmiss_e id sz ln bx
  obtain ⟨gs, hS⟩ := hS.fz 2
  exact fin_y rfl (.inr rfl) hS [.ls false [.int .i64] (bmiss_l1 id sz ln bx bx.length)] [(0, some (.ob 135 (chain [vi (id : Int), vi (sz : Int), vi (ln : Int), .sk 1]))), (1, some (.sl 22 [.os (.int .u8)] bx))] (by show weak _ (.ls false [.int .i64] (bmiss_m id sz ln bx)) = (.ls false [.int .i64] (bmiss_m id sz ln bx)); rw [hM]; first | (simp only []; rfl) | (simp only []; done) | rfl) ⟨rfl, rfl, trivial⟩

abbrev gts (bx : List (Option (List Int))) : List (List Int) := bx.map fun o => o.getD []
def full (bx : List (Option (List Int))) : Bool := bx.all Option.isSome
theorem bmiss_n (id sz ln : Nat) (bx : List (Option (List Int))) : (bmiss_m id sz ln bx).length = 0 ↔ full bx = true := by
 have key : ∀ i, i ≤ bx.length → ((bmiss_l1 id sz ln bx i).length = 0 ↔ ∀ j, j < i → (List.getD (α := Option (List Int)) bx j none).isSome = true) := by
  intro i
  induction i with
  | zero => exact fun _ => ⟨fun _ j hj => absurd hj (Nat.not_lt_zero j), fun _ => rfl⟩
  | succ i ih =>
   intro hi
   have ih := ih omm
   have e : bmiss_l1 id sz ln bx (i + 1) = if (List.getD (α := Option (List Int)) bx i none).isNone = true then bmiss_l1 id sz ln bx i ++ [(i : Int)] else bmiss_l1 id sz ln bx i := rfl
   rw [e]
   cases hg : List.getD (α := Option (List Int)) bx i none with
   | none =>
    rw [if_pos (show (none : Option (List Int)).isNone = true from rfl)]
    refine ⟨fun h => by rw [List.length_append, List.length_cons] at h; omega, fun h => ?_⟩
    have := h i omm
    rw [hg] at this; cases this
   | some x =>
    rw [if_neg (by simp)]
    refine ih.trans ⟨fun h j hj => ?_, fun h j hj => h j omm⟩
    by_cases hji : j = i
    ·rw [hji, hg]; rfl
    ·exact h j omm
 rw [bmiss_e]
 refine (key bx.length (Nat.le_refl _)).trans ?_
 unfold full
 rw [List.all_eq_true]
 refine ⟨fun h x hx => ?_, fun h j hj => ?_⟩
 ·obtain ⟨j, hj, rfl⟩ := List.mem_iff_getElem.1 hx
  have := h j hj
  rw [List.getD_eq_getElem?_getD, List.getElem?_eq_getElem hj] at this
  exact this
 ·rw [List.getD_eq_getElem?_getD, List.getElem?_eq_getElem hj]
  exact h _ (List.getElem_mem hj)
def c_catf (l : List (List Int)) : Con := ⟨[.ls false [.sl (.int .u8)] l], [], lb l.flatten, []⟩
theorem catf_ok (l : List (List Int)) (h : l.flatten.length ≤ 140737488355328) : ConOk Try.prog 45 (c_catf l) := ConOk.frz [] 0 5 [.int .u8] l.flatten (cat_ok l h) (by kernel_rfl)
def c_cato (l : List (Option (List Int))) : Con := ⟨[.ls false [.os (.int .u8)] l], [], lb ((gts l).flatten), []⟩
theorem cato_ok (l : List (Option (List Int))) (h : (gts l).flatten.length ≤ 140737488355328) : ConOk Try.prog 45 (c_cato l) := ConOk.oss0 (e := .int .u8) (nn := false) l (catf_ok (gts l) h)
def c_bdonen (id sz ln : Nat) (bx : List (Option (List Int))) : Con := ⟨[.cp 0 0], [(0, .ob 135 (chain [vi (id : Int), vi (sz : Int), vi (ln : Int), .sk 1])), (1, .sl 22 [.os (.int .u8)] bx)], .tu (chain [.v (.slice none 0 0), .v (.bool false)]), [(0, .ob 135 (chain [vi (id : Int), vi (sz : Int), vi (ln : Int), .sk 1])), (1, .sl 22 [.os (.int .u8)] bx)]⟩
theorem bdonen_ok (id sz ln : Nat) (bx : List (Option (List Int))) (hb : 1 ≤ bx.length ∧ bx.length ≤ 10000) (hf : full bx = false) : ConOk Try.prog 114 (c_bdonen id sz ln bx) := by
 refine conOk_of rfl (nb := 2) Try.func114 rfl rfl Try.ntmps114 rfl rfl rfl fun g0 w0 ac gs ws hg0 hS => ?_
 have hlenk1 : bx.length ≤ 9223372036854775807 := hS.lens 1 rfl
 have hS := hS.sp
 have hf1 : ¬ ((bx.length : Nat) : Int) = 0 := omm
 refine v0 [0, 2, 3] [0, 1] 2 hS fun hS => ?_
 refine wp_seq (wp_seq ?_)
 have hbm := (bmiss_n id sz ln bx)
 have hbm2 : (bmiss_m id sz ln bx).length ≠ 0 := fun e => by rw [hbm.1 e] at hf; cases hf
 have hk1 : (0 : Int) < (((bmiss_m id sz ln bx).length : Nat) : Int) := omm
 refine uA [(8, .ob false), (12, .call ⟨124, (c_bmiss id sz ln bx), [(0, 0), (1, 1)], []⟩), (14, .ob true)] ⟨bmiss_ok _ _ _ _ lnn, trivial⟩ (fun C => [(decide (((bx.length : Nat) : Int) = 0)) = false, ndC C 12, (decide ((0 : Int) < (((bmiss_m id sz ln bx).length : Nat) : Int))) = true]) [0, 2, 3, 19] [0, 1] 2 ⟨decide_eq_false hf1, rfl, decide_eq_true hk1, trivial⟩ hS fun hS => ?_
 refine then_n (cond_t hS ?_)
 refine v0 [0, 2, 3] [0, 1] 2 hS fun hS => ?_
 refine wp_ret (then_ret ?_)
 exact fin_y rfl (.inr rfl) hS [.v (.slice none 0 0), .v (.bool false)] [(0, some (.ob 135 (chain [vi (id : Int), vi (sz : Int), vi (ln : Int), .sk 1]))), (1, some (.sl 22 [.os (.int .u8)] bx))] rfl ⟨rfl, rfl, trivial⟩

def c_bdoney (id sz ln : Nat) (bx : List (Option (List Int))) : Con := ⟨[.cp 0 0], [(0, .ob 135 (chain [vi (id : Int), vi (sz : Int), vi (ln : Int), .sk 1])), (1, .sl 22 [.os (.int .u8)] bx)], .tu (chain [lb ((gts bx).flatten), .v (.bool true)]), [(0, .ob 135 (chain [vi (id : Int), vi (sz : Int), vi (ln : Int), .ls false [.os (.int .u8)] bx]))]⟩
theorem bdoney_ok (id sz ln : Nat) (bx : List (Option (List Int))) (hb : 1 ≤ bx.length ∧ bx.length ≤ 10000) (hf : full bx = true) (hl : (gts bx).flatten.length ≤ 100000) : ConOk Try.prog 114 (c_bdoney id sz ln bx) := by
 refine conOk_of rfl (nb := 2) Try.func114 rfl rfl Try.ntmps114 rfl rfl rfl fun g0 w0 ac gs ws hg0 hS => ?_
 have hlenk1 : bx.length ≤ 9223372036854775807 := hS.lens 1 rfl
 have hS := hS.sp
 have hf1 : ¬ ((bx.length : Nat) : Int) = 0 := omm
 refine v0 [0, 2, 3] [0, 1] 2 hS fun hS => ?_
 refine wp_seq (wp_seq ?_)
 have hbm2 : (bmiss_m id sz ln bx).length = 0 := (bmiss_n id sz ln bx).2 hf
 have hk1 : ¬ (0 : Int) < (((bmiss_m id sz ln bx).length : Nat) : Int) := by omega
 refine uA [(8, .ob false), (12, .call ⟨124, (c_bmiss id sz ln bx), [(0, 0), (1, 1)], []⟩), (14, .ob false)] ⟨bmiss_ok _ _ _ _ lnn, trivial⟩ (fun C => [(decide (((bx.length : Nat) : Int) = 0)) = false, ndC C 12, (decide ((0 : Int) < (((bmiss_m id sz ln bx).length : Nat) : Int))) = false]) [0, 2, 3, 19] [0, 1] 2 ⟨decide_eq_false hf1, rfl, decide_eq_false hk1, trivial⟩ hS fun hS => ?_
 refine then_n (cond_f hS ?_)
 refine wp_skip (then_n (wp_seq ?_))
 obtain ⟨gs, hS⟩ := hS.fz 1
 refine uA [(4, .call ⟨45, (c_cato bx), [], []⟩)] ⟨cato_ok _ (by first | assumption | omega), trivial⟩ (fun C => [ndC C 4]) [2, 3] [0] 2 ⟨rfl, trivial⟩ hS fun hS => ?_
 refine then_n (wp_ret ?_)
 exact fin_y rfl (.inr rfl) hS [lb ((gts bx).flatten), .v (.bool true)] [(0, some (.ob 135 (chain [vi (id : Int), vi (sz : Int), vi (ln : Int), .ls false [.os (.int .u8)] bx])))] rfl ⟨rfl, trivial⟩

end
end Go.Sx.Try
namespace Go.Sx.Try
open Go.Mi Go.RowKit Go.Sx Go.Proofs
noncomputable section
def putB (bx : List (Option (List Int))) (pa : Nat) (d : List Int) : List (Option (List Int)) := bx.set pa (some d)
def FitB (bx : List (Option (List Int))) (pa : Nat) (d : List Int) : Prop := List.getD (α := Option (List Int)) bx pa none = none ∨ List.getD (α := Option (List Int)) bx pa none = some d
def baddE (bx : List (Option (List Int))) (pa : Nat) : Nat := if (List.getD (α := Option (List Int)) bx pa none).isNone = true then 0 else 8
theorem baddE_ne (bx : List (Option (List Int))) (pa : Nat) : ¬ ((baddE bx pa : Nat) : Int) = 2 := by unfold baddE; split <;> decide
theorem putB_len (bx : List (Option (List Int))) (pa : Nat) (d : List Int) : (putB bx pa d).length = bx.length := List.length_set
theorem badd_g {id sz ln : Nat} {bx : List (Option (List Int))} {pa ct q : Nat} {d : List Int} (hpa : pa < bx.length) (hq : q < ln) (hdl : d.length = min sz (ln - q)) (hf : FitB bx pa d) : badd_m id sz ln bx pa ct q d = (putB bx pa d, baddE bx pa) := by
 rw [badd_e]; unfold badd_v putB baddE
 rw [if_pos omm]
 show (if (List.getD (α := Option (List Int)) bx pa none).isNone = true then _ else (if (List.getD (α := Option (List Int)) bx pa none).getD [] = d then _ else _)) = _
 rcases hf with h | h
 ·rw [h]; rfl
 ·rw [h]
  have e : bx.set pa (some d) = bx := by
   rw [List.getD_eq_getElem?_getD, List.getElem?_eq_getElem hpa] at h
   have h : bx[pa] = some d := h
   rw [← h, List.set_getElem_self]
  rw [e]
  simp
def c_baddg (id sz ln : Nat) (bx : List (Option (List Int))) (pa ct q : Nat) (d : List Int) : Con := ⟨[.cp 0 0, .ag (chain [vi (id : Int), vi (pa : Int), vi (ct : Int), lb d])], [(0, .ob 135 (chain [vi (id : Int), vi (sz : Int), vi (ln : Int), .sk 1])), (1, .sl 22 [.os (.int .u8)] bx)], vi ((baddE bx pa : Nat) : Int), [(0, .ob 135 (chain [vi (id : Int), vi (sz : Int), vi (ln : Int), .sk 1])), (1, .sl 22 [.os (.int .u8)] (putB bx pa d))]⟩
theorem baddg_ok (id sz ln : Nat) (bx : List (Option (List Int))) (pa ct q : Nat) (d : List Int) (hb : bx.length ≤ 10000) (hz : sz ≤ 1000 ∧ ln ≤ 10000) (hq : q = pa * sz) (hql : q < ln) (hpa : pa < bx.length) (hct : ct = bx.length) (hdl : d.length = min sz (ln - q)) (hft : FitB bx pa d) (hd : 1 ≤ d.length ∧ d.length ≤ 100000) : ConOk Try.prog 113 (c_baddg id sz ln bx pa ct q d) := by
 have h := badd_ok id sz ln bx pa ct q d hb hz hq hql hpa hct hdl hd
 unfold c_badd at h
 rw [badd_g hpa hql hdl hft] at h
 exact h
end
end Go.Sx.Try
namespace Go.Sx.Try
open Go.Mi Go.RowKit Go.Sx Go.Proofs
noncomputable section
end
end Go.Sx.Try
namespace Go.Sx.Try
open Go.Mi Go.RowKit Go.Sx Go.Proofs
noncomputable section
def decrypt_l1_s (dk ct : List Int) (x15 : Nat) : (Nat → Int) → (Nat → Int) := fun o5_0 => updW o5_0 (x15 * 256) 256 (ntt_m (expand10_m (unpack10_m (ct.drop (320 * x15)))))
def decrypt_l1 (dk ct : List Int) : Nat → (Nat → Int)
 | 0 => fun _ => 0
 | x15 + 1 => decrypt_l1_s dk ct x15 (decrypt_l1 dk ct x15)
def decrypt_v (dk ct : List Int) : (List Int) := encode1_m (compress1_m (sub_m (expand4_m (unpack4_m (ct.drop 960))) (inverse_m (dot_m (rowof_m dk) (decrypt_l1 dk ct 3)))))
def decrypt_m (dk ct : List Int) : (List Int) := shut (decrypt_v dk ct)
theorem decrypt_e (dk ct : List Int) : decrypt_m dk ct = decrypt_v dk ct := shut_eq _
@[simp] theorem decrypt_len (dk ct : List Int) : (decrypt_m dk ct).length = 32 := by rw [decrypt_e]; exact encode1_len _
def c_decrypt (dk ct : List Int) : Con := ⟨[lb dk, lb ct], [], .sk 0, [(0, .sl 5 [.int .u8] (decrypt_m dk ct))]⟩
theorem decrypt_ok (dk ct : List Int) (hd : dk.length = 2400) (hc : ct.length = 1088) : ConOk Try.prog 115 (c_decrypt dk ct) := by
 refine conOk_of rfl (nb := 0) Try.func115 rfl rfl Try.ntmps115 rfl rfl rfl fun g0 w0 ac gs ws hg0 hS => ?_
 have hlen0 : dk.length ≤ 9223372036854775807 := hS.len 0 rfl
 have hlen1 : ct.length ≤ 9223372036854775807 := hS.len 1 rfl
 have hS := hS.sp
 refine s0 [0, 1, 4] [] 0 hS fun hS => ?_
 refine s0 [0, 1, 4, 5] [0] 1 hS fun hS => ?_
 refine wp_seq (s0 [0, 1, 4, 5, 15] [0] 1 hS fun hS => ?_)
 refine wp_block (loop_y (ι := Nat × (Nat → Int)) hg0 hS (fun z_ => match z_ with | (x15, o5_0) => 3 - x15) (fun z_ => match z_ with | (x15, o5_0) => [(0, lb dk), (1, lb ct), (4, .v (.slice none 0 0)), (5, .cp 0 0), (15, vi ((x15 : Nat) : Int))]) (fun z_ => match z_ with | (x15, o5_0) => [(0, .ob 62 (chain [.ar .u16 768 o5_0]))]) (fun z_ => match z_ with | (x15, o5_0) => (x15 ≤ 3) ∧ (o5_0 = decrypt_l1 dk ct x15) ∧ True) 1 (0, fun _ => 0) [(0, 0)] ⟨omm, rfl, trivial⟩ ?_)
 rintro ⟨x15, o5_0⟩ ac gs ws ⟨hx15, hq1, _⟩ hS
 refine s0 [0, 1, 4, 5, 15, 16] [0] 1 hS fun hS => ?_
 refine wp_seq ?_
 refine if_d ((x15 : Int) < 3) hS (fun h1 => ?_) (fun h1 => ?_)
 ·refine wp_skip (then_n (wp_seq (wp_block (s0 [0, 1, 4, 5, 6, 15] [0] 1 hS fun hS => ?_))))
  refine sA [(2, .oi ((320 * x15 : Nat) : Int)), (4, .call ⟨64, (c_unpack10 (ct.drop (320 * x15))), [], []⟩), (5, .call ⟨79, (c_expand10 (unpack10_m (ct.drop (320 * x15)))), [], []⟩)] ⟨unpack10_ok _ (by first | omega | (simp only [List.length_append, List.length_drop, List.length_take, List.length_cons, List.length_nil]; omega)), expand10_ok _, trivial⟩ (fun C => [imul .i64 320 (x15 : Int) = ((320 * x15 : Nat) : Int), bndP (some ((320 * x15 : Nat) : Int)) none none ct.length ct.length, ndC C 4, nd [.ar .u16 256 (unpack10_m (ct.drop (320 * x15))), vi 10] []]) [0, 1, 4, 5, 6, 7, 15] [0, 1] 2 ⟨by rw [imul64 omm omm]; omega, ⟨by simp only [nnI] <;> omega, by simp only [nnI] <;> omega, by simp only [nnI] <;> omega, by simp, by simp only [bl] <;> omega, by simp only [bl] <;> omega, by simp only [bl] <;> omega⟩, rfl, rfl, trivial⟩ hS fun hS => ?_
  refine rA [(1, .ov (.ar .u16 256 (expand10_m (unpack10_m (ct.drop (320 * x15)))))), (2, .call ⟨41, (c_ntt (expand10_m (unpack10_m (ct.drop (320 * x15))))), [], []⟩)] ⟨ntt_ok _, trivial⟩ (fun C => [(.ar .u16 256 (expand10_m (unpack10_m (ct.drop (320 * x15)))) : D) = (.ar .u16 256 (expand10_m (unpack10_m (ct.drop (320 * x15))))), ndC C 2, (0 : Int) ≤ (x15 : Int) ∧ ((x15 : Int) : Int) < 3]) [0, 1, 4, 5, 15] [0] 2 ⟨rfl, rfl, by omega, trivial⟩ hS fun hS => ?_
  refine block_n (then_n (rA [(0, .oi ((x15 + 1 : Nat) : Int))] trivial (fun _ => [iadd .i64 (x15 : Int) 1 = ((x15 + 1 : Nat) : Int)]) [0, 1, 4, 5, 15] [0] 2 ⟨by rw [iadd64 omm omm]; omega, trivial⟩ hS fun hS => ?_))
  refine then_n ?_
  exact next_y hg0 hS (s := (x15, o5_0)) (x15 + 1, updW o5_0 (x15 * 256) 256 (ntt_m (expand10_m (unpack10_m (ct.drop (320 * x15)))))) [(0, 0)] (show 3 - (x15 + 1) < 3 - x15 from by omega) ⟨omm, (it_next (F := decrypt_l1 dk ct) (st := decrypt_l1_s dk ct) (fun _ => rfl) hq1 rfl), trivial⟩
 ·have hScur := hS
  obtain rfl : 3 = x15 := by omega
  obtain rfl : decrypt_l1 dk ct 3 = o5_0 := Eq.symm (congrArg (fun z => z) hq1)
  have hS := hScur
  clear hScur
  refine wp_exit (then_exit (then_exit (block_exit (then_n (sA [(2, .call ⟨64, (c_unpack4 (ct.drop 960)), [], []⟩), (3, .call ⟨79, (c_expand4 (unpack4_m (ct.drop 960))), [], []⟩)] ⟨unpack4_ok _ (by first | omega | (simp only [List.length_append, List.length_drop, List.length_take, List.length_cons, List.length_nil]; omega)), expand4_ok _, trivial⟩ (fun C => [bndP (some 960) none none ct.length ct.length, ndC C 2, nd [.ar .u16 256 (unpack4_m (ct.drop 960)), vi 4] []]) [0, 4, 5, 9] [0, 1] 2 ⟨⟨by simp only [nnI] <;> omega, by simp only [nnI] <;> omega, by simp only [nnI] <;> omega, by simp, by simp only [bl] <;> omega, by simp only [bl] <;> omega, by simp only [bl] <;> omega⟩, rfl, rfl, trivial⟩ hS fun hS => ?_)))))
  refine sA [(0, .ov (.ar .u16 256 (expand4_m (unpack4_m (ct.drop 960))))), (2, .call ⟨33, (c_rowof dk), [], []⟩), (3, .ov (.ar .u16 768 (decrypt_l1 dk ct 3))), (4, .call ⟨44, (c_dot (rowof_m dk) (decrypt_l1 dk ct 3)), [], []⟩), (5, .call ⟨77, (c_inverse (dot_m (rowof_m dk) (decrypt_l1 dk ct 3))), [], []⟩), (6, .call ⟨125, (c_sub (expand4_m (unpack4_m (ct.drop 960))) (inverse_m (dot_m (rowof_m dk) (decrypt_l1 dk ct 3)))), [], []⟩), (7, .call ⟨78, (c_compress1 (sub_m (expand4_m (unpack4_m (ct.drop 960))) (inverse_m (dot_m (rowof_m dk) (decrypt_l1 dk ct 3))))), [], []⟩)] ⟨rowof_ok _ lnn, dot_ok _ _, inverse_ok _, sub_ok _ _, compress1_ok _, trivial⟩ (fun C => [(.ar .u16 256 (expand4_m (unpack4_m (ct.drop 960))) : D) = (.ar .u16 256 (expand4_m (unpack4_m (ct.drop 960)))), ndC C 2, (.ar .u16 768 (decrypt_l1 dk ct 3) : D) = (.ar .u16 768 (decrypt_l1 dk ct 3)), nd [.ar .u16 768 (rowof_m dk), .ar .u16 768 (decrypt_l1 dk ct 3)] [], ndC C 5, nd [.ar .u16 256 (expand4_m (unpack4_m (ct.drop 960))), .ar .u16 256 (inverse_m (dot_m (rowof_m dk) (decrypt_l1 dk ct 3)))] [], nd [.ar .u16 256 (sub_m (expand4_m (unpack4_m (ct.drop 960))) (inverse_m (dot_m (rowof_m dk) (decrypt_l1 dk ct 3)))), vi 1] []]) [4, 11] [2] 3 ⟨rfl, rfl, rfl, rfl, rfl, rfl, rfl, trivial⟩ hS fun hS => ?_
  refine sA [(0, .ov (.ar .u16 256 (compress1_m (sub_m (expand4_m (unpack4_m (ct.drop 960))) (inverse_m (dot_m (rowof_m dk) (decrypt_l1 dk ct 3))))))), (1, .call ⟨76, (c_encode1 (compress1_m (sub_m (expand4_m (unpack4_m (ct.drop 960))) (inverse_m (dot_m (rowof_m dk) (decrypt_l1 dk ct 3)))))), [], [(0, 3)]⟩)] ⟨encode1_ok _, trivial⟩ (fun _ => [(.ar .u16 256 (compress1_m (sub_m (expand4_m (unpack4_m (ct.drop 960))) (inverse_m (dot_m (rowof_m dk) (decrypt_l1 dk ct 3))))) : D) = (.ar .u16 256 (compress1_m (sub_m (expand4_m (unpack4_m (ct.drop 960))) (inverse_m (dot_m (rowof_m dk) (decrypt_l1 dk ct 3)))))), nd [.ar .u16 256 (compress1_m (sub_m (expand4_m (unpack4_m (ct.drop 960))) (inverse_m (dot_m (rowof_m dk) (decrypt_l1 dk ct 3))))), vi 1] []]) [4, 13] [3] 4 ⟨rfl, rfl, trivial⟩ hS fun hS => ?_
  refine s0 [4] [3] 4 hS fun hS => ?_
  refine wp_ret ?_
  have hM : decrypt_m dk ct = encode1_m (compress1_m (sub_m (expand4_m (unpack4_m (ct.drop 960))) (inverse_m (dot_m (rowof_m dk) (decrypt_l1 dk ct 3))))) := decrypt_e dk ct
  obtain ⟨gs, hS⟩ := hS.rn [(0, 3)] [(4, .sk 0)] [(0, .sl 5 [.int .u8] (encode1_m (compress1_m (sub_m (expand4_m (unpack4_m (ct.drop 960))) (inverse_m (dot_m (rowof_m dk) (decrypt_l1 dk ct 3)))))))] 1 hg0
  exact fin_y rfl (.inr rfl) hS [.sk 0] [(0, some (.sl 5 [.int .u8] (encode1_m (compress1_m (sub_m (expand4_m (unpack4_m (ct.drop 960))) (inverse_m (dot_m (rowof_m dk) (decrypt_l1 dk ct 3))))))))] rfl (by show H1Ok _ [(0, .sl 5 [.int .u8] (decrypt_m dk ct))] true; rw [hM]; first | (simp only []; exact ⟨rfl, trivial⟩) | exact ⟨rfl, trivial⟩)

def c_encryptf (ek m r : List Int) : Con := ⟨[lb ek, lb m, lb r], [], lb (encrypt_m ek m r), []⟩
theorem encryptf_ok (ek m r : List Int) (he : ek.length = 1184) (hm : m.length = 32) (hr : r.length = 32) : ConOk Try.prog 47 (c_encryptf ek m r) := ConOk.frz [] 0 5 [.int .u8] (encrypt_m ek m r) (encrypt_ok ek m r he hm hr) (by kernel_rfl)
def decaps_v (dk ct : List Int) : (List Int) × Nat := if ((chkdk dk : Nat) : Int) = 0 then (if (encrypt_m ((dk.take 2336).drop 1152) (decrypt_m dk ct) ((sum512_m [decrypt_m dk ct, (dk.take 2368).drop 2336]).drop 32)) = ct then ((sum512_m [decrypt_m dk ct, (dk.take 2368).drop 2336]).take 32, 0) else (shake32_m [dk.drop 2368, ct], 0)) else ([], (chkdk dk))
def decaps_m (dk ct : List Int) : (List Int) × Nat := shut (decaps_v dk ct)
theorem decaps_e (dk ct : List Int) : decaps_m dk ct = decaps_v dk ct := shut_eq _
def c_decaps (dk ct : List Int) : Con := ⟨[lb dk, lb ct], [], .tu (chain [lb ((decaps_m dk ct).1), vi (((decaps_m dk ct).2 : Nat) : Int)]), []⟩
theorem decaps_ok (dk ct : List Int) (hc : ct.length = 1088) : ConOk Try.prog 94 (c_decaps dk ct) := by
 refine conOk_of rfl (nb := 0) Try.func94 rfl rfl Try.ntmps94 rfl rfl rfl fun g0 w0 ac gs ws hg0 hS => ?_
 have hlen0 : dk.length ≤ 9223372036854775807 := hS.len 0 rfl
 have hlen1 : ct.length ≤ 9223372036854775807 := hS.len 1 rfl
 have hS := hS.sp
 have hk2 : ((ct.length : Nat) : Int) = 1088 := omm
 refine s0 [0, 1, 4, 5] [] 0 hS fun hS => ?_
 refine wp_seq (sA [(1, .call ⟨12, (c_checkdk dk), [], []⟩)] ⟨checkdk_ok _, trivial⟩ (fun C => [ndC C 1]) [0, 1, 4, 5, 6] [] 0 ⟨rfl, trivial⟩ hS fun hS => ?_)
 refine s0 [0, 1, 4, 5, 6, 14] [] 0 hS fun hS => ?_
 refine if_n (((chkdk dk : Nat) : Int) = 0) hS (fun h1 => ?_) (fun h1 => ?_)
 ·refine s0 [0, 1, 4, 5] [] 0 hS fun hS => ?_
  refine wp_ret (then_ret ?_)
  have hM : decaps_m dk ct = ([], (chkdk dk)) := (decaps_e dk ct).trans (if_neg h1)
  have hS := hS.wk 4 (lb [])
  exact fin_y rfl (.inr rfl) hS [lb [], vi ((chkdk dk : Nat) : Int)] [] (by show weak _ (.tu (chain [lb ((decaps_m dk ct).1), vi (((decaps_m dk ct).2 : Nat) : Int)])) = (.tu (chain [lb ((decaps_m dk ct).1), vi (((decaps_m dk ct).2 : Nat) : Int)])); rw [hM]; first | (simp only []; rfl) | (simp only []; done) | rfl) trivial
 ·refine wp_skip (then_n (wp_seq (sA [(2, .ob false)] trivial (fun _ => [(!decide (((ct.length : Nat) : Int) = 1088)) = false]) [0, 1, 4, 5, 18] [] 0 ⟨by rw [decide_eq_true hk2]; rfl, trivial⟩ hS fun hS => ?_)))
  refine cond_f hS ?_
  refine wp_skip (then_n (wp_seq ?_))
  have hd := chkdk_len (xs := dk) omm
  refine rA [] trivial (fun _ => [bndP (some 1152) (some 2336) none dk.length dk.length, bndP (some 2368) none none dk.length dk.length]) [0, 1, 4, 5, 7, 8] [] 0 ⟨⟨by simp only [nnI] <;> omega, by simp only [nnI] <;> omega, by simp only [nnI] <;> omega, by simp, by simp only [bl] <;> omega, by simp only [bl] <;> omega, by simp only [bl] <;> omega⟩, ⟨by simp only [nnI] <;> omega, by simp only [nnI] <;> omega, by simp only [nnI] <;> omega, by simp, by simp only [bl] <;> omega, by simp only [bl] <;> omega, by simp only [bl] <;> omega⟩, trivial⟩ hS fun hS => ?_
  refine then_n (sA [(2, .call ⟨115, (c_decrypt dk ct), [], [(0, 0)]⟩)] ⟨decrypt_ok _ _ lnn lnn, trivial⟩ (fun C => [ndC C 2]) [0, 1, 4, 5, 7, 8, 9] [0] 1 ⟨rfl, trivial⟩ hS fun hS => ?_)
  refine wp_seq ?_
  have hdl := decrypt_len dk ct
  obtain ⟨gs, hS⟩ := hS.fz 0
  refine rA [(4, .call ⟨38, (c_sum512 [decrypt_m dk ct, (dk.take 2368).drop 2336]), [], []⟩)] ⟨sum512_ok _ (by first | omega | (simp only [List.flatten_cons, List.flatten_nil, List.length_append, List.length_cons, List.length_nil, List.length_take, List.length_drop, List.length_replicate] <;> omega) | (simp <;> omega)), trivial⟩ (fun C => [bndP (some 2336) (some 2368) none dk.length dk.length, ndC C 4]) [1, 4, 5, 7, 8, 9, 10] [] 1 ⟨⟨by simp only [nnI] <;> omega, by simp only [nnI] <;> omega, by simp only [nnI] <;> omega, by simp, by simp only [bl] <;> omega, by simp only [bl] <;> omega, by simp only [bl] <;> omega⟩, rfl, trivial⟩ hS fun hS => ?_
  refine then_n (wp_seq (wp_seq ?_))
  have hsl := sum512_len [decrypt_m dk ct, (dk.take 2368).drop 2336]
  refine rA [(4, .call ⟨47, (c_encryptf ((dk.take 2336).drop 1152) (decrypt_m dk ct) ((sum512_m [decrypt_m dk ct, (dk.take 2368).drop 2336]).drop 32)), [], []⟩), (6, .call ⟨36, (c_equal (encrypt_m ((dk.take 2336).drop 1152) (decrypt_m dk ct) ((sum512_m [decrypt_m dk ct, (dk.take 2368).drop 2336]).drop 32)) ct), [], []⟩)] ⟨encryptf_ok _ _ _ lnn lnn lnn, equal_ok _ _, trivial⟩ (fun C => [bndP (some 32) none none (sum512_m [decrypt_m dk ct, (dk.take 2368).drop 2336]).length (sum512_m [decrypt_m dk ct, (dk.take 2368).drop 2336]).length, ndC C 4, ndC C 6]) [1, 4, 5, 8, 10, 38] [] 1 ⟨⟨by simp only [nnI] <;> omega, by simp only [nnI] <;> omega, by simp only [nnI] <;> omega, by simp, by simp only [bl] <;> omega, by simp only [bl] <;> omega, by simp only [bl] <;> omega⟩, rfl, rfl, trivial⟩ hS fun hS => ?_
  refine then_n ?_
  refine if_n ((encrypt_m ((dk.take 2336).drop 1152) (decrypt_m dk ct) ((sum512_m [decrypt_m dk ct, (dk.take 2368).drop 2336]).drop 32)) = ct) hS (fun h2 => ?_) (fun h2 => ?_)
  ·refine sA [(3, .call ⟨98, (c_shake32 [dk.drop 2368, ct]), [], []⟩)] ⟨shake32_ok _ (by first | omega | (simp only [List.flatten_cons, List.flatten_nil, List.length_append, List.length_cons, List.length_nil, List.length_take, List.length_drop, List.length_replicate] <;> omega) | (simp <;> omega)), trivial⟩ (fun C => [ndC C 3]) [4, 5, 10] [] 1 ⟨rfl, trivial⟩ hS fun hS => ?_
   refine wp_ret (then_ret ?_)
   have hM : decaps_m dk ct = (shake32_m [dk.drop 2368, ct], 0) := (decaps_e dk ct).trans ((if_pos h1).trans (if_neg h2))
   exact fin_y rfl (.inr rfl) hS [lb (shake32_m [dk.drop 2368, ct]), vi 0] [] (by show weak _ (.tu (chain [lb ((decaps_m dk ct).1), vi (((decaps_m dk ct).2 : Nat) : Int)])) = (.tu (chain [lb ((decaps_m dk ct).1), vi (((decaps_m dk ct).2 : Nat) : Int)])); rw [hM]; first | (simp only []; rfl) | (simp only []; done) | rfl) trivial
  ·refine wp_skip (then_n (sA [] trivial (fun _ => [bndP none (some 32) (some 32) (sum512_m [decrypt_m dk ct, (dk.take 2368).drop 2336]).length (sum512_m [decrypt_m dk ct, (dk.take 2368).drop 2336]).length]) [4, 5] [] 1 ⟨⟨by simp only [nnI] <;> omega, by simp only [nnI] <;> omega, by simp only [nnI] <;> omega, by simp, by simp only [bl] <;> omega, by simp only [bl] <;> omega, by simp only [bl] <;> omega⟩, trivial⟩ hS fun hS => ?_))
   refine wp_ret ?_
   have hM : decaps_m dk ct = ((sum512_m [decrypt_m dk ct, (dk.take 2368).drop 2336]).take 32, 0) := (decaps_e dk ct).trans ((if_pos h1).trans (if_pos h2))
   exact fin_y rfl (.inr rfl) hS [lb ((sum512_m [decrypt_m dk ct, (dk.take 2368).drop 2336]).take 32), vi 0] [] (by show weak _ (.tu (chain [lb ((decaps_m dk ct).1), vi (((decaps_m dk ct).2 : Nat) : Int)])) = (.tu (chain [lb ((decaps_m dk ct).1), vi (((decaps_m dk ct).2 : Nat) : Int)])); rw [hM]; first | (simp only []; rfl) | (simp only []; done) | rfl) trivial

end
end Go.Sx.Try
namespace Go.Sx.Try
open Go.Mi Go.RowKit Go.Sx Go.Proofs
noncomputable section
end
end Go.Sx.Try
namespace Go.Sx.Try
open Go.Mi Go.RowKit Go.Sx Go.Proofs
noncomputable section
theorem ofI64 {a : Int} (ha : 0 ≤ a ∧ a < 18446744073709551616) : (BitVec.ofInt 64 a).toNat = a.toNat := by rw [BitVec.toNat_ofInt]; omega
theorem wrap_u64n {x : Int} (h : 0 ≤ x ∧ x < 18446744073709551616) : IntKind.wrap .u64 x = x := by
 have : IntKind.wrap .u64 x = x % 18446744073709551616 := by simp [IntKind.wrap, IntKind.bits, IntKind.signed]
 rw [this]; omega
theorem bor64 {a b : Int} (ha : 0 ≤ a ∧ a < 18446744073709551616) (hb : 0 ≤ b ∧ b < 18446744073709551616) : ior .u64 a b = ((a.toNat ||| b.toNat : Nat) : Int) := by
 have h : a.toNat ||| b.toNat < 2 ^ 64 := Nat.or_lt_two_pow omm omm
 unfold ior
 rw [wrap_u64n]
 ·show (((BitVec.ofInt 64 a ||| BitVec.ofInt 64 b).toNat : Nat) : Int) = _
  rw [BitVec.toNat_or, ofI64 ha, ofI64 hb]
 ·show 0 ≤ (((BitVec.ofInt 64 a ||| BitVec.ofInt 64 b).toNat : Nat) : Int) ∧ (((BitVec.ofInt 64 a ||| BitVec.ofInt 64 b).toNat : Nat) : Int) < _
  rw [BitVec.toNat_or, ofI64 ha, ofI64 hb]
  omega
theorem low7c : ((List.range 256).all fun c => decide (iandn .u8 ((c : Nat) : Int) 128 = ((c % 128 : Nat) : Int))) = true := by kernel_rfl
theorem low7 (c : Nat) (h : c < 256) : iandn .u8 (c : Int) 128 = ((c % 128 : Nat) : Int) := of_decide_eq_true (List.all_eq_true.1 low7c c (List.mem_range.2 h))
theorem top7c : ((List.range 256).all fun c => decide (ior .u8 ((c : Nat) : Int) 128 = ((128 + c % 128 : Nat) : Int))) = true := by kernel_rfl
theorem top7 (c : Nat) (h : c < 256) : ior .u8 (c : Int) 128 = ((128 + c % 128 : Nat) : Int) := of_decide_eq_true (List.all_eq_true.1 top7c c (List.mem_range.2 h))
theorem grp {v x i : Nat} (hv : v < 2 ^ (7 * i)) (hx : x < 128) (hl : x * 2 ^ (7 * i) + v < 2 ^ 62) (c : Int) (hc : iandn .u8 c 128 = (x : Nat)) : ior .u64 (v : Int) (ishl .u64 (IntKind.wrap .u64 (iandn .u8 c 128)) ((7 * i : Nat) : Int)) = ((x * 2 ^ (7 * i) + v : Nat) : Int) := by
 rw [hc, wrap_u64n omm]
 by_cases hi : 7 * i ≤ 64
 ·have h1 : ishl .u64 (x : Int) ((7 * i : Nat) : Int) = ((x * 2 ^ (7 * i) : Nat) : Int) := by
   unfold ishl
   rw [show min ((7 * i : Nat) : Int).toNat (IntKind.bits .u64) = 7 * i by simp [IntKind.bits]; omega, show (x : Int) * 2 ^ (7 * i) = ((x * 2 ^ (7 * i) : Nat) : Int) by simp]
   exact wrap_u64n omm
  rw [h1, bor64 omm omm, Int.toNat_natCast, Int.toNat_natCast]
  congr 1
  rw [Nat.or_comm, Nat.mul_comm x]
  exact (Nat.two_pow_add_eq_or_of_lt hv x).symm
 ·have h2 : 2 ^ 62 ≤ 2 ^ (7 * i) := Nat.pow_le_pow_right (by decide) omm
  have hx0 : x = 0 := by
   rcases Nat.eq_zero_or_pos x with h | h
   ·exact h
   ·have : 1 * 2 ^ (7 * i) ≤ x * 2 ^ (7 * i) := Nat.mul_le_mul_right _ h
    omega
  subst hx0
  have h1 : ishl .u64 ((0 : Nat) : Int) ((7 * i : Nat) : Int) = ((0 : Nat) : Int) := by
   unfold ishl
   rw [show ((0 : Nat) : Int) = 0 from rfl, Int.zero_mul]; rfl
  rw [h1, bor64 omm omm, Int.toNat_natCast, Int.toNat_natCast, Nat.or_zero, Nat.zero_mul, Nat.zero_add]
theorem numA_W (r : List Int) : ∀ (m i v : Nat), v < 2 ^ (7 * i) → m * 2 ^ (7 * i) + v < 2 ^ 62 → i ≤ 9 → (0 < i → 0 < m) → numA (10 - i) i ((v : Nat) : Int) (numW m ++ r) = some (((m * 2 ^ (7 * i) + v : Nat) : Int), r) := by
 intro m
 induction m using Nat.strongRecOn with
 | _ m ih =>
  intro i v hv hl hi hp
  obtain ⟨k, hk⟩ : ∃ k, 10 - i = k + 1 := ⟨9 - i, by omega⟩
  have hpow : 0 < 2 ^ (7 * i) := Nat.pow_pos (by decide)
  have hw : IntKind.wrap .u8 (m : Int) = ((m % 256 : Nat) : Int) := by rw [wrap_u8m]; omega
  by_cases h : 128 ≤ m
  ·have h2 : 128 * 2 ^ (7 * i) ≤ m * 2 ^ (7 * i) := Nat.mul_le_mul_right _ h
   have hi2 : i ≤ 7 := by
    rcases Nat.lt_or_ge 7 i with h3 | h3
    ·have : 2 ^ 56 ≤ 2 ^ (7 * i) := Nat.pow_le_pow_right (by decide) omm
     omega
    ·exact h3
   have hdm : m = 128 * (m / 128) + m % 128 := (Nat.div_add_mod m 128).symm
   have hc : ior .u8 (IntKind.wrap .u8 (m : Int)) 128 = ((128 + m % 128 : Nat) : Int) := by
    rw [hw]
    have := top7 (m % 256) (Nat.mod_lt _ (by decide))
    rw [show (m % 256) % 128 = m % 128 by omega] at this
    exact this
   have hlo : iandn .u8 ((128 + m % 128 : Nat) : Int) 128 = ((m % 128 : Nat) : Int) := by
    have := low7 (128 + m % 128) omm
    rw [show (128 + m % 128) % 128 = m % 128 by omega] at this
    exact this
   have hmul : m * 2 ^ (7 * i) = m / 128 * 2 ^ (7 * (i + 1)) + m % 128 * 2 ^ (7 * i) := by
    rw [show 7 * (i + 1) = 7 + 7 * i by omega, Nat.pow_add, show (2 : Nat) ^ 7 = 128 from rfl, ← Nat.mul_assoc, ← Nat.add_mul]
    congr 1; omega
   rw [numW_y h, List.cons_append, hk, hc]
   show (if (128 : Int) ≤ ((128 + m % 128 : Nat) : Int) then numA k (i + 1) (ior .u64 _ (ishl .u64 (IntKind.wrap .u64 (iandn .u8 _ 128)) _)) (numW (m / 128) ++ r) else _) = _
   rw [if_pos omm, grp hv (Nat.mod_lt _ (by decide)) omm _ hlo]
   have hv2 : m % 128 * 2 ^ (7 * i) + v < 2 ^ (7 * (i + 1)) := by
    rw [show 7 * (i + 1) = 7 + 7 * i by omega, Nat.pow_add, show (2 : Nat) ^ 7 = 128 from rfl]
    have : m % 128 * 2 ^ (7 * i) ≤ 127 * 2 ^ (7 * i) := Nat.mul_le_mul_right _ omm
    omega
   have := ih (m / 128) omm (i + 1) (m % 128 * 2 ^ (7 * i) + v) hv2 omm omm (fun _ => by omega)
   rw [show 10 - (i + 1) = k by omega] at this
   rw [this, hmul, Nat.add_assoc]
  ·have hc : IntKind.wrap .u8 (m : Int) = (m : Int) := by rw [hw]; omega
   have hlo : iandn .u8 (m : Int) 128 = (m : Int) := by
    have := low7 m omm
    rw [show m % 128 = m by omega] at this
    exact this
   rw [numW_n h, hk, hc]
   show (if (128 : Int) ≤ (m : Int) then _ else if i = 9 ∧ (1 : Int) < (m : Int) then none else if 0 < i ∧ (m : Int) = 0 then none else some (ior .u64 _ (ishl .u64 (IntKind.wrap .u64 (iandn .u8 _ 128)) _), r)) = _
   have h9 : ¬ (i = 9 ∧ (1 : Int) < (m : Int)) := fun ⟨e, h1⟩ => by
    subst e
    have : 1 * 2 ^ 63 ≤ m * 2 ^ (7 * 9) := Nat.mul_le_mul_right _ omm
    omega
   rw [if_neg omm, if_neg h9, if_neg (fun ⟨a, b⟩ => by have := hp a; omega), grp hv omm hl _ hlo]
theorem numM_W {n : Nat} (h : n < 2 ^ 62) (r : List Int) : numM (numW n ++ r) = some ((n : Int), r) := by
 have := numA_W r n 0 0 (by decide) (by simpa using h) (by decide) (fun h => absurd h (by decide))
 unfold numM
 simpa using this
theorem numV_W {n : Nat} (h : n < 2 ^ 62) (r : List Int) : numV (numW n ++ r) = ((n : Int), r) := num_v (numM_W h r)
theorem numB_W {n : Nat} (h : n < 2 ^ 62) (r : List Int) : numB (numW n ++ r) = true := num_is (numM_W h r)
end
end Go.Sx.Try
namespace Go.Sx.Try
open Go.Mi Go.RowKit Go.Sx Go.Proofs
noncomputable section
theorem small_Y {n m : Nat} (h : n < 2 ^ 62) (hm : n ≤ m) (r : List Int) : small_k (numW n ++ r) m = true := by
 rw [small_ke]; unfold small_kv
 rw [numB_W h, numV_W h, if_pos rfl, if_neg (by show ¬ (m : Int) < (n : Int); omega)]
theorem rfixed_Y {xs : List Int} {n : Nat} (h : n ≤ xs.length) : rfixed_k xs n = true := by
 cases hk : rfixed_k xs n with
 | true => rfl
 | false => exact absurd (rfixed_n (by rw [hk]; decide)) omm
theorem rbytes1_Y {d : List Int} {m : Nat} (h : d.length ≤ m) (hm : m < 2 ^ 62) : rbytes1_k (numW d.length ++ d) m = true := by
 rw [rbytes1_ke]; unfold rbytes1_kv
 rw [small_Y omm h, if_pos rfl, numV_W omm]
 show (if rfixed_k d ((d.length : Nat) : Int).toNat = true then true else false) = true
 rw [Int.toNat_natCast, rfixed_Y (Nat.le_refl _), if_pos rfl]
theorem dc_kY {id ai ct : Nat} {d : List Int} (h : id ≤ 1073741824 ∧ ai ≤ 1073741824 ∧ ct ≤ 1073741824) (hd : d.length ≤ 1000) : dc1_k (encB id ai ct d) = true ∧ dc1_m (encB id ai ct d) = ([], id, ai, ct, d) := by
 have e : encB id ai ct d = numW id ++ (numW ai ++ (numW ct ++ (numW d.length ++ d))) := by unfold encB; simp only [List.append_assoc]
 have q1 := numV_W (n := id) omm (numW ai ++ (numW ct ++ (numW d.length ++ d)))
 have q2 := numV_W (n := ai) omm (numW ct ++ (numW d.length ++ d))
 have q3 := numV_W (n := ct) omm (numW d.length ++ d)
 have q4 := numV_W (n := d.length) omm d
 have b1 := numB_W (n := id) omm (numW ai ++ (numW ct ++ (numW d.length ++ d)))
 have b2 := numB_W (n := ai) omm (numW ct ++ (numW d.length ++ d))
 have b3 := numB_W (n := ct) omm (numW d.length ++ d)
 rw [e]
 constructor
 ·rw [dc1_ke]; unfold dc1_kv
  simp only [q1, q2, q3, b1, b2, b3, rbytes1_Y hd (show 1000 < 2 ^ 62 by decide), if_true]
  rw [if_neg omm, if_neg omm, if_neg omm]
 ·rw [dc1_e]; unfold dc1_v
  simp only [q1, q2, q3, q4, Int.toNat_natCast]
  rw [List.take_of_length_le (Nat.le_refl _), List.drop_of_length_le (Nat.le_refl _)]
theorem dec_enc {id ai ct : Nat} {d : List Int} (h : id ≤ 1073741824 ∧ ct ≤ 1073741824 ∧ ai < ct) (hd : 1 ≤ d.length ∧ d.length ≤ 1000) : decode_m (encB id ai ct d) = (id, ai, ct, d, 0) := by
 obtain ⟨h1, h2⟩ := dc_kY (id := id) (ai := ai) (ct := ct) (d := d) omm hd.2
 have h3 : rdp_k (encB id ai ct d) = true := by
  rw [rdp_ke]; unfold rdp_kv
  rw [h1, if_pos rfl, h2, rend_ke]; unfold rend_kv
  rfl
 have h4 : rdp_m (encB id ai ct d) = (id, ai, ct, d) := by rw [rdp_e]; unfold rdp_v; rw [h2]
 rw [decode_e]; unfold decode_v
 rw [h3, if_pos rfl, h4]
 simp only [encode_y h hd]
 rw [if_pos (by rfl), if_pos trivial]
end
end Go.Sx.Try
namespace Go.Sx
open Go.Mi Go.RowKit
variable [Dfr]
def chkRen2 (ρ : Ren) (ks0 : List Nat) (L' : DL) (H' : Hc) (nb' : Nat) : Bool :=
 let a := keys ρ
 nodupB a && nodupB (H'.map fun p => rn ρ p.1) && (ks0.all fun k => memN k a && Nat.beq (rn ρ k) k) && (L'.all fun p => allNm a p.2) && (H'.all fun p => memN p.1 a && allNmO a p.2) && (a.all (Nat.blt · nb'))
section
variable {P : Program} {n : Nat} {L : DL} {H : Hp} {S0 : Nat → Prop} {g0 g : G} {w0 w : World} {nb : Nat} {a : Act}
theorem St.ren2 {ks0 : List Nat} (hg0 : ∀ k v, g0.N k = some v → k ∈ ks0) (hS : St n S0 g0 w0 L H nb a g w) (ρ : Ren) (L' : DL) (H' : Hc) (nb' : Nat) (hc : chkRen2 ρ ks0 L' H' nb' = true) (hL : pickD L (keys L') = L'.map fun p => (p.1, p.2.ren (rn ρ))) (hH : H0Ok H (rn ρ) H') : ∃ g', St n S0 g0 w0 L' (hpC H') nb' a g' w := by
 simp only [chkRen2, Bool.and_eq_true, List.all_eq_true] at hc
 obtain ⟨⟨⟨⟨⟨c1, c2⟩, c3⟩, c4⟩, c5⟩, c6⟩ := hc
 have c1 := nodupB_of c1
 have c2 := nodupB_of c2
 have nm : ∀ {ks : List Nat} {d : D}, allNm ks d = true → d.plain = true ∧ ∀ k ∈ d.nm, k ∈ ks := fun {ks d} h => by
  simp only [allNm, Bool.and_eq_true, List.all_eq_true] at h
  exact ⟨h.1, fun k hk => memN_iff.1 (h.2 k hk)⟩
 have nmO : ∀ {ks : List Nat} {d : O}, allNmO ks d = true → d.plain = true ∧ ∀ k ∈ d.nm, k ∈ ks := fun {ks d} h => by
  simp only [allNmO, Bool.and_eq_true, List.all_eq_true] at h
  exact ⟨h.1, fun k hk => memN_iff.1 (h.2 k hk)⟩
 let g' : G := ⟨fun k => if k ∈ keys ρ then g.N (rn ρ k) else none, fun k => g.F (rn ρ k), g.X⟩
 have gN : ∀ k ∈ keys ρ, g'.N k = g.N (rn ρ k) := fun k hk => if_pos hk
 have hk0 : ∀ k ∈ ks0, k ∈ keys ρ ∧ rn ρ k = k := fun k hk => by
  have := c3 k hk
  exact ⟨memN_iff.1 this.1, Nat.eq_of_beq_eq_true this.2⟩
 have hob : ∀ k o, lkH (hpC H') k = some o → k ∈ keys ρ ∧ o.plain = true ∧ (∀ j ∈ o.nm, j ∈ keys ρ) ∧ lkH H (rn ρ k) = some (o.ren (rn ρ)) := fun k o ho => by
  rw [lkH_hpC] at ho
  have := c5 _ (lkC_mem ho)
  simp only at this
  exact ⟨memN_iff.1 this.1, (nmO this.2).1, (nmO this.2).2, H0Ok_at hH ho⟩
 have hinj : ∀ i ∈ keys H', ∀ j ∈ keys H', rn ρ i = rn ρ j → i = j := by
  have key : ∀ (l : Hc), List.Nodup (l.map fun p => rn ρ p.1) → ∀ i ∈ keys l, ∀ j ∈ keys l, rn ρ i = rn ρ j → i = j := by
   intro l
   induction l with
   | nil => intro _ i hi; cases hi
   | cons p l ih =>
    intro hn i hi j hj e
    rw [List.map_cons, List.nodup_cons] at hn
    simp only [keys, List.map_cons, List.mem_cons] at hi hj
    have inn : ∀ x, x ∈ l.map (·.1) → rn ρ x ∈ l.map fun p => rn ρ p.1 := fun x hx => by
     obtain ⟨q, hq, rfl⟩ := List.mem_map.1 hx
     exact List.mem_map.2 ⟨q, hq, rfl⟩
    rcases hi with rfl | hi
    ·rcases hj with rfl | hj
     ·rfl
     ·exact absurd (e ▸ inn j hj) hn.1
    ·rcases hj with rfl | hj
     ·exact absurd (e ▸ inn i hi) hn.1
     ·exact ih hn.2 i hi j hj e
  exact key H' c2
 have kin : ∀ k o, lkH (hpC H') k = some o → k ∈ keys H' := fun k o ho => by
  rw [lkH_hpC] at ho
  exact List.mem_map.2 ⟨_, lkC_mem ho, rfl⟩
 refine ⟨g', hS.size, hS.defers, fun t d ht => ?_, ⟨hS.hs.wf, fun k o ho => ?_, fun k o ho b hb => ?_, fun k o k' o' ho ho' hne b hb hb' => ?_⟩, ⟨hS.go.ch, hS.go.s, hS.go.x, hS.go.k, fun k v hk => ?_, fun k v hk => ?_⟩, hS.wf0, fun k o ho b hb => ?_, fun k v hk => ?_⟩
 ·have h1 : lkD (pickD L (keys L')) t = some (d.ren (rn ρ)) := by rw [hL, lkD_map, ht]; rfl
  have h2 := hS.fr t _ (lk_pickD h1).2
  obtain ⟨p1, p2⟩ := nm (c4 _ (lkD_mem ht))
  exact (sem_ren d _ _ p1 fun k hk => gN k (p2 k hk)).1 h2
 ·obtain ⟨h1, h2, h3, h4⟩ := hob k o ho
  exact (OS_ren h2 (fun j hj => gN j (h3 j hj)) (gN k h1) rfl rfl).1 (hS.hs.os _ _ h4)
 ·exact hS.hs.own _ _ (hob k o ho).2.2.2 b hb
 ·exact hS.hs.dis _ _ _ _ (hob k o ho).2.2.2 (hob k' o' ho').2.2.2 (fun e => hne (hinj k (kin k o ho) k' (kin k' o' ho') e)) b hb hb'
 ·obtain ⟨h1, h2⟩ := hk0 k (hg0 k v hk)
  rw [gN k h1, h2]
  exact hS.go.n k v hk
 ·obtain ⟨h1, h2⟩ := hk0 k (hg0 k v hk)
  show g.F (rn ρ k) = _
  rw [h2]
  exact hS.go.f k v hk
 ·exact hS.fp _ _ (hob k o ho).2.2.2 b hb
 ·by_cases h : k ∈ keys ρ
  ·have := c6 k h
   rw [Nat.blt_eq] at this
   exact this
  ·rw [show g'.N k = none from if_neg h] at hk; cases hk
end
section
variable {n : Nat} {σ : Sg} {S0 : Nat → Prop} {g0 g : G} {w0 w : World} {nb : Nat} {a : Act}
theorem Sp.rn2 {ks0 : List Nat} (hS : Sp n S0 g0 w0 σ nb a g w) (ρ : Ren) (L' : DL) (H' : Hc) (nb' : Nat) (hg0 : ∀ k v, g0.N k = some v → k ∈ ks0) (hc : chkRen2 ρ ks0 L' H' nb' = true := by kernel_rfl) (hL : pickD σ.1 (keys L') = L'.map fun p => (p.1, p.2.ren (Go.Sx.rn ρ)) := by kernel_rfl) (hH : (H'.map fun p => lkH σ.2 (Go.Sx.rn ρ p.1)) = (H'.map fun p => some (p.2.ren (Go.Sx.rn ρ))) := by kernel_rfl) : ∃ g', Sp n S0 g0 w0 (L', hpC H') nb' a g' w :=
 St.ren2 hg0 hS.st ρ L' H' nb' hc hL (by
  clear hc hL
  induction H' with
  | nil => trivial
  | cons p r ih =>
   obtain ⟨j, o⟩ := p
   simp only [List.map_cons, List.cons.injEq] at hH
   exact ⟨hH.1, ih hH.2⟩)
end
end Go.Sx
namespace Go.Sx.Try
open Go.Mi Go.RowKit Go.Sx Go.Proofs
noncomputable section
theorem encB_pos {id ai ct : Nat} {d : List Int} (h : 1 ≤ d.length) : 1 ≤ (encB id ai ct d).length := by unfold encB; rw [List.length_append]; omega
def c_decy (id ai ct : Nat) (d : List Int) : Con := ⟨[lb (encB id ai ct d)], [], .tu (chain [.ag (chain [vi (id : Int), vi (ai : Int), vi (ct : Int), lb d]), vi 0]), []⟩
theorem decy_ok (id ai ct : Nat) (d : List Int) (h : id ≤ 1073741824 ∧ ct ≤ 1073741824 ∧ ai < ct) (hd : 1 ≤ d.length ∧ d.length ≤ 1000) : ConOk Try.prog 54 (c_decy id ai ct d) := by
 have hl : (encB id ai ct d).length ≤ 100000000000000 := by
  have h1 := numW_10 (n := id) omm
  have h2 := numW_10 (n := ai) omm
  have h3 := numW_10 (n := ct) omm
  have h4 := numW_10 (n := d.length) omm
  unfold encB
  simp only [List.length_append]; omega
 have h1 := decode_ok (encB id ai ct d) hl
 unfold c_decode at h1
 rw [dec_enc h hd] at h1
 exact h1
def c_emptyxu (sz st at_ : Nat) (tx : List Int) (id ln : Nat) (sec : List (List Int)) (bx : List (Option (List Int))) : Con := ⟨[.cp 0 0, vi 0], [(0, .ob 77 (chain [vi (sz : Int), vi (st : Int), vi 0, vi (at_ : Int), .v (.slice none 0 0), lb tx, .cp 1 0, .sk 2])), (1, .ob 135 (chain [vi (id : Int), vi (sz : Int), vi (ln : Int), .ls false [.os (.int .u8)] bx])), (2, .sl 22 [.sl (.int .u8)] sec)], .cp 3 0, [(0, .ob 77 (chain [vi (sz : Int), vi (st : Int), vi 0, vi (at_ : Int), .v (.slice none 0 0), lb tx, .cp 1 0, .sk 2])), (1, .ob 135 (chain [vi (id : Int), vi (sz : Int), vi (ln : Int), .ls false [.os (.int .u8)] bx])), (2, .sl 22 [.sl (.int .u8)] sec), (3, .ob 135 (chain [vi 0, vi (sz : Int), vi 1184, .sk 4])), (4, .sl 22 [.os (.int .u8)] (List.replicate (((1184 + sz) - 1) / sz) none))]⟩
theorem emptyxu_ok (sz st at_ : Nat) (tx : List Int) (id ln : Nat) (sec : List (List Int)) (bx : List (Option (List Int))) (hz : 1 ≤ sz ∧ sz ≤ 1000 ∧ ln ≤ 10000) (hst : st = 2) : ConOk Try.prog 80 (c_emptyxu sz st at_ tx id ln sec bx) := by
 refine conOk_of rfl (nb := 3) Try.func80 rfl rfl Try.ntmps80 rfl rfl rfl fun g0 w0 ac gs ws hg0 hS => ?_
 have hlenk2 : sec.length ≤ 9223372036854775807 := hS.lens 2 rfl
 have hS := hS.sp
 have hs1 : ¬ (st : Int) = 1 := omm
 refine v0 [0, 1, 4] [0, 1, 2] 3 hS fun hS => ?_
 refine v0 [0, 1, 4, 5, 6] [0, 1, 2] 3 hS fun hS => ?_
 refine wp_seq (vA [(4, .ob false)] trivial (fun _ => [(decide ((st : Int) = 1)) = false]) [0, 1, 4, 5, 6, 15] [0, 1, 2] 3 ⟨decide_eq_false hs1, trivial⟩ hS fun hS => ?_)
 refine cond_f hS ?_
 refine wp_skip (then_n (wp_seq ?_))
 have hcb := cntb (ln := 1184) (sz := sz) (by decide) hz.1
 refine uA [(6, .oi ((1184 + sz : Nat) : Int)), (7, .oi (((1184 + sz) - 1 : Nat) : Int)), (12, .oi ((((1184 + sz) - 1) / sz : Nat) : Int)), (18, .call ⟨103, (c_bnew 0 (((1184 + sz) - 1) / sz) sz 1184), [], [(0, 3), (1, 4)]⟩)] ⟨bnew_ok _ _ _ _ omm omm, trivial⟩ (fun C => [iadd .i64 1184 (sz : Int) = ((1184 + sz : Nat) : Int), isub .i64 ((1184 + sz : Nat) : Int) 1 = (((1184 + sz) - 1 : Nat) : Int), iquo .i64 (((1184 + sz) - 1 : Nat) : Int) (sz : Int) = ((((1184 + sz) - 1) / sz : Nat) : Int), ((sz : Int) : Int) ≠ 0, ndC C 18]) [4, 7] [0, 1, 2, 3, 4] 5 ⟨by rw [iadd64 omm omm]; omega, by rw [isub64 omm omm]; omega, by rw [iquo64 omm omm omm]; exact (Int.natCast_ediv _ _).symm, by omega, rfl, trivial⟩ hS fun hS => ?_
 refine then_n (v0 [4] [0, 1, 2, 3, 4] 5 hS fun hS => ?_)
 refine wp_ret ?_
 exact fin_y rfl (.inr rfl) hS [.cp 3 0] [(0, some (.ob 77 (chain [vi (sz : Int), vi (st : Int), vi 0, vi (at_ : Int), .v (.slice none 0 0), lb tx, .cp 1 0, .sk 2]))), (1, some (.ob 135 (chain [vi (id : Int), vi (sz : Int), vi (ln : Int), .ls false [.os (.int .u8)] bx]))), (2, some (.sl 22 [.sl (.int .u8)] sec)), (3, some (.ob 135 (chain [vi 0, vi (sz : Int), vi 1184, .sk 4]))), (4, some (.sl 22 [.os (.int .u8)] (List.replicate (((1184 + sz) - 1) / sz) none)))] rfl ⟨rfl, rfl, rfl, rfl, rfl, trivial⟩

def c_addnu (sz st at_ : Nat) (tx : List Int) (id ln : Nat) (sec : List (List Int)) (bx : List (Option (List Int))) (pa ct q : Nat) (d : List Int) : Con := ⟨[.cp 0 0, .ag (chain [vi (id : Int), vi (pa : Int), vi (ct : Int), lb d])], [(0, .ob 77 (chain [vi (sz : Int), vi (st : Int), vi 0, vi (at_ : Int), .v (.slice none 0 0), lb tx, .cp 1 0, .sk 2])), (1, .ob 135 (chain [vi (id : Int), vi (sz : Int), vi (ln : Int), .sk 3])), (2, .sl 22 [.sl (.int .u8)] sec), (3, .sl 22 [.os (.int .u8)] bx)], .tu (chain [.v (.slice none 0 0), vi 0]), [(0, .ob 77 (chain [vi (sz : Int), vi (st : Int), vi 0, vi (at_ : Int), .v (.slice none 0 0), lb tx, .cp 1 0, .sk 2])), (1, .ob 135 (chain [vi (id : Int), vi (sz : Int), vi (ln : Int), .sk 3])), (2, .sl 22 [.sl (.int .u8)] sec), (3, .sl 22 [.os (.int .u8)] (putB bx pa d))]⟩
theorem addnu_ok (sz st at_ : Nat) (tx : List Int) (id ln : Nat) (sec : List (List Int)) (bx : List (Option (List Int))) (pa ct q : Nat) (d : List Int) (hb : 1 ≤ bx.length ∧ bx.length ≤ 10000) (hz : 1 ≤ sz ∧ sz ≤ 1000 ∧ ln ≤ 10000) (hst : st = 2) (hq : q = pa * sz) (hql : q < ln) (hpa : pa < bx.length) (hct : ct = bx.length) (hdl : d.length = min sz (ln - q)) (hft : FitB bx pa d) (hd : 1 ≤ d.length ∧ d.length ≤ 1000) (hf : full (putB bx pa d) = false) : ConOk Try.prog 93 (c_addnu sz st at_ tx id ln sec bx pa ct q d) := by
 refine conOk_of rfl (nb := 4) Try.func93 rfl rfl Try.ntmps93 rfl rfl rfl fun g0 w0 ac gs ws hg0 hS => ?_
 have hlenk2 : sec.length ≤ 9223372036854775807 := hS.lens 2 rfl
 have hlenk3 : bx.length ≤ 9223372036854775807 := hS.lens 3 rfl
 have hS := hS.sp
 have hbe : ¬ ((baddE bx pa : Nat) : Int) = 2 := (baddE_ne bx pa)
 refine s0 [0, 3, 4, 5] [0, 1, 2, 3, 4] 5 hS fun hS => ?_
 refine wp_seq (sA [(5, .call ⟨113, (c_baddg id sz ln bx pa ct q d), [(0, 1), (1, 3)], []⟩), (6, .ob false)] ⟨baddg_ok _ _ _ _ _ _ _ _ lnn omm asm omm omm omm asm asm lnn, trivial⟩ (fun C => [ndC C 5, (decide (((baddE bx pa : Nat) : Int) = 2)) = false]) [0, 4, 5, 14] [0, 1, 2, 3] 5 ⟨rfl, decide_eq_false hbe, trivial⟩ hS fun hS => ?_)
 refine cond_f hS ?_
 refine wp_skip (then_n (wp_seq ?_))
 have hpl := putB_len bx pa d
 refine rA [(4, .call ⟨114, (c_bdonen id sz ln (putB bx pa d)), [(0, 1), (1, 3)], []⟩)] ⟨bdonen_ok _ _ _ _ lnn asm, trivial⟩ (fun C => [ndC C 4]) [4, 5, 6] [0, 1, 2, 3] 5 ⟨rfl, trivial⟩ hS fun hS => ?_
 refine then_n (s0 [4, 5] [0, 1, 2, 3] 5 hS fun hS => ?_)
 refine wp_ret ?_
 exact fin_y rfl (.inr rfl) hS [.v (.slice none 0 0), vi 0] [(0, some (.ob 77 (chain [vi (sz : Int), vi (st : Int), vi 0, vi (at_ : Int), .v (.slice none 0 0), lb tx, .cp 1 0, .sk 2]))), (1, some (.ob 135 (chain [vi (id : Int), vi (sz : Int), vi (ln : Int), .sk 3]))), (2, some (.sl 22 [.sl (.int .u8)] sec)), (3, some (.sl 22 [.os (.int .u8)] (putB bx pa d)))] rfl ⟨rfl, rfl, rfl, rfl, trivial⟩

def c_addyu (sz st at_ : Nat) (tx : List Int) (id ln : Nat) (sec : List (List Int)) (bx : List (Option (List Int))) (pa ct q : Nat) (d : List Int) : Con := ⟨[.cp 0 0, .ag (chain [vi (id : Int), vi (pa : Int), vi (ct : Int), lb d])], [(0, .ob 77 (chain [vi (sz : Int), vi (st : Int), vi 0, vi (at_ : Int), .v (.slice none 0 0), lb tx, .cp 1 0, .sk 2])), (1, .ob 135 (chain [vi (id : Int), vi (sz : Int), vi (ln : Int), .sk 3])), (2, .sl 22 [.sl (.int .u8)] sec), (3, .sl 22 [.os (.int .u8)] bx)], .tu (chain [lb ((gts (putB bx pa d)).flatten), vi 0]), [(0, .ob 77 (chain [vi (sz : Int), vi (st : Int), vi 0, vi (at_ : Int), .v (.slice none 0 0), lb tx, .cp 1 0, .sk 2])), (1, .ob 135 (chain [vi (id : Int), vi (sz : Int), vi (ln : Int), .ls false [.os (.int .u8)] (putB bx pa d)])), (2, .sl 22 [.sl (.int .u8)] sec)]⟩
theorem addyu_ok (sz st at_ : Nat) (tx : List Int) (id ln : Nat) (sec : List (List Int)) (bx : List (Option (List Int))) (pa ct q : Nat) (d : List Int) (hb : 1 ≤ bx.length ∧ bx.length ≤ 10000) (hz : 1 ≤ sz ∧ sz ≤ 1000 ∧ ln ≤ 10000) (hst : st = 2) (hq : q = pa * sz) (hql : q < ln) (hpa : pa < bx.length) (hct : ct = bx.length) (hdl : d.length = min sz (ln - q)) (hft : FitB bx pa d) (hd : 1 ≤ d.length ∧ d.length ≤ 1000) (hf : full (putB bx pa d) = true) (hl : ((gts (putB bx pa d)).flatten).length ≤ 100000) : ConOk Try.prog 93 (c_addyu sz st at_ tx id ln sec bx pa ct q d) := by
 refine conOk_of rfl (nb := 4) Try.func93 rfl rfl Try.ntmps93 rfl rfl rfl fun g0 w0 ac gs ws hg0 hS => ?_
 have hlenk2 : sec.length ≤ 9223372036854775807 := hS.lens 2 rfl
 have hlenk3 : bx.length ≤ 9223372036854775807 := hS.lens 3 rfl
 have hS := hS.sp
 have hbe : ¬ ((baddE bx pa : Nat) : Int) = 2 := (baddE_ne bx pa)
 refine s0 [0, 3, 4, 5] [0, 1, 2, 3, 4] 5 hS fun hS => ?_
 refine wp_seq (sA [(5, .call ⟨113, (c_baddg id sz ln bx pa ct q d), [(0, 1), (1, 3)], []⟩), (6, .ob false)] ⟨baddg_ok _ _ _ _ _ _ _ _ lnn omm asm omm omm omm asm asm lnn, trivial⟩ (fun C => [ndC C 5, (decide (((baddE bx pa : Nat) : Int) = 2)) = false]) [0, 4, 5, 14] [0, 1, 2, 3] 5 ⟨rfl, decide_eq_false hbe, trivial⟩ hS fun hS => ?_)
 refine cond_f hS ?_
 refine wp_skip (then_n (wp_seq ?_))
 have hpl := putB_len bx pa d
 refine rA [(4, .call ⟨114, (c_bdoney id sz ln (putB bx pa d)), [(0, 1), (1, 3)], []⟩)] ⟨bdoney_ok _ _ _ _ lnn asm asm, trivial⟩ (fun C => [ndC C 4]) [4, 5, 6] [0, 1, 2] 5 ⟨rfl, trivial⟩ hS fun hS => ?_
 refine then_n (s0 [4, 5] [0, 1, 2] 5 hS fun hS => ?_)
 refine wp_ret ?_
 exact fin_y rfl (.inr rfl) hS [lb ((gts (putB bx pa d)).flatten), vi 0] [(0, some (.ob 77 (chain [vi (sz : Int), vi (st : Int), vi 0, vi (at_ : Int), .v (.slice none 0 0), lb tx, .cp 1 0, .sk 2]))), (1, some (.ob 135 (chain [vi (id : Int), vi (sz : Int), vi (ln : Int), .ls false [.os (.int .u8)] (putB bx pa d)]))), (2, some (.sl 22 [.sl (.int .u8)] sec))] rfl ⟨rfl, rfl, rfl, trivial⟩

def c_takennu (sz st at_ : Nat) (tx : List Int) (id ln : Nat) (sec : List (List Int)) (bx : List (Option (List Int))) (pa ct q : Nat) (d r : List Int) : Con := ⟨[.cp 0 0, .ag (chain [vi (id : Int), vi (pa : Int), vi (ct : Int), lb d]), lb r], [(0, .ob 77 (chain [vi (sz : Int), vi (st : Int), vi 0, vi (at_ : Int), .v (.slice none 0 0), lb tx, .cp 1 0, .sk 2])), (1, .ob 135 (chain [vi (id : Int), vi (sz : Int), vi (ln : Int), .sk 3])), (2, .sl 22 [.sl (.int .u8)] sec), (3, .sl 22 [.os (.int .u8)] bx)], vi 0, [(0, .ob 77 (chain [vi (sz : Int), vi (st : Int), vi 0, vi (at_ : Int), .v (.slice none 0 0), lb tx, .cp 1 0, .sk 2])), (1, .ob 135 (chain [vi (id : Int), vi (sz : Int), vi (ln : Int), .sk 3])), (2, .sl 22 [.sl (.int .u8)] sec), (3, .sl 22 [.os (.int .u8)] (putB bx pa d))]⟩
theorem takennu_ok (sz st at_ : Nat) (tx : List Int) (id ln : Nat) (sec : List (List Int)) (bx : List (Option (List Int))) (pa ct q : Nat) (d r : List Int) (hb : 1 ≤ bx.length ∧ bx.length ≤ 10000) (hz : 1 ≤ sz ∧ sz ≤ 1000 ∧ ln ≤ 10000) (hst : st = 2) (hq : q = pa * sz) (hql : q < ln) (hpa : pa < bx.length) (hct : ct = bx.length) (hdl : d.length = min sz (ln - q)) (hft : FitB bx pa d) (hd : 1 ≤ d.length ∧ d.length ≤ 1000) (hs : full (putB bx pa d) = false) : ConOk Try.prog 56 (c_takennu sz st at_ tx id ln sec bx pa ct q d r) := by
 refine conOk_of rfl (nb := 4) Try.func56 rfl rfl Try.ntmps56 rfl rfl rfl fun g0 w0 ac gs ws hg0 hS => ?_
 have hlen2 : r.length ≤ 9223372036854775807 := hS.len 2 rfl
 have hlenk2 : sec.length ≤ 9223372036854775807 := hS.lens 2 rfl
 have hlenk3 : bx.length ≤ 9223372036854775807 := hS.lens 3 rfl
 have hS := hS.sp
 refine s0 [0, 2, 4, 6] [0, 1, 2, 3, 4] 5 hS fun hS => ?_
 refine sA [(2, .call ⟨93, (c_addnu sz st at_ tx id ln sec bx pa ct q d), [(0, 0), (1, 1), (2, 2), (3, 3)], []⟩)] ⟨addnu_ok _ _ _ _ _ _ _ _ _ _ _ _ lnn omm omm asm omm omm omm asm asm lnn asm, trivial⟩ (fun C => [ndC C 2]) [0, 2, 6, 7, 8] [0, 1, 2, 3] 5 ⟨rfl, trivial⟩ hS fun hS => ?_
 refine wp_seq (s0 [0, 2, 6, 7, 8, 23] [0, 1, 2, 3] 5 hS fun hS => ?_)
 refine cond_t hS ?_
 refine s0 [0, 2, 6, 7, 8] [0, 1, 2, 3] 5 hS fun hS => ?_
 refine wp_ret (then_ret ?_)
 exact fin_y rfl (.inr rfl) hS [vi 0] [(0, some (.ob 77 (chain [vi (sz : Int), vi (st : Int), vi 0, vi (at_ : Int), .v (.slice none 0 0), lb tx, .cp 1 0, .sk 2]))), (1, some (.ob 135 (chain [vi (id : Int), vi (sz : Int), vi (ln : Int), .sk 3]))), (2, some (.sl 22 [.sl (.int .u8)] sec)), (3, some (.sl 22 [.os (.int .u8)] (putB bx pa d)))] rfl ⟨rfl, rfl, rfl, rfl, trivial⟩

def c_takenyu (sz st at_ : Nat) (tx : List Int) (id ln : Nat) (sec : List (List Int)) (bx : List (Option (List Int))) (pa ct q : Nat) (d r : List Int) : Con := ⟨[.cp 0 0, .ag (chain [vi (id : Int), vi (pa : Int), vi (ct : Int), lb d]), lb r], [(0, .ob 77 (chain [vi (sz : Int), vi (st : Int), vi 0, vi (at_ : Int), .v (.slice none 0 0), lb tx, .cp 1 0, .sk 2])), (1, .ob 135 (chain [vi (id : Int), vi (sz : Int), vi (ln : Int), .sk 3])), (2, .sl 22 [.sl (.int .u8)] sec), (3, .sl 22 [.os (.int .u8)] bx)], vi 0, [(0, .ob 77 (chain [vi (sz : Int), vi 3, vi 0, vi 0, .v (.slice none 0 0), .sk 4, .cp 5 0, .sk 7])), (1, .ob 135 (chain [vi (id : Int), vi (sz : Int), vi (ln : Int), .ls false [.os (.int .u8)] (putB bx pa d)])), (4, .sl 5 [.int .u8] ((encapsy_m ((gts (putB bx pa d)).flatten) (r.take 32)).2)), (5, .ob 135 (chain [vi 0, vi (sz : Int), vi 1184, .sk 6])), (6, .sl 22 [.os (.int .u8)] (List.replicate (((1184 + sz) - 1) / sz) none)), (7, .sl 22 [.sl (.int .u8)] (sec ++ [(encapsy_m ((gts (putB bx pa d)).flatten) (r.take 32)).1]))]⟩
theorem takenyu_ok (sz st at_ : Nat) (tx : List Int) (id ln : Nat) (sec : List (List Int)) (bx : List (Option (List Int))) (pa ct q : Nat) (d r : List Int) (hb : 1 ≤ bx.length ∧ bx.length ≤ 10000) (hz : 1 ≤ sz ∧ sz ≤ 1000 ∧ ln ≤ 10000) (hst : st = 2) (hq : q = pa * sz) (hql : q < ln) (hpa : pa < bx.length) (hct : ct = bx.length) (hdl : d.length = min sz (ln - q)) (hft : FitB bx pa d) (hd : 1 ≤ d.length ∧ d.length ≤ 1000) (hE : full (putB bx pa d) = true → chk ((gts (putB bx pa d)).flatten) = 0 ∧ ((gts (putB bx pa d)).flatten).length = 1184) (hr : r.length = 64) (hsc : sec.length ≤ 1000) (hs : full (putB bx pa d) = true) : ConOk Try.prog 56 (c_takenyu sz st at_ tx id ln sec bx pa ct q d r) := by
 refine conOk_of rfl (nb := 4) Try.func56 rfl rfl Try.ntmps56 rfl rfl rfl fun g0 w0 ac gs ws hg0 hS => ?_
 have hlen2 : r.length ≤ 9223372036854775807 := hS.len 2 rfl
 have hlenk2 : sec.length ≤ 9223372036854775807 := hS.lens 2 rfl
 have hlenk3 : bx.length ≤ 9223372036854775807 := hS.lens 3 rfl
 have hS := hS.sp
 refine wp_seq ?_
 have hck := (hE hs).1
 have hFl := (hE hs).2
 have hf1 : ¬ ((((gts (putB bx pa d)).flatten).length : Nat) : Int) = 0 := by omega
 refine r0 [0, 2, 4, 6] [0, 1, 2, 3, 4] 5 hS fun hS => ?_
 refine then_n (wp_seq ?_)
 have hl5 : ((gts (putB bx pa d)).flatten).length ≤ 100000 := by omega
 refine rA [(2, .call ⟨93, (c_addyu sz st at_ tx id ln sec bx pa ct q d), [(0, 0), (1, 1), (2, 2), (3, 3)], []⟩)] ⟨addyu_ok _ _ _ _ _ _ _ _ _ _ _ _ lnn omm omm asm omm omm omm asm asm lnn asm asm, trivial⟩ (fun C => [ndC C 2]) [0, 2, 6, 7, 8] [0, 1, 2] 5 ⟨rfl, trivial⟩ hS fun hS => ?_
 refine then_n (wp_seq (sA [(5, .ob false)] trivial (fun _ => [(decide (((((gts (putB bx pa d)).flatten).length : Nat) : Int) = 0)) = false]) [0, 2, 6, 7, 8, 23] [0, 1, 2] 5 ⟨decide_eq_false hf1, trivial⟩ hS fun hS => ?_))
 refine cond_f hS ?_
 refine wp_skip (then_n (wp_seq ?_))
 have h32 : (r.take 32).length = 32 := by rw [List.length_take]; omega
 refine rA [(3, .call ⟨15, (c_encapsy ((gts (putB bx pa d)).flatten) (r.take 32)), [], [(0, 5)]⟩)] ⟨encapsy_ok _ _ omm lnn, trivial⟩ (fun C => [bndP none (some 32) none r.length r.length, ndC C 3]) [0, 6, 8, 9, 10] [0, 1, 2, 5] 6 ⟨⟨by simp only [nnI] <;> omega, by simp only [nnI] <;> omega, by simp only [nnI] <;> omega, by simp, by simp only [bl] <;> omega, by simp only [bl] <;> omega, by simp only [bl] <;> omega⟩, rfl, trivial⟩ hS fun hS => ?_
 refine then_n (wp_seq (s0 [0, 6, 9, 10, 34] [0, 1, 2, 5] 6 hS fun hS => ?_))
 refine cond_f hS ?_
 refine wp_skip (then_n (sA [] trivial (fun _ => [sec.length + [(encapsy_m ((gts (putB bx pa d)).flatten) (r.take 32)).1].length ≤ 9223372036854775807, (sec.length + [(encapsy_m ((gts (putB bx pa d)).flatten) (r.take 32)).1].length) * 24 ≤ 140737488355328]) [0, 6, 10] [0, 1, 5, 6] 7 ⟨by simp <;> omega, by simp <;> omega, trivial⟩ hS fun hS => ?_))
 refine sA [(10, .call ⟨80, (c_emptyxu sz st at_ tx id ln (sec ++ [(encapsy_m ((gts (putB bx pa d)).flatten) (r.take 32)).1]) (putB bx pa d)), [(0, 0), (1, 1), (2, 6)], [(3, 7), (4, 8)]⟩)] ⟨emptyxu_ok _ _ _ _ _ _ _ _ omm omm, trivial⟩ (fun C => [ndC C 10]) [6] [0, 1, 5, 6, 7, 8] 9 ⟨rfl, trivial⟩ hS fun hS => ?_
 refine s0 [6] [0, 1, 5, 6, 7, 8] 9 hS fun hS => ?_
 refine wp_ret ?_
 obtain ⟨gs, hS⟩ := hS.rn [(0, 0), (1, 1), (2, 2), (3, 3), (4, 5), (5, 7), (6, 8), (7, 6)] [(6, vi 0)] [(0, .ob 77 (chain [vi (sz : Int), vi 3, vi 0, vi 0, .v (.slice none 0 0), .sk 4, .cp 5 0, .sk 7])), (1, .ob 135 (chain [vi (id : Int), vi (sz : Int), vi (ln : Int), .ls false [.os (.int .u8)] (putB bx pa d)])), (4, .sl 5 [.int .u8] ((encapsy_m ((gts (putB bx pa d)).flatten) (r.take 32)).2)), (5, .ob 135 (chain [vi 0, vi (sz : Int), vi 1184, .sk 6])), (6, .sl 22 [.os (.int .u8)] (List.replicate (((1184 + sz) - 1) / sz) none)), (7, .sl 22 [.sl (.int .u8)] (sec ++ [(encapsy_m ((gts (putB bx pa d)).flatten) (r.take 32)).1]))] 8 hg0
 exact fin_y rfl (.inr rfl) hS [vi 0] [(0, some (.ob 77 (chain [vi (sz : Int), vi 3, vi 0, vi 0, .v (.slice none 0 0), .sk 4, .cp 5 0, .sk 7]))), (1, some (.ob 135 (chain [vi (id : Int), vi (sz : Int), vi (ln : Int), .ls false [.os (.int .u8)] (putB bx pa d)]))), (4, some (.sl 5 [.int .u8] ((encapsy_m ((gts (putB bx pa d)).flatten) (r.take 32)).2))), (5, some (.ob 135 (chain [vi 0, vi (sz : Int), vi 1184, .sk 6]))), (6, some (.sl 22 [.os (.int .u8)] (List.replicate (((1184 + sz) - 1) / sz) none))), (7, some (.sl 22 [.sl (.int .u8)] (sec ++ [(encapsy_m ((gts (putB bx pa d)).flatten) (r.take 32)).1])))] rfl ⟨rfl, rfl, rfl, rfl, rfl, rfl, trivial⟩

def intk_v (sz st at_ : Nat) (tx : List Int) (id ln : Nat) (sec : List (List Int)) (bx : List (Option (List Int))) (pa ct q : Nat) (d r : List Int) : Nat × Nat × (List Int) × Nat × Nat × (List (Option (List Int))) × (List (List Int)) := if (st : Int) = 3 then (st, at_, tx, id, ln, bx, sec) else (if full (putB bx pa d) = true then (3, 0, ((encapsy_m ((gts (putB bx pa d)).flatten) (r.take 32)).2), 0, 1184, (List.replicate (((1184 + sz) - 1) / sz) none), (sec ++ [(encapsy_m ((gts (putB bx pa d)).flatten) (r.take 32)).1])) else (st, at_, tx, id, ln, (putB bx pa d), sec))
def intk_m (sz st at_ : Nat) (tx : List Int) (id ln : Nat) (sec : List (List Int)) (bx : List (Option (List Int))) (pa ct q : Nat) (d r : List Int) : Nat × Nat × (List Int) × Nat × Nat × (List (Option (List Int))) × (List (List Int)) := shut (intk_v sz st at_ tx id ln sec bx pa ct q d r)
theorem intk_e (sz st at_ : Nat) (tx : List Int) (id ln : Nat) (sec : List (List Int)) (bx : List (Option (List Int))) (pa ct q : Nat) (d r : List Int) : intk_m sz st at_ tx id ln sec bx pa ct q d r = intk_v sz st at_ tx id ln sec bx pa ct q d r := shut_eq _
def c_intk (sz st at_ : Nat) (tx : List Int) (id ln : Nat) (sec : List (List Int)) (bx : List (Option (List Int))) (pa ct q : Nat) (d r : List Int) : Con := ⟨[.cp 0 0, lb (encB id pa ct d), lb r], [(0, .ob 77 (chain [vi (sz : Int), vi (st : Int), vi 0, vi (at_ : Int), .v (.slice none 0 0), lb tx, .cp 1 0, .sk 2])), (1, .ob 135 (chain [vi (id : Int), vi (sz : Int), vi (ln : Int), .sk 3])), (2, .sl 22 [.sl (.int .u8)] sec), (3, .sl 22 [.os (.int .u8)] bx)], vi 0, [(0, .ob 77 (chain [vi (sz : Int), vi (((intk_m sz st at_ tx id ln sec bx pa ct q d r).1 : Nat) : Int), vi 0, vi (((intk_m sz st at_ tx id ln sec bx pa ct q d r).2.1 : Nat) : Int), .v (.slice none 0 0), lb ((intk_m sz st at_ tx id ln sec bx pa ct q d r).2.2.1), .cp 4 0, .sk 6])), (4, .ob 135 (chain [vi (((intk_m sz st at_ tx id ln sec bx pa ct q d r).2.2.2.1 : Nat) : Int), vi (sz : Int), vi (((intk_m sz st at_ tx id ln sec bx pa ct q d r).2.2.2.2.1 : Nat) : Int), .sk 5])), (5, .sl 22 [.os (.int .u8)] ((intk_m sz st at_ tx id ln sec bx pa ct q d r).2.2.2.2.2.1)), (6, .sl 22 [.sl (.int .u8)] ((intk_m sz st at_ tx id ln sec bx pa ct q d r).2.2.2.2.2.2))]⟩
theorem intk_ok (sz st at_ : Nat) (tx : List Int) (id ln : Nat) (sec : List (List Int)) (bx : List (Option (List Int))) (pa ct q : Nat) (d r : List Int) (hb : 1 ≤ bx.length ∧ bx.length ≤ 10000) (hz : 1 ≤ sz ∧ sz ≤ 1000 ∧ ln ≤ 10000) (hst : st = 2 ∨ st = 3) (hid : id = 0) (hq : q = pa * sz) (hql : q < ln) (hpa : pa < bx.length) (hct : ct = bx.length) (hdl : d.length = min sz (ln - q)) (hft : FitB bx pa d) (hd : 1 ≤ d.length ∧ d.length ≤ 1000) (hE : full (putB bx pa d) = true → chk ((gts (putB bx pa d)).flatten) = 0 ∧ ((gts (putB bx pa d)).flatten).length = 1184) (hr : r.length = 64) (hsc : sec.length ≤ 1000) : ConOk Try.prog 21 (c_intk sz st at_ tx id ln sec bx pa ct q d r) := by
 refine conOk_of rfl (nb := 4) Try.func21 rfl rfl Try.ntmps21 rfl rfl rfl fun g0 w0 ac gs ws hg0 hS => ?_
 have hlen1 : (encB id pa ct d).length ≤ 9223372036854775807 := hS.len 1 rfl
 have hlen2 : r.length ≤ 9223372036854775807 := hS.len 2 rfl
 have hlenk2 : sec.length ≤ 9223372036854775807 := hS.lens 2 rfl
 have hlenk3 : bx.length ≤ 9223372036854775807 := hS.lens 3 rfl
 have hS := hS.sp
 have hs1 : ¬ (st : Int) = 1 := omm
 have hi1 : ¬ (id : Int) < 0 := omm
 have hi2 : (id : Int) = 0 := omm
 have hf1 : ¬ (sz : Int) = 0 := omm
 have hf2 : ((r.length : Nat) : Int) = 64 := omm
 have hf3 : ¬ (((encB id pa ct d).length : Nat) : Int) = 0 := (by have := encB_pos (id := id) (ai := pa) (ct := ct) hd.1; omega)
 refine s0 [0, 1, 2, 6] [0, 1, 2, 3] 4 hS fun hS => ?_
 refine wp_seq (sA [(7, .ob false), (12, .ob false)] trivial (fun _ => [(decide ((sz : Int) = 0)) = false, (!decide (((r.length : Nat) : Int) = 64)) = false]) [0, 1, 2, 6, 25] [0, 1, 2, 3] 4 ⟨decide_eq_false hf1, by rw [decide_eq_true hf2]; rfl, trivial⟩ hS fun hS => ?_)
 refine cond_f hS ?_
 refine wp_skip (then_n (wp_seq (sA [(2, .ob false)] trivial (fun _ => [(decide ((((encB id pa ct d).length : Nat) : Int) = 0)) = false]) [0, 1, 2, 6, 28] [0, 1, 2, 3] 4 ⟨decide_eq_false hf3, trivial⟩ hS fun hS => ?_)))
 refine cond_f hS ?_
 refine wp_skip (then_n (sA [(1, .call ⟨54, (c_decy id pa ct d), [], []⟩)] ⟨decy_ok _ _ _ _ omm lnn, trivial⟩ (fun C => [ndC C 1]) [0, 2, 6, 7, 8] [0, 1, 2, 3, 4] 5 ⟨rfl, trivial⟩ hS fun hS => ?_))
 refine wp_seq (s0 [0, 2, 6, 7, 8, 35] [0, 1, 2, 3, 4] 5 hS fun hS => ?_)
 refine cond_f hS ?_
 refine wp_skip (then_n (s0 [0, 2, 6, 7, 9] [0, 1, 2, 3, 4] 5 hS fun hS => ?_))
 refine wp_seq (wp_block (wp_seq (sA [(4, .ob false)] trivial (fun _ => [(decide ((st : Int) = 1)) = false]) [0, 2, 6, 7, 9, 42] [0, 1, 2, 3, 4] 5 ⟨decide_eq_false hs1, trivial⟩ hS fun hS => ?_)))
 refine cond_f hS ?_
 refine rA [(3, .ob false)] trivial (fun _ => [(decide ((id : Int) < 0)) = false]) [0, 2, 6, 7, 9, 42] [0, 1, 2, 3, 4] 5 ⟨decide_eq_false hi1, trivial⟩ hS fun hS => ?_
 refine then_n (cond_f hS ?_)
 refine sA [(4, .ob false)] trivial (fun _ => [(decide ((st : Int) = 1)) = false]) [0, 2, 6, 7, 9, 58] [0, 1, 2, 3, 4] 5 ⟨decide_eq_false hs1, trivial⟩ hS fun hS => ?_
 refine cond_f hS ?_
 refine sA [(3, .ob true)] trivial (fun _ => [(decide ((id : Int) = 0)) = true]) [0, 2, 6, 7, 9, 67] [0, 1, 2, 3, 4] 5 ⟨decide_eq_true hi2, trivial⟩ hS fun hS => ?_
 refine if_d ((st : Int) = 3) hS (fun h1 => ?_) (fun h1 => ?_)
 ·refine s0 [6] [0, 1, 2, 3] 5 hS fun hS => ?_
  refine wp_ret (block_ret (then_ret ?_))
  have hM : intk_m sz st at_ tx id ln sec bx pa ct q d r = (st, at_, tx, id, ln, bx, sec) := (intk_e sz st at_ tx id ln sec bx pa ct q d r).trans (if_pos h1)
  obtain ⟨gs, hS⟩ := hS.rn2 [(0, 0), (1, 1), (2, 2), (3, 3), (4, 1), (5, 3), (6, 2)] [(6, vi 0)] [(0, .ob 77 (chain [vi (sz : Int), vi (st : Int), vi 0, vi (at_ : Int), .v (.slice none 0 0), lb tx, .cp 4 0, .sk 6])), (4, .ob 135 (chain [vi (id : Int), vi (sz : Int), vi (ln : Int), .sk 5])), (5, .sl 22 [.os (.int .u8)] bx), (6, .sl 22 [.sl (.int .u8)] sec)] 7 hg0
  exact fin_y rfl (.inr rfl) hS [vi 0] [(0, some (.ob 77 (chain [vi (sz : Int), vi (st : Int), vi 0, vi (at_ : Int), .v (.slice none 0 0), lb tx, .cp 4 0, .sk 6]))), (4, some (.ob 135 (chain [vi (id : Int), vi (sz : Int), vi (ln : Int), .sk 5]))), (5, some (.sl 22 [.os (.int .u8)] bx)), (6, some (.sl 22 [.sl (.int .u8)] sec))] rfl (by show H1Ok _ [(0, .ob 77 (chain [vi (sz : Int), vi (((intk_m sz st at_ tx id ln sec bx pa ct q d r).1 : Nat) : Int), vi 0, vi (((intk_m sz st at_ tx id ln sec bx pa ct q d r).2.1 : Nat) : Int), .v (.slice none 0 0), lb ((intk_m sz st at_ tx id ln sec bx pa ct q d r).2.2.1), .cp 4 0, .sk 6])), (4, .ob 135 (chain [vi (((intk_m sz st at_ tx id ln sec bx pa ct q d r).2.2.2.1 : Nat) : Int), vi (sz : Int), vi (((intk_m sz st at_ tx id ln sec bx pa ct q d r).2.2.2.2.1 : Nat) : Int), .sk 5])), (5, .sl 22 [.os (.int .u8)] ((intk_m sz st at_ tx id ln sec bx pa ct q d r).2.2.2.2.2.1)), (6, .sl 22 [.sl (.int .u8)] ((intk_m sz st at_ tx id ln sec bx pa ct q d r).2.2.2.2.2.2))] true; rw [hM]; first | (simp only []; exact ⟨rfl, rfl, rfl, rfl, trivial⟩) | exact ⟨rfl, rfl, rfl, rfl, trivial⟩)
 ·refine sA [(3, .ob true)] trivial (fun _ => [(decide ((id : Int) = 0)) = true]) [0, 2, 6, 7, 9, 79] [0, 1, 2, 3, 4] 5 ⟨decide_eq_true hi2, trivial⟩ hS fun hS => ?_
  refine cond_t hS ?_
  refine wp_seq ?_
  by_cases h2 : full (putB bx pa d) = true
  ·refine rA [(3, .call ⟨56, (c_takenyu sz st at_ tx id ln sec bx pa ct q d r), [(0, 0), (1, 1), (2, 2), (3, 3)], [(4, 5), (5, 6), (6, 7), (7, 8)]⟩)] ⟨takenyu_ok _ _ _ _ _ _ _ _ _ _ _ _ _ lnn omm omm asm omm omm omm asm asm lnn asm lnn lnn h2, trivial⟩ (fun C => [ndC C 3]) [6] [0, 1, 5, 6, 7, 8] 9 ⟨rfl, trivial⟩ hS fun hS => ?_
   refine then_n (wp_ret (block_ret (then_ret ?_)))
   have hM : intk_m sz st at_ tx id ln sec bx pa ct q d r = (3, 0, ((encapsy_m ((gts (putB bx pa d)).flatten) (r.take 32)).2), 0, 1184, (List.replicate (((1184 + sz) - 1) / sz) none), (sec ++ [(encapsy_m ((gts (putB bx pa d)).flatten) (r.take 32)).1])) := (intk_e sz st at_ tx id ln sec bx pa ct q d r).trans ((if_neg h1).trans (if_pos h2))
   obtain ⟨gs, hS⟩ := hS.fz 5
   obtain ⟨gs, hS⟩ := hS.rn [(0, 0), (1, 1), (2, 2), (3, 3), (4, 6), (5, 7), (6, 8)] [(6, vi 0)] [(0, .ob 77 (chain [vi (sz : Int), vi 3, vi 0, vi 0, .v (.slice none 0 0), lb ((encapsy_m ((gts (putB bx pa d)).flatten) (r.take 32)).2), .cp 4 0, .sk 6])), (4, .ob 135 (chain [vi 0, vi (sz : Int), vi 1184, .sk 5])), (5, .sl 22 [.os (.int .u8)] (List.replicate (((1184 + sz) - 1) / sz) none)), (6, .sl 22 [.sl (.int .u8)] (sec ++ [(encapsy_m ((gts (putB bx pa d)).flatten) (r.take 32)).1]))] 7 hg0
   exact fin_y rfl (.inr rfl) hS [vi 0] [(0, some (.ob 77 (chain [vi (sz : Int), vi 3, vi 0, vi 0, .v (.slice none 0 0), lb ((encapsy_m ((gts (putB bx pa d)).flatten) (r.take 32)).2), .cp 4 0, .sk 6]))), (4, some (.ob 135 (chain [vi 0, vi (sz : Int), vi 1184, .sk 5]))), (5, some (.sl 22 [.os (.int .u8)] (List.replicate (((1184 + sz) - 1) / sz) none))), (6, some (.sl 22 [.sl (.int .u8)] (sec ++ [(encapsy_m ((gts (putB bx pa d)).flatten) (r.take 32)).1])))] rfl (by show H1Ok _ [(0, .ob 77 (chain [vi (sz : Int), vi (((intk_m sz st at_ tx id ln sec bx pa ct q d r).1 : Nat) : Int), vi 0, vi (((intk_m sz st at_ tx id ln sec bx pa ct q d r).2.1 : Nat) : Int), .v (.slice none 0 0), lb ((intk_m sz st at_ tx id ln sec bx pa ct q d r).2.2.1), .cp 4 0, .sk 6])), (4, .ob 135 (chain [vi (((intk_m sz st at_ tx id ln sec bx pa ct q d r).2.2.2.1 : Nat) : Int), vi (sz : Int), vi (((intk_m sz st at_ tx id ln sec bx pa ct q d r).2.2.2.2.1 : Nat) : Int), .sk 5])), (5, .sl 22 [.os (.int .u8)] ((intk_m sz st at_ tx id ln sec bx pa ct q d r).2.2.2.2.2.1)), (6, .sl 22 [.sl (.int .u8)] ((intk_m sz st at_ tx id ln sec bx pa ct q d r).2.2.2.2.2.2))] true; rw [hM]; first | (simp only []; exact ⟨rfl, rfl, rfl, rfl, trivial⟩) | exact ⟨rfl, rfl, rfl, rfl, trivial⟩)
  ·refine rA [(3, .call ⟨56, (c_takennu sz st at_ tx id ln sec bx pa ct q d r), [(0, 0), (1, 1), (2, 2), (3, 3)], []⟩)] ⟨takennu_ok _ _ _ _ _ _ _ _ _ _ _ _ _ lnn omm omm asm omm omm omm asm asm lnn (bne_k h2), trivial⟩ (fun C => [ndC C 3]) [6] [0, 1, 2, 3] 5 ⟨rfl, trivial⟩ hS fun hS => ?_
   refine then_n (wp_ret (block_ret (then_ret ?_)))
   have hM : intk_m sz st at_ tx id ln sec bx pa ct q d r = (st, at_, tx, id, ln, (putB bx pa d), sec) := (intk_e sz st at_ tx id ln sec bx pa ct q d r).trans ((if_neg h1).trans (if_neg h2))
   obtain ⟨gs, hS⟩ := hS.rn2 [(0, 0), (1, 1), (2, 2), (3, 3), (4, 1), (5, 3), (6, 2)] [(6, vi 0)] [(0, .ob 77 (chain [vi (sz : Int), vi (st : Int), vi 0, vi (at_ : Int), .v (.slice none 0 0), lb tx, .cp 4 0, .sk 6])), (4, .ob 135 (chain [vi (id : Int), vi (sz : Int), vi (ln : Int), .sk 5])), (5, .sl 22 [.os (.int .u8)] (putB bx pa d)), (6, .sl 22 [.sl (.int .u8)] sec)] 7 hg0
   exact fin_y rfl (.inr rfl) hS [vi 0] [(0, some (.ob 77 (chain [vi (sz : Int), vi (st : Int), vi 0, vi (at_ : Int), .v (.slice none 0 0), lb tx, .cp 4 0, .sk 6]))), (4, some (.ob 135 (chain [vi (id : Int), vi (sz : Int), vi (ln : Int), .sk 5]))), (5, some (.sl 22 [.os (.int .u8)] (putB bx pa d))), (6, some (.sl 22 [.sl (.int .u8)] sec))] rfl (by show H1Ok _ [(0, .ob 77 (chain [vi (sz : Int), vi (((intk_m sz st at_ tx id ln sec bx pa ct q d r).1 : Nat) : Int), vi 0, vi (((intk_m sz st at_ tx id ln sec bx pa ct q d r).2.1 : Nat) : Int), .v (.slice none 0 0), lb ((intk_m sz st at_ tx id ln sec bx pa ct q d r).2.2.1), .cp 4 0, .sk 6])), (4, .ob 135 (chain [vi (((intk_m sz st at_ tx id ln sec bx pa ct q d r).2.2.2.1 : Nat) : Int), vi (sz : Int), vi (((intk_m sz st at_ tx id ln sec bx pa ct q d r).2.2.2.2.1 : Nat) : Int), .sk 5])), (5, .sl 22 [.os (.int .u8)] ((intk_m sz st at_ tx id ln sec bx pa ct q d r).2.2.2.2.2.1)), (6, .sl 22 [.sl (.int .u8)] ((intk_m sz st at_ tx id ln sec bx pa ct q d r).2.2.2.2.2.2))] true; rw [hM]; first | (simp only []; exact ⟨rfl, rfl, rfl, rfl, trivial⟩) | exact ⟨rfl, rfl, rfl, rfl, trivial⟩)

end
end Go.Sx.Try
namespace Go.Sx.Try
open Go.Mi Go.RowKit Go.Sx Go.Proofs
noncomputable section
def c_emptygu (sz ep at_ : Nat) (sd tx : List Int) (id ln : Nat) (sec : List (List Int)) (bx : List (Option (List Int))) (e2 : Nat) : Con := ⟨[.cp 0 0, vi (e2 : Int)], [(0, .ob 77 (chain [vi (sz : Int), vi 1, vi (ep : Int), vi (at_ : Int), lb sd, lb tx, .cp 1 0, .sk 2])), (1, .ob 135 (chain [vi (id : Int), vi (sz : Int), vi (ln : Int), .ls false [.os (.int .u8)] bx])), (2, .sl 22 [.sl (.int .u8)] sec)], .cp 3 0, [(0, .ob 77 (chain [vi (sz : Int), vi 1, vi (ep : Int), vi (at_ : Int), lb sd, lb tx, .cp 1 0, .sk 2])), (1, .ob 135 (chain [vi (id : Int), vi (sz : Int), vi (ln : Int), .ls false [.os (.int .u8)] bx])), (2, .sl 22 [.sl (.int .u8)] sec), (3, .ob 135 (chain [vi ((((2 * e2) + 1) : Nat) : Int), vi (sz : Int), vi 1088, .sk 4])), (4, .sl 22 [.os (.int .u8)] (List.replicate (((1088 + sz) - 1) / sz) none))]⟩
theorem emptygu_ok (sz ep at_ : Nat) (sd tx : List Int) (id ln : Nat) (sec : List (List Int)) (bx : List (Option (List Int))) (e2 : Nat) (hz : 1 ≤ sz ∧ sz ≤ 1000 ∧ ln ≤ 10000) (he : e2 ≤ 500000000) : ConOk Try.prog 80 (c_emptygu sz ep at_ sd tx id ln sec bx e2) := by
 refine conOk_of rfl (nb := 3) Try.func80 rfl rfl Try.ntmps80 rfl rfl rfl fun g0 w0 ac gs ws hg0 hS => ?_
 have hlenk2 : sec.length ≤ 9223372036854775807 := hS.lens 2 rfl
 have hS := hS.sp
 refine v0 [0, 1, 4] [0, 1, 2] 3 hS fun hS => ?_
 refine vA [(1, .oi ((2 * e2 : Nat) : Int))] trivial (fun _ => [imul .i64 2 (e2 : Int) = ((2 * e2 : Nat) : Int)]) [0, 1, 4, 5, 6] [0, 1, 2] 3 ⟨by rw [imul64 omm omm]; omega, trivial⟩ hS fun hS => ?_
 refine wp_seq (v0 [0, 1, 4, 5, 6, 15] [0, 1, 2] 3 hS fun hS => ?_)
 refine cond_t hS ?_
 refine uA [(1, .oi ((2 * e2 : Nat) : Int)), (2, .oi (((2 * e2) + 1 : Nat) : Int))] trivial (fun _ => [imul .i64 2 (e2 : Int) = ((2 * e2 : Nat) : Int), iadd .i64 ((2 * e2 : Nat) : Int) 1 = (((2 * e2) + 1 : Nat) : Int)]) [0, 4, 5, 6] [0, 1, 2] 3 ⟨by rw [imul64 omm omm]; omega, by rw [iadd64 omm omm]; omega, trivial⟩ hS fun hS => ?_
 refine then_n (wp_seq ?_)
 have hcb := cntb (ln := 1088) (sz := sz) (by decide) hz.1
 refine uA [(6, .oi ((1088 + sz : Nat) : Int)), (7, .oi (((1088 + sz) - 1 : Nat) : Int)), (12, .oi ((((1088 + sz) - 1) / sz : Nat) : Int)), (18, .call ⟨103, (c_bnew ((2 * e2) + 1) (((1088 + sz) - 1) / sz) sz 1088), [], [(0, 3), (1, 4)]⟩)] ⟨bnew_ok _ _ _ _ omm omm, trivial⟩ (fun C => [iadd .i64 1088 (sz : Int) = ((1088 + sz : Nat) : Int), isub .i64 ((1088 + sz : Nat) : Int) 1 = (((1088 + sz) - 1 : Nat) : Int), iquo .i64 (((1088 + sz) - 1 : Nat) : Int) (sz : Int) = ((((1088 + sz) - 1) / sz : Nat) : Int), ((sz : Int) : Int) ≠ 0, ndC C 18]) [4, 7] [0, 1, 2, 3, 4] 5 ⟨by rw [iadd64 omm omm]; omega, by rw [isub64 omm omm]; omega, by rw [iquo64 omm omm omm]; exact (Int.natCast_ediv _ _).symm, by omega, rfl, trivial⟩ hS fun hS => ?_
 refine then_n (v0 [4] [0, 1, 2, 3, 4] 5 hS fun hS => ?_)
 refine wp_ret ?_
 exact fin_y rfl (.inr rfl) hS [.cp 3 0] [(0, some (.ob 77 (chain [vi (sz : Int), vi 1, vi (ep : Int), vi (at_ : Int), lb sd, lb tx, .cp 1 0, .sk 2]))), (1, some (.ob 135 (chain [vi (id : Int), vi (sz : Int), vi (ln : Int), .ls false [.os (.int .u8)] bx]))), (2, some (.sl 22 [.sl (.int .u8)] sec)), (3, some (.ob 135 (chain [vi ((((2 * e2) + 1) : Nat) : Int), vi (sz : Int), vi 1088, .sk 4]))), (4, some (.sl 22 [.os (.int .u8)] (List.replicate (((1088 + sz) - 1) / sz) none)))] rfl ⟨rfl, rfl, rfl, rfl, rfl, trivial⟩

def c_freshgu (sz ep at_ : Nat) (sd tx : List Int) (id ln : Nat) (sec : List (List Int)) (bx : List (Option (List Int))) (e2 : Nat) : Con := ⟨[.cp 0 0, vi (e2 : Int)], [(0, .ob 77 (chain [vi (sz : Int), vi 1, vi (ep : Int), vi (at_ : Int), lb sd, lb tx, .cp 1 0, .sk 2])), (1, .ob 135 (chain [vi (id : Int), vi (sz : Int), vi (ln : Int), .ls false [.os (.int .u8)] bx])), (2, .sl 22 [.sl (.int .u8)] sec)], .cp 0 0, [(0, .ob 77 (chain [vi (sz : Int), vi 1, vi (e2 : Int), vi 0, .v (.slice none 0 0), .v (.slice none 0 0), .cp 3 0, .sk 2])), (1, .ob 135 (chain [vi (id : Int), vi (sz : Int), vi (ln : Int), .ls false [.os (.int .u8)] bx])), (2, .sl 22 [.sl (.int .u8)] sec), (3, .ob 135 (chain [vi ((((2 * e2) + 1) : Nat) : Int), vi (sz : Int), vi 1088, .sk 4])), (4, .sl 22 [.os (.int .u8)] (List.replicate (((1088 + sz) - 1) / sz) none))]⟩
theorem freshgu_ok (sz ep at_ : Nat) (sd tx : List Int) (id ln : Nat) (sec : List (List Int)) (bx : List (Option (List Int))) (e2 : Nat) (hz : 1 ≤ sz ∧ sz ≤ 1000 ∧ ln ≤ 10000) (he : e2 ≤ 500000000) : ConOk Try.prog 48 (c_freshgu sz ep at_ sd tx id ln sec bx e2) := by
 refine conOk_of rfl (nb := 3) Try.func48 rfl rfl Try.ntmps48 rfl rfl rfl fun g0 w0 ac gs ws hg0 hS => ?_
 have hlenk2 : sec.length ≤ 9223372036854775807 := hS.lens 2 rfl
 have hS := hS.sp
 refine v0 [0, 1, 4] [0, 1, 2] 3 hS fun hS => ?_
 refine vA [(8, .call ⟨80, (c_emptygu sz ep at_ sd tx id ln sec bx e2), [(0, 0), (1, 1), (2, 2)], [(3, 3), (4, 4)]⟩)] ⟨emptygu_ok _ _ _ _ _ _ _ _ _ _ omm omm, trivial⟩ (fun C => [ndC C 8]) [0, 4] [0, 1, 2, 3, 4] 5 ⟨rfl, trivial⟩ hS fun hS => ?_
 refine v0 [4] [0, 1, 2, 3, 4] 5 hS fun hS => ?_
 refine wp_ret ?_
 exact fin_y rfl (.inr rfl) hS [.cp 0 0] [(0, some (.ob 77 (chain [vi (sz : Int), vi 1, vi (e2 : Int), vi 0, .v (.slice none 0 0), .v (.slice none 0 0), .cp 3 0, .sk 2]))), (1, some (.ob 135 (chain [vi (id : Int), vi (sz : Int), vi (ln : Int), .ls false [.os (.int .u8)] bx]))), (2, some (.sl 22 [.sl (.int .u8)] sec)), (3, some (.ob 135 (chain [vi ((((2 * e2) + 1) : Nat) : Int), vi (sz : Int), vi 1088, .sk 4]))), (4, some (.sl 22 [.os (.int .u8)] (List.replicate (((1088 + sz) - 1) / sz) none)))] rfl ⟨rfl, rfl, rfl, rfl, rfl, trivial⟩

def c_addngu (sz ep at_ : Nat) (sd tx : List Int) (id ln : Nat) (sec : List (List Int)) (bx : List (Option (List Int))) (pa ct q : Nat) (d : List Int) : Con := ⟨[.cp 0 0, .ag (chain [vi (id : Int), vi (pa : Int), vi (ct : Int), lb d])], [(0, .ob 77 (chain [vi (sz : Int), vi 1, vi (ep : Int), vi (at_ : Int), lb sd, lb tx, .cp 1 0, .sk 2])), (1, .ob 135 (chain [vi (id : Int), vi (sz : Int), vi (ln : Int), .sk 3])), (2, .sl 22 [.sl (.int .u8)] sec), (3, .sl 22 [.os (.int .u8)] bx)], .tu (chain [.v (.slice none 0 0), vi 0]), [(0, .ob 77 (chain [vi (sz : Int), vi 1, vi (ep : Int), vi (at_ : Int), lb sd, lb tx, .cp 1 0, .sk 2])), (1, .ob 135 (chain [vi (id : Int), vi (sz : Int), vi (ln : Int), .sk 3])), (2, .sl 22 [.sl (.int .u8)] sec), (3, .sl 22 [.os (.int .u8)] (putB bx pa d))]⟩
theorem addngu_ok (sz ep at_ : Nat) (sd tx : List Int) (id ln : Nat) (sec : List (List Int)) (bx : List (Option (List Int))) (pa ct q : Nat) (d : List Int) (hb : 1 ≤ bx.length ∧ bx.length ≤ 10000) (hz : 1 ≤ sz ∧ sz ≤ 1000 ∧ ln ≤ 10000) (he : ep ≤ 400000000) (hq : q = pa * sz) (hql : q < ln) (hpa : pa < bx.length) (hct : ct = bx.length) (hdl : d.length = min sz (ln - q)) (hft : FitB bx pa d) (hd : 1 ≤ d.length ∧ d.length ≤ 1000) (hf : full (putB bx pa d) = false) : ConOk Try.prog 93 (c_addngu sz ep at_ sd tx id ln sec bx pa ct q d) := by
 refine conOk_of rfl (nb := 4) Try.func93 rfl rfl Try.ntmps93 rfl rfl rfl fun g0 w0 ac gs ws hg0 hS => ?_
 have hlenk2 : sec.length ≤ 9223372036854775807 := hS.lens 2 rfl
 have hlenk3 : bx.length ≤ 9223372036854775807 := hS.lens 3 rfl
 have hS := hS.sp
 have hbe : ¬ ((baddE bx pa : Nat) : Int) = 2 := (baddE_ne bx pa)
 refine s0 [0, 3, 4, 5] [0, 1, 2, 3, 4] 5 hS fun hS => ?_
 refine wp_seq (sA [(5, .call ⟨113, (c_baddg id sz ln bx pa ct q d), [(0, 1), (1, 3)], []⟩), (6, .ob false)] ⟨baddg_ok _ _ _ _ _ _ _ _ lnn omm asm omm omm omm asm asm lnn, trivial⟩ (fun C => [ndC C 5, (decide (((baddE bx pa : Nat) : Int) = 2)) = false]) [0, 4, 5, 14] [0, 1, 2, 3] 5 ⟨rfl, decide_eq_false hbe, trivial⟩ hS fun hS => ?_)
 refine cond_f hS ?_
 refine wp_skip (then_n (wp_seq ?_))
 have hpl := putB_len bx pa d
 refine rA [(4, .call ⟨114, (c_bdonen id sz ln (putB bx pa d)), [(0, 1), (1, 3)], []⟩)] ⟨bdonen_ok _ _ _ _ lnn asm, trivial⟩ (fun C => [ndC C 4]) [4, 5, 6] [0, 1, 2, 3] 5 ⟨rfl, trivial⟩ hS fun hS => ?_
 refine then_n (s0 [4, 5] [0, 1, 2, 3] 5 hS fun hS => ?_)
 refine wp_ret ?_
 exact fin_y rfl (.inr rfl) hS [.v (.slice none 0 0), vi 0] [(0, some (.ob 77 (chain [vi (sz : Int), vi 1, vi (ep : Int), vi (at_ : Int), lb sd, lb tx, .cp 1 0, .sk 2]))), (1, some (.ob 135 (chain [vi (id : Int), vi (sz : Int), vi (ln : Int), .sk 3]))), (2, some (.sl 22 [.sl (.int .u8)] sec)), (3, some (.sl 22 [.os (.int .u8)] (putB bx pa d)))] rfl ⟨rfl, rfl, rfl, rfl, trivial⟩

def c_addygu (sz ep at_ : Nat) (sd tx : List Int) (id ln : Nat) (sec : List (List Int)) (bx : List (Option (List Int))) (pa ct q : Nat) (d : List Int) : Con := ⟨[.cp 0 0, .ag (chain [vi (id : Int), vi (pa : Int), vi (ct : Int), lb d])], [(0, .ob 77 (chain [vi (sz : Int), vi 1, vi (ep : Int), vi (at_ : Int), lb sd, lb tx, .cp 1 0, .sk 2])), (1, .ob 135 (chain [vi (id : Int), vi (sz : Int), vi (ln : Int), .sk 3])), (2, .sl 22 [.sl (.int .u8)] sec), (3, .sl 22 [.os (.int .u8)] bx)], .tu (chain [lb ((gts (putB bx pa d)).flatten), vi 0]), [(0, .ob 77 (chain [vi (sz : Int), vi 1, vi (ep : Int), vi (at_ : Int), lb sd, lb tx, .cp 1 0, .sk 2])), (1, .ob 135 (chain [vi (id : Int), vi (sz : Int), vi (ln : Int), .ls false [.os (.int .u8)] (putB bx pa d)])), (2, .sl 22 [.sl (.int .u8)] sec)]⟩
theorem addygu_ok (sz ep at_ : Nat) (sd tx : List Int) (id ln : Nat) (sec : List (List Int)) (bx : List (Option (List Int))) (pa ct q : Nat) (d : List Int) (hb : 1 ≤ bx.length ∧ bx.length ≤ 10000) (hz : 1 ≤ sz ∧ sz ≤ 1000 ∧ ln ≤ 10000) (he : ep ≤ 400000000) (hq : q = pa * sz) (hql : q < ln) (hpa : pa < bx.length) (hct : ct = bx.length) (hdl : d.length = min sz (ln - q)) (hft : FitB bx pa d) (hd : 1 ≤ d.length ∧ d.length ≤ 1000) (hf : full (putB bx pa d) = true) (hl : ((gts (putB bx pa d)).flatten).length ≤ 100000) : ConOk Try.prog 93 (c_addygu sz ep at_ sd tx id ln sec bx pa ct q d) := by
 refine conOk_of rfl (nb := 4) Try.func93 rfl rfl Try.ntmps93 rfl rfl rfl fun g0 w0 ac gs ws hg0 hS => ?_
 have hlenk2 : sec.length ≤ 9223372036854775807 := hS.lens 2 rfl
 have hlenk3 : bx.length ≤ 9223372036854775807 := hS.lens 3 rfl
 have hS := hS.sp
 have hbe : ¬ ((baddE bx pa : Nat) : Int) = 2 := (baddE_ne bx pa)
 refine s0 [0, 3, 4, 5] [0, 1, 2, 3, 4] 5 hS fun hS => ?_
 refine wp_seq (sA [(5, .call ⟨113, (c_baddg id sz ln bx pa ct q d), [(0, 1), (1, 3)], []⟩), (6, .ob false)] ⟨baddg_ok _ _ _ _ _ _ _ _ lnn omm asm omm omm omm asm asm lnn, trivial⟩ (fun C => [ndC C 5, (decide (((baddE bx pa : Nat) : Int) = 2)) = false]) [0, 4, 5, 14] [0, 1, 2, 3] 5 ⟨rfl, decide_eq_false hbe, trivial⟩ hS fun hS => ?_)
 refine cond_f hS ?_
 refine wp_skip (then_n (wp_seq ?_))
 have hpl := putB_len bx pa d
 refine rA [(4, .call ⟨114, (c_bdoney id sz ln (putB bx pa d)), [(0, 1), (1, 3)], []⟩)] ⟨bdoney_ok _ _ _ _ lnn asm asm, trivial⟩ (fun C => [ndC C 4]) [4, 5, 6] [0, 1, 2] 5 ⟨rfl, trivial⟩ hS fun hS => ?_
 refine then_n (s0 [4, 5] [0, 1, 2] 5 hS fun hS => ?_)
 refine wp_ret ?_
 exact fin_y rfl (.inr rfl) hS [lb ((gts (putB bx pa d)).flatten), vi 0] [(0, some (.ob 77 (chain [vi (sz : Int), vi 1, vi (ep : Int), vi (at_ : Int), lb sd, lb tx, .cp 1 0, .sk 2]))), (1, some (.ob 135 (chain [vi (id : Int), vi (sz : Int), vi (ln : Int), .ls false [.os (.int .u8)] (putB bx pa d)]))), (2, some (.sl 22 [.sl (.int .u8)] sec))] rfl ⟨rfl, rfl, rfl, trivial⟩

def c_givennu (sz ep at_ : Nat) (sd tx : List Int) (id ln : Nat) (sec : List (List Int)) (bx : List (Option (List Int))) (pa ct q : Nat) (d : List Int) : Con := ⟨[.cp 0 0, .ag (chain [vi (id : Int), vi (pa : Int), vi (ct : Int), lb d])], [(0, .ob 77 (chain [vi (sz : Int), vi 1, vi (ep : Int), vi (at_ : Int), lb sd, lb tx, .cp 1 0, .sk 2])), (1, .ob 135 (chain [vi (id : Int), vi (sz : Int), vi (ln : Int), .sk 3])), (2, .sl 22 [.sl (.int .u8)] sec), (3, .sl 22 [.os (.int .u8)] bx)], vi 0, [(0, .ob 77 (chain [vi (sz : Int), vi 1, vi (ep : Int), vi (at_ : Int), lb sd, lb tx, .cp 1 0, .sk 2])), (1, .ob 135 (chain [vi (id : Int), vi (sz : Int), vi (ln : Int), .sk 3])), (2, .sl 22 [.sl (.int .u8)] sec), (3, .sl 22 [.os (.int .u8)] (putB bx pa d))]⟩
theorem givennu_ok (sz ep at_ : Nat) (sd tx : List Int) (id ln : Nat) (sec : List (List Int)) (bx : List (Option (List Int))) (pa ct q : Nat) (d : List Int) (hb : 1 ≤ bx.length ∧ bx.length ≤ 10000) (hz : 1 ≤ sz ∧ sz ≤ 1000 ∧ ln ≤ 10000) (he : ep ≤ 400000000) (hq : q = pa * sz) (hql : q < ln) (hpa : pa < bx.length) (hct : ct = bx.length) (hdl : d.length = min sz (ln - q)) (hft : FitB bx pa d) (hd : 1 ≤ d.length ∧ d.length ≤ 1000) (hid : id = 2 * ep + 1) (htx : 1 ≤ tx.length) (hsd : sd.length = 64) (hsc : sec.length ≤ 1000) (hs : full (putB bx pa d) = false) : ConOk Try.prog 55 (c_givennu sz ep at_ sd tx id ln sec bx pa ct q d) := by
 refine conOk_of rfl (nb := 4) Try.func55 rfl rfl Try.ntmps55 rfl rfl rfl fun g0 w0 ac gs ws hg0 hS => ?_
 have hlenk2 : sec.length ≤ 9223372036854775807 := hS.lens 2 rfl
 have hlenk3 : bx.length ≤ 9223372036854775807 := hS.lens 3 rfl
 have hS := hS.sp
 have hg1 : (id : Int) = (((2 * ep) + 1 : Nat) : Int) := omm
 have hg2 : ¬ ((tx.length : Nat) : Int) = 0 := omm
 refine s0 [0, 3, 4] [0, 1, 2, 3, 4] 5 hS fun hS => ?_
 refine wp_seq (sA [(6, .oi ((2 * ep : Nat) : Int)), (7, .oi (((2 * ep) + 1 : Nat) : Int)), (8, .ob false), (15, .ob false)] trivial (fun _ => [imul .i64 2 (ep : Int) = ((2 * ep : Nat) : Int), iadd .i64 ((2 * ep : Nat) : Int) 1 = (((2 * ep) + 1 : Nat) : Int), (!decide ((id : Int) = (((2 * ep) + 1 : Nat) : Int))) = false, (decide (((tx.length : Nat) : Int) = 0)) = false]) [0, 3, 4, 28] [0, 1, 2, 3, 4] 5 ⟨by rw [imul64 omm omm]; omega, by rw [iadd64 omm omm]; omega, by rw [decide_eq_true hg1]; rfl, decide_eq_false hg2, trivial⟩ hS fun hS => ?_)
 refine cond_f hS ?_
 refine wp_skip (then_n (sA [(2, .call ⟨93, (c_addngu sz ep at_ sd tx id ln sec bx pa ct q d), [(0, 0), (1, 1), (2, 2), (3, 3)], []⟩)] ⟨addngu_ok _ _ _ _ _ _ _ _ _ _ _ _ _ lnn omm omm asm omm omm omm asm asm lnn asm, trivial⟩ (fun C => [ndC C 2]) [0, 4, 5, 6] [0, 1, 2, 3] 5 ⟨rfl, trivial⟩ hS fun hS => ?_))
 refine wp_seq (s0 [0, 4, 5, 6, 41] [0, 1, 2, 3] 5 hS fun hS => ?_)
 refine cond_t hS ?_
 refine s0 [0, 4, 5] [0, 1, 2, 3] 5 hS fun hS => ?_
 refine wp_ret (then_ret ?_)
 exact fin_y rfl (.inr rfl) hS [vi 0] [(0, some (.ob 77 (chain [vi (sz : Int), vi 1, vi (ep : Int), vi (at_ : Int), lb sd, lb tx, .cp 1 0, .sk 2]))), (1, some (.ob 135 (chain [vi (id : Int), vi (sz : Int), vi (ln : Int), .sk 3]))), (2, some (.sl 22 [.sl (.int .u8)] sec)), (3, some (.sl 22 [.os (.int .u8)] (putB bx pa d)))] rfl ⟨rfl, rfl, rfl, rfl, trivial⟩

def c_givenyu (sz ep at_ : Nat) (sd tx : List Int) (id ln : Nat) (sec : List (List Int)) (bx : List (Option (List Int))) (pa ct q : Nat) (d : List Int) : Con := ⟨[.cp 0 0, .ag (chain [vi (id : Int), vi (pa : Int), vi (ct : Int), lb d])], [(0, .ob 77 (chain [vi (sz : Int), vi 1, vi (ep : Int), vi (at_ : Int), lb sd, lb tx, .cp 1 0, .sk 2])), (1, .ob 135 (chain [vi (id : Int), vi (sz : Int), vi (ln : Int), .sk 3])), (2, .sl 22 [.sl (.int .u8)] sec), (3, .sl 22 [.os (.int .u8)] bx)], vi 0, [(0, .ob 77 (chain [vi (sz : Int), vi 1, vi (((ep + 1) : Nat) : Int), vi 0, .v (.slice none 0 0), .v (.slice none 0 0), .cp 4 0, .sk 6])), (1, .ob 135 (chain [vi (id : Int), vi (sz : Int), vi (ln : Int), .ls false [.os (.int .u8)] (putB bx pa d)])), (4, .ob 135 (chain [vi ((((2 * (ep + 1)) + 1) : Nat) : Int), vi (sz : Int), vi 1088, .sk 5])), (5, .sl 22 [.os (.int .u8)] (List.replicate (((1088 + sz) - 1) / sz) none)), (6, .sl 22 [.sl (.int .u8)] (sec ++ [(decaps_m ((keys_m (sd.take 32) (sd.drop 32)).2) ((gts (putB bx pa d)).flatten)).1]))]⟩
theorem givenyu_ok (sz ep at_ : Nat) (sd tx : List Int) (id ln : Nat) (sec : List (List Int)) (bx : List (Option (List Int))) (pa ct q : Nat) (d : List Int) (hb : 1 ≤ bx.length ∧ bx.length ≤ 10000) (hz : 1 ≤ sz ∧ sz ≤ 1000 ∧ ln ≤ 10000) (he : ep ≤ 400000000) (hq : q = pa * sz) (hql : q < ln) (hpa : pa < bx.length) (hct : ct = bx.length) (hdl : d.length = min sz (ln - q)) (hft : FitB bx pa d) (hd : 1 ≤ d.length ∧ d.length ≤ 1000) (hid : id = 2 * ep + 1) (htx : 1 ≤ tx.length) (hsd : sd.length = 64) (hsc : sec.length ≤ 1000) (hE : full (putB bx pa d) = true → ((gts (putB bx pa d)).flatten).length = 1088) (hs : full (putB bx pa d) = true) : ConOk Try.prog 55 (c_givenyu sz ep at_ sd tx id ln sec bx pa ct q d) := by
 refine conOk_of rfl (nb := 4) Try.func55 rfl rfl Try.ntmps55 rfl rfl rfl fun g0 w0 ac gs ws hg0 hS => ?_
 have hlenk2 : sec.length ≤ 9223372036854775807 := hS.lens 2 rfl
 have hlenk3 : bx.length ≤ 9223372036854775807 := hS.lens 3 rfl
 have hS := hS.sp
 have hg1 : (id : Int) = (((2 * ep) + 1 : Nat) : Int) := omm
 have hg2 : ¬ ((tx.length : Nat) : Int) = 0 := omm
 refine wp_seq ?_
 have hFl := hE hs
 have hf1 : ¬ ((((gts (putB bx pa d)).flatten).length : Nat) : Int) = 0 := by omega
 refine r0 [0, 3, 4] [0, 1, 2, 3, 4] 5 hS fun hS => ?_
 refine then_n (wp_seq (sA [(6, .oi ((2 * ep : Nat) : Int)), (7, .oi (((2 * ep) + 1 : Nat) : Int)), (8, .ob false), (15, .ob false)] trivial (fun _ => [imul .i64 2 (ep : Int) = ((2 * ep : Nat) : Int), iadd .i64 ((2 * ep : Nat) : Int) 1 = (((2 * ep) + 1 : Nat) : Int), (!decide ((id : Int) = (((2 * ep) + 1 : Nat) : Int))) = false, (decide (((tx.length : Nat) : Int) = 0)) = false]) [0, 3, 4, 28] [0, 1, 2, 3, 4] 5 ⟨by rw [imul64 omm omm]; omega, by rw [iadd64 omm omm]; omega, by rw [decide_eq_true hg1]; rfl, decide_eq_false hg2, trivial⟩ hS fun hS => ?_))
 refine cond_f hS ?_
 refine wp_skip (then_n (wp_seq ?_))
 have hl5 : ((gts (putB bx pa d)).flatten).length ≤ 100000 := by omega
 refine rA [(2, .call ⟨93, (c_addygu sz ep at_ sd tx id ln sec bx pa ct q d), [(0, 0), (1, 1), (2, 2), (3, 3)], []⟩)] ⟨addygu_ok _ _ _ _ _ _ _ _ _ _ _ _ _ lnn omm omm asm omm omm omm asm asm lnn asm asm, trivial⟩ (fun C => [ndC C 2]) [0, 4, 5, 6] [0, 1, 2] 5 ⟨rfl, trivial⟩ hS fun hS => ?_
 refine then_n (wp_seq (sA [(5, .ob false)] trivial (fun _ => [(decide (((((gts (putB bx pa d)).flatten).length : Nat) : Int) = 0)) = false]) [0, 4, 5, 6, 41] [0, 1, 2] 5 ⟨decide_eq_false hf1, trivial⟩ hS fun hS => ?_))
 refine cond_f hS ?_
 refine wp_skip (then_n (sA [(10, .call ⟨14, (c_keys (sd.take 32) (sd.drop 32)), [], [(0, 5)]⟩)] ⟨keys_ok _ _ lnn lnn, trivial⟩ (fun C => [bndP none (some 32) none sd.length sd.length, bndP (some 32) none none sd.length sd.length, ndC C 10]) [0, 4, 5, 8] [0, 1, 2, 5] 6 ⟨⟨by simp only [nnI] <;> omega, by simp only [nnI] <;> omega, by simp only [nnI] <;> omega, by simp, by simp only [bl] <;> omega, by simp only [bl] <;> omega, by simp only [bl] <;> omega⟩, ⟨by simp only [nnI] <;> omega, by simp only [nnI] <;> omega, by simp only [nnI] <;> omega, by simp, by simp only [bl] <;> omega, by simp only [bl] <;> omega, by simp only [bl] <;> omega⟩, rfl, trivial⟩ hS fun hS => ?_))
 refine wp_seq ?_
 obtain ⟨gs, hS⟩ := hS.fz 5
 refine rA [(2, .call ⟨94, (c_decaps ((keys_m (sd.take 32) (sd.drop 32)).2) ((gts (putB bx pa d)).flatten)), [], []⟩)] ⟨decaps_ok _ _ lnn, trivial⟩ (fun C => [ndC C 2]) [0, 4, 10] [0, 1, 2] 6 ⟨rfl, trivial⟩ hS fun hS => ?_
 refine then_n (sA [] trivial (fun _ => [sec.length + [(decaps_m ((keys_m (sd.take 32) (sd.drop 32)).2) ((gts (putB bx pa d)).flatten)).1].length ≤ 9223372036854775807, (sec.length + [(decaps_m ((keys_m (sd.take 32) (sd.drop 32)).2) ((gts (putB bx pa d)).flatten)).1].length) * 24 ≤ 140737488355328]) [0, 4] [0, 1, 6] 7 ⟨by simp <;> omega, by simp <;> omega, trivial⟩ hS fun hS => ?_)
 refine sA [(5, .oi ((ep + 1 : Nat) : Int)), (6, .call ⟨48, (c_freshgu sz ep at_ sd tx id ln (sec ++ [(decaps_m ((keys_m (sd.take 32) (sd.drop 32)).2) ((gts (putB bx pa d)).flatten)).1]) (putB bx pa d) (ep + 1)), [(0, 0), (1, 1), (2, 6)], [(3, 7), (4, 8)]⟩)] ⟨freshgu_ok _ _ _ _ _ _ _ _ _ _ omm omm, trivial⟩ (fun C => [iadd .i64 (ep : Int) 1 = ((ep + 1 : Nat) : Int), ndC C 6]) [4] [0, 1, 6, 7, 8] 9 ⟨by rw [iadd64 omm omm]; omega, rfl, trivial⟩ hS fun hS => ?_
 refine s0 [4] [0, 1, 6, 7, 8] 9 hS fun hS => ?_
 refine wp_ret ?_
 obtain ⟨gs, hS⟩ := hS.rn [(0, 0), (1, 1), (2, 2), (3, 3), (4, 7), (5, 8), (6, 6)] [(4, vi 0)] [(0, .ob 77 (chain [vi (sz : Int), vi 1, vi (((ep + 1) : Nat) : Int), vi 0, .v (.slice none 0 0), .v (.slice none 0 0), .cp 4 0, .sk 6])), (1, .ob 135 (chain [vi (id : Int), vi (sz : Int), vi (ln : Int), .ls false [.os (.int .u8)] (putB bx pa d)])), (4, .ob 135 (chain [vi ((((2 * (ep + 1)) + 1) : Nat) : Int), vi (sz : Int), vi 1088, .sk 5])), (5, .sl 22 [.os (.int .u8)] (List.replicate (((1088 + sz) - 1) / sz) none)), (6, .sl 22 [.sl (.int .u8)] (sec ++ [(decaps_m ((keys_m (sd.take 32) (sd.drop 32)).2) ((gts (putB bx pa d)).flatten)).1]))] 7 hg0
 exact fin_y rfl (.inr rfl) hS [vi 0] [(0, some (.ob 77 (chain [vi (sz : Int), vi 1, vi (((ep + 1) : Nat) : Int), vi 0, .v (.slice none 0 0), .v (.slice none 0 0), .cp 4 0, .sk 6]))), (1, some (.ob 135 (chain [vi (id : Int), vi (sz : Int), vi (ln : Int), .ls false [.os (.int .u8)] (putB bx pa d)]))), (4, some (.ob 135 (chain [vi ((((2 * (ep + 1)) + 1) : Nat) : Int), vi (sz : Int), vi 1088, .sk 5]))), (5, some (.sl 22 [.os (.int .u8)] (List.replicate (((1088 + sz) - 1) / sz) none))), (6, some (.sl 22 [.sl (.int .u8)] (sec ++ [(decaps_m ((keys_m (sd.take 32) (sd.drop 32)).2) ((gts (putB bx pa d)).flatten)).1])))] rfl ⟨rfl, rfl, rfl, rfl, rfl, trivial⟩

def ingk_v (sz ep at_ : Nat) (sd tx : List Int) (id ln : Nat) (sec : List (List Int)) (bx : List (Option (List Int))) (pa ct q : Nat) (d r : List Int) : Nat × Nat × (List Int) × (List Int) × Nat × Nat × (List (Option (List Int))) × (List (List Int)) := if full (putB bx pa d) = true then ((ep + 1), 0, [], [], ((2 * (ep + 1)) + 1), 1088, (List.replicate (((1088 + sz) - 1) / sz) none), (sec ++ [(decaps_m ((keys_m (sd.take 32) (sd.drop 32)).2) ((gts (putB bx pa d)).flatten)).1])) else (ep, at_, sd, tx, id, ln, (putB bx pa d), sec)
def ingk_m (sz ep at_ : Nat) (sd tx : List Int) (id ln : Nat) (sec : List (List Int)) (bx : List (Option (List Int))) (pa ct q : Nat) (d r : List Int) : Nat × Nat × (List Int) × (List Int) × Nat × Nat × (List (Option (List Int))) × (List (List Int)) := shut (ingk_v sz ep at_ sd tx id ln sec bx pa ct q d r)
theorem ingk_e (sz ep at_ : Nat) (sd tx : List Int) (id ln : Nat) (sec : List (List Int)) (bx : List (Option (List Int))) (pa ct q : Nat) (d r : List Int) : ingk_m sz ep at_ sd tx id ln sec bx pa ct q d r = ingk_v sz ep at_ sd tx id ln sec bx pa ct q d r := shut_eq _
def c_ingk (sz ep at_ : Nat) (sd tx : List Int) (id ln : Nat) (sec : List (List Int)) (bx : List (Option (List Int))) (pa ct q : Nat) (d r : List Int) : Con := ⟨[.cp 0 0, lb (encB id pa ct d), lb r], [(0, .ob 77 (chain [vi (sz : Int), vi 1, vi (ep : Int), vi (at_ : Int), lb sd, lb tx, .cp 1 0, .sk 2])), (1, .ob 135 (chain [vi (id : Int), vi (sz : Int), vi (ln : Int), .sk 3])), (2, .sl 22 [.sl (.int .u8)] sec), (3, .sl 22 [.os (.int .u8)] bx)], vi 0, [(0, .ob 77 (chain [vi (sz : Int), vi 1, vi (((ingk_m sz ep at_ sd tx id ln sec bx pa ct q d r).1 : Nat) : Int), vi (((ingk_m sz ep at_ sd tx id ln sec bx pa ct q d r).2.1 : Nat) : Int), lb ((ingk_m sz ep at_ sd tx id ln sec bx pa ct q d r).2.2.1), lb ((ingk_m sz ep at_ sd tx id ln sec bx pa ct q d r).2.2.2.1), .cp 4 0, .sk 6])), (4, .ob 135 (chain [vi (((ingk_m sz ep at_ sd tx id ln sec bx pa ct q d r).2.2.2.2.1 : Nat) : Int), vi (sz : Int), vi (((ingk_m sz ep at_ sd tx id ln sec bx pa ct q d r).2.2.2.2.2.1 : Nat) : Int), .sk 5])), (5, .sl 22 [.os (.int .u8)] ((ingk_m sz ep at_ sd tx id ln sec bx pa ct q d r).2.2.2.2.2.2.1)), (6, .sl 22 [.sl (.int .u8)] ((ingk_m sz ep at_ sd tx id ln sec bx pa ct q d r).2.2.2.2.2.2.2))]⟩
theorem ingk_ok (sz ep at_ : Nat) (sd tx : List Int) (id ln : Nat) (sec : List (List Int)) (bx : List (Option (List Int))) (pa ct q : Nat) (d r : List Int) (hb : 1 ≤ bx.length ∧ bx.length ≤ 10000) (hz : 1 ≤ sz ∧ sz ≤ 1000 ∧ ln ≤ 10000) (he : ep ≤ 400000000) (hq : q = pa * sz) (hql : q < ln) (hpa : pa < bx.length) (hct : ct = bx.length) (hdl : d.length = min sz (ln - q)) (hft : FitB bx pa d) (hd : 1 ≤ d.length ∧ d.length ≤ 1000) (hr : r.length = 64) (he0 : ep = 0) (hid : id = 2 * ep + 1) (htx : 1 ≤ tx.length) (hsd : sd.length = 64) (hsc : sec.length ≤ 1000) (hE : full (putB bx pa d) = true → ((gts (putB bx pa d)).flatten).length = 1088) : ConOk Try.prog 21 (c_ingk sz ep at_ sd tx id ln sec bx pa ct q d r) := by
 refine conOk_of rfl (nb := 4) Try.func21 rfl rfl Try.ntmps21 rfl rfl rfl fun g0 w0 ac gs ws hg0 hS => ?_
 have hlen1 : (encB id pa ct d).length ≤ 9223372036854775807 := hS.len 1 rfl
 have hlen2 : r.length ≤ 9223372036854775807 := hS.len 2 rfl
 have hlenk2 : sec.length ≤ 9223372036854775807 := hS.lens 2 rfl
 have hlenk3 : bx.length ≤ 9223372036854775807 := hS.lens 3 rfl
 have hS := hS.sp
 have hf1 : ¬ (sz : Int) = 0 := omm
 have hf2 : ((r.length : Nat) : Int) = 64 := omm
 have hf3 : ¬ (((encB id pa ct d).length : Nat) : Int) = 0 := (by have := encB_pos (id := id) (ai := pa) (ct := ct) hd.1; omega)
 have hi1 : ¬ (id : Int) ≤ ((2 * ep : Nat) : Int) := omm
 have hi2 : ¬ (id : Int) < ((2 * ep : Nat) : Int) := omm
 refine s0 [0, 1, 2, 6] [0, 1, 2, 3] 4 hS fun hS => ?_
 refine wp_seq (sA [(7, .ob false), (12, .ob false)] trivial (fun _ => [(decide ((sz : Int) = 0)) = false, (!decide (((r.length : Nat) : Int) = 64)) = false]) [0, 1, 2, 6, 25] [0, 1, 2, 3] 4 ⟨decide_eq_false hf1, by rw [decide_eq_true hf2]; rfl, trivial⟩ hS fun hS => ?_)
 refine cond_f hS ?_
 refine wp_skip (then_n (wp_seq (sA [(2, .ob false)] trivial (fun _ => [(decide ((((encB id pa ct d).length : Nat) : Int) = 0)) = false]) [0, 1, 2, 6, 28] [0, 1, 2, 3] 4 ⟨decide_eq_false hf3, trivial⟩ hS fun hS => ?_)))
 refine cond_f hS ?_
 refine wp_skip (then_n (sA [(1, .call ⟨54, (c_decy id pa ct d), [], []⟩)] ⟨decy_ok _ _ _ _ omm lnn, trivial⟩ (fun C => [ndC C 1]) [0, 2, 6, 7, 8] [0, 1, 2, 3, 4] 5 ⟨rfl, trivial⟩ hS fun hS => ?_))
 refine wp_seq (s0 [0, 2, 6, 7, 8, 35] [0, 1, 2, 3, 4] 5 hS fun hS => ?_)
 refine cond_f hS ?_
 refine wp_skip (then_n (sA [(4, .oi ((2 * ep : Nat) : Int))] trivial (fun _ => [imul .i64 2 (ep : Int) = ((2 * ep : Nat) : Int)]) [0, 2, 6, 7, 9] [0, 1, 2, 3, 4] 5 ⟨by rw [imul64 omm omm]; omega, trivial⟩ hS fun hS => ?_))
 refine wp_seq (wp_block (wp_seq (sA [(9, .ob false)] trivial (fun _ => [(decide ((id : Int) ≤ ((2 * ep : Nat) : Int))) = false]) [0, 2, 6, 7, 9, 42] [0, 1, 2, 3, 4] 5 ⟨decide_eq_false hi1, trivial⟩ hS fun hS => ?_)))
 refine cond_f hS ?_
 refine rA [(3, .ob false)] trivial (fun _ => [(decide ((id : Int) < ((2 * ep : Nat) : Int))) = false]) [0, 2, 6, 7, 9, 42] [0, 1, 2, 3, 4] 5 ⟨decide_eq_false hi2, trivial⟩ hS fun hS => ?_
 refine then_n (cond_f hS ?_)
 refine s0 [0, 2, 6, 7, 9, 58] [0, 1, 2, 3, 4] 5 hS fun hS => ?_
 refine cond_t hS ?_
 refine wp_seq ?_
 by_cases h1 : full (putB bx pa d) = true
 ·refine rA [(2, .call ⟨55, (c_givenyu sz ep at_ sd tx id ln sec bx pa ct q d), [(0, 0), (1, 1), (2, 2), (3, 3)], [(4, 5), (5, 6), (6, 7)]⟩)] ⟨givenyu_ok _ _ _ _ _ _ _ _ _ _ _ _ _ lnn omm omm asm omm omm omm asm asm lnn omm lnn lnn lnn asm h1, trivial⟩ (fun C => [ndC C 2]) [6] [0, 1, 5, 6, 7] 8 ⟨rfl, trivial⟩ hS fun hS => ?_
  refine then_n (wp_ret (block_ret (then_ret ?_)))
  have hM : ingk_m sz ep at_ sd tx id ln sec bx pa ct q d r = ((ep + 1), 0, [], [], ((2 * (ep + 1)) + 1), 1088, (List.replicate (((1088 + sz) - 1) / sz) none), (sec ++ [(decaps_m ((keys_m (sd.take 32) (sd.drop 32)).2) ((gts (putB bx pa d)).flatten)).1])) := (ingk_e sz ep at_ sd tx id ln sec bx pa ct q d r).trans (if_pos h1)
  have hS := hS.wko 0 [.top, .top, .top, .top, lb [], lb [], .top, .top]
  obtain ⟨gs, hS⟩ := hS.rn [(0, 0), (1, 1), (2, 2), (3, 3), (4, 5), (5, 6), (6, 7)] [(6, vi 0)] [(0, .ob 77 (chain [vi (sz : Int), vi 1, vi (((ep + 1) : Nat) : Int), vi 0, lb [], lb [], .cp 4 0, .sk 6])), (4, .ob 135 (chain [vi ((((2 * (ep + 1)) + 1) : Nat) : Int), vi (sz : Int), vi 1088, .sk 5])), (5, .sl 22 [.os (.int .u8)] (List.replicate (((1088 + sz) - 1) / sz) none)), (6, .sl 22 [.sl (.int .u8)] (sec ++ [(decaps_m ((keys_m (sd.take 32) (sd.drop 32)).2) ((gts (putB bx pa d)).flatten)).1]))] 7 hg0
  exact fin_y rfl (.inr rfl) hS [vi 0] [(0, some (.ob 77 (chain [vi (sz : Int), vi 1, vi (((ep + 1) : Nat) : Int), vi 0, lb [], lb [], .cp 4 0, .sk 6]))), (4, some (.ob 135 (chain [vi ((((2 * (ep + 1)) + 1) : Nat) : Int), vi (sz : Int), vi 1088, .sk 5]))), (5, some (.sl 22 [.os (.int .u8)] (List.replicate (((1088 + sz) - 1) / sz) none))), (6, some (.sl 22 [.sl (.int .u8)] (sec ++ [(decaps_m ((keys_m (sd.take 32) (sd.drop 32)).2) ((gts (putB bx pa d)).flatten)).1])))] rfl (by show H1Ok _ [(0, .ob 77 (chain [vi (sz : Int), vi 1, vi (((ingk_m sz ep at_ sd tx id ln sec bx pa ct q d r).1 : Nat) : Int), vi (((ingk_m sz ep at_ sd tx id ln sec bx pa ct q d r).2.1 : Nat) : Int), lb ((ingk_m sz ep at_ sd tx id ln sec bx pa ct q d r).2.2.1), lb ((ingk_m sz ep at_ sd tx id ln sec bx pa ct q d r).2.2.2.1), .cp 4 0, .sk 6])), (4, .ob 135 (chain [vi (((ingk_m sz ep at_ sd tx id ln sec bx pa ct q d r).2.2.2.2.1 : Nat) : Int), vi (sz : Int), vi (((ingk_m sz ep at_ sd tx id ln sec bx pa ct q d r).2.2.2.2.2.1 : Nat) : Int), .sk 5])), (5, .sl 22 [.os (.int .u8)] ((ingk_m sz ep at_ sd tx id ln sec bx pa ct q d r).2.2.2.2.2.2.1)), (6, .sl 22 [.sl (.int .u8)] ((ingk_m sz ep at_ sd tx id ln sec bx pa ct q d r).2.2.2.2.2.2.2))] true; rw [hM]; first | (simp only []; exact ⟨rfl, rfl, rfl, rfl, trivial⟩) | exact ⟨rfl, rfl, rfl, rfl, trivial⟩)
 ·refine rA [(2, .call ⟨55, (c_givennu sz ep at_ sd tx id ln sec bx pa ct q d), [(0, 0), (1, 1), (2, 2), (3, 3)], []⟩)] ⟨givennu_ok _ _ _ _ _ _ _ _ _ _ _ _ _ lnn omm omm asm omm omm omm asm asm lnn omm lnn lnn lnn (bne_k h1), trivial⟩ (fun C => [ndC C 2]) [6] [0, 1, 2, 3] 5 ⟨rfl, trivial⟩ hS fun hS => ?_
  refine then_n (wp_ret (block_ret (then_ret ?_)))
  have hM : ingk_m sz ep at_ sd tx id ln sec bx pa ct q d r = (ep, at_, sd, tx, id, ln, (putB bx pa d), sec) := (ingk_e sz ep at_ sd tx id ln sec bx pa ct q d r).trans (if_neg h1)
  obtain ⟨gs, hS⟩ := hS.rn2 [(0, 0), (1, 1), (2, 2), (3, 3), (4, 1), (5, 3), (6, 2)] [(6, vi 0)] [(0, .ob 77 (chain [vi (sz : Int), vi 1, vi (ep : Int), vi (at_ : Int), lb sd, lb tx, .cp 4 0, .sk 6])), (4, .ob 135 (chain [vi (id : Int), vi (sz : Int), vi (ln : Int), .sk 5])), (5, .sl 22 [.os (.int .u8)] (putB bx pa d)), (6, .sl 22 [.sl (.int .u8)] sec)] 7 hg0
  exact fin_y rfl (.inr rfl) hS [vi 0] [(0, some (.ob 77 (chain [vi (sz : Int), vi 1, vi (ep : Int), vi (at_ : Int), lb sd, lb tx, .cp 4 0, .sk 6]))), (4, some (.ob 135 (chain [vi (id : Int), vi (sz : Int), vi (ln : Int), .sk 5]))), (5, some (.sl 22 [.os (.int .u8)] (putB bx pa d))), (6, some (.sl 22 [.sl (.int .u8)] sec))] rfl (by show H1Ok _ [(0, .ob 77 (chain [vi (sz : Int), vi 1, vi (((ingk_m sz ep at_ sd tx id ln sec bx pa ct q d r).1 : Nat) : Int), vi (((ingk_m sz ep at_ sd tx id ln sec bx pa ct q d r).2.1 : Nat) : Int), lb ((ingk_m sz ep at_ sd tx id ln sec bx pa ct q d r).2.2.1), lb ((ingk_m sz ep at_ sd tx id ln sec bx pa ct q d r).2.2.2.1), .cp 4 0, .sk 6])), (4, .ob 135 (chain [vi (((ingk_m sz ep at_ sd tx id ln sec bx pa ct q d r).2.2.2.2.1 : Nat) : Int), vi (sz : Int), vi (((ingk_m sz ep at_ sd tx id ln sec bx pa ct q d r).2.2.2.2.2.1 : Nat) : Int), .sk 5])), (5, .sl 22 [.os (.int .u8)] ((ingk_m sz ep at_ sd tx id ln sec bx pa ct q d r).2.2.2.2.2.2.1)), (6, .sl 22 [.sl (.int .u8)] ((ingk_m sz ep at_ sd tx id ln sec bx pa ct q d r).2.2.2.2.2.2.2))] true; rw [hM]; first | (simp only []; exact ⟨rfl, rfl, rfl, rfl, trivial⟩) | exact ⟨rfl, rfl, rfl, rfl, trivial⟩)

end
end Go.Sx.Try
namespace Go.Sx.Try
open Go.Mi Go.RowKit Go.Sx Go.Proofs
noncomputable section
def c_rkeysu (sz ep : Nat) (at_ id : Nat) (szb ln : Nat) (sec : List (List Int)) (bx : List (Option (List Int))) (s sd tx : List Int) : Con := ⟨[.cp 0 0, lb s], [(0, .ob 77 (chain [vi (sz : Int), vi 1, vi (ep : Int), vi (at_ : Int), lb sd, lb tx, .cp 1 0, .sk 2])), (1, .ob 135 (chain [vi (id : Int), vi (szb : Int), vi (ln : Int), .sk 3])), (2, .sl 22 [.sl (.int .u8)] sec), (3, .sl 22 [.os (.int .u8)] bx)], .tu (chain []), [(0, .ob 77 (chain [vi (sz : Int), vi 1, vi (ep : Int), vi (at_ : Int), lb s, lb ((keys_m (s.take 32) (s.drop 32)).1), .cp 1 0, .sk 2])), (1, .ob 135 (chain [vi (id : Int), vi (szb : Int), vi (ln : Int), .sk 3])), (2, .sl 22 [.sl (.int .u8)] sec), (3, .sl 22 [.os (.int .u8)] bx)]⟩
theorem rkeysu_ok (sz ep : Nat) (at_ id : Nat) (szb ln : Nat) (sec : List (List Int)) (bx : List (Option (List Int))) (s sd tx : List Int) (hs : s.length = 64) : ConOk Try.prog 49 (c_rkeysu sz ep at_ id szb ln sec bx s sd tx) := by
 refine conOk_of rfl (nb := 4) Try.func49 rfl rfl Try.ntmps49 rfl rfl rfl fun g0 w0 ac gs ws hg0 hS => ?_
 have hlen1 : s.length ≤ 9223372036854775807 := hS.len 1 rfl
 have hlenk2 : sec.length ≤ 9223372036854775807 := hS.lens 2 rfl
 have hlenk3 : bx.length ≤ 9223372036854775807 := hS.lens 3 rfl
 have hS := hS.sp
 refine vA [(2, .call ⟨81, (c_clone s), [], []⟩)] ⟨clone_ok _ lnn, trivial⟩ (fun C => [ndC C 2]) [0, 1] [0, 1, 2, 3] 4 ⟨rfl, trivial⟩ hS fun hS => ?_
 refine uA [(5, .call ⟨14, (c_keys (s.take 32) (s.drop 32)), [], [(0, 4)]⟩)] ⟨keys_ok _ _ lnn lnn, trivial⟩ (fun C => [bndP none (some 32) none s.length s.length, bndP (some 32) none none s.length s.length, ndC C 5]) [] [0, 1, 2, 3] 5 ⟨⟨by simp only [nnI] <;> omega, by simp only [nnI] <;> omega, by simp only [nnI] <;> omega, by simp, by simp only [bl] <;> omega, by simp only [bl] <;> omega, by simp only [bl] <;> omega⟩, ⟨by simp only [nnI] <;> omega, by simp only [nnI] <;> omega, by simp only [nnI] <;> omega, by simp, by simp only [bl] <;> omega, by simp only [bl] <;> omega, by simp only [bl] <;> omega⟩, rfl, trivial⟩ hS fun hS => ?_
 exact fin_y rfl (.inl rfl) hS [] [(0, some (.ob 77 (chain [vi (sz : Int), vi 1, vi (ep : Int), vi (at_ : Int), lb s, lb ((keys_m (s.take 32) (s.drop 32)).1), .cp 1 0, .sk 2]))), (1, some (.ob 135 (chain [vi (id : Int), vi (szb : Int), vi (ln : Int), .sk 3]))), (2, some (.sl 22 [.sl (.int .u8)] sec)), (3, some (.sl 22 [.os (.int .u8)] bx))] rfl ⟨rfl, rfl, rfl, rfl, trivial⟩

def c_outgu (sz ep : Nat) (at_ id : Nat) (szb ln : Nat) (sec : List (List Int)) (bx : List (Option (List Int))) (r sd tx : List Int) : Con := ⟨[.cp 0 0, lb r], [(0, .ob 77 (chain [vi (sz : Int), vi 1, vi (ep : Int), vi (at_ : Int), lb sd, lb tx, .cp 1 0, .sk 2])), (1, .ob 135 (chain [vi (id : Int), vi (szb : Int), vi (ln : Int), .sk 3])), (2, .sl 22 [.sl (.int .u8)] sec), (3, .sl 22 [.os (.int .u8)] bx)], .tu (chain [lb (encB (2 * ep) (at_ % ((split_m (2 * ep) tx sz).length)) ((split_m (2 * ep) tx sz).length) ((tx.drop ((at_ % ((split_m (2 * ep) tx sz).length)) * sz)).take sz)), vi 0]), [(0, .ob 77 (chain [vi (sz : Int), vi 1, vi (ep : Int), vi (((at_ + 1) : Nat) : Int), lb sd, lb tx, .cp 1 0, .sk 2])), (1, .ob 135 (chain [vi (id : Int), vi (szb : Int), vi (ln : Int), .sk 3])), (2, .sl 22 [.sl (.int .u8)] sec), (3, .sl 22 [.os (.int .u8)] bx)]⟩
theorem outgu_ok (sz ep : Nat) (at_ id : Nat) (szb ln : Nat) (sec : List (List Int)) (bx : List (Option (List Int))) (r sd tx : List Int) (hr : r.length = 64) (hz : 10 ≤ sz ∧ sz ≤ 1000) (he : ep ≤ 500000000) (ha : at_ ≤ 1000000000) (ht : 1 ≤ tx.length ∧ tx.length ≤ 10000) : ConOk Try.prog 19 (c_outgu sz ep at_ id szb ln sec bx r sd tx) := by
 refine conOk_of rfl (nb := 4) Try.func19 rfl rfl Try.ntmps19 rfl rfl rfl fun g0 w0 ac gs ws hg0 hS => ?_
 have hlen1 : r.length ≤ 9223372036854775807 := hS.len 1 rfl
 have hlenk2 : sec.length ≤ 9223372036854775807 := hS.lens 2 rfl
 have hlenk3 : bx.length ≤ 9223372036854775807 := hS.lens 3 rfl
 have hS := hS.sp
 have hf1 : ¬ (sz : Int) = 0 := omm
 have hf2 : ((r.length : Nat) : Int) = 64 := omm
 have hf3 : ¬ ((tx.length : Nat) : Int) = 0 := omm
 refine v0 [0, 1, 4, 5] [0, 1, 2, 3] 4 hS fun hS => ?_
 refine wp_seq (vA [(7, .ob false), (12, .ob false)] trivial (fun _ => [(decide ((sz : Int) = 0)) = false, (!decide (((r.length : Nat) : Int) = 64)) = false]) [0, 1, 4, 5, 23] [0, 1, 2, 3] 4 ⟨decide_eq_false hf1, by rw [decide_eq_true hf2]; rfl, trivial⟩ hS fun hS => ?_)
 refine cond_f hS ?_
 refine wp_skip (then_n (vA [(4, .oi ((2 * ep : Nat) : Int))] trivial (fun _ => [imul .i64 2 (ep : Int) = ((2 * ep : Nat) : Int)]) [0, 1, 4, 5, 6] [0, 1, 2, 3] 4 ⟨by rw [imul64 omm omm]; omega, trivial⟩ hS fun hS => ?_))
 refine wp_seq (v0 [0, 1, 4, 5, 6, 32] [0, 1, 2, 3] 4 hS fun hS => ?_)
 refine wp_block (v0 [0, 1, 4, 5, 6, 32, 33] [0, 1, 2, 3] 4 hS fun hS => ?_)
 refine cond_f hS ?_
 refine v0 [0, 1, 4, 5, 6, 35] [0, 1, 2, 3] 4 hS fun hS => ?_
 refine cond_f hS ?_
 refine wp_skip (block_n (then_n (wp_seq (vA [(5, .ob false)] trivial (fun _ => [(decide (((tx.length : Nat) : Int) = 0)) = false]) [0, 1, 4, 5, 6, 44] [0, 1, 2, 3] 4 ⟨decide_eq_false hf3, trivial⟩ hS fun hS => ?_))))
 refine cond_f hS ?_
 refine wp_skip (then_n (vA [(9, .call ⟨50, (c_split (2 * ep) tx sz), [], [(0, 4)]⟩)] ⟨split_ok _ _ _ omm lnn omm, trivial⟩ (fun C => [ndC C 9]) [0, 4, 5, 7] [0, 1, 2, 3, 4] 5 ⟨rfl, trivial⟩ hS fun hS => ?_))
 refine wp_seq ?_
 have hcb := cntb (ln := tx.length) (sz := sz) omm omm
 have hsl := spl_len (2 * ep) tx sz
 have hix : at_ % (split_m (2 * ep) tx sz).length < (split_m (2 * ep) tx sz).length := Nat.mod_lt _ omm
 have hRow := spl_row (2 * ep) tx sz _ hix
 have hdl := spl_dl (xs := tx) (sz := sz) (i := at_ % (split_m (2 * ep) tx sz).length) omm (by rw [← hsl]; exact hix)
 refine uA [(7, .oi ((at_ % ((split_m (2 * ep) tx sz).length) : Nat) : Int)), (9, .ov (.ag (chain [vi ((2 * ep : Nat) : Int), vi (((at_ % ((split_m (2 * ep) tx sz).length)) : Nat) : Int), vi (((split_m (2 * ep) tx sz).length : Nat) : Int), lb ((tx.drop ((at_ % ((split_m (2 * ep) tx sz).length)) * sz)).take sz)])))] trivial (fun _ => [irem (at_ : Int) (((split_m (2 * ep) tx sz).length : Nat) : Int) = ((at_ % ((split_m (2 * ep) tx sz).length) : Nat) : Int), ((((split_m (2 * ep) tx sz).length : Nat) : Int) : Int) ≠ 0, (0 : Int) ≤ ((at_ % ((split_m (2 * ep) tx sz).length) : Nat) : Int) ∧ ((at_ % ((split_m (2 * ep) tx sz).length) : Nat) : Int) < (((split_m (2 * ep) tx sz).length : Nat) : Int), (.ag (chain [vi (((split_m (2 * ep) tx sz).getD (at_ % ((split_m (2 * ep) tx sz).length)) (rz [.int .i64, .int .i64, .int .i64, .sl (.int .u8)])).1), vi ((((split_m (2 * ep) tx sz).getD (at_ % ((split_m (2 * ep) tx sz).length)) (rz [.int .i64, .int .i64, .int .i64, .sl (.int .u8)])).2).1), vi (((((split_m (2 * ep) tx sz).getD (at_ % ((split_m (2 * ep) tx sz).length)) (rz [.int .i64, .int .i64, .int .i64, .sl (.int .u8)])).2).2).1), lb (((((split_m (2 * ep) tx sz).getD (at_ % ((split_m (2 * ep) tx sz).length)) (rz [.int .i64, .int .i64, .int .i64, .sl (.int .u8)])).2).2).2)]) : D) = .ag (chain [vi ((2 * ep : Nat) : Int), vi (((at_ % ((split_m (2 * ep) tx sz).length)) : Nat) : Int), vi (((split_m (2 * ep) tx sz).length : Nat) : Int), lb ((tx.drop ((at_ % ((split_m (2 * ep) tx sz).length)) * sz)).take sz)])]) [0, 4, 5, 9] [0, 1, 2, 3, 5] 6 ⟨by rw [irem64 omm]; exact (Int.natCast_emod _ _).symm, by omega, by omega, (by first | (rw [hRow]; done) | (rw [hRow]; rfl)), trivial⟩ hS fun hS => ?_
 refine then_n (vA [(4, .oi ((at_ + 1 : Nat) : Int))] trivial (fun _ => [iadd .i64 (at_ : Int) 1 = ((at_ + 1 : Nat) : Int)]) [4, 5, 9] [0, 1, 2, 3, 5] 6 ⟨by rw [iadd64 omm omm]; omega, trivial⟩ hS fun hS => ?_)
 refine vA [(1, .call ⟨51, (c_encodey (2 * ep) (at_ % ((split_m (2 * ep) tx sz).length)) ((split_m (2 * ep) tx sz).length) ((tx.drop ((at_ % ((split_m (2 * ep) tx sz).length)) * sz)).take sz)), [], []⟩)] ⟨encodey_ok _ _ _ _ omm omm, trivial⟩ (fun C => [ndC C 1]) [4, 5] [0, 1, 2, 3] 6 ⟨rfl, trivial⟩ hS fun hS => ?_
 refine wp_ret ?_
 exact fin_y rfl (.inr rfl) hS [lb (encB (2 * ep) (at_ % ((split_m (2 * ep) tx sz).length)) ((split_m (2 * ep) tx sz).length) ((tx.drop ((at_ % ((split_m (2 * ep) tx sz).length)) * sz)).take sz)), vi 0] [(0, some (.ob 77 (chain [vi (sz : Int), vi 1, vi (ep : Int), vi ((at_ + 1 : Nat) : Int), lb sd, lb tx, .cp 1 0, .sk 2]))), (1, some (.ob 135 (chain [vi (id : Int), vi (szb : Int), vi (ln : Int), .sk 3]))), (2, some (.sl 22 [.sl (.int .u8)] sec)), (3, some (.sl 22 [.os (.int .u8)] bx))] rfl ⟨rfl, rfl, rfl, rfl, trivial⟩

def c_outku (sz ep : Nat) (at_ id : Nat) (szb ln : Nat) (sec : List (List Int)) (bx : List (Option (List Int))) (r sd tx : List Int) : Con := ⟨[.cp 0 0, lb r], [(0, .ob 77 (chain [vi (sz : Int), vi 1, vi (ep : Int), vi (at_ : Int), lb sd, lb tx, .cp 1 0, .sk 2])), (1, .ob 135 (chain [vi (id : Int), vi (szb : Int), vi (ln : Int), .sk 3])), (2, .sl 22 [.sl (.int .u8)] sec), (3, .sl 22 [.os (.int .u8)] bx)], .tu (chain [lb (encB (2 * ep) (at_ % ((split_m (2 * ep) ((keys_m (r.take 32) (r.drop 32)).1) sz).length)) ((split_m (2 * ep) ((keys_m (r.take 32) (r.drop 32)).1) sz).length) ((((keys_m (r.take 32) (r.drop 32)).1).drop ((at_ % ((split_m (2 * ep) ((keys_m (r.take 32) (r.drop 32)).1) sz).length)) * sz)).take sz)), vi 0]), [(0, .ob 77 (chain [vi (sz : Int), vi 1, vi (ep : Int), vi (((at_ + 1) : Nat) : Int), lb r, lb ((keys_m (r.take 32) (r.drop 32)).1), .cp 1 0, .sk 2])), (1, .ob 135 (chain [vi (id : Int), vi (szb : Int), vi (ln : Int), .sk 3])), (2, .sl 22 [.sl (.int .u8)] sec), (3, .sl 22 [.os (.int .u8)] bx)]⟩
theorem outku_ok (sz ep : Nat) (at_ id : Nat) (szb ln : Nat) (sec : List (List Int)) (bx : List (Option (List Int))) (r sd tx : List Int) (hr : r.length = 64) (hz : 10 ≤ sz ∧ sz ≤ 1000) (he : ep ≤ 500000000) (ha : at_ ≤ 1000000000) (ht : tx.length = 0) : ConOk Try.prog 19 (c_outku sz ep at_ id szb ln sec bx r sd tx) := by
 refine conOk_of rfl (nb := 4) Try.func19 rfl rfl Try.ntmps19 rfl rfl rfl fun g0 w0 ac gs ws hg0 hS => ?_
 have hlen1 : r.length ≤ 9223372036854775807 := hS.len 1 rfl
 have hlenk2 : sec.length ≤ 9223372036854775807 := hS.lens 2 rfl
 have hlenk3 : bx.length ≤ 9223372036854775807 := hS.lens 3 rfl
 have hS := hS.sp
 have hf1 : ¬ (sz : Int) = 0 := omm
 have hf2 : ((r.length : Nat) : Int) = 64 := omm
 have hf3 : ((tx.length : Nat) : Int) = 0 := omm
 refine v0 [0, 1, 4, 5] [0, 1, 2, 3] 4 hS fun hS => ?_
 refine wp_seq (vA [(7, .ob false), (12, .ob false)] trivial (fun _ => [(decide ((sz : Int) = 0)) = false, (!decide (((r.length : Nat) : Int) = 64)) = false]) [0, 1, 4, 5, 23] [0, 1, 2, 3] 4 ⟨decide_eq_false hf1, by rw [decide_eq_true hf2]; rfl, trivial⟩ hS fun hS => ?_)
 refine cond_f hS ?_
 refine wp_skip (then_n (vA [(4, .oi ((2 * ep : Nat) : Int))] trivial (fun _ => [imul .i64 2 (ep : Int) = ((2 * ep : Nat) : Int)]) [0, 1, 4, 5, 6] [0, 1, 2, 3] 4 ⟨by rw [imul64 omm omm]; omega, trivial⟩ hS fun hS => ?_))
 refine wp_seq (v0 [0, 1, 4, 5, 6, 32] [0, 1, 2, 3] 4 hS fun hS => ?_)
 refine wp_block (v0 [0, 1, 4, 5, 6, 32, 33] [0, 1, 2, 3] 4 hS fun hS => ?_)
 refine cond_f hS ?_
 refine v0 [0, 1, 4, 5, 6, 35] [0, 1, 2, 3] 4 hS fun hS => ?_
 refine cond_f hS ?_
 refine wp_skip (block_n (then_n (wp_seq (vA [(5, .ob true)] trivial (fun _ => [(decide (((tx.length : Nat) : Int) = 0)) = true]) [0, 1, 4, 5, 6, 44] [0, 1, 2, 3] 4 ⟨decide_eq_true hf3, trivial⟩ hS fun hS => ?_))))
 refine cond_t hS ?_
 refine uA [(2, .call ⟨49, (c_rkeysu sz ep at_ id szb ln sec bx r sd tx), [(0, 0), (1, 1), (2, 2), (3, 3)], []⟩)] ⟨rkeysu_ok _ _ _ _ _ _ _ _ _ _ _ lnn, trivial⟩ (fun C => [ndC C 2]) [0, 4, 5, 6] [0, 1, 2, 3] 4 ⟨rfl, trivial⟩ hS fun hS => ?_
 refine then_n (wp_seq ?_)
 have hkl := keys_len (r.take 32) (r.drop 32) (by rw [List.length_drop]; omega)
 refine uA [(9, .call ⟨50, (c_split (2 * ep) ((keys_m (r.take 32) (r.drop 32)).1) sz), [], [(0, 4)]⟩)] ⟨split_ok _ _ _ omm lnn omm, trivial⟩ (fun C => [ndC C 9]) [0, 4, 5, 7] [0, 1, 2, 3, 4] 5 ⟨rfl, trivial⟩ hS fun hS => ?_
 refine then_n (wp_seq ?_)
 have hcb := cntb (ln := ((keys_m (r.take 32) (r.drop 32)).1).length) (sz := sz) omm omm
 have hsl := spl_len (2 * ep) ((keys_m (r.take 32) (r.drop 32)).1) sz
 have hix : at_ % (split_m (2 * ep) ((keys_m (r.take 32) (r.drop 32)).1) sz).length < (split_m (2 * ep) ((keys_m (r.take 32) (r.drop 32)).1) sz).length := Nat.mod_lt _ omm
 have hRow := spl_row (2 * ep) ((keys_m (r.take 32) (r.drop 32)).1) sz _ hix
 have hdl := spl_dl (xs := ((keys_m (r.take 32) (r.drop 32)).1)) (sz := sz) (i := at_ % (split_m (2 * ep) ((keys_m (r.take 32) (r.drop 32)).1) sz).length) omm (by rw [← hsl]; exact hix)
 refine uA [(7, .oi ((at_ % ((split_m (2 * ep) ((keys_m (r.take 32) (r.drop 32)).1) sz).length) : Nat) : Int)), (9, .ov (.ag (chain [vi ((2 * ep : Nat) : Int), vi (((at_ % ((split_m (2 * ep) ((keys_m (r.take 32) (r.drop 32)).1) sz).length)) : Nat) : Int), vi (((split_m (2 * ep) ((keys_m (r.take 32) (r.drop 32)).1) sz).length : Nat) : Int), lb ((((keys_m (r.take 32) (r.drop 32)).1).drop ((at_ % ((split_m (2 * ep) ((keys_m (r.take 32) (r.drop 32)).1) sz).length)) * sz)).take sz)])))] trivial (fun _ => [irem (at_ : Int) (((split_m (2 * ep) ((keys_m (r.take 32) (r.drop 32)).1) sz).length : Nat) : Int) = ((at_ % ((split_m (2 * ep) ((keys_m (r.take 32) (r.drop 32)).1) sz).length) : Nat) : Int), ((((split_m (2 * ep) ((keys_m (r.take 32) (r.drop 32)).1) sz).length : Nat) : Int) : Int) ≠ 0, (0 : Int) ≤ ((at_ % ((split_m (2 * ep) ((keys_m (r.take 32) (r.drop 32)).1) sz).length) : Nat) : Int) ∧ ((at_ % ((split_m (2 * ep) ((keys_m (r.take 32) (r.drop 32)).1) sz).length) : Nat) : Int) < (((split_m (2 * ep) ((keys_m (r.take 32) (r.drop 32)).1) sz).length : Nat) : Int), (.ag (chain [vi (((split_m (2 * ep) ((keys_m (r.take 32) (r.drop 32)).1) sz).getD (at_ % ((split_m (2 * ep) ((keys_m (r.take 32) (r.drop 32)).1) sz).length)) (rz [.int .i64, .int .i64, .int .i64, .sl (.int .u8)])).1), vi ((((split_m (2 * ep) ((keys_m (r.take 32) (r.drop 32)).1) sz).getD (at_ % ((split_m (2 * ep) ((keys_m (r.take 32) (r.drop 32)).1) sz).length)) (rz [.int .i64, .int .i64, .int .i64, .sl (.int .u8)])).2).1), vi (((((split_m (2 * ep) ((keys_m (r.take 32) (r.drop 32)).1) sz).getD (at_ % ((split_m (2 * ep) ((keys_m (r.take 32) (r.drop 32)).1) sz).length)) (rz [.int .i64, .int .i64, .int .i64, .sl (.int .u8)])).2).2).1), lb (((((split_m (2 * ep) ((keys_m (r.take 32) (r.drop 32)).1) sz).getD (at_ % ((split_m (2 * ep) ((keys_m (r.take 32) (r.drop 32)).1) sz).length)) (rz [.int .i64, .int .i64, .int .i64, .sl (.int .u8)])).2).2).2)]) : D) = .ag (chain [vi ((2 * ep : Nat) : Int), vi (((at_ % ((split_m (2 * ep) ((keys_m (r.take 32) (r.drop 32)).1) sz).length)) : Nat) : Int), vi (((split_m (2 * ep) ((keys_m (r.take 32) (r.drop 32)).1) sz).length : Nat) : Int), lb ((((keys_m (r.take 32) (r.drop 32)).1).drop ((at_ % ((split_m (2 * ep) ((keys_m (r.take 32) (r.drop 32)).1) sz).length)) * sz)).take sz)])]) [0, 4, 5, 9] [0, 1, 2, 3, 5] 6 ⟨by rw [irem64 omm]; exact (Int.natCast_emod _ _).symm, by omega, by omega, (by first | (rw [hRow]; done) | (rw [hRow]; rfl)), trivial⟩ hS fun hS => ?_
 refine then_n (vA [(4, .oi ((at_ + 1 : Nat) : Int))] trivial (fun _ => [iadd .i64 (at_ : Int) 1 = ((at_ + 1 : Nat) : Int)]) [4, 5, 9] [0, 1, 2, 3, 5] 6 ⟨by rw [iadd64 omm omm]; omega, trivial⟩ hS fun hS => ?_)
 refine vA [(1, .call ⟨51, (c_encodey (2 * ep) (at_ % ((split_m (2 * ep) ((keys_m (r.take 32) (r.drop 32)).1) sz).length)) ((split_m (2 * ep) ((keys_m (r.take 32) (r.drop 32)).1) sz).length) ((((keys_m (r.take 32) (r.drop 32)).1).drop ((at_ % ((split_m (2 * ep) ((keys_m (r.take 32) (r.drop 32)).1) sz).length)) * sz)).take sz)), [], []⟩)] ⟨encodey_ok _ _ _ _ omm omm, trivial⟩ (fun C => [ndC C 1]) [4, 5] [0, 1, 2, 3] 6 ⟨rfl, trivial⟩ hS fun hS => ?_
 refine wp_ret ?_
 exact fin_y rfl (.inr rfl) hS [lb (encB (2 * ep) (at_ % ((split_m (2 * ep) ((keys_m (r.take 32) (r.drop 32)).1) sz).length)) ((split_m (2 * ep) ((keys_m (r.take 32) (r.drop 32)).1) sz).length) ((((keys_m (r.take 32) (r.drop 32)).1).drop ((at_ % ((split_m (2 * ep) ((keys_m (r.take 32) (r.drop 32)).1) sz).length)) * sz)).take sz)), vi 0] [(0, some (.ob 77 (chain [vi (sz : Int), vi 1, vi (ep : Int), vi ((at_ + 1 : Nat) : Int), lb r, lb ((keys_m (r.take 32) (r.drop 32)).1), .cp 1 0, .sk 2]))), (1, some (.ob 135 (chain [vi (id : Int), vi (szb : Int), vi (ln : Int), .sk 3]))), (2, some (.sl 22 [.sl (.int .u8)] sec)), (3, some (.sl 22 [.os (.int .u8)] bx))] rfl ⟨rfl, rfl, rfl, rfl, trivial⟩

def c_outeu (sz ep : Nat) (at_ id : Nat) (szb ln : Nat) (sec : List (List Int)) (bx : List (Option (List Int))) (r sd tx : List Int) : Con := ⟨[.cp 0 0, lb r], [(0, .ob 77 (chain [vi (sz : Int), vi 1, vi (ep : Int), vi (at_ : Int), lb sd, lb tx, .cp 1 0, .sk 2])), (1, .ob 135 (chain [vi (id : Int), vi (szb : Int), vi (ln : Int), .sk 3])), (2, .sl 22 [.sl (.int .u8)] sec), (3, .sl 22 [.os (.int .u8)] bx)], .tu (chain [lb (encB (2 * ep) (at_ % (split_m (2 * ep) (ekD r) sz).length) ((split_m (2 * ep) (ekD r) sz).length) (((ekD r).drop ((at_ % (split_m (2 * ep) (ekD r) sz).length) * sz)).take sz)), vi 0]), [(0, .ob 77 (chain [vi (sz : Int), vi 1, vi (ep : Int), vi ((at_ + 1 : Nat) : Int), lb r, lb (ekD r), .cp 1 0, .sk 2])), (1, .ob 135 (chain [vi (id : Int), vi (szb : Int), vi (ln : Int), .sk 3])), (2, .sl 22 [.sl (.int .u8)] sec), (3, .sl 22 [.os (.int .u8)] bx)]⟩
theorem outeu_ok (sz ep : Nat) (at_ id : Nat) (szb ln : Nat) (sec : List (List Int)) (bx : List (Option (List Int))) (r sd tx : List Int) (hr : r.length = 64) (hz : 10 ≤ sz ∧ sz ≤ 1000) (he : ep ≤ 500000000) (ha : at_ ≤ 1000000000) (hs : Txt r sd tx) : ConOk Try.prog 19 (c_outeu sz ep at_ id szb ln sec bx r sd tx) := by
 rcases hs with ⟨h1, h2⟩ | ⟨h1, h2⟩
 ·rw [h1, h2]
  exact outku_ok sz ep at_ id szb ln sec bx r [] [] hr omm he ha rfl
 ·rw [h1, h2]
  have hl := ekD_len hr
  exact outgu_ok sz ep at_ id szb ln sec bx r r (ekD r) hr omm he ha omm
def c_outtu (sz st at_ : Nat) (tx : List Int) (id szb ln : Nat) (sec : List (List Int)) (bx : List (Option (List Int))) (r : List Int) : Con := ⟨[.cp 0 0, lb r], [(0, .ob 77 (chain [vi (sz : Int), vi (st : Int), vi 0, vi (at_ : Int), .v (.slice none 0 0), lb tx, .cp 1 0, .sk 2])), (1, .ob 135 (chain [vi (id : Int), vi (szb : Int), vi (ln : Int), .sk 3])), (2, .sl 22 [.sl (.int .u8)] sec), (3, .sl 22 [.os (.int .u8)] bx)], .tu (chain [lb (encB 1 (at_ % ((split_m 1 tx sz).length)) ((split_m 1 tx sz).length) ((tx.drop ((at_ % ((split_m 1 tx sz).length)) * sz)).take sz)), vi 0]), [(0, .ob 77 (chain [vi (sz : Int), vi (st : Int), vi 0, vi (((at_ + 1) : Nat) : Int), .v (.slice none 0 0), lb tx, .cp 1 0, .sk 2])), (1, .ob 135 (chain [vi (id : Int), vi (szb : Int), vi (ln : Int), .sk 3])), (2, .sl 22 [.sl (.int .u8)] sec), (3, .sl 22 [.os (.int .u8)] bx)]⟩
theorem outtu_ok (sz st at_ : Nat) (tx : List Int) (id szb ln : Nat) (sec : List (List Int)) (bx : List (Option (List Int))) (r : List Int) (hr : r.length = 64) (hz : 10 ≤ sz ∧ sz ≤ 1000) (ha : at_ ≤ 1000000000) (hst : st = 3) (ht : 1 ≤ tx.length ∧ tx.length ≤ 10000) : ConOk Try.prog 19 (c_outtu sz st at_ tx id szb ln sec bx r) := by
 refine conOk_of rfl (nb := 4) Try.func19 rfl rfl Try.ntmps19 rfl rfl rfl fun g0 w0 ac gs ws hg0 hS => ?_
 have hlen1 : r.length ≤ 9223372036854775807 := hS.len 1 rfl
 have hlenk2 : sec.length ≤ 9223372036854775807 := hS.lens 2 rfl
 have hlenk3 : bx.length ≤ 9223372036854775807 := hS.lens 3 rfl
 have hS := hS.sp
 have hf1 : ¬ (sz : Int) = 0 := omm
 have hf2 : ((r.length : Nat) : Int) = 64 := omm
 have hf3 : ¬ ((tx.length : Nat) : Int) = 0 := omm
 have hs2 : ¬ (st : Int) = 2 := omm
 have hs3 : (st : Int) = 3 := omm
 refine v0 [0, 1, 4, 5] [0, 1, 2, 3] 4 hS fun hS => ?_
 refine wp_seq (vA [(7, .ob false), (12, .ob false)] trivial (fun _ => [(decide ((sz : Int) = 0)) = false, (!decide (((r.length : Nat) : Int) = 64)) = false]) [0, 1, 4, 5, 23] [0, 1, 2, 3] 4 ⟨decide_eq_false hf1, by rw [decide_eq_true hf2]; rfl, trivial⟩ hS fun hS => ?_)
 refine cond_f hS ?_
 refine wp_skip (then_n (v0 [0, 1, 4, 5, 6] [0, 1, 2, 3] 4 hS fun hS => ?_))
 refine wp_seq (v0 [0, 1, 4, 5, 6, 32] [0, 1, 2, 3] 4 hS fun hS => ?_)
 refine wp_block (vA [(0, .ob false)] trivial (fun _ => [(decide ((st : Int) = 2)) = false]) [0, 1, 4, 5, 6, 32, 33] [0, 1, 2, 3] 4 ⟨decide_eq_false hs2, trivial⟩ hS fun hS => ?_)
 refine cond_f hS ?_
 refine vA [(0, .ob true)] trivial (fun _ => [(decide ((st : Int) = 3)) = true]) [0, 1, 4, 5, 6, 35] [0, 1, 2, 3] 4 ⟨decide_eq_true hs3, trivial⟩ hS fun hS => ?_
 refine cond_t hS ?_
 refine u0 [0, 1, 4, 5, 6] [0, 1, 2, 3] 4 hS fun hS => ?_
 refine block_n (then_n (wp_seq (vA [(5, .ob false)] trivial (fun _ => [(decide (((tx.length : Nat) : Int) = 0)) = false]) [0, 1, 4, 5, 6, 44] [0, 1, 2, 3] 4 ⟨decide_eq_false hf3, trivial⟩ hS fun hS => ?_)))
 refine cond_f hS ?_
 refine wp_skip (then_n (vA [(9, .call ⟨50, (c_split 1 tx sz), [], [(0, 4)]⟩)] ⟨split_ok _ _ _ omm lnn omm, trivial⟩ (fun C => [ndC C 9]) [0, 4, 5, 7] [0, 1, 2, 3, 4] 5 ⟨rfl, trivial⟩ hS fun hS => ?_))
 refine wp_seq ?_
 have hcb := cntb (ln := tx.length) (sz := sz) omm omm
 have hsl := spl_len 1 tx sz
 have hix : at_ % (split_m 1 tx sz).length < (split_m 1 tx sz).length := Nat.mod_lt _ omm
 have hRow := spl_row 1 tx sz _ hix
 have hdl := spl_dl (xs := tx) (sz := sz) (i := at_ % (split_m 1 tx sz).length) omm (by rw [← hsl]; exact hix)
 refine uA [(7, .oi ((at_ % ((split_m 1 tx sz).length) : Nat) : Int)), (9, .ov (.ag (chain [vi ((1 : Nat) : Int), vi (((at_ % ((split_m 1 tx sz).length)) : Nat) : Int), vi (((split_m 1 tx sz).length : Nat) : Int), lb ((tx.drop ((at_ % ((split_m 1 tx sz).length)) * sz)).take sz)])))] trivial (fun _ => [irem (at_ : Int) (((split_m 1 tx sz).length : Nat) : Int) = ((at_ % ((split_m 1 tx sz).length) : Nat) : Int), ((((split_m 1 tx sz).length : Nat) : Int) : Int) ≠ 0, (0 : Int) ≤ ((at_ % ((split_m 1 tx sz).length) : Nat) : Int) ∧ ((at_ % ((split_m 1 tx sz).length) : Nat) : Int) < (((split_m 1 tx sz).length : Nat) : Int), (.ag (chain [vi (((split_m 1 tx sz).getD (at_ % ((split_m 1 tx sz).length)) (rz [.int .i64, .int .i64, .int .i64, .sl (.int .u8)])).1), vi ((((split_m 1 tx sz).getD (at_ % ((split_m 1 tx sz).length)) (rz [.int .i64, .int .i64, .int .i64, .sl (.int .u8)])).2).1), vi (((((split_m 1 tx sz).getD (at_ % ((split_m 1 tx sz).length)) (rz [.int .i64, .int .i64, .int .i64, .sl (.int .u8)])).2).2).1), lb (((((split_m 1 tx sz).getD (at_ % ((split_m 1 tx sz).length)) (rz [.int .i64, .int .i64, .int .i64, .sl (.int .u8)])).2).2).2)]) : D) = .ag (chain [vi ((1 : Nat) : Int), vi (((at_ % ((split_m 1 tx sz).length)) : Nat) : Int), vi (((split_m 1 tx sz).length : Nat) : Int), lb ((tx.drop ((at_ % ((split_m 1 tx sz).length)) * sz)).take sz)])]) [0, 4, 5, 9] [0, 1, 2, 3, 5] 6 ⟨by rw [irem64 omm]; exact (Int.natCast_emod _ _).symm, by omega, by omega, (by first | (rw [hRow]; done) | (rw [hRow]; rfl)), trivial⟩ hS fun hS => ?_
 refine then_n (vA [(4, .oi ((at_ + 1 : Nat) : Int))] trivial (fun _ => [iadd .i64 (at_ : Int) 1 = ((at_ + 1 : Nat) : Int)]) [4, 5, 9] [0, 1, 2, 3, 5] 6 ⟨by rw [iadd64 omm omm]; omega, trivial⟩ hS fun hS => ?_)
 refine vA [(1, .call ⟨51, (c_encodey 1 (at_ % ((split_m 1 tx sz).length)) ((split_m 1 tx sz).length) ((tx.drop ((at_ % ((split_m 1 tx sz).length)) * sz)).take sz)), [], []⟩)] ⟨encodey_ok _ _ _ _ omm omm, trivial⟩ (fun C => [ndC C 1]) [4, 5] [0, 1, 2, 3] 6 ⟨rfl, trivial⟩ hS fun hS => ?_
 refine wp_ret ?_
 exact fin_y rfl (.inr rfl) hS [lb (encB 1 (at_ % ((split_m 1 tx sz).length)) ((split_m 1 tx sz).length) ((tx.drop ((at_ % ((split_m 1 tx sz).length)) * sz)).take sz)), vi 0] [(0, some (.ob 77 (chain [vi (sz : Int), vi (st : Int), vi 0, vi ((at_ + 1 : Nat) : Int), .v (.slice none 0 0), lb tx, .cp 1 0, .sk 2]))), (1, some (.ob 135 (chain [vi (id : Int), vi (szb : Int), vi (ln : Int), .sk 3]))), (2, some (.sl 22 [.sl (.int .u8)] sec)), (3, some (.sl 22 [.os (.int .u8)] bx))] rfl ⟨rfl, rfl, rfl, rfl, trivial⟩

def c_stateu (sz st at_ : Nat) (tx : List Int) (id szb ln : Nat) (sec : List (List Int)) (bx : List (Option (List Int))) : Con := ⟨[.cp 0 0], [(0, .ob 77 (chain [vi (sz : Int), vi (st : Int), vi 0, vi (at_ : Int), .v (.slice none 0 0), lb tx, .cp 1 0, .sk 2])), (1, .ob 135 (chain [vi (id : Int), vi (szb : Int), vi (ln : Int), .sk 3])), (2, .sl 22 [.sl (.int .u8)] sec), (3, .sl 22 [.os (.int .u8)] bx)], vi (st : Int), [(0, .ob 77 (chain [vi (sz : Int), vi (st : Int), vi 0, vi (at_ : Int), .v (.slice none 0 0), lb tx, .cp 1 0, .sk 2])), (1, .ob 135 (chain [vi (id : Int), vi (szb : Int), vi (ln : Int), .sk 3])), (2, .sl 22 [.sl (.int .u8)] sec), (3, .sl 22 [.os (.int .u8)] bx)]⟩
theorem stateu_ok (sz st at_ : Nat) (tx : List Int) (id szb ln : Nat) (sec : List (List Int)) (bx : List (Option (List Int))) : ConOk Try.prog 18 (c_stateu sz st at_ tx id szb ln sec bx) := by
 refine conOk_of rfl (nb := 4) Try.func18 rfl rfl Try.ntmps18 rfl rfl rfl fun g0 w0 ac gs ws hg0 hS => ?_
 have hlenk2 : sec.length ≤ 9223372036854775807 := hS.lens 2 rfl
 have hlenk3 : bx.length ≤ 9223372036854775807 := hS.lens 3 rfl
 have hS := hS.sp
 refine s0 [0, 2] [0, 1, 2, 3] 4 hS fun hS => ?_
 refine wp_seq (s0 [0, 2, 4] [0, 1, 2, 3] 4 hS fun hS => ?_)
 refine cond_f hS ?_
 refine wp_skip (then_n (s0 [2] [0, 1, 2, 3] 4 hS fun hS => ?_))
 refine wp_ret ?_
 exact fin_y rfl (.inr rfl) hS [vi (st : Int)] [(0, some (.ob 77 (chain [vi (sz : Int), vi (st : Int), vi 0, vi (at_ : Int), .v (.slice none 0 0), lb tx, .cp 1 0, .sk 2]))), (1, some (.ob 135 (chain [vi (id : Int), vi (szb : Int), vi (ln : Int), .sk 3]))), (2, some (.sl 22 [.sl (.int .u8)] sec)), (3, some (.sl 22 [.os (.int .u8)] bx))] rfl ⟨rfl, rfl, rfl, rfl, trivial⟩

def c_epochgu (sz ep : Nat) (at_ id : Nat) (szb ln : Nat) (sec : List (List Int)) (bx : List (Option (List Int))) (sd tx : List Int) : Con := ⟨[.cp 0 0], [(0, .ob 77 (chain [vi (sz : Int), vi 1, vi (ep : Int), vi (at_ : Int), lb sd, lb tx, .cp 1 0, .sk 2])), (1, .ob 135 (chain [vi (id : Int), vi (szb : Int), vi (ln : Int), .sk 3])), (2, .sl 22 [.sl (.int .u8)] sec), (3, .sl 22 [.os (.int .u8)] bx)], vi (ep : Int), [(0, .ob 77 (chain [vi (sz : Int), vi 1, vi (ep : Int), vi (at_ : Int), lb sd, lb tx, .cp 1 0, .sk 2])), (1, .ob 135 (chain [vi (id : Int), vi (szb : Int), vi (ln : Int), .sk 3])), (2, .sl 22 [.sl (.int .u8)] sec), (3, .sl 22 [.os (.int .u8)] bx)]⟩
theorem epochgu_ok (sz ep : Nat) (at_ id : Nat) (szb ln : Nat) (sec : List (List Int)) (bx : List (Option (List Int))) (sd tx : List Int) : ConOk Try.prog 23 (c_epochgu sz ep at_ id szb ln sec bx sd tx) := by
 refine conOk_of rfl (nb := 4) Try.func23 rfl rfl Try.ntmps23 rfl rfl rfl fun g0 w0 ac gs ws hg0 hS => ?_
 have hlenk2 : sec.length ≤ 9223372036854775807 := hS.lens 2 rfl
 have hlenk3 : bx.length ≤ 9223372036854775807 := hS.lens 3 rfl
 have hS := hS.sp
 refine s0 [0, 2] [0, 1, 2, 3] 4 hS fun hS => ?_
 refine wp_seq (s0 [0, 2, 4] [0, 1, 2, 3] 4 hS fun hS => ?_)
 refine cond_f hS ?_
 refine wp_skip (then_n (s0 [2] [0, 1, 2, 3] 4 hS fun hS => ?_))
 refine wp_ret ?_
 exact fin_y rfl (.inr rfl) hS [vi (ep : Int)] [(0, some (.ob 77 (chain [vi (sz : Int), vi 1, vi (ep : Int), vi (at_ : Int), lb sd, lb tx, .cp 1 0, .sk 2]))), (1, some (.ob 135 (chain [vi (id : Int), vi (szb : Int), vi (ln : Int), .sk 3]))), (2, some (.sl 22 [.sl (.int .u8)] sec)), (3, some (.sl 22 [.os (.int .u8)] bx))] rfl ⟨rfl, rfl, rfl, rfl, trivial⟩

def c_epochtu (sz st at_ : Nat) (tx : List Int) (id szb ln : Nat) (sec : List (List Int)) (bx : List (Option (List Int))) : Con := ⟨[.cp 0 0], [(0, .ob 77 (chain [vi (sz : Int), vi (st : Int), vi 0, vi (at_ : Int), .v (.slice none 0 0), lb tx, .cp 1 0, .sk 2])), (1, .ob 135 (chain [vi (id : Int), vi (szb : Int), vi (ln : Int), .sk 3])), (2, .sl 22 [.sl (.int .u8)] sec), (3, .sl 22 [.os (.int .u8)] bx)], vi 0, [(0, .ob 77 (chain [vi (sz : Int), vi (st : Int), vi 0, vi (at_ : Int), .v (.slice none 0 0), lb tx, .cp 1 0, .sk 2])), (1, .ob 135 (chain [vi (id : Int), vi (szb : Int), vi (ln : Int), .sk 3])), (2, .sl 22 [.sl (.int .u8)] sec), (3, .sl 22 [.os (.int .u8)] bx)]⟩
theorem epochtu_ok (sz st at_ : Nat) (tx : List Int) (id szb ln : Nat) (sec : List (List Int)) (bx : List (Option (List Int))) : ConOk Try.prog 23 (c_epochtu sz st at_ tx id szb ln sec bx) := by
 refine conOk_of rfl (nb := 4) Try.func23 rfl rfl Try.ntmps23 rfl rfl rfl fun g0 w0 ac gs ws hg0 hS => ?_
 have hlenk2 : sec.length ≤ 9223372036854775807 := hS.lens 2 rfl
 have hlenk3 : bx.length ≤ 9223372036854775807 := hS.lens 3 rfl
 have hS := hS.sp
 refine s0 [0, 2] [0, 1, 2, 3] 4 hS fun hS => ?_
 refine wp_seq (s0 [0, 2, 4] [0, 1, 2, 3] 4 hS fun hS => ?_)
 refine cond_f hS ?_
 refine wp_skip (then_n (s0 [2] [0, 1, 2, 3] 4 hS fun hS => ?_))
 refine wp_ret ?_
 exact fin_y rfl (.inr rfl) hS [vi 0] [(0, some (.ob 77 (chain [vi (sz : Int), vi (st : Int), vi 0, vi (at_ : Int), .v (.slice none 0 0), lb tx, .cp 1 0, .sk 2]))), (1, some (.ob 135 (chain [vi (id : Int), vi (szb : Int), vi (ln : Int), .sk 3]))), (2, some (.sl 22 [.sl (.int .u8)] sec)), (3, some (.sl 22 [.os (.int .u8)] bx))] rfl ⟨rfl, rfl, rfl, rfl, trivial⟩

def eachs_l1_s (l : List (List Int)) (x11 : Nat) : (List (List Int)) → (List (List Int)) := fun x4 => x4 ++ [l.getD x11 (rz [.sl (.int .u8)])]
def eachs_l1 (l : List (List Int)) : Nat → (List (List Int))
 | 0 => []
 | x11 + 1 => eachs_l1_s l x11 (eachs_l1 l x11)
def eachs_v (l : List (List Int)) : (List (List Int)) := eachs_l1 l l.length
def eachs_m (l : List (List Int)) : (List (List Int)) := shut (eachs_v l)
theorem eachs_e (l : List (List Int)) : eachs_m l = eachs_v l := shut_eq _
def c_eachs (l : List (List Int)) : Con := ⟨[.sk 0, .v .nilFunc], [(0, .sl 22 [.sl (.int .u8)] l)], .ls false [.sl (.int .u8)] (eachs_m l), [(0, .sl 22 [.sl (.int .u8)] l)]⟩
theorem eachs_ok (l : List (List Int)) (hl : l.length ≤ 1000) (hm : ∀ j, (l.getD j (rz [.sl (.int .u8)])).length ≤ 10000) : ConOk Try.prog 57 (c_eachs l) := by
 refine conOk_of rfl (nb := 1) Try.func57 rfl rfl Try.ntmps57 rfl rfl rfl fun g0 w0 ac gs ws hg0 hS => ?_
 have hlenk0 : l.length ≤ 9223372036854775807 := hS.lens 0 rfl
 have hS := hS.sp
 refine s0 [0, 1, 4] [0] 1 hS fun hS => ?_
 refine wp_seq (s0 [0, 1, 4, 8] [0] 1 hS fun hS => ?_)
 refine cond_t hS ?_
 refine r0 [0, 1, 4] [0] 1 hS fun hS => ?_
 refine then_n (wp_seq (s0 [1, 4, 9, 10, 11] [0] 1 hS fun hS => ?_))
 refine wp_block ?_
 obtain ⟨gs, hS⟩ := hS.nilk 4 22 [.sl (.int .u8)]
 refine loop_y (ι := Nat × (List (List Int))) hg0 hS (fun z_ => match z_ with | (x11, x4) => l.length - x11) (fun z_ => match z_ with | (x11, x4) => [(1, .v (.func (.func 81) #[] #[])), (4, .sk 1), (9, .sk 0), (10, vi ((l.length : Nat) : Int)), (11, vi ((x11 : Nat) : Int))]) (fun z_ => match z_ with | (x11, x4) => [(0, .sl 22 [.sl (.int .u8)] l), (1, .sl 22 [.sl (.int .u8)] x4)]) (fun z_ => match z_ with | (x11, x4) => (x11 ≤ l.length) ∧ (x4 = eachs_l1 l x11) ∧ (x4.length = x11) ∧ True) 2 (0, []) [(0, 0), (1, 1)] ⟨omm, rfl, rfl, trivial⟩ ?_
 rintro ⟨x11, x4⟩ ac gs ws ⟨hx11, hq1, p1, _⟩ hS
 refine s0 [1, 4, 9, 10, 11, 12] [0, 1] 2 hS fun hS => ?_
 refine wp_seq ?_
 refine if_d ((x11 : Int) < ((l.length : Nat) : Int)) hS (fun h1 => ?_) (fun h1 => ?_)
 ·refine wp_skip (then_n (wp_seq (wp_block (sA [] trivial (fun _ => [(0 : Int) ≤ (x11 : Int) ∧ (x11 : Int) < ((l.length : Nat) : Int)]) [1, 4, 6, 9, 10, 11] [0, 1] 2 ⟨by omega, trivial⟩ hS fun hS => ?_))))
  have hmx := hm x11
  refine rA [(3, .call ⟨81, (c_clone (l.getD x11 (rz [.sl (.int .u8)]))), [], []⟩), (4, .call ⟨81, (c_clone (l.getD x11 (rz [.sl (.int .u8)]))), [], []⟩)] ⟨clone_ok _ lnn, clone_ok _ lnn, trivial⟩ (fun C => [ndC C 3, ndC C 4, x4.length + [l.getD x11 (rz [.sl (.int .u8)])].length ≤ 9223372036854775807, (x4.length + [l.getD x11 (rz [.sl (.int .u8)])].length) * 24 ≤ 140737488355328]) [1, 4, 9, 10, 11] [0, 2] 3 ⟨rfl, rfl, by simp <;> omega, by simp <;> omega, trivial⟩ hS fun hS => ?_
  refine block_n (then_n (rA [(0, .oi ((x11 + 1 : Nat) : Int))] trivial (fun _ => [iadd .i64 (x11 : Int) 1 = ((x11 + 1 : Nat) : Int)]) [1, 4, 9, 10, 11] [0, 2] 3 ⟨by rw [iadd64 omm omm]; omega, trivial⟩ hS fun hS => ?_))
  refine then_n ?_
  exact next_y hg0 hS (s := (x11, x4)) (x11 + 1, x4 ++ [l.getD x11 (rz [.sl (.int .u8)])]) [(0, 0), (1, 2)] (show l.length - (x11 + 1) < l.length - x11 from by omega) ⟨omm, (it_next (F := eachs_l1 l) (st := eachs_l1_s l) (fun _ => rfl) hq1 rfl), (by rw [List.length_append]; simp; omega), trivial⟩
 ·have hScur := hS
  obtain rfl : l.length = x11 := by omega
  obtain rfl : eachs_l1 l l.length = x4 := Eq.symm (congrArg (fun z => z) hq1)
  have hS := hScur
  clear hScur
  refine wp_exit (then_exit (then_exit (block_exit (then_n (s0 [4] [0, 1] 2 hS fun hS => ?_)))))
  refine wp_ret ?_
  have hM : eachs_m l = eachs_l1 l l.length := eachs_e l
  obtain ⟨gs, hS⟩ := hS.fz 1
  exact fin_y rfl (.inr rfl) hS [.ls false [.sl (.int .u8)] (eachs_l1 l l.length)] [(0, some (.sl 22 [.sl (.int .u8)] l))] (by show weak _ (.ls false [.sl (.int .u8)] (eachs_m l)) = (.ls false [.sl (.int .u8)] (eachs_m l)); rw [hM]; first | (simp only []; rfl) | (simp only []; done) | rfl) ⟨rfl, trivial⟩

theorem eachs_len (l : List (List Int)) : (eachs_m l).length = l.length := by
 have key : ∀ i, (eachs_l1 l i).length = i := by
  intro i
  induction i with
  | zero => rfl
  | succ i ih =>
   have e : eachs_l1 l (i + 1) = eachs_l1 l i ++ [List.getD (α := List Int) l i []] := rfl
   rw [e, List.length_append, ih]; rfl
 rw [eachs_e]; exact key _
def c_secstu (sz st at_ : Nat) (tx : List Int) (id szb ln : Nat) (sec : List (List Int)) (bx : List (Option (List Int))) : Con := ⟨[.cp 0 0], [(0, .ob 77 (chain [vi (sz : Int), vi (st : Int), vi 0, vi (at_ : Int), .v (.slice none 0 0), lb tx, .cp 1 0, .sk 2])), (1, .ob 135 (chain [vi (id : Int), vi (szb : Int), vi (ln : Int), .sk 3])), (2, .sl 22 [.sl (.int .u8)] sec), (3, .sl 22 [.os (.int .u8)] bx)], .ls false [.sl (.int .u8)] (eachs_m sec), [(0, .ob 77 (chain [vi (sz : Int), vi (st : Int), vi 0, vi (at_ : Int), .v (.slice none 0 0), lb tx, .cp 1 0, .sk 2])), (1, .ob 135 (chain [vi (id : Int), vi (szb : Int), vi (ln : Int), .sk 3])), (2, .sl 22 [.sl (.int .u8)] sec), (3, .sl 22 [.os (.int .u8)] bx)]⟩
theorem secstu_ok (sz st at_ : Nat) (tx : List Int) (id szb ln : Nat) (sec : List (List Int)) (bx : List (Option (List Int))) (hl : sec.length ≤ 1000) (hm : ∀ j, (sec.getD j (rz [.sl (.int .u8)])).length ≤ 10000) : ConOk Try.prog 22 (c_secstu sz st at_ tx id szb ln sec bx) := by
 refine conOk_of rfl (nb := 4) Try.func22 rfl rfl Try.ntmps22 rfl rfl rfl fun g0 w0 ac gs ws hg0 hS => ?_
 have hlenk2 : sec.length ≤ 9223372036854775807 := hS.lens 2 rfl
 have hlenk3 : bx.length ≤ 9223372036854775807 := hS.lens 3 rfl
 have hS := hS.sp
 refine s0 [0, 2] [0, 1, 2, 3] 4 hS fun hS => ?_
 refine wp_seq (s0 [0, 2, 4] [0, 1, 2, 3] 4 hS fun hS => ?_)
 refine cond_f hS ?_
 refine wp_skip (then_n (sA [(4, .call ⟨57, (c_eachs sec), [(0, 2)], []⟩)] ⟨eachs_ok _ lnn asm, trivial⟩ (fun C => [ndC C 4]) [2] [0, 1, 2, 3] 4 ⟨rfl, trivial⟩ hS fun hS => ?_))
 refine wp_ret ?_
 exact fin_y rfl (.inr rfl) hS [.ls false [.sl (.int .u8)] (eachs_m sec)] [(0, some (.ob 77 (chain [vi (sz : Int), vi (st : Int), vi 0, vi (at_ : Int), .v (.slice none 0 0), lb tx, .cp 1 0, .sk 2]))), (1, some (.ob 135 (chain [vi (id : Int), vi (szb : Int), vi (ln : Int), .sk 3]))), (2, some (.sl 22 [.sl (.int .u8)] sec)), (3, some (.sl 22 [.os (.int .u8)] bx))] rfl ⟨rfl, rfl, rfl, rfl, trivial⟩

def c_secsgu (sz ep : Nat) (at_ id : Nat) (szb ln : Nat) (sec : List (List Int)) (bx : List (Option (List Int))) (sd tx : List Int) : Con := ⟨[.cp 0 0], [(0, .ob 77 (chain [vi (sz : Int), vi 1, vi (ep : Int), vi (at_ : Int), lb sd, lb tx, .cp 1 0, .sk 2])), (1, .ob 135 (chain [vi (id : Int), vi (szb : Int), vi (ln : Int), .sk 3])), (2, .sl 22 [.sl (.int .u8)] sec), (3, .sl 22 [.os (.int .u8)] bx)], .ls false [.sl (.int .u8)] (eachs_m sec), [(0, .ob 77 (chain [vi (sz : Int), vi 1, vi (ep : Int), vi (at_ : Int), lb sd, lb tx, .cp 1 0, .sk 2])), (1, .ob 135 (chain [vi (id : Int), vi (szb : Int), vi (ln : Int), .sk 3])), (2, .sl 22 [.sl (.int .u8)] sec), (3, .sl 22 [.os (.int .u8)] bx)]⟩
theorem secsgu_ok (sz ep : Nat) (at_ id : Nat) (szb ln : Nat) (sec : List (List Int)) (bx : List (Option (List Int))) (sd tx : List Int) (hl : sec.length ≤ 1000) (hm : ∀ j, (sec.getD j (rz [.sl (.int .u8)])).length ≤ 10000) : ConOk Try.prog 22 (c_secsgu sz ep at_ id szb ln sec bx sd tx) := by
 refine conOk_of rfl (nb := 4) Try.func22 rfl rfl Try.ntmps22 rfl rfl rfl fun g0 w0 ac gs ws hg0 hS => ?_
 have hlenk2 : sec.length ≤ 9223372036854775807 := hS.lens 2 rfl
 have hlenk3 : bx.length ≤ 9223372036854775807 := hS.lens 3 rfl
 have hS := hS.sp
 refine s0 [0, 2] [0, 1, 2, 3] 4 hS fun hS => ?_
 refine wp_seq (s0 [0, 2, 4] [0, 1, 2, 3] 4 hS fun hS => ?_)
 refine cond_f hS ?_
 refine wp_skip (then_n (sA [(4, .call ⟨57, (c_eachs sec), [(0, 2)], []⟩)] ⟨eachs_ok _ lnn asm, trivial⟩ (fun C => [ndC C 4]) [2] [0, 1, 2, 3] 4 ⟨rfl, trivial⟩ hS fun hS => ?_))
 refine wp_ret ?_
 exact fin_y rfl (.inr rfl) hS [.ls false [.sl (.int .u8)] (eachs_m sec)] [(0, some (.ob 77 (chain [vi (sz : Int), vi 1, vi (ep : Int), vi (at_ : Int), lb sd, lb tx, .cp 1 0, .sk 2]))), (1, some (.ob 135 (chain [vi (id : Int), vi (szb : Int), vi (ln : Int), .sk 3]))), (2, some (.sl 22 [.sl (.int .u8)] sec)), (3, some (.sl 22 [.os (.int .u8)] bx))] rfl ⟨rfl, rfl, rfl, rfl, trivial⟩

end
end Go.Sx.Try
namespace Go.Sx.Try
open Go.Mi Go.RowKit Go.Sx Go.Proofs
noncomputable section
def tkF (sz st : Nat) (tx : List Int) (sec : List (List Int)) (bx : List (Option (List Int))) (pa : Nat) (d r : List Int) : Nat × List Int × List (Option (List Int)) × List (List Int) :=
 if st = 3 then (st, tx, bx, sec) else if full (putB bx pa d) = true then (3, (encapsy_m (gts (putB bx pa d)).flatten (r.take 32)).2, List.replicate ((1184 + sz - 1) / sz) none, sec ++ [(encapsy_m (gts (putB bx pa d)).flatten (r.take 32)).1]) else (st, tx, putB bx pa d, sec)
theorem tk_eq {sz st : Nat} {tx : List Int} {id : Nat} {sec : List (List Int)} {bx : List (Option (List Int))} {pa ct q : Nat} {d r : List Int} (hid : id = 0) : intk_m sz st 0 tx id 1184 sec bx pa ct q d r = ((tkF sz st tx sec bx pa d r).1, 0, (tkF sz st tx sec bx pa d r).2.1, id, 1184, (tkF sz st tx sec bx pa d r).2.2.1, (tkF sz st tx sec bx pa d r).2.2.2) := by
 subst hid
 rw [intk_e]; unfold intk_v tkF
 by_cases h3 : st = 3
 ·rw [if_pos omm, if_pos h3]
 ·rw [if_neg omm, if_neg h3]
  by_cases hf : full (putB bx pa d) = true
  ·rw [if_pos hf, if_pos hf]
  ·rw [if_neg hf, if_neg hf]
def gvF (sz at_ : Nat) (sd tx : List Int) (id : Nat) (sec : List (List Int)) (bx : List (Option (List Int))) (pa : Nat) (d : List Int) : Nat × Nat × List Int × List Int × Nat × List (Option (List Int)) × List (List Int) :=
 if full (putB bx pa d) = true then (1, 0, [], [], 3, List.replicate ((1088 + sz - 1) / sz) none, sec ++ [(decaps_m (keys_m (sd.take 32) (sd.drop 32)).2 (gts (putB bx pa d)).flatten).1]) else (0, at_, sd, tx, id, putB bx pa d, sec)
theorem gv_eq {sz at_ : Nat} {sd tx : List Int} {id : Nat} {sec : List (List Int)} {bx : List (Option (List Int))} {pa ct q : Nat} {d r : List Int} : ingk_m sz 0 at_ sd tx id 1088 sec bx pa ct q d r = ((gvF sz at_ sd tx id sec bx pa d).1, (gvF sz at_ sd tx id sec bx pa d).2.1, (gvF sz at_ sd tx id sec bx pa d).2.2.1, (gvF sz at_ sd tx id sec bx pa d).2.2.2.1, (gvF sz at_ sd tx id sec bx pa d).2.2.2.2.1, 1088, (gvF sz at_ sd tx id sec bx pa d).2.2.2.2.2.1, (gvF sz at_ sd tx id sec bx pa d).2.2.2.2.2.2) := by
 rw [ingk_e]; unfold ingk_v gvF
 by_cases hf : full (putB bx pa d) = true
 ·rw [if_pos hf, if_pos hf]
 ·rw [if_neg hf, if_neg hf]
def c_intz (sz st : Nat) (tx : List Int) (id : Nat) (sec : List (List Int)) (bx : List (Option (List Int))) (pa ct : Nat) (d r : List Int) : Con := ⟨[.cp 0 0, lb (encB id pa ct d), lb r], [(0, .ob 77 (chain [vi (sz : Int), vi (st : Int), vi 0, vi 0, .v (.slice none 0 0), lb tx, .cp 1 0, .sk 2])), (1, .ob 135 (chain [vi (id : Int), vi (sz : Int), vi 1184, .sk 3])), (2, .sl 22 [.sl (.int .u8)] sec), (3, .sl 22 [.os (.int .u8)] bx)], vi 0, [(0, .ob 77 (chain [vi (sz : Int), vi (((tkF sz st tx sec bx pa d r).1 : Nat) : Int), vi 0, vi 0, .v (.slice none 0 0), lb ((tkF sz st tx sec bx pa d r).2.1), .cp 4 0, .sk 6])), (4, .ob 135 (chain [vi (id : Int), vi (sz : Int), vi 1184, .sk 5])), (5, .sl 22 [.os (.int .u8)] ((tkF sz st tx sec bx pa d r).2.2.1)), (6, .sl 22 [.sl (.int .u8)] ((tkF sz st tx sec bx pa d r).2.2.2))]⟩
theorem intz_ok (sz st : Nat) (tx : List Int) (id : Nat) (sec : List (List Int)) (bx : List (Option (List Int))) (pa ct : Nat) (d r : List Int) (hb : 1 ≤ bx.length ∧ bx.length ≤ 10000) (hz : 1 ≤ sz ∧ sz ≤ 1000) (hr : r.length = 64) (hsc : sec.length ≤ 1000) (hst : st = 2 ∨ st = 3) (hid : id = 0) (hql : pa * sz < 1184) (hpa : pa < bx.length) (hct : ct = bx.length) (hdl : d.length = min sz (1184 - pa * sz)) (hft : FitB bx pa d) (hd : 1 ≤ d.length ∧ d.length ≤ 1000) (hE : full (putB bx pa d) = true → chk ((gts (putB bx pa d)).flatten) = 0 ∧ ((gts (putB bx pa d)).flatten).length = 1184) : ConOk Try.prog 21 (c_intz sz st tx id sec bx pa ct d r) := by
 have h := intk_ok sz st 0 tx id 1184 sec bx pa ct (pa * sz) d r hb omm hst hid rfl hql hpa hct hdl hft hd hE hr hsc
 unfold c_intk at h
 rw [tk_eq hid] at h
 exact h
def c_ingz (sz at_ : Nat) (sd tx : List Int) (id : Nat) (sec : List (List Int)) (bx : List (Option (List Int))) (pa ct : Nat) (d r : List Int) (pid ep : Nat) : Con := ⟨[.cp 0 0, lb (encB pid pa ct d), lb r], [(0, .ob 77 (chain [vi (sz : Int), vi 1, vi (ep : Int), vi (at_ : Int), lb sd, lb tx, .cp 1 0, .sk 2])), (1, .ob 135 (chain [vi (id : Int), vi (sz : Int), vi 1088, .sk 3])), (2, .sl 22 [.sl (.int .u8)] sec), (3, .sl 22 [.os (.int .u8)] bx)], vi 0, [(0, .ob 77 (chain [vi (sz : Int), vi 1, vi (((gvF sz at_ sd tx id sec bx pa d).1 : Nat) : Int), vi (((gvF sz at_ sd tx id sec bx pa d).2.1 : Nat) : Int), lb ((gvF sz at_ sd tx id sec bx pa d).2.2.1), lb ((gvF sz at_ sd tx id sec bx pa d).2.2.2.1), .cp 4 0, .sk 6])), (4, .ob 135 (chain [vi (((gvF sz at_ sd tx id sec bx pa d).2.2.2.2.1 : Nat) : Int), vi (sz : Int), vi 1088, .sk 5])), (5, .sl 22 [.os (.int .u8)] ((gvF sz at_ sd tx id sec bx pa d).2.2.2.2.2.1)), (6, .sl 22 [.sl (.int .u8)] ((gvF sz at_ sd tx id sec bx pa d).2.2.2.2.2.2))]⟩
theorem ingz_ok (sz at_ : Nat) (sd tx : List Int) (id : Nat) (sec : List (List Int)) (bx : List (Option (List Int))) (pa ct : Nat) (d r : List Int) (pid ep : Nat) (hb : 1 ≤ bx.length ∧ bx.length ≤ 10000) (hz : 1 ≤ sz ∧ sz ≤ 1000) (hr : r.length = 64) (hsc : sec.length ≤ 1000) (hql : pa * sz < 1088) (hpa : pa < bx.length) (hct : ct = bx.length) (hdl : d.length = min sz (1088 - pa * sz)) (hft : FitB bx pa d) (hd : 1 ≤ d.length ∧ d.length ≤ 1000) (hid : id = 1) (hpi : pid = id) (hep : ep = 0) (htx : 1 ≤ tx.length) (hsd : sd.length = 64) (hE : full (putB bx pa d) = true → ((gts (putB bx pa d)).flatten).length = 1088) : ConOk Try.prog 21 (c_ingz sz at_ sd tx id sec bx pa ct d r pid ep) := by
 rw [hpi, hep]
 have h := ingk_ok sz 0 at_ sd tx id 1088 sec bx pa ct (pa * sz) d r hb omm omm rfl hql hpa hct hdl hft hd hr rfl omm htx hsd hsc hE
 unfold c_ingk at h
 rw [gv_eq] at h
 exact h
end
end Go.Sx.Try
namespace Go.Sx.Try
open Go.Mi Go.RowKit Go.Sx Go.Proofs
noncomputable section
def pc (E : List Int) (sz j : Nat) : List Int := (E.drop (j * sz)).take sz
theorem pc_flat (E : List Int) (sz : Nat) : ∀ k, ((List.range k).map (pc E sz)).flatten = E.take (k * sz)
 | 0 => by simp
 | k + 1 => by
  rw [List.range_succ, List.map_append, List.flatten_append, pc_flat E sz k, Nat.succ_mul, List.take_add]
  simp [pc]
def Good (E : List Int) (sz n : Nat) (bx : List (Option (List Int))) : Prop := bx.length = n ∧ ∀ j, j < n → FitB bx j (pc E sz j)
theorem putB_at {bx : List (Option (List Int))} {pa : Nat} {d : List Int} (h : pa < bx.length) (j : Nat) : List.getD (α := Option (List Int)) (putB bx pa d) j none = if j = pa then some d else List.getD (α := Option (List Int)) bx j none := by
 unfold putB
 rw [List.getD_eq_getElem?_getD, List.getElem?_set]
 by_cases e : j = pa
 ·rw [if_pos e, if_pos e.symm, if_pos h]; rfl
 ·rw [if_neg e, if_neg (fun q => e q.symm), List.getD_eq_getElem?_getD]
theorem Good.put {E : List Int} {sz n pa : Nat} {bx : List (Option (List Int))} (h : Good E sz n bx) (hp : pa < n) : Good E sz n (putB bx pa (pc E sz pa)) := by
 refine ⟨by rw [putB_len, h.1], fun j hj => ?_⟩
 unfold FitB
 rw [putB_at (by rw [h.1]; exact hp)]
 by_cases e : j = pa
 ·rw [if_pos e, e]; exact .inr rfl
 ·rw [if_neg e]; exact h.2 j hj
theorem full_at {bx : List (Option (List Int))} : full bx = true ↔ ∀ j, j < bx.length → (List.getD (α := Option (List Int)) bx j none).isSome = true := by
 unfold full
 rw [List.all_eq_true]
 refine ⟨fun h j hj => ?_, fun h x hx => ?_⟩
 ·rw [List.getD_eq_getElem?_getD, List.getElem?_eq_getElem hj]
  exact h _ (List.getElem_mem hj)
 ·obtain ⟨j, hj, rfl⟩ := List.mem_iff_getElem.1 hx
  have := h j hj
  rw [List.getD_eq_getElem?_getD, List.getElem?_eq_getElem hj] at this
  exact this
theorem Good.all {E : List Int} {sz n : Nat} {bx : List (Option (List Int))} (h : Good E sz n bx) (hf : full bx = true) : gts bx = (List.range n).map (pc E sz) := by
 refine List.ext_getElem (by rw [List.length_map, List.length_map, List.length_range, h.1]) fun j h1 h2 => ?_
 rw [List.length_map] at h1
 have h3 := full_at.1 hf j h1
 have h4 := h.2 j (by rw [← h.1]; exact h1)
 unfold FitB at h4
 rw [List.getD_eq_getElem?_getD, List.getElem?_eq_getElem h1] at h3 h4
 rw [List.getElem_map, List.getElem_map, List.getElem_range]
 rcases h4 with h4 | h4
 ·have h4 : bx[j] = none := h4
  rw [Option.getD_some, h4] at h3; cases h3
 ·have h4 : bx[j] = some (pc E sz j) := h4
  rw [h4]; rfl
theorem cnt_ge {len sz : Nat} (hz : 1 ≤ sz) : len ≤ (len + sz - 1) / sz * sz := by
 have := (cnt_of (len := len) hz ((len + sz - 1) / sz)).2
 rcases Nat.lt_or_ge ((len + sz - 1) / sz * sz) len with h | h
 ·exact absurd (this h) (Nat.lt_irrefl _)
 ·exact h
theorem Good.flat {E : List Int} {sz : Nat} {bx : List (Option (List Int))} (hz : 1 ≤ sz) (h : Good E sz ((E.length + sz - 1) / sz) bx) (hf : full bx = true) : (gts bx).flatten = E := by
 rw [h.all hf, pc_flat, List.take_of_length_le (cnt_ge hz)]
theorem rep_at (n j : Nat) : List.getD (α := Option (List Int)) (List.replicate n none) j none = none := by
 rw [List.getD_eq_getElem?_getD, List.getElem?_replicate]
 split <;> rfl
theorem Good.nil (E : List Int) (sz n : Nat) : Good E sz n (List.replicate n none) := ⟨List.length_replicate, fun j _ => .inl (rep_at n j)⟩
theorem full_nil {n : Nat} (h : 1 ≤ n) : full (List.replicate n none) = false := by
 cases hf : full (List.replicate n none) with
 | false => rfl
 | true =>
  have := full_at.1 hf 0 (by rw [List.length_replicate]; exact h)
  rw [rep_at] at this; cases this
theorem full_put {n pa : Nat} {d : List Int} (h : 2 ≤ n) (hp : pa < n) : full (putB (List.replicate n none) pa d) = false := by
 cases hf : full (putB (List.replicate n none) pa d) with
 | false => rfl
 | true =>
  have := full_at.1 hf (if pa = 0 then 1 else 0) (by rw [putB_len, List.length_replicate]; split <;> omega)
  rw [putB_at (by rw [List.length_replicate]; exact hp), if_neg (by split <;> omega), rep_at] at this
  cases this
theorem time_of {n j : Nat} (L : Nat) (h : j < n) : ∃ t, L ≤ t ∧ t < L + n ∧ t % n = j := by
 have h1 := Nat.div_add_mod (L + n - 1 - j) n
 have h2 := Nat.mod_lt (L + n - 1 - j) (show 0 < n by omega)
 refine ⟨j + n * ((L + n - 1 - j) / n), by omega, by omega, ?_⟩
 rw [Nat.add_mul_mod_self_left, Nat.mod_eq_of_lt h]
def Came (n L k : Nat) (bx : List (Option (List Int))) : Prop := ∀ t, L ≤ t → t < k → (List.getD (α := Option (List Int)) bx (t % n) none).isSome = true
theorem Came.put {n L k k' pa : Nat} {bx : List (Option (List Int))} {d : List Int} (h : Came n L k bx) (hp : pa < bx.length) (hk : ∀ t, L ≤ t → t < k' → t < k ∨ t % n = pa) : Came n L k' (putB bx pa d) := fun t h1 h2 => by
 rw [putB_at hp]
 by_cases e : t % n = pa
 ·rw [if_pos e]; rfl
 ·rw [if_neg e]
  rcases hk t h1 h2 with h3 | h3
  ·exact h t h1 h3
  ·exact absurd h3 e
theorem Came.full {n L k : Nat} {bx : List (Option (List Int))} (h : Came n L k bx) (hb : bx.length = n) (hk : L + n ≤ k) : full bx = true := full_at.2 fun j hj => by
 obtain ⟨t, h1, h2, h3⟩ := time_of L (hb ▸ hj : j < n)
 have := h t h1 omm
 rw [h3] at this
 exact this
def TKI (E r : List Int) (sz n L k st : Nat) (tx : List Int) (bx : List (Option (List Int))) (sec : List (List Int)) : Prop :=
 (st = 2 ∧ tx = [] ∧ sec = [] ∧ Good E sz n bx ∧ full bx = false ∧ Came n L k bx) ∨ (st = 3 ∧ tx = (encapsy_m E (r.take 32)).2 ∧ sec = [(encapsy_m E (r.take 32)).1] ∧ bx = List.replicate n none)
theorem TKI.put {E r : List Int} {sz n L k k' st j : Nat} {tx : List Int} {bx : List (Option (List Int))} {sec : List (List Int)} (hE : E.length = 1184) (hz : 1 ≤ sz) (hn : n = (1184 + sz - 1) / sz) (h : TKI E r sz n L k st tx bx sec) (hj : j < n) (hk : ∀ t, L ≤ t → t < k' → t < k ∨ t % n = j) :
  TKI E r sz n L k' (tkF sz st tx sec bx j (pc E sz j) r).1 (tkF sz st tx sec bx j (pc E sz j) r).2.1 (tkF sz st tx sec bx j (pc E sz j) r).2.2.1 (tkF sz st tx sec bx j (pc E sz j) r).2.2.2 := by
 unfold tkF
 rcases h with ⟨h1, h2, h3, h4, h5, h6⟩ | ⟨h1, h2, h3, h4⟩
 ·rw [if_neg omm]
  by_cases hf : full (putB bx j (pc E sz j)) = true
  ·rw [if_pos hf]
   have e := Good.flat hz (E := E) (bx := putB bx j (pc E sz j)) (by rw [hE, ← hn]; exact h4.put hj) hf
   rw [e]
   exact .inr ⟨rfl, rfl, by rw [h3]; rfl, by rw [hn]⟩
  ·rw [if_neg hf]
   exact .inl ⟨h1, h2, h3, h4.put hj, by simpa using hf, h6.put (by rw [h4.1]; exact hj) hk⟩
 ·rw [if_pos h1]
  exact .inr ⟨h1, h2, h3, h4⟩
theorem TKI.fit {E r : List Int} {sz n L k st j : Nat} {tx : List Int} {bx : List (Option (List Int))} {sec : List (List Int)} (hE : E.length = 1184) (hc : chk E = 0) (hz : 1 ≤ sz) (hn : n = (1184 + sz - 1) / sz) (h2n : 2 ≤ n) (h : TKI E r sz n L k st tx bx sec) (hj : j < n) :
  bx.length = n ∧ sec.length ≤ 1 ∧ (st = 2 ∨ st = 3) ∧ FitB bx j (pc E sz j) ∧ (full (putB bx j (pc E sz j)) = true → chk (gts (putB bx j (pc E sz j))).flatten = 0 ∧ (gts (putB bx j (pc E sz j))).flatten.length = 1184) := by
 rcases h with ⟨h1, h2, h3, h4, h5, h6⟩ | ⟨h1, h2, h3, h4⟩
 ·refine ⟨h4.1, by rw [h3]; exact Nat.zero_le _, .inl h1, h4.2 j hj, fun hf => ?_⟩
  have e := Good.flat hz (E := E) (bx := putB bx j (pc E sz j)) (by rw [hE, ← hn]; exact h4.put hj) hf
  rw [e]
  exact ⟨hc, hE⟩
 ·rw [h4]
  refine ⟨List.length_replicate, by rw [h3]; exact Nat.le_refl _, .inr h1, .inl (rep_at n j), fun hf => ?_⟩
  rw [full_put h2n hj] at hf; cases hf
theorem TKI.skip {E r : List Int} {sz n L k st : Nat} {tx : List Int} {bx : List (Option (List Int))} {sec : List (List Int)} (h : TKI E r sz n L k st tx bx sec) (hk : k < L) : TKI E r sz n L (k + 1) st tx bx sec := by
 rcases h with ⟨h1, h2, h3, h4, h5, h6⟩ | h
 ·exact .inl ⟨h1, h2, h3, h4, h5, fun t h7 h8 => by omega⟩
 ·exact .inr h
theorem TKI.start (E r : List Int) (sz L : Nat) {n : Nat} (h : 1 ≤ n) : TKI E r sz n L 0 2 [] (List.replicate n none) [] := .inl ⟨rfl, rfl, rfl, Good.nil .., full_nil h, fun t _ h => absurd h (Nat.not_lt_zero t)⟩
theorem TKI.done {E r : List Int} {sz n L k st : Nat} {tx : List Int} {bx : List (Option (List Int))} {sec : List (List Int)} (h : TKI E r sz n L k st tx bx sec) (hk : L + n ≤ k) : st = 3 := by
 rcases h with ⟨h1, h2, h3, h4, h5, h6⟩ | h
 ·rw [h6.full h4.1 hk] at h5; cases h5
 ·exact h.1
end
end Go.Sx.Try
