/- General lemmas, walks. -/
import Derived.Test.YtmkplecnmklbfaaGreatJ5PRoots
set_option maxRecDepth 100000
set_option maxHeartbeats 1000000
set_option linter.unusedSimpArgs false
set_option linter.unusedVariables false
set_option linter.unnecessarySimpa false
set_option linter.unusedSectionVars false
namespace Go.Sx.Tryz
open Go.Mi Go.RowKit Go.Sx Go.Proofs
noncomputable section
def kix (l : List KR) : List Int := l.map (·.1)
def skept_l1_s (id : List Int) (fi : Bool) (ok : List Int) (oi : Nat) (ik : List Int) (ii low : Nat) (mx : List (List Int)) (last told : Nat) (kl : List KR) (x12 : Nat) : (List Int) → (List Int) := fun x2 => x2 ++ [((kl.getD x12 (rz [.int .i64, .int .i64, .sl (.sl (.int .u8))])).1)]
def skept_l1 (id : List Int) (fi : Bool) (ok : List Int) (oi : Nat) (ik : List Int) (ii low : Nat) (mx : List (List Int)) (last told : Nat) (kl : List KR) : Nat → (List Int)
 | 0 => []
 | x12 + 1 => skept_l1_s id fi ok oi ik ii low mx last told kl x12 (skept_l1 id fi ok oi ik ii low mx last told kl x12)
def skept_v (id : List Int) (fi : Bool) (ok : List Int) (oi : Nat) (ik : List Int) (ii low : Nat) (mx : List (List Int)) (last told : Nat) (kl : List KR) : (List Int) := skept_l1 id fi ok oi ik ii low mx last told kl kl.length
def skept_m (id : List Int) (fi : Bool) (ok : List Int) (oi : Nat) (ik : List Int) (ii low : Nat) (mx : List (List Int)) (last told : Nat) (kl : List KR) : (List Int) := shut (skept_v id fi ok oi ik ii low mx last told kl)
theorem skept_e (id : List Int) (fi : Bool) (ok : List Int) (oi : Nat) (ik : List Int) (ii low : Nat) (mx : List (List Int)) (last told : Nat) (kl : List KR) : skept_m id fi ok oi ik ii low mx last told kl = skept_v id fi ok oi ik ii low mx last told kl := shut_eq _
def c_skept (id : List Int) (fi : Bool) (ok : List Int) (oi : Nat) (ik : List Int) (ii low : Nat) (mx : List (List Int)) (last told : Nat) (kl : List KR) : Con := ⟨[.cp 0 0], [(0, .ob 80 (chain [lb id, .v (.bool fi), .v (.bool false), .cp 1 0, .cp 2 0, .v (.pointer none), vi (low : Int), .ls false [.sl (.int .u8)] mx, vi (last : Int), vi (told : Int), .ls false [.int .i64, .int .i64, .sl (.sl (.int .u8))] kl])), (1, .ob 122 (chain [lb ok, vi (oi : Int)])), (2, .ob 122 (chain [lb ik, vi (ii : Int)]))], .sk 3, [(0, .ob 80 (chain [lb id, .v (.bool fi), .v (.bool false), .cp 1 0, .cp 2 0, .v (.pointer none), vi (low : Int), .ls false [.sl (.int .u8)] mx, vi (last : Int), vi (told : Int), .ls false [.int .i64, .int .i64, .sl (.sl (.int .u8))] kl])), (1, .ob 122 (chain [lb ok, vi (oi : Int)])), (2, .ob 122 (chain [lb ik, vi (ii : Int)])), (3, .sl 3 [.int .i64] (skept_m id fi ok oi ik ii low mx last told kl))]⟩
theorem skept_ok (id : List Int) (fi : Bool) (ok : List Int) (oi : Nat) (ik : List Int) (ii low : Nat) (mx : List (List Int)) (last told : Nat) (kl : List KR) (hK : KOk kl) : ConOk Tryz.prog 21 (c_skept id fi ok oi ik ii low mx last told kl) := by
 refine conOk_of rfl (nb := 3) Tryz.func21 rfl rfl Tryz.ntmps21 rfl rfl rfl fun g0 w0 ac gs ws hg0 hS => ?_
 have hS := hS.sp
 refine s0 [0, 2] [0, 1, 2] 3 hS fun hS => ?_
 refine wp_seq (sC [(1, ⟨36, (c_snoner), [], []⟩, [0, 1])] ⟨snoner_ok, trivial⟩ [] [] trivial (fun _ => [([.im (chain [.top, .top, .top, .im (chain []) 0, .top, .top, .top, .top, .top, .top, .top]) 0] : List D) = [.im (chain [.top, .top, .top, .im (chain []) 0, .top, .top, .top, .top, .top, .top, .top]) 0]]) [0, 2, 6] [0, 1, 2] 3 ⟨rfl, trivial⟩ hS fun hS => ?_)
 refine cond_f hS ?_
 refine wp_skip (then_n (wp_seq (s0 [2, 10, 11, 12] [0, 1, 2] 3 hS fun hS => ?_)))
 refine wp_block ?_
 obtain ⟨gs, hS⟩ := hS.nilk 2 3 [.int .i64]
 refine loop_y (ι := Nat × (List Int)) hg0 hS (fun z_ => match z_ with | (x12, x2) => kl.length - x12) (fun z_ => match z_ with | (x12, x2) => [(2, .sk 3), (10, .ls false [.int .i64, .int .i64, .sl (.sl (.int .u8))] kl), (11, vi ((kl.length : Nat) : Int)), (12, vi ((x12 : Nat) : Int))]) (fun z_ => match z_ with | (x12, x2) => [(0, .ob 80 (chain [lb id, .v (.bool fi), .v (.bool false), .cp 1 0, .cp 2 0, .v (.pointer none), vi (low : Int), .ls false [.sl (.int .u8)] mx, vi (last : Int), vi (told : Int), .ls false [.int .i64, .int .i64, .sl (.sl (.int .u8))] kl])), (1, .ob 122 (chain [lb ok, vi (oi : Int)])), (2, .ob 122 (chain [lb ik, vi (ii : Int)])), (3, .sl 3 [.int .i64] x2)]) (fun z_ => match z_ with | (x12, x2) => (x12 ≤ kl.length) ∧ (x2 = skept_l1 id fi ok oi ik ii low mx last told kl x12) ∧ (x2.length = x12 ∧ kl.length ≤ 1000) ∧ True) 4 (0, []) [(0, 0), (1, 1), (2, 2), (3, 3)] ⟨omm, rfl, ⟨rfl, hK.1⟩, trivial⟩ ?_
 rintro ⟨x12, x2⟩ ac gs ws ⟨hx12, hq1, p1, _⟩ hS
 refine s0 [2, 10, 11, 12, 13] [0, 1, 2, 3] 4 hS fun hS => ?_
 refine wp_seq ?_
 refine if_d ((x12 : Int) < ((kl.length : Nat) : Int)) hS (fun h1 => ?_) (fun h1 => ?_)
 ·refine wp_skip (then_n (wp_seq (wp_block (sA [] trivial (fun _ => [(0 : Int) ≤ (x12 : Int) ∧ (x12 : Int) < ((kl.length : Nat) : Int)]) [2, 4, 10, 11, 12] [0, 1, 2, 3, 4] 5 ⟨by omega, trivial⟩ hS fun hS => ?_))))
  refine rA [] trivial (fun _ => [x2.length + [((kl.getD x12 (rz [.int .i64, .int .i64, .sl (.sl (.int .u8))])).1)].length ≤ 9223372036854775807, (x2.length + [((kl.getD x12 (rz [.int .i64, .int .i64, .sl (.sl (.int .u8))])).1)].length) * 8 ≤ 140737488355328]) [2, 10, 11, 12] [0, 1, 2, 5] 6 ⟨by simp <;> omega, by simp <;> omega, trivial⟩ hS fun hS => ?_
  refine block_n (then_n (rA [(0, .oi ((x12 + 1 : Nat) : Int))] trivial (fun _ => [iadd .i64 (x12 : Int) 1 = ((x12 + 1 : Nat) : Int)]) [2, 10, 11, 12] [0, 1, 2, 5] 6 ⟨by rw [iadd64 omm omm]; omega, trivial⟩ hS fun hS => ?_))
  refine then_n ?_
  exact next_y hg0 hS (s := (x12, x2)) (x12 + 1, x2 ++ [((kl.getD x12 (rz [.int .i64, .int .i64, .sl (.sl (.int .u8))])).1)]) [(0, 0), (1, 1), (2, 2), (3, 5)] (show kl.length - (x12 + 1) < kl.length - x12 from by omega) ⟨omm, (it_next (F := skept_l1 id fi ok oi ik ii low mx last told kl) (st := skept_l1_s id fi ok oi ik ii low mx last told kl) (fun _ => rfl) hq1 rfl), (by rw [List.length_append, List.length_cons, List.length_nil]; omega), trivial⟩
 ·have hScur := hS
  obtain rfl : kl.length = x12 := by omega
  obtain rfl : skept_l1 id fi ok oi ik ii low mx last told kl kl.length = x2 := Eq.symm (congrArg (fun z => z) hq1)
  have hS := hScur
  clear hScur
  refine wp_exit (then_exit (then_exit (block_exit (then_n (s0 [2] [0, 1, 2, 3] 4 hS fun hS => ?_)))))
  refine wp_ret ?_
  have hM : skept_m id fi ok oi ik ii low mx last told kl = skept_l1 id fi ok oi ik ii low mx last told kl kl.length := skept_e id fi ok oi ik ii low mx last told kl
  exact fin_y rfl (.inr rfl) hS [.sk 3] [(0, some (.ob 80 (chain [lb id, .v (.bool fi), .v (.bool false), .cp 1 0, .cp 2 0, .v (.pointer none), vi (low : Int), .ls false [.sl (.int .u8)] mx, vi (last : Int), vi (told : Int), .ls false [.int .i64, .int .i64, .sl (.sl (.int .u8))] kl]))), (1, some (.ob 122 (chain [lb ok, vi (oi : Int)]))), (2, some (.ob 122 (chain [lb ik, vi (ii : Int)]))), (3, some (.sl 3 [.int .i64] (skept_l1 id fi ok oi ik ii low mx last told kl kl.length)))] rfl (by show H1Ok _ [(0, .ob 80 (chain [lb id, .v (.bool fi), .v (.bool false), .cp 1 0, .cp 2 0, .v (.pointer none), vi (low : Int), .ls false [.sl (.int .u8)] mx, vi (last : Int), vi (told : Int), .ls false [.int .i64, .int .i64, .sl (.sl (.int .u8))] kl])), (1, .ob 122 (chain [lb ok, vi (oi : Int)])), (2, .ob 122 (chain [lb ik, vi (ii : Int)])), (3, .sl 3 [.int .i64] (skept_m id fi ok oi ik ii low mx last told kl))] true; rw [hM]; first | (simp only []; exact ⟨rfl, rfl, rfl, rfl, trivial⟩) | exact ⟨rfl, rfl, rfl, rfl, trivial⟩)

def agree_v (id ok : List Int) (oi : Nat) (ik : List Int) (ii low : Nat) (mx : List (List Int)) (last told : Nat) (kl : List KR) (idb okb : List Int) (oib : Nat) (ikb : List Int) (iib lowb : Nat) (mxb : List (List Int)) (lastb toldb : Nat) (klb : List KR) : Bool := if id = idb then (if ((min (low + mx.length - 1) (lowb + mxb.length - 1) : Nat) : Int) < (low : Int) then true else (if ((min (low + mx.length - 1) (lowb + mxb.length - 1) : Nat) : Int) < (lowb : Int) then true else decide ((mx.getD ((min (low + mx.length - 1) (lowb + mxb.length - 1)) - low) (rz [.sl (.int .u8)])) = (mxb.getD ((min (low + mx.length - 1) (lowb + mxb.length - 1)) - lowb) (rz [.sl (.int .u8)]))))) else false
def agree_m (id ok : List Int) (oi : Nat) (ik : List Int) (ii low : Nat) (mx : List (List Int)) (last told : Nat) (kl : List KR) (idb okb : List Int) (oib : Nat) (ikb : List Int) (iib lowb : Nat) (mxb : List (List Int)) (lastb toldb : Nat) (klb : List KR) : Bool := shut (agree_v id ok oi ik ii low mx last told kl idb okb oib ikb iib lowb mxb lastb toldb klb)
theorem agree_e (id ok : List Int) (oi : Nat) (ik : List Int) (ii low : Nat) (mx : List (List Int)) (last told : Nat) (kl : List KR) (idb okb : List Int) (oib : Nat) (ikb : List Int) (iib lowb : Nat) (mxb : List (List Int)) (lastb toldb : Nat) (klb : List KR) : agree_m id ok oi ik ii low mx last told kl idb okb oib ikb iib lowb mxb lastb toldb klb = agree_v id ok oi ik ii low mx last told kl idb okb oib ikb iib lowb mxb lastb toldb klb := shut_eq _
def c_agree (id ok : List Int) (oi : Nat) (ik : List Int) (ii low : Nat) (mx : List (List Int)) (last told : Nat) (kl : List KR) (idb okb : List Int) (oib : Nat) (ikb : List Int) (iib lowb : Nat) (mxb : List (List Int)) (lastb toldb : Nat) (klb : List KR) : Con := ⟨[.cp 0 0, .cp 3 0], [(0, .ob 80 (chain [lb id, .v (.bool true), .v (.bool false), .cp 1 0, .cp 2 0, .v (.pointer none), vi (low : Int), .ls false [.sl (.int .u8)] mx, vi (last : Int), vi (told : Int), .ls false [.int .i64, .int .i64, .sl (.sl (.int .u8))] kl])), (1, .ob 122 (chain [lb ok, vi (oi : Int)])), (2, .ob 122 (chain [lb ik, vi (ii : Int)])), (3, .ob 80 (chain [lb idb, .v (.bool false), .v (.bool false), .cp 4 0, .cp 5 0, .v (.pointer none), vi (lowb : Int), .ls false [.sl (.int .u8)] mxb, vi (lastb : Int), vi (toldb : Int), .ls false [.int .i64, .int .i64, .sl (.sl (.int .u8))] klb])), (4, .ob 122 (chain [lb okb, vi (oib : Int)])), (5, .ob 122 (chain [lb ikb, vi (iib : Int)]))], .v (.bool (agree_m id ok oi ik ii low mx last told kl idb okb oib ikb iib lowb mxb lastb toldb klb)), [(0, .ob 80 (chain [lb id, .v (.bool true), .v (.bool false), .cp 1 0, .cp 2 0, .v (.pointer none), vi (low : Int), .ls false [.sl (.int .u8)] mx, vi (last : Int), vi (told : Int), .ls false [.int .i64, .int .i64, .sl (.sl (.int .u8))] kl])), (1, .ob 122 (chain [lb ok, vi (oi : Int)])), (2, .ob 122 (chain [lb ik, vi (ii : Int)])), (3, .ob 80 (chain [lb idb, .v (.bool false), .v (.bool false), .cp 4 0, .cp 5 0, .v (.pointer none), vi (lowb : Int), .ls false [.sl (.int .u8)] mxb, vi (lastb : Int), vi (toldb : Int), .ls false [.int .i64, .int .i64, .sl (.sl (.int .u8))] klb])), (4, .ob 122 (chain [lb okb, vi (oib : Int)])), (5, .ob 122 (chain [lb ikb, vi (iib : Int)]))]⟩
theorem agree_ok (id ok : List Int) (oi : Nat) (ik : List Int) (ii low : Nat) (mx : List (List Int)) (last told : Nat) (kl : List KR) (idb okb : List Int) (oib : Nat) (ikb : List Int) (iib lowb : Nat) (mxb : List (List Int)) (lastb toldb : Nat) (klb : List KR) (hm1 : 1 ≤ mx.length ∧ mx.length ≤ 100000) (hlow : low ≤ 100000000000) (hm1b : 1 ≤ mxb.length ∧ mxb.length ≤ 100000) (hlowb : lowb ≤ 100000000000) : ConOk Tryz.prog 17 (c_agree id ok oi ik ii low mx last told kl idb okb oib ikb iib lowb mxb lastb toldb klb) := by
 refine conOk_of rfl (nb := 6) Tryz.func17 rfl rfl Tryz.ntmps17 rfl rfl rfl fun g0 w0 ac gs ws hg0 hS => ?_
 have hS := hS.sp
 refine s0 [0, 1, 4] [0, 1, 2, 3, 4, 5] 6 hS fun hS => ?_
 refine wp_seq (sC [(1, ⟨36, (c_snoner), [], []⟩, [0, 1]), (4, ⟨36, (c_snoner), [], []⟩, [3, 4])] ⟨snoner_ok, snoner_ok, trivial⟩ [] [(37, .call ⟨37, (c_equal id idb), [], []⟩)] ⟨equal_ok _ _, trivial⟩ (fun C => [([.im (chain [.top, .top, .top, .im (chain []) 0, .top, .top, .top, .top, .top, .top, .top]) 0] : List D) = [.im (chain [.top, .top, .top, .im (chain []) 0, .top, .top, .top, .top, .top, .top, .top]) 0], ([.im (chain [.top, .top, .top, .im (chain []) 0, .top, .top, .top, .top, .top, .top, .top]) 0] : List D) = [.im (chain [.top, .top, .top, .im (chain []) 0, .top, .top, .top, .top, .top, .top, .top]) 0], ndC C 37]) [0, 1, 4, 45] [0, 1, 2, 3, 4, 5] 6 ⟨rfl, rfl, rfl, trivial⟩ hS fun hS => ?_)
 refine if_n (id = idb) hS (fun h1 => ?_) (fun h1 => ?_)
 ·refine s0 [0, 1, 4] [0, 1, 2, 3, 4, 5] 6 hS fun hS => ?_
  refine wp_ret (then_ret ?_)
  have hM : agree_m id ok oi ik ii low mx last told kl idb okb oib ikb iib lowb mxb lastb toldb klb = false := (agree_e id ok oi ik ii low mx last told kl idb okb oib ikb iib lowb mxb lastb toldb klb).trans (if_neg h1)
  exact fin_y rfl (.inr rfl) hS [.v (.bool false)] [(0, some (.ob 80 (chain [lb id, .v (.bool true), .v (.bool false), .cp 1 0, .cp 2 0, .v (.pointer none), vi (low : Int), .ls false [.sl (.int .u8)] mx, vi (last : Int), vi (told : Int), .ls false [.int .i64, .int .i64, .sl (.sl (.int .u8))] kl]))), (1, some (.ob 122 (chain [lb ok, vi (oi : Int)]))), (2, some (.ob 122 (chain [lb ik, vi (ii : Int)]))), (3, some (.ob 80 (chain [lb idb, .v (.bool false), .v (.bool false), .cp 4 0, .cp 5 0, .v (.pointer none), vi (lowb : Int), .ls false [.sl (.int .u8)] mxb, vi (lastb : Int), vi (toldb : Int), .ls false [.int .i64, .int .i64, .sl (.sl (.int .u8))] klb]))), (4, some (.ob 122 (chain [lb okb, vi (oib : Int)]))), (5, some (.ob 122 (chain [lb ikb, vi (iib : Int)])))] (by show weak _ (.v (.bool (agree_m id ok oi ik ii low mx last told kl idb okb oib ikb iib lowb mxb lastb toldb klb))) = (.v (.bool (agree_m id ok oi ik ii low mx last told kl idb okb oib ikb iib lowb mxb lastb toldb klb))); rw [hM]; first | (simp only []; rfl) | (simp only []; done) | rfl) ⟨rfl, rfl, rfl, rfl, rfl, rfl, trivial⟩
 ·refine wp_skip (then_n (sC [(1, ⟨18, (c_epochr low mx), [], []⟩, [0, 1]), (3, ⟨18, (c_epochr lowb mxb), [], []⟩, [3, 4])] ⟨epochr_ok _ _ lmm omm, epochr_ok _ _ lmm omm, trivial⟩ [] [(4, .oi ((min (low + mx.length - 1) (lowb + mxb.length - 1) : Nat) : Int))] trivial (fun _ => [([.im (chain [.top, .top, .top, .im (chain []) 0, .top, .top, vi (low : Int), .ls false [.sl (.int .u8)] mx, .top, .top, .top]) 0] : List D) = [.im (chain [.top, .top, .top, .im (chain []) 0, .top, .top, vi (low : Int), .ls false [.sl (.int .u8)] mx, .top, .top, .top]) 0], ([.im (chain [.top, .top, .top, .im (chain []) 0, .top, .top, vi (lowb : Int), .ls false [.sl (.int .u8)] mxb, .top, .top, .top]) 0] : List D) = [.im (chain [.top, .top, .top, .im (chain []) 0, .top, .top, vi (lowb : Int), .ls false [.sl (.int .u8)] mxb, .top, .top, .top]) 0], (if ((lowb + mxb.length - 1 : Nat) : Int) < ((low + mx.length - 1 : Nat) : Int) then ((lowb + mxb.length - 1 : Nat) : Int) else ((low + mx.length - 1 : Nat) : Int)) = ((min (low + mx.length - 1) (lowb + mxb.length - 1) : Nat) : Int)]) [0, 1, 4, 5] [0, 1, 2, 3, 4, 5] 6 ⟨rfl, rfl, by split <;> omega, trivial⟩ hS fun hS => ?_))
  refine wp_seq ?_
  by_cases h2 : ((min (low + mx.length - 1) (lowb + mxb.length - 1) : Nat) : Int) < (low : Int)
  ·refine rA [(5, .ob true)] trivial (fun _ => [(decide (((min (low + mx.length - 1) (lowb + mxb.length - 1) : Nat) : Int) < (low : Int))) = true]) [4] [0, 1, 2, 3, 4, 5] 6 ⟨decide_eq_true h2, trivial⟩ hS fun hS => ?_
   refine then_n (wp_ret ?_)
   have hM : agree_m id ok oi ik ii low mx last told kl idb okb oib ikb iib lowb mxb lastb toldb klb = true := (agree_e id ok oi ik ii low mx last told kl idb okb oib ikb iib lowb mxb lastb toldb klb).trans ((if_pos h1).trans (if_pos h2))
   exact fin_y rfl (.inr rfl) hS [.v (.bool true)] [(0, some (.ob 80 (chain [lb id, .v (.bool true), .v (.bool false), .cp 1 0, .cp 2 0, .v (.pointer none), vi (low : Int), .ls false [.sl (.int .u8)] mx, vi (last : Int), vi (told : Int), .ls false [.int .i64, .int .i64, .sl (.sl (.int .u8))] kl]))), (1, some (.ob 122 (chain [lb ok, vi (oi : Int)]))), (2, some (.ob 122 (chain [lb ik, vi (ii : Int)]))), (3, some (.ob 80 (chain [lb idb, .v (.bool false), .v (.bool false), .cp 4 0, .cp 5 0, .v (.pointer none), vi (lowb : Int), .ls false [.sl (.int .u8)] mxb, vi (lastb : Int), vi (toldb : Int), .ls false [.int .i64, .int .i64, .sl (.sl (.int .u8))] klb]))), (4, some (.ob 122 (chain [lb okb, vi (oib : Int)]))), (5, some (.ob 122 (chain [lb ikb, vi (iib : Int)])))] (by show weak _ (.v (.bool (agree_m id ok oi ik ii low mx last told kl idb okb oib ikb iib lowb mxb lastb toldb klb))) = (.v (.bool (agree_m id ok oi ik ii low mx last told kl idb okb oib ikb iib lowb mxb lastb toldb klb))); rw [hM]; first | (simp only []; rfl) | (simp only []; done) | rfl) ⟨rfl, rfl, rfl, rfl, rfl, rfl, trivial⟩
  ·by_cases h3 : ((min (low + mx.length - 1) (lowb + mxb.length - 1) : Nat) : Int) < (lowb : Int)
   ·refine rA [(5, .ob false), (12, .ob true)] trivial (fun _ => [(decide (((min (low + mx.length - 1) (lowb + mxb.length - 1) : Nat) : Int) < (low : Int))) = false, (decide (((min (low + mx.length - 1) (lowb + mxb.length - 1) : Nat) : Int) < (lowb : Int))) = true]) [4] [0, 1, 2, 3, 4, 5] 6 ⟨decide_eq_false h2, decide_eq_true h3, trivial⟩ hS fun hS => ?_
    refine then_n (wp_ret ?_)
    have hM : agree_m id ok oi ik ii low mx last told kl idb okb oib ikb iib lowb mxb lastb toldb klb = true := (agree_e id ok oi ik ii low mx last told kl idb okb oib ikb iib lowb mxb lastb toldb klb).trans ((if_pos h1).trans ((if_neg h2).trans (if_pos h3)))
    exact fin_y rfl (.inr rfl) hS [.v (.bool true)] [(0, some (.ob 80 (chain [lb id, .v (.bool true), .v (.bool false), .cp 1 0, .cp 2 0, .v (.pointer none), vi (low : Int), .ls false [.sl (.int .u8)] mx, vi (last : Int), vi (told : Int), .ls false [.int .i64, .int .i64, .sl (.sl (.int .u8))] kl]))), (1, some (.ob 122 (chain [lb ok, vi (oi : Int)]))), (2, some (.ob 122 (chain [lb ik, vi (ii : Int)]))), (3, some (.ob 80 (chain [lb idb, .v (.bool false), .v (.bool false), .cp 4 0, .cp 5 0, .v (.pointer none), vi (lowb : Int), .ls false [.sl (.int .u8)] mxb, vi (lastb : Int), vi (toldb : Int), .ls false [.int .i64, .int .i64, .sl (.sl (.int .u8))] klb]))), (4, some (.ob 122 (chain [lb okb, vi (oib : Int)]))), (5, some (.ob 122 (chain [lb ikb, vi (iib : Int)])))] (by show weak _ (.v (.bool (agree_m id ok oi ik ii low mx last told kl idb okb oib ikb iib lowb mxb lastb toldb klb))) = (.v (.bool (agree_m id ok oi ik ii low mx last told kl idb okb oib ikb iib lowb mxb lastb toldb klb))); rw [hM]; first | (simp only []; rfl) | (simp only []; done) | rfl) ⟨rfl, rfl, rfl, rfl, rfl, rfl, trivial⟩
   ·refine rA [(5, .ob false), (12, .ob false), (24, .oi (((min (low + mx.length - 1) (lowb + mxb.length - 1)) - low : Nat) : Int)), (36, .oi (((min (low + mx.length - 1) (lowb + mxb.length - 1)) - lowb : Nat) : Int)), (39, .call ⟨37, (c_equal (mx.getD ((min (low + mx.length - 1) (lowb + mxb.length - 1)) - low) (rz [.sl (.int .u8)])) (mxb.getD ((min (low + mx.length - 1) (lowb + mxb.length - 1)) - lowb) (rz [.sl (.int .u8)]))), [], []⟩)] ⟨equal_ok _ _, trivial⟩ (fun C => [(decide (((min (low + mx.length - 1) (lowb + mxb.length - 1) : Nat) : Int) < (low : Int))) = false, (decide (((min (low + mx.length - 1) (lowb + mxb.length - 1) : Nat) : Int) < (lowb : Int))) = false, isub .i64 ((min (low + mx.length - 1) (lowb + mxb.length - 1) : Nat) : Int) (low : Int) = (((min (low + mx.length - 1) (lowb + mxb.length - 1)) - low : Nat) : Int), (0 : Int) ≤ (((min (low + mx.length - 1) (lowb + mxb.length - 1)) - low : Nat) : Int) ∧ (((min (low + mx.length - 1) (lowb + mxb.length - 1)) - low : Nat) : Int) < ((mx.length : Nat) : Int), isub .i64 ((min (low + mx.length - 1) (lowb + mxb.length - 1) : Nat) : Int) (lowb : Int) = (((min (low + mx.length - 1) (lowb + mxb.length - 1)) - lowb : Nat) : Int), (0 : Int) ≤ (((min (low + mx.length - 1) (lowb + mxb.length - 1)) - lowb : Nat) : Int) ∧ (((min (low + mx.length - 1) (lowb + mxb.length - 1)) - lowb : Nat) : Int) < ((mxb.length : Nat) : Int), ndC C 39]) [4] [0, 1, 2, 3, 4, 5] 6 ⟨decide_eq_false h2, decide_eq_false h3, by rw [isub64 omm omm]; omega, by omega, by rw [isub64 omm omm]; omega, by omega, rfl, trivial⟩ hS fun hS => ?_
    refine then_n (wp_ret ?_)
    have hM : agree_m id ok oi ik ii low mx last told kl idb okb oib ikb iib lowb mxb lastb toldb klb = decide ((mx.getD ((min (low + mx.length - 1) (lowb + mxb.length - 1)) - low) (rz [.sl (.int .u8)])) = (mxb.getD ((min (low + mx.length - 1) (lowb + mxb.length - 1)) - lowb) (rz [.sl (.int .u8)]))) := (agree_e id ok oi ik ii low mx last told kl idb okb oib ikb iib lowb mxb lastb toldb klb).trans ((if_pos h1).trans ((if_neg h2).trans (if_neg h3)))
    exact fin_y rfl (.inr rfl) hS [.v (.bool (decide ((mx.getD ((min (low + mx.length - 1) (lowb + mxb.length - 1)) - low) (rz [.sl (.int .u8)])) = (mxb.getD ((min (low + mx.length - 1) (lowb + mxb.length - 1)) - lowb) (rz [.sl (.int .u8)])))))] [(0, some (.ob 80 (chain [lb id, .v (.bool true), .v (.bool false), .cp 1 0, .cp 2 0, .v (.pointer none), vi (low : Int), .ls false [.sl (.int .u8)] mx, vi (last : Int), vi (told : Int), .ls false [.int .i64, .int .i64, .sl (.sl (.int .u8))] kl]))), (1, some (.ob 122 (chain [lb ok, vi (oi : Int)]))), (2, some (.ob 122 (chain [lb ik, vi (ii : Int)]))), (3, some (.ob 80 (chain [lb idb, .v (.bool false), .v (.bool false), .cp 4 0, .cp 5 0, .v (.pointer none), vi (lowb : Int), .ls false [.sl (.int .u8)] mxb, vi (lastb : Int), vi (toldb : Int), .ls false [.int .i64, .int .i64, .sl (.sl (.int .u8))] klb]))), (4, some (.ob 122 (chain [lb okb, vi (oib : Int)]))), (5, some (.ob 122 (chain [lb ikb, vi (iib : Int)])))] (by show weak _ (.v (.bool (agree_m id ok oi ik ii low mx last told kl idb okb oib ikb iib lowb mxb lastb toldb klb))) = (.v (.bool (agree_m id ok oi ik ii low mx last told kl idb okb oib ikb iib lowb mxb lastb toldb klb))); rw [hM]; first | (simp only []; rfl) | (simp only []; done) | rfl) ⟨rfl, rfl, rfl, rfl, rfl, rfl, trivial⟩

end
end Go.Sx.Tryz
namespace Go.Sx.Tryz
open Go.Mi Go.RowKit Go.Sx Go.Proofs
noncomputable section
theorem getD_mem {α : Type} {l : List α} {j : Nat} {z : α} (h : j < l.length) : l.getD j z ∈ l := by
 rw [List.getD_eq_getElem?_getD, List.getElem?_eq_getElem h]; exact List.getElem_mem h
theorem fm_cons {α : Type} {p : α → Prop} {a : α} {l : List α} (h1 : p a) (h2 : ∀ x ∈ l, p x) : ∀ x ∈ a :: l, p x := List.forall_mem_cons.2 ⟨h1, h2⟩
theorem fm_nil : ∀ x ∈ ([] : List (List Int)), x.length ≤ 1000 := fun _ h => nomatch h
theorem fm_getD {l : List (List Int)} (h : ∀ x ∈ l, x.length ≤ 1000) (j : Nat) : (l.getD j (rz [.sl (.int .u8)])).length ≤ 1000 := by
 show (List.getD (α := List Int) l j []).length ≤ 1000
 by_cases hj : j < l.length
 ·exact h _ (getD_mem hj)
 ·rw [List.getD_eq_getElem?_getD, List.getElem?_eq_none omm]; decide
def rrot_v (x : Int) (n : Nat) : Int := (ior .u32 (ishr .u32 x (n : Int)) (ishl .u32 x (32 - (n : Int))))
def rrot_m (x : Int) (n : Nat) : Int := shut (rrot_v x n)
theorem rrot_e (x : Int) (n : Nat) : rrot_m x n = rrot_v x n := shut_eq _
def c_rrot (x : Int) (n : Nat) : Con := ⟨[.v (.int .u32 x), vi (n : Int)], [], .v (.int .u32 (rrot_m x n)), []⟩
theorem rrot_ok (x : Int) (n : Nat) (hn : n ≤ 32) : ConOk Tryz.prog 138 (c_rrot x n) := by
 refine conOk_of rfl (nb := 0) Tryz.func138 rfl rfl Tryz.ntmps138 rfl rfl rfl fun g0 w0 ac gs ws hg0 hS => ?_
 have hS := hS.sp
 refine s0 [0, 1, 4] [] 0 hS fun hS => ?_
 refine sA [(5, .oi (32 - (n : Int)))] trivial (fun _ => [(0 : Int) ≤ (n : Int), isub .i64 32 (n : Int) = (32 - (n : Int)), (0 : Int) ≤ (32 - (n : Int))]) [4] [] 0 ⟨by omega, isub64 omm omm, by omega, trivial⟩ hS fun hS => ?_
 refine wp_ret ?_
 have hM : rrot_m x n = (ior .u32 (ishr .u32 x (n : Int)) (ishl .u32 x (32 - (n : Int)))) := rrot_e x n
 exact fin_y rfl (.inr rfl) hS [.v (.int .u32 (ior .u32 (ishr .u32 x (n : Int)) (ishl .u32 x (32 - (n : Int)))))] [] (by show weak _ (.v (.int .u32 (rrot_m x n))) = (.v (.int .u32 (rrot_m x n))); rw [hM]; first | (simp only []; rfl) | (simp only []; done) | rfl) trivial

def rbig_l1_s (v : Int) (n x6 : Nat) : (List Int) → (List Int) := fun x5 => x5.set (Int.toNat (((n : Int) - 1) - (x6 : Int))) (IntKind.wrap .u8 (ishr .u64 v ((8 * x6 : Nat) : Int)))
def rbig_l1 (v : Int) (n : Nat) : Nat → (List Int)
 | 0 => List.replicate n (0 : Int)
 | x6 + 1 => rbig_l1_s v n x6 (rbig_l1 v n x6)
def rbig_v (v : Int) (n : Nat) : (List Int) := rbig_l1 v n n
def rbig_m (v : Int) (n : Nat) : (List Int) := shut (rbig_v v n)
theorem rbig_e (v : Int) (n : Nat) : rbig_m v n = rbig_v v n := shut_eq _
def c_rbig (v : Int) (n : Nat) : Con := ⟨[.v (.int .u64 v), vi (n : Int)], [], .sk 0, [(0, .sl 5 [.int .u8] (rbig_m v n))]⟩
theorem rbig_ok (v : Int) (n : Nat) (hn : n ≤ 1000) : ConOk Tryz.prog 34 (c_rbig v n) := by
 refine conOk_of rfl (nb := 0) Tryz.func34 rfl rfl Tryz.ntmps34 rfl rfl rfl fun g0 w0 ac gs ws hg0 hS => ?_
 have hS := hS.sp
 refine s0 [0, 1, 4] [] 0 hS fun hS => ?_
 refine sA [] trivial (fun _ => [((n : Int) : Int) = (n : Int), (0 : Int) ≤ (n : Int), 1 * n ≤ 281474976710656, ((n : Int) : Int) ≤ 9223372036854775807]) [0, 1, 4, 5] [0] 1 ⟨rfl, by omega, by omega, by omega, trivial⟩ hS fun hS => ?_
 refine wp_seq (s0 [0, 1, 4, 5, 6] [0] 1 hS fun hS => ?_)
 refine wp_block (loop_y (ι := Nat × (List Int)) hg0 hS (fun z_ => match z_ with | (x6, x5) => n - x6) (fun z_ => match z_ with | (x6, x5) => [(0, .v (.int .u64 v)), (1, vi (n : Int)), (4, .v (.slice none 0 0)), (5, .sk 0), (6, vi ((x6 : Nat) : Int))]) (fun z_ => match z_ with | (x6, x5) => [(0, .sl 5 [.int .u8] x5)]) (fun z_ => match z_ with | (x6, x5) => (x6 ≤ n) ∧ (x5 = rbig_l1 v n x6) ∧ (x5.length = n) ∧ True) 1 (0, List.replicate n (0 : Int)) [(0, 0)] ⟨omm, rfl, (by simp), trivial⟩ ?_)
 rintro ⟨x6, x5⟩ ac gs ws ⟨hx6, hq1, p1, _⟩ hS
 refine wp_seq (s0 [0, 1, 4, 5, 6, 11] [0] 1 hS fun hS => ?_)
 refine if_d ((x6 : Int) < (n : Int)) hS (fun h1 => ?_) (fun h1 => ?_)
 ·refine wp_skip (then_n (wp_seq (wp_block (rA [(2, .oi ((n : Int) - 1)), (4, .oi (((n : Int) - 1) - (x6 : Int))), (7, .oi ((8 * x6 : Nat) : Int))] trivial (fun _ => [isub .i64 (n : Int) 1 = ((n : Int) - 1), isub .i64 ((n : Int) - 1) (x6 : Int) = (((n : Int) - 1) - (x6 : Int)), imul .i64 8 (x6 : Int) = ((8 * x6 : Nat) : Int), (0 : Int) ≤ ((8 * x6 : Nat) : Int), (0 : Int) ≤ (((n : Int) - 1) - (x6 : Int)) ∧ (((n : Int) - 1) - (x6 : Int)) < ((x5.length : Nat) : Int)]) [0, 1, 4, 5, 6] [0] 1 ⟨isub64 omm omm, isub64 omm omm, by rw [imul64 omm omm]; omega, by omega, by omega, trivial⟩ hS fun hS => ?_))))
  refine block_n (then_n (rA [(1, .oi ((x6 + 1 : Nat) : Int))] trivial (fun _ => [iadd .i64 (x6 : Int) 1 = ((x6 + 1 : Nat) : Int)]) [0, 1, 4, 5, 6] [0] 1 ⟨by rw [iadd64 omm omm]; omega, trivial⟩ hS fun hS => ?_))
  refine then_n ?_
  exact next_y hg0 hS (s := (x6, x5)) (x6 + 1, x5.set (Int.toNat (((n : Int) - 1) - (x6 : Int))) (IntKind.wrap .u8 (ishr .u64 v ((8 * x6 : Nat) : Int)))) [(0, 0)] (show n - (x6 + 1) < n - x6 from by omega) ⟨omm, (it_next (F := rbig_l1 v n) (st := rbig_l1_s v n) (fun _ => rfl) hq1 rfl), (by rw [List.length_set]; exact p1), trivial⟩
 ·have hScur := hS
  obtain rfl : n = x6 := by omega
  obtain rfl : rbig_l1 v n n = x5 := Eq.symm (congrArg (fun z => z) hq1)
  have hS := hScur
  clear hScur
  refine wp_exit (then_exit (then_exit (block_exit (then_n (s0 [4] [0] 1 hS fun hS => ?_)))))
  refine wp_ret ?_
  have hM : rbig_m v n = rbig_l1 v n n := rbig_e v n
  exact fin_y rfl (.inr rfl) hS [.sk 0] [(0, some (.sl 5 [.int .u8] (rbig_l1 v n n)))] rfl (by show H1Ok _ [(0, .sl 5 [.int .u8] (rbig_m v n))] true; rw [hM]; first | (simp only []; exact ⟨rfl, trivial⟩) | exact ⟨rfl, trivial⟩)

def rgetbig_l1_s (xs : List Int) (n x6 : Nat) : Int → Int := fun x5 => if (x6 : Int) < ((xs.length : Nat) : Int) then (ior .u64 (ishl .u64 x5 8) (IntKind.wrap .u64 (xs.getD x6 0))) else (ishl .u64 x5 8)
def rgetbig_l1 (xs : List Int) (n : Nat) : Nat → Int
 | 0 => 0
 | x6 + 1 => rgetbig_l1_s xs n x6 (rgetbig_l1 xs n x6)
def rgetbig_v (xs : List Int) (n : Nat) : Int := (rgetbig_l1 xs n n)
def rgetbig_m (xs : List Int) (n : Nat) : Int := shut (rgetbig_v xs n)
theorem rgetbig_e (xs : List Int) (n : Nat) : rgetbig_m xs n = rgetbig_v xs n := shut_eq _
def c_rgetbig (xs : List Int) (n : Nat) : Con := ⟨[lb xs, vi (n : Int)], [], .v (.int .u64 (rgetbig_m xs n)), []⟩
theorem rgetbig_ok (xs : List Int) (n : Nat) (hn : n ≤ 1000) : ConOk Tryz.prog 137 (c_rgetbig xs n) := by
 refine conOk_of rfl (nb := 0) Tryz.func137 rfl rfl Tryz.ntmps137 rfl rfl rfl fun g0 w0 ac gs ws hg0 hS => ?_
 have hlen0 : xs.length ≤ 9223372036854775807 := hS.len 0 rfl
 have hS := hS.sp
 refine s0 [0, 1, 4] [] 0 hS fun hS => ?_
 refine s0 [0, 1, 4, 5] [] 0 hS fun hS => ?_
 refine wp_seq (s0 [0, 1, 4, 5, 6] [] 0 hS fun hS => ?_)
 refine wp_block (loop_y (ι := Nat × Int) hg0 hS (fun z_ => match z_ with | (x6, x5) => n - x6) (fun z_ => match z_ with | (x6, x5) => [(0, lb xs), (1, vi (n : Int)), (4, .v (.int .u64 0)), (5, .v (.int .u64 x5)), (6, vi ((x6 : Nat) : Int))]) (fun z_ => match z_ with | (x6, x5) => []) (fun z_ => match z_ with | (x6, x5) => (x6 ≤ n) ∧ (x5 = rgetbig_l1 xs n x6) ∧ True) 0 (0, 0) [] ⟨omm, rfl, trivial⟩ ?_)
 rintro ⟨x6, x5⟩ ac gs ws ⟨hx6, hq1, _⟩ hS
 refine wp_seq (s0 [0, 1, 4, 5, 6, 9] [] 0 hS fun hS => ?_)
 refine if_d ((x6 : Int) < (n : Int)) hS (fun h1 => ?_) (fun h1 => ?_)
 ·refine wp_skip (then_n (wp_seq (wp_block (sA [] trivial (fun _ => [(0 : Int) ≤ 8]) [0, 1, 4, 5, 6] [] 0 ⟨by omega, trivial⟩ hS fun hS => ?_))))
  refine s0 [0, 1, 4, 5, 6, 17] [] 0 hS fun hS => ?_
  refine if_d ((x6 : Int) < ((xs.length : Nat) : Int)) hS (fun h2 => ?_) (fun h2 => ?_)
  ·refine rA [] trivial (fun _ => [(0 : Int) ≤ (x6 : Int) ∧ (x6 : Int) < ((xs.length : Nat) : Int)]) [0, 1, 4, 5, 6] [] 0 ⟨by omega, trivial⟩ hS fun hS => ?_
   refine block_n (then_n (rA [(1, .oi ((x6 + 1 : Nat) : Int))] trivial (fun _ => [iadd .i64 (x6 : Int) 1 = ((x6 + 1 : Nat) : Int)]) [0, 1, 4, 5, 6] [] 0 ⟨by rw [iadd64 omm omm]; omega, trivial⟩ hS fun hS => ?_))
   refine then_n ?_
   exact next_y hg0 hS (s := (x6, x5)) (x6 + 1, (ior .u64 (ishl .u64 x5 8) (IntKind.wrap .u64 (xs.getD x6 0)))) [] (show n - (x6 + 1) < n - x6 from by omega) ⟨omm, (it_next (F := rgetbig_l1 xs n) (st := rgetbig_l1_s xs n) (fun _ => rfl) hq1 (Eq.symm (if_pos h2))), trivial⟩
  ·refine wp_skip (block_n (then_n (rA [(1, .oi ((x6 + 1 : Nat) : Int))] trivial (fun _ => [iadd .i64 (x6 : Int) 1 = ((x6 + 1 : Nat) : Int)]) [0, 1, 4, 5, 6] [] 0 ⟨by rw [iadd64 omm omm]; omega, trivial⟩ hS fun hS => ?_)))
   refine then_n ?_
   exact next_y hg0 hS (s := (x6, x5)) (x6 + 1, (ishl .u64 x5 8)) [] (show n - (x6 + 1) < n - x6 from by omega) ⟨omm, (it_next (F := rgetbig_l1 xs n) (st := rgetbig_l1_s xs n) (fun _ => rfl) hq1 (Eq.symm (if_neg h2))), trivial⟩
 ·have hScur := hS
  obtain rfl : n = x6 := by omega
  obtain rfl : rgetbig_l1 xs n n = x5 := Eq.symm (congrArg (fun z => z) hq1)
  have hS := hScur
  clear hScur
  refine wp_exit (then_exit (then_exit (block_exit (then_n (s0 [4] [] 0 hS fun hS => ?_)))))
  refine wp_ret ?_
  have hM : rgetbig_m xs n = (rgetbig_l1 xs n n) := rgetbig_e xs n
  exact fin_y rfl (.inr rfl) hS [.v (.int .u64 (rgetbig_l1 xs n n))] [] (by show weak _ (.v (.int .u64 (rgetbig_m xs n))) = (.v (.int .u64 (rgetbig_m xs n))); rw [hM]; first | (simp only []; rfl) | (simp only []; done) | rfl) trivial

def rfill_v (xs : List Int) (n : Nat) : (List Int) := xs.take (List.replicate n (0 : Int)).length ++ (List.replicate n (0 : Int)).drop xs.length
def rfill_m (xs : List Int) (n : Nat) : (List Int) := shut (rfill_v xs n)
theorem rfill_e (xs : List Int) (n : Nat) : rfill_m xs n = rfill_v xs n := shut_eq _
def c_rfill (xs : List Int) (n : Nat) : Con := ⟨[lb xs, vi (n : Int)], [], .sk 0, [(0, .sl 5 [.int .u8] (rfill_m xs n))]⟩
theorem rfill_ok (xs : List Int) (n : Nat) (hn : n ≤ 1000) : ConOk Tryz.prog 100 (c_rfill xs n) := by
 refine conOk_of rfl (nb := 0) Tryz.func100 rfl rfl Tryz.ntmps100 rfl rfl rfl fun g0 w0 ac gs ws hg0 hS => ?_
 have hlen0 : xs.length ≤ 9223372036854775807 := hS.len 0 rfl
 have hS := hS.sp
 refine s0 [0, 1, 4] [] 0 hS fun hS => ?_
 refine sA [] trivial (fun _ => [((n : Int) : Int) = (n : Int), (0 : Int) ≤ (n : Int), 1 * n ≤ 281474976710656, ((n : Int) : Int) ≤ 9223372036854775807]) [0, 4, 5] [0] 1 ⟨rfl, by omega, by omega, by omega, trivial⟩ hS fun hS => ?_
 refine s0 [4, 5] [0] 1 hS fun hS => ?_
 refine s0 [4] [0] 1 hS fun hS => ?_
 refine wp_ret ?_
 have hM : rfill_m xs n = xs.take (List.replicate n (0 : Int)).length ++ (List.replicate n (0 : Int)).drop xs.length := rfill_e xs n
 exact fin_y rfl (.inr rfl) hS [.sk 0] [(0, some (.sl 5 [.int .u8] (xs.take (List.replicate n (0 : Int)).length ++ (List.replicate n (0 : Int)).drop xs.length)))] rfl (by show H1Ok _ [(0, .sl 5 [.int .u8] (rfill_m xs n))] true; rw [hM]; first | (simp only []; exact ⟨rfl, trivial⟩) | exact ⟨rfl, trivial⟩)

def rcat_l1_s (l : List (List Int)) (x4 : Nat) : (List Int) → (List Int) := fun x3 => x3 ++ (l.getD x4 (rz [.sl (.int .u8)]))
def rcat_l1 (l : List (List Int)) : Nat → (List Int)
 | 0 => []
 | x4 + 1 => rcat_l1_s l x4 (rcat_l1 l x4)
def rcat_v (l : List (List Int)) : (List Int) := rcat_l1 l l.length
def rcat_m (l : List (List Int)) : (List Int) := shut (rcat_v l)
theorem rcat_e (l : List (List Int)) : rcat_m l = rcat_v l := shut_eq _
def c_rcat (l : List (List Int)) : Con := ⟨[.ls false [.sl (.int .u8)] l], [], .sk 0, [(0, .sl 5 [.int .u8] (rcat_m l))]⟩
theorem rcat_ok (l : List (List Int)) (hn : l.length ≤ 1000) (hm : ∀ j, (l.getD j (rz [.sl (.int .u8)])).length ≤ 1000) : ConOk Tryz.prog 98 (c_rcat l) := by
 refine conOk_of rfl (nb := 0) Tryz.func98 rfl rfl Tryz.ntmps98 rfl rfl rfl fun g0 w0 ac gs ws hg0 hS => ?_
 have hlen0 : l.length ≤ 9223372036854775807 := hS.len 0 rfl
 have hS := hS.sp
 refine s0 [0, 2] [] 0 hS fun hS => ?_
 refine s0 [0, 2, 3] [] 0 hS fun hS => ?_
 refine wp_seq (s0 [0, 2, 3, 4] [] 0 hS fun hS => ?_)
 refine wp_block ?_
 obtain ⟨gs, hS⟩ := hS.nilk 3 5 [.int .u8]
 refine loop_y (ι := Nat × (List Int)) hg0 hS (fun z_ => match z_ with | (x4, x3) => l.length - x4) (fun z_ => match z_ with | (x4, x3) => [(0, .ls false [.sl (.int .u8)] l), (2, .v (.slice none 0 0)), (3, .sk 0), (4, vi ((x4 : Nat) : Int))]) (fun z_ => match z_ with | (x4, x3) => [(0, .sl 5 [.int .u8] x3)]) (fun z_ => match z_ with | (x4, x3) => (x4 ≤ l.length) ∧ (x3 = rcat_l1 l x4) ∧ (x3.length ≤ 1000 * x4) ∧ True) 1 (0, []) [(0, 0)] ⟨omm, rfl, (by simp), trivial⟩ ?_
 rintro ⟨x4, x3⟩ ac gs ws ⟨hx4, hq1, p1, _⟩ hS
 refine wp_seq (s0 [0, 2, 3, 4, 8] [0] 1 hS fun hS => ?_)
 refine if_d ((x4 : Int) < ((l.length : Nat) : Int)) hS (fun h1 => ?_) (fun h1 => ?_)
 ·refine wp_skip (then_n (wp_seq (wp_block ?_)))
  have hmx := hm x4
  refine rA [] trivial (fun _ => [(0 : Int) ≤ (x4 : Int) ∧ (x4 : Int) < ((l.length : Nat) : Int), x3.length + (l.getD x4 (rz [.sl (.int .u8)])).length ≤ 9223372036854775807, (x3.length + (l.getD x4 (rz [.sl (.int .u8)])).length) * 1 ≤ 140737488355328]) [0, 2, 3, 4] [1] 2 ⟨by omega, by omega, by omega, trivial⟩ hS fun hS => ?_
  refine block_n (then_n (rA [(1, .oi ((x4 + 1 : Nat) : Int))] trivial (fun _ => [iadd .i64 (x4 : Int) 1 = ((x4 + 1 : Nat) : Int)]) [0, 2, 3, 4] [1] 2 ⟨by rw [iadd64 omm omm]; omega, trivial⟩ hS fun hS => ?_))
  refine then_n ?_
  exact next_y hg0 hS (s := (x4, x3)) (x4 + 1, x3 ++ (l.getD x4 (rz [.sl (.int .u8)]))) [(0, 1)] (show l.length - (x4 + 1) < l.length - x4 from by omega) ⟨omm, (it_next (F := rcat_l1 l) (st := rcat_l1_s l) (fun _ => rfl) hq1 rfl), (by rw [List.length_append]; have := hm x4; omega), trivial⟩
 ·have hScur := hS
  obtain rfl : l.length = x4 := by omega
  obtain rfl : rcat_l1 l l.length = x3 := Eq.symm (congrArg (fun z => z) hq1)
  have hS := hScur
  clear hScur
  refine wp_exit (then_exit (then_exit (block_exit (then_n (s0 [2] [0] 1 hS fun hS => ?_)))))
  refine wp_ret ?_
  have hM : rcat_m l = rcat_l1 l l.length := rcat_e l
  exact fin_y rfl (.inr rfl) hS [.sk 0] [(0, some (.sl 5 [.int .u8] (rcat_l1 l l.length)))] rfl (by show H1Ok _ [(0, .sl 5 [.int .u8] (rcat_m l))] true; rw [hM]; first | (simp only []; exact ⟨rfl, trivial⟩) | exact ⟨rfl, trivial⟩)

theorem rcat_flat (l : List (List Int)) : rcat_m l = l.flatten := by
 have key : ∀ i, i ≤ l.length → rcat_l1 l i = (l.take i).flatten := by
  intro i
  induction i with
  | zero => intro _; rfl
  | succ i ih =>
   intro hi
   show rcat_l1 l i ++ List.getD (α := List Int) l i [] = _
   rw [ih omm, List.take_succ_eq_append_getElem omm, List.flatten_append, List.getD_eq_getElem?_getD, List.getElem?_eq_getElem omm]
   simp
 rw [rcat_e]
 exact (key _ (Nat.le_refl _)).trans (by rw [List.take_length])
@[simp] theorem rcat_len (l : List (List Int)) : (rcat_m l).length = l.flatten.length := by rw [rcat_flat]
def rrounds_v : (Nat → Int) := upd (upd (upd (upd (upd (upd (upd (upd (upd (upd (upd (upd (upd (upd (upd (upd (upd (upd (upd (upd (upd (upd (upd (upd (upd (upd (upd (upd (upd (upd (upd (upd (upd (upd (upd (upd (upd (upd (upd (upd (upd (upd (upd (upd (upd (upd (upd (upd (upd (upd (upd (upd (upd (upd (upd (upd (upd (upd (upd (upd (upd (upd (upd (upd (upd (upd (upd (upd (upd (upd (upd (upd (upd (upd (upd (upd (upd (upd (upd (upd (fun _ => 0) 0 4794697086780616226) 1 8158064640168781261) 2 13096744586834688815) 3 16840607885511220156) 4 4131703408338449720) 5 6480981068601479193) 6 10538285296894168987) 7 12329834152419229976) 8 15566598209576043074) 9 1334009975649890238) 10 2608012711638119052) 11 6128411473006802146) 12 8268148722764581231) 13 9286055187155687089) 14 11230858885718282805) 15 13951009754708518548) 16 16472876342353939154) 17 17275323862435702243) 18 1135362057144423861) 19 2597628984639134821) 20 3308224258029322869) 21 5365058923640841347) 22 6679025012923562964) 23 8573033837759648693) 24 10970295158949994411) 25 12119686244451234320) 26 12683024718118986047) 27 13788192230050041572) 28 14330467153632333762) 29 15395433587784984357) 30 489312712824947311) 31 1452737877330783856) 32 2861767655752347644) 33 3322285676063803686) 34 5560940570517711597) 35 5996557281743188959) 36 7280758554555802590) 37 8532644243296465576) 38 9350256976987008742) 39 10552545826968843579) 40 11727347734174303076) 41 12113106623233404929) 42 14000437183269869457) 43 14369950271660146224) 44 15101387698204529176) 45 15463397548674623760) 46 17586052441742319658) 47 1182934255886127544) 48 1847814050463011016) 49 2177327727835720531) 50 2830643537854262169) 51 3796741975233480872) 52 4115178125766777443) 53 5681478168544905931) 54 6601373596472566643) 55 7507060721942968483) 56 8399075790359081724) 57 8693463985226723168) 58 9568029438360202098) 59 10144078919501101548) 60 10430055236837252648) 61 11840083180663258601) 62 13761210420658862357) 63 14299343276471374635) 64 14566680578165727644) 65 15097957966210449927) 66 16922976911328602910) 67 17689382322260857208) 68 500013540394364858) 69 748580250866718886) 70 1242879168328830382) 71 1977374033974150939) 72 2944078676154940804) 73 3659926193048069267) 74 4368137639120453308) 75 4836135668995329356) 76 5532061633213252278) 77 6448918945643986474) 78 6902733635092675308) 79 7801388544844847127
def rrounds_m : (Nat → Int) := shut (rrounds_v)
theorem rrounds_e : rrounds_m = rrounds_v := shut_eq _
def c_rrounds : Con := ⟨[], [], .ar .u64 80 rrounds_m, []⟩
theorem rrounds_ok : ConOk Tryz.prog 135 (c_rrounds) := by
 refine conOk_of rfl (nb := 0) Tryz.func135 rfl rfl Tryz.ntmps135 rfl rfl rfl fun g0 w0 ac gs ws hg0 hS => ?_
 have hS := hS.sp
 refine s0 [0] [0] 1 hS fun hS => ?_
 refine s0 [0] [0] 1 hS fun hS => ?_
 refine wp_ret ?_
 have hM : rrounds_m = upd (upd (upd (upd (upd (upd (upd (upd (upd (upd (upd (upd (upd (upd (upd (upd (upd (upd (upd (upd (upd (upd (upd (upd (upd (upd (upd (upd (upd (upd (upd (upd (upd (upd (upd (upd (upd (upd (upd (upd (upd (upd (upd (upd (upd (upd (upd (upd (upd (upd (upd (upd (upd (upd (upd (upd (upd (upd (upd (upd (upd (upd (upd (upd (upd (upd (upd (upd (upd (upd (upd (upd (upd (upd (upd (upd (upd (upd (upd (upd (fun _ => 0) 0 4794697086780616226) 1 8158064640168781261) 2 13096744586834688815) 3 16840607885511220156) 4 4131703408338449720) 5 6480981068601479193) 6 10538285296894168987) 7 12329834152419229976) 8 15566598209576043074) 9 1334009975649890238) 10 2608012711638119052) 11 6128411473006802146) 12 8268148722764581231) 13 9286055187155687089) 14 11230858885718282805) 15 13951009754708518548) 16 16472876342353939154) 17 17275323862435702243) 18 1135362057144423861) 19 2597628984639134821) 20 3308224258029322869) 21 5365058923640841347) 22 6679025012923562964) 23 8573033837759648693) 24 10970295158949994411) 25 12119686244451234320) 26 12683024718118986047) 27 13788192230050041572) 28 14330467153632333762) 29 15395433587784984357) 30 489312712824947311) 31 1452737877330783856) 32 2861767655752347644) 33 3322285676063803686) 34 5560940570517711597) 35 5996557281743188959) 36 7280758554555802590) 37 8532644243296465576) 38 9350256976987008742) 39 10552545826968843579) 40 11727347734174303076) 41 12113106623233404929) 42 14000437183269869457) 43 14369950271660146224) 44 15101387698204529176) 45 15463397548674623760) 46 17586052441742319658) 47 1182934255886127544) 48 1847814050463011016) 49 2177327727835720531) 50 2830643537854262169) 51 3796741975233480872) 52 4115178125766777443) 53 5681478168544905931) 54 6601373596472566643) 55 7507060721942968483) 56 8399075790359081724) 57 8693463985226723168) 58 9568029438360202098) 59 10144078919501101548) 60 10430055236837252648) 61 11840083180663258601) 62 13761210420658862357) 63 14299343276471374635) 64 14566680578165727644) 65 15097957966210449927) 66 16922976911328602910) 67 17689382322260857208) 68 500013540394364858) 69 748580250866718886) 70 1242879168328830382) 71 1977374033974150939) 72 2944078676154940804) 73 3659926193048069267) 74 4368137639120453308) 75 4836135668995329356) 76 5532061633213252278) 77 6448918945643986474) 78 6902733635092675308) 79 7801388544844847127 := rrounds_e
 exact fin_y rfl (.inr rfl) hS [.ar .u64 80 (upd (upd (upd (upd (upd (upd (upd (upd (upd (upd (upd (upd (upd (upd (upd (upd (upd (upd (upd (upd (upd (upd (upd (upd (upd (upd (upd (upd (upd (upd (upd (upd (upd (upd (upd (upd (upd (upd (upd (upd (upd (upd (upd (upd (upd (upd (upd (upd (upd (upd (upd (upd (upd (upd (upd (upd (upd (upd (upd (upd (upd (upd (upd (upd (upd (upd (upd (upd (upd (upd (upd (upd (upd (upd (upd (upd (upd (upd (upd (upd (fun _ => 0) 0 4794697086780616226) 1 8158064640168781261) 2 13096744586834688815) 3 16840607885511220156) 4 4131703408338449720) 5 6480981068601479193) 6 10538285296894168987) 7 12329834152419229976) 8 15566598209576043074) 9 1334009975649890238) 10 2608012711638119052) 11 6128411473006802146) 12 8268148722764581231) 13 9286055187155687089) 14 11230858885718282805) 15 13951009754708518548) 16 16472876342353939154) 17 17275323862435702243) 18 1135362057144423861) 19 2597628984639134821) 20 3308224258029322869) 21 5365058923640841347) 22 6679025012923562964) 23 8573033837759648693) 24 10970295158949994411) 25 12119686244451234320) 26 12683024718118986047) 27 13788192230050041572) 28 14330467153632333762) 29 15395433587784984357) 30 489312712824947311) 31 1452737877330783856) 32 2861767655752347644) 33 3322285676063803686) 34 5560940570517711597) 35 5996557281743188959) 36 7280758554555802590) 37 8532644243296465576) 38 9350256976987008742) 39 10552545826968843579) 40 11727347734174303076) 41 12113106623233404929) 42 14000437183269869457) 43 14369950271660146224) 44 15101387698204529176) 45 15463397548674623760) 46 17586052441742319658) 47 1182934255886127544) 48 1847814050463011016) 49 2177327727835720531) 50 2830643537854262169) 51 3796741975233480872) 52 4115178125766777443) 53 5681478168544905931) 54 6601373596472566643) 55 7507060721942968483) 56 8399075790359081724) 57 8693463985226723168) 58 9568029438360202098) 59 10144078919501101548) 60 10430055236837252648) 61 11840083180663258601) 62 13761210420658862357) 63 14299343276471374635) 64 14566680578165727644) 65 15097957966210449927) 66 16922976911328602910) 67 17689382322260857208) 68 500013540394364858) 69 748580250866718886) 70 1242879168328830382) 71 1977374033974150939) 72 2944078676154940804) 73 3659926193048069267) 74 4368137639120453308) 75 4836135668995329356) 76 5532061633213252278) 77 6448918945643986474) 78 6902733635092675308) 79 7801388544844847127)] [] (by show weak _ (.ar .u64 80 rrounds_m) = (.ar .u64 80 rrounds_m); rw [hM]; first | (simp only []; rfl) | (simp only []; done) | rfl) trivial

def rstart_v : (Nat → Int) := upd (upd (upd (upd (upd (upd (upd (upd (fun _ => 0) 0 7640891576956012808) 1 13503953896175478587) 2 4354685564936845355) 3 11912009170470909681) 4 5840696475078001361) 5 11170449401992604703) 6 2270897969802886507) 7 6620516959819538809
def rstart_m : (Nat → Int) := shut (rstart_v)
theorem rstart_e : rstart_m = rstart_v := shut_eq _
def c_rstart : Con := ⟨[], [], .ar .u64 8 rstart_m, []⟩
theorem rstart_ok : ConOk Tryz.prog 136 (c_rstart) := by
 refine conOk_of rfl (nb := 0) Tryz.func136 rfl rfl Tryz.ntmps136 rfl rfl rfl fun g0 w0 ac gs ws hg0 hS => ?_
 have hS := hS.sp
 refine s0 [0] [0] 1 hS fun hS => ?_
 refine s0 [0] [0] 1 hS fun hS => ?_
 refine wp_ret ?_
 have hM : rstart_m = upd (upd (upd (upd (upd (upd (upd (upd (fun _ => 0) 0 7640891576956012808) 1 13503953896175478587) 2 4354685564936845355) 3 11912009170470909681) 4 5840696475078001361) 5 11170449401992604703) 6 2270897969802886507) 7 6620516959819538809 := rstart_e
 exact fin_y rfl (.inr rfl) hS [.ar .u64 8 (upd (upd (upd (upd (upd (upd (upd (upd (fun _ => 0) 0 7640891576956012808) 1 13503953896175478587) 2 4354685564936845355) 3 11912009170470909681) 4 5840696475078001361) 5 11170449401992604703) 6 2270897969802886507) 7 6620516959819538809)] [] (by show weak _ (.ar .u64 8 rstart_m) = (.ar .u64 8 rstart_m); rw [hM]; first | (simp only []; rfl) | (simp only []; done) | rfl) trivial

end
end Go.Sx.Tryz
namespace Go.Sx.Tryz
open Go.Mi Go.RowKit Go.Sx Go.Proofs
noncomputable section
@[simp] theorem rbig_len (v : Int) (n : Nat) : (rbig_m v n).length = n := by
 have key : ∀ i, (rbig_l1 v n i).length = n := by
  intro i
  induction i with
  | zero => exact List.length_replicate
  | succ i ih => exact (List.length_set ..).trans ih
 rw [rbig_e]
 exact key n
def rsum_l1_s (xs : List Int) (x6 : Nat) : (Nat → Int) → (Nat → Int) := fun o5_0 => upd o5_0 x6 (IntKind.wrap .u32 (ishr .u64 (rstart_m x6) 32))
def rsum_l1 (xs : List Int) : Nat → (Nat → Int)
 | 0 => fun _ => 0
 | x6 + 1 => rsum_l1_s xs x6 (rsum_l1 xs x6)
def rsum_l2_s (xs : List Int) (k2 : Nat) : (List Int) → (List Int) := fun x7 => x7 ++ ([0] : List Int)
def rsum_l2 (xs : List Int) : Nat → (List Int)
 | 0 => ([] ++ xs) ++ ([128] : List Int)
 | k2 + 1 => rsum_l2_s xs k2 (rsum_l2 xs k2)
def rsum_l2_c (xs : List Int) : (List Int) → Prop := fun x7 => ¬ (((x7.length % 64 : Nat) : Int) = 56)
def rsum_l4_s (xs : List Int) (k3 x8 : Nat) (o5_0 : Nat → Int) (x10 : Nat) : (Nat → Int) → (Nat → Int) := fun o9_0 => upd o9_0 x10 (IntKind.wrap .u32 (rgetbig_m ((((rsum_l2 xs (lst fun j => rsum_l2_c xs (rsum_l2 xs j))) ++ (rbig_m (imul .u64 ((xs.length : Nat) : Int) 8) 8)).take ((x8 + (4 * x10)) + 4)).drop (x8 + (4 * x10))) 4))
def rsum_l4 (xs : List Int) (k3 x8 : Nat) (o5_0 : Nat → Int) : Nat → (Nat → Int)
 | 0 => fun _ => 0
 | x10 + 1 => rsum_l4_s xs k3 x8 o5_0 x10 (rsum_l4 xs k3 x8 o5_0 x10)
def rsum_l5_s (xs : List Int) (k3 x8 : Nat) (o5_0 : Nat → Int) (k5 : Nat) : (Nat × (Nat → Int)) → (Nat × (Nat → Int)) := fun z_ => match z_ with | (x11, o9_0) => (x11 + 1, upd o9_0 x11 (iadd .u32 (iadd .u32 (iadd .u32 (o9_0 (x11 - 16)) (ixor .u32 (ixor .u32 (rrot_m (o9_0 (x11 - 15)) 7) (rrot_m (o9_0 (x11 - 15)) 18)) (ishr .u32 (o9_0 (x11 - 15)) 3))) (o9_0 (x11 - 7))) (ixor .u32 (ixor .u32 (rrot_m (o9_0 (x11 - 2)) 17) (rrot_m (o9_0 (x11 - 2)) 19)) (ishr .u32 (o9_0 (x11 - 2)) 10))))
def rsum_l5 (xs : List Int) (k3 x8 : Nat) (o5_0 : Nat → Int) : Nat → Nat × (Nat → Int)
 | 0 => (16, rsum_l4 xs k3 x8 o5_0 16)
 | k5 + 1 => rsum_l5_s xs k3 x8 o5_0 k5 (rsum_l5 xs k3 x8 o5_0 k5)
def rsum_l5_c (xs : List Int) (k3 x8 : Nat) (o5_0 : Nat → Int) : (Nat × (Nat → Int)) → Prop := fun z_ => match z_ with | (x11, o9_0) => ((x11 : Nat) : Int) < 64
def rsum_l6_s (xs : List Int) (k3 x8 : Nat) (o5_0 : Nat → Int) (x15 : Nat) : (Nat → Int) → (Nat → Int) := fun o14_0 => upd (upd (upd (upd (upd (upd (upd (upd (fun _ => 0) 0 (iadd .u32 (iadd .u32 (iadd .u32 (iadd .u32 (iadd .u32 (o14_0 7) (ixor .u32 (ixor .u32 (rrot_m (o14_0 4) 6) (rrot_m (o14_0 4) 11)) (rrot_m (o14_0 4) 25))) (ixor .u32 (iand .u32 (o14_0 4) (o14_0 5)) (iand .u32 (inot .u32 (o14_0 4)) (o14_0 6)))) (IntKind.wrap .u32 (ishr .u64 (rrounds_m x15) 32))) (((rsum_l5 xs k3 x8 o5_0 (lst fun j => rsum_l5_c xs k3 x8 o5_0 (rsum_l5 xs k3 x8 o5_0 j))).2) x15)) (iadd .u32 (ixor .u32 (ixor .u32 (rrot_m (o14_0 0) 2) (rrot_m (o14_0 0) 13)) (rrot_m (o14_0 0) 22)) (ixor .u32 (ixor .u32 (iand .u32 (o14_0 0) (o14_0 1)) (iand .u32 (o14_0 0) (o14_0 2))) (iand .u32 (o14_0 1) (o14_0 2)))))) 1 (o14_0 0)) 2 (o14_0 1)) 3 (o14_0 2)) 4 (iadd .u32 (o14_0 3) (iadd .u32 (iadd .u32 (iadd .u32 (iadd .u32 (o14_0 7) (ixor .u32 (ixor .u32 (rrot_m (o14_0 4) 6) (rrot_m (o14_0 4) 11)) (rrot_m (o14_0 4) 25))) (ixor .u32 (iand .u32 (o14_0 4) (o14_0 5)) (iand .u32 (inot .u32 (o14_0 4)) (o14_0 6)))) (IntKind.wrap .u32 (ishr .u64 (rrounds_m x15) 32))) (((rsum_l5 xs k3 x8 o5_0 (lst fun j => rsum_l5_c xs k3 x8 o5_0 (rsum_l5 xs k3 x8 o5_0 j))).2) x15)))) 5 (o14_0 4)) 6 (o14_0 5)) 7 (o14_0 6)
def rsum_l6 (xs : List Int) (k3 x8 : Nat) (o5_0 : Nat → Int) : Nat → (Nat → Int)
 | 0 => o5_0
 | x15 + 1 => rsum_l6_s xs k3 x8 o5_0 x15 (rsum_l6 xs k3 x8 o5_0 x15)
def rsum_l7_s (xs : List Int) (k3 x8 : Nat) (o5_0 : Nat → Int) (x20 : Nat) : (Nat → Int) → (Nat → Int) := fun o5_0_7 => upd o5_0_7 x20 (iadd .u32 (o5_0_7 x20) ((rsum_l6 xs k3 x8 o5_0 64) x20))
def rsum_l7 (xs : List Int) (k3 x8 : Nat) (o5_0 : Nat → Int) : Nat → (Nat → Int)
 | 0 => o5_0
 | x20 + 1 => rsum_l7_s xs k3 x8 o5_0 x20 (rsum_l7 xs k3 x8 o5_0 x20)
def rsum_l3_s (xs : List Int) (k3 : Nat) : (Nat × (Nat → Int)) → (Nat × (Nat → Int)) := fun z_ => match z_ with | (x8, o5_0) => (x8 + 64, rsum_l7 xs k3 x8 o5_0 8)
def rsum_l3 (xs : List Int) : Nat → Nat × (Nat → Int)
 | 0 => (0, rsum_l1 xs 8)
 | k3 + 1 => rsum_l3_s xs k3 (rsum_l3 xs k3)
def rsum_l3_c (xs : List Int) : (Nat × (Nat → Int)) → Prop := fun z_ => match z_ with | (x8, o5_0) => ((x8 : Nat) : Int) < ((((rsum_l2 xs (lst fun j => rsum_l2_c xs (rsum_l2 xs j))) ++ (rbig_m (imul .u64 ((xs.length : Nat) : Int) 8) 8)).length : Nat) : Int)
def rsum_l8_s (xs : List Int) (x22 : Nat) : (List Int) → (List Int) := fun x21 => x21 ++ (rbig_m (IntKind.wrap .u64 (((rsum_l3 xs (lst fun j => rsum_l3_c xs (rsum_l3 xs j))).2) x22)) 4)
def rsum_l8 (xs : List Int) : Nat → (List Int)
 | 0 => []
 | x22 + 1 => rsum_l8_s xs x22 (rsum_l8 xs x22)
def rsum_v (xs : List Int) : (List Int) := rsum_l8 xs 8
def rsum_m (xs : List Int) : (List Int) := shut (rsum_v xs)
theorem rsum_e (xs : List Int) : rsum_m xs = rsum_v xs := shut_eq _
def c_rsum (xs : List Int) : Con := ⟨[lb xs], [], .sk 0, [(0, .sl 5 [.int .u8] (rsum_m xs))]⟩
theorem rsum_ok (xs : List Int) (hx : xs.length ≤ 1000000) : ConOk Tryz.prog 99 (c_rsum xs) := by
 refine conOk_of rfl (nb := 0) Tryz.func99 rfl rfl Tryz.ntmps99 rfl rfl rfl fun g0 w0 ac gs ws hg0 hS => ?_
 have hlen0 : xs.length ≤ 9223372036854775807 := hS.len 0 rfl
 have hS := hS.sp
 refine s0 [0, 2] [] 0 hS fun hS => ?_
 refine sA [(0, .call ⟨135, (c_rrounds), [], []⟩)] ⟨rrounds_ok, trivial⟩ (fun C => [ndC C 0]) [0, 2, 3] [0] 1 ⟨rfl, trivial⟩ hS fun hS => ?_
 refine sA [(0, .call ⟨136, (c_rstart), [], []⟩)] ⟨rstart_ok, trivial⟩ (fun C => [ndC C 0]) [0, 2, 3, 4] [0, 1] 2 ⟨rfl, trivial⟩ hS fun hS => ?_
 refine s0 [0, 2, 3, 4, 5] [0, 1, 2] 3 hS fun hS => ?_
 refine wp_seq (s0 [0, 2, 3, 4, 5, 6] [0, 1, 2] 3 hS fun hS => ?_)
 refine wp_block (loop_y (ι := Nat × (Nat → Int)) hg0 hS (fun z_ => match z_ with | (x6, o5_0) => 8 - x6) (fun z_ => match z_ with | (x6, o5_0) => [(0, lb xs), (2, .v (.slice none 0 0)), (3, .cp 0 0), (4, .cp 1 0), (5, .cp 2 0), (6, vi ((x6 : Nat) : Int))]) (fun z_ => match z_ with | (x6, o5_0) => [(0, .ob 197 (chain [.ar .u64 80 rrounds_m])), (1, .ob 199 (chain [.ar .u64 8 rstart_m])), (2, .ob 177 (chain [.ar .u32 8 o5_0]))]) (fun z_ => match z_ with | (x6, o5_0) => (x6 ≤ 8) ∧ (o5_0 = rsum_l1 xs x6) ∧ True) 3 (0, fun _ => 0) [(0, 0), (1, 1), (2, 2)] ⟨omm, rfl, trivial⟩ ?_)
 rintro ⟨x6, o5_0⟩ ac gs ws ⟨hx6, hq1, _⟩ hS
 refine wp_seq (s0 [0, 2, 3, 4, 5, 6, 26] [0, 1, 2] 3 hS fun hS => ?_)
 refine if_d ((x6 : Int) < 8) hS (fun h1 => ?_) (fun h1 => ?_)
 ·refine wp_skip (then_n (wp_seq (wp_block (rA [] trivial (fun _ => [(0 : Int) ≤ (x6 : Int) ∧ ((x6 : Int) : Int) < 8, (0 : Int) ≤ 32, (0 : Int) ≤ (x6 : Int) ∧ ((x6 : Int) : Int) < 8]) [0, 2, 3, 4, 5, 6] [0, 1, 2] 3 ⟨by omega, by omega, by omega, trivial⟩ hS fun hS => ?_))))
  refine block_n (then_n (rA [(1, .oi ((x6 + 1 : Nat) : Int))] trivial (fun _ => [iadd .i64 (x6 : Int) 1 = ((x6 + 1 : Nat) : Int)]) [0, 2, 3, 4, 5, 6] [0, 1, 2] 3 ⟨by rw [iadd64 omm omm]; omega, trivial⟩ hS fun hS => ?_))
  refine then_n ?_
  exact next_y hg0 hS (s := (x6, o5_0)) (x6 + 1, upd o5_0 x6 (IntKind.wrap .u32 (ishr .u64 (rstart_m x6) 32))) [(0, 0), (1, 1), (2, 2)] (show 8 - (x6 + 1) < 8 - x6 from by omega) ⟨omm, (it_next (F := rsum_l1 xs) (st := rsum_l1_s xs) (fun _ => rfl) hq1 rfl), trivial⟩
 ·have hScur := hS
  obtain rfl : 8 = x6 := by omega
  obtain rfl : rsum_l1 xs 8 = o5_0 := Eq.symm (congrArg (fun z => z) hq1)
  have hS := hScur
  clear hScur
  refine wp_exit (then_exit (then_exit (block_exit (then_n (sA [(0, .own)] trivial (fun _ => [([] : List (RT [.int .u8])).length + xs.length ≤ 9223372036854775807, (([] : List (RT [.int .u8])).length + xs.length) * 1 ≤ 140737488355328, ([] ++ xs).length + ([128] : List Int).length ≤ 9223372036854775807, (([] ++ xs).length + ([128] : List Int).length) * 1 ≤ 140737488355328]) [0, 2, 3, 5, 7] [0, 2, 5] 6 ⟨by simp <;> omega, by simp <;> omega, by simp <;> omega, by simp <;> omega, trivial⟩ hS fun hS => ?_)))))
  refine wp_seq (wp_block (loop_y (ι := Nat × (List Int)) hg0 hS (fun z_ => match z_ with | (k2, x7) => (120 - x7.length % 64) % 64) (fun z_ => match z_ with | (k2, x7) => [(0, lb xs), (2, .v (.slice none 0 0)), (3, .cp 0 0), (5, .cp 2 0), (7, .sk 5)]) (fun z_ => match z_ with | (k2, x7) => [(0, .ob 197 (chain [.ar .u64 80 rrounds_m])), (2, .ob 177 (chain [.ar .u32 8 (rsum_l1 xs 8)])), (5, .sl 5 [.int .u8] x7)]) (fun z_ => match z_ with | (k2, x7) => (x7 = rsum_l2 xs k2) ∧ (∀ j, j < k2 → rsum_l2_c xs (rsum_l2 xs j)) ∧ (x7.length + (120 - x7.length % 64) % 64 ≤ xs.length + 65) ∧ True) 6 (0, ([] ++ xs) ++ ([128] : List Int)) [(0, 0), (2, 2), (5, 5)] ⟨rfl, (fun j h => absurd h (Nat.not_lt_zero j)), (by rw [List.length_append, List.length_append, List.length_cons, List.length_nil]; omega), trivial⟩ ?_))
  rintro ⟨k2, x7⟩ ac gs ws ⟨hq2, hj2, p1, _⟩ hS
  refine wp_seq (sA [(2, .oi ((x7.length % 64 : Nat) : Int))] trivial (fun _ => [irem ((x7.length : Nat) : Int) 64 = ((x7.length % 64 : Nat) : Int), (64 : Int) ≠ 0]) [0, 2, 3, 5, 7, 44] [0, 2, 5] 6 ⟨by rw [irem64 omm]; omega, by omega, trivial⟩ hS fun hS => ?_)
  refine if_n (((x7.length % 64 : Nat) : Int) = 56) hS (fun h2 => ?_) (fun h2 => ?_)
  ·refine wp_skip (then_n (wp_block (rA [] trivial (fun _ => [x7.length + ([0] : List Int).length ≤ 9223372036854775807, (x7.length + ([0] : List Int).length) * 1 ≤ 140737488355328]) [0, 2, 3, 5, 7] [0, 2, 6] 7 ⟨by simp <;> omega, by simp <;> omega, trivial⟩ hS fun hS => ?_)))
   refine block_n (then_n ?_)
   exact next_y hg0 hS (s := (k2, x7)) (k2 + 1, x7 ++ ([0] : List Int)) [(0, 0), (2, 2), (5, 6)] (by show (120 - (x7 ++ [0]).length % 64) % 64 < (120 - x7.length % 64) % 64; rw [List.length_append, List.length_cons, List.length_nil]; omega) ⟨(it_next (F := rsum_l2 xs) (st := rsum_l2_s xs) (fun _ => rfl) hq2 rfl), (lst_next hj2 (by rw [← hq2]; exact h2)), (by rw [List.length_append, List.length_cons, List.length_nil]; omega), trivial⟩
  ·have hScur := hS
   obtain rfl := lst_eq (P := fun j => rsum_l2_c xs (rsum_l2 xs j)) (by rw [← hq2]; first | exact h2 | exact not_not_intro h2) hj2
   obtain rfl : rsum_l2 xs (lst fun j => rsum_l2_c xs (rsum_l2 xs j)) = x7 := Eq.symm (congrArg (fun z => z) hq2)
   have hS := hScur
   clear hScur
   refine wp_exit (then_exit (then_exit (block_exit (then_n (sA [(3, .oi ((xs.length : Nat) : Int)), (5, .call ⟨34, (c_rbig (imul .u64 ((xs.length : Nat) : Int) 8) 8), [], [(0, 6)]⟩)] ⟨rbig_ok _ _ omm, trivial⟩ (fun C => [IntKind.wrap .u64 ((xs.length : Nat) : Int) = ((xs.length : Nat) : Int), ndC C 5, (rsum_l2 xs (lst fun j => rsum_l2_c xs (rsum_l2 xs j))).length + (rbig_m (imul .u64 ((xs.length : Nat) : Int) 8) 8).length ≤ 9223372036854775807, ((rsum_l2 xs (lst fun j => rsum_l2_c xs (rsum_l2 xs j))).length + (rbig_m (imul .u64 ((xs.length : Nat) : Int) 8) 8).length) * 1 ≤ 140737488355328]) [2, 3, 5, 7] [0, 2, 7] 8 ⟨wrap_u64 omm omm, rfl, by simp <;> omega, by simp <;> omega, trivial⟩ hS fun hS => ?_)))))
   refine wp_seq (wp_seq ?_)
   obtain ⟨gs, hS⟩ := hS.fz 7
   have hml : ((rsum_l2 xs (lst fun j => rsum_l2_c xs (rsum_l2 xs j))) ++ (rbig_m (imul .u64 ((xs.length : Nat) : Int) 8) 8)).length % 64 = 0 ∧ ((rsum_l2 xs (lst fun j => rsum_l2_c xs (rsum_l2 xs j))) ++ (rbig_m (imul .u64 ((xs.length : Nat) : Int) 8) 8)).length ≤ 2000000 := by rw [List.length_append, rbig_len]; omega
   refine r0 [2, 3, 5, 7, 8] [0, 2] 8 hS fun hS => ?_
   refine then_n (wp_block (loop_y (ι := Nat × Nat × (Nat → Int)) hg0 hS (fun z_ => match z_ with | (k3, x8, o5_0) => ((rsum_l2 xs (lst fun j => rsum_l2_c xs (rsum_l2 xs j))) ++ (rbig_m (imul .u64 ((xs.length : Nat) : Int) 8) 8)).length - x8) (fun z_ => match z_ with | (k3, x8, o5_0) => [(2, .v (.slice none 0 0)), (3, .cp 0 0), (5, .cp 2 0), (7, lb ((rsum_l2 xs (lst fun j => rsum_l2_c xs (rsum_l2 xs j))) ++ (rbig_m (imul .u64 ((xs.length : Nat) : Int) 8) 8))), (8, vi ((x8 : Nat) : Int))]) (fun z_ => match z_ with | (k3, x8, o5_0) => [(0, .ob 197 (chain [.ar .u64 80 rrounds_m])), (2, .ob 177 (chain [.ar .u32 8 o5_0]))]) (fun z_ => match z_ with | (k3, x8, o5_0) => ((x8, o5_0) = rsum_l3 xs k3) ∧ (∀ j, j < k3 → rsum_l3_c xs (rsum_l3 xs j)) ∧ (x8 % 64 = 0) ∧ True) 3 (0, 0, rsum_l1 xs 8) [(0, 0), (2, 2)] ⟨rfl, (fun j h => absurd h (Nat.not_lt_zero j)), (by simp), trivial⟩ ?_))
   rintro ⟨k3, x8, o5_0⟩ ac gs ws ⟨hq3, hj3, p2, _⟩ hS
   refine wp_seq (s0 [2, 3, 5, 7, 8, 58] [0, 2] 3 hS fun hS => ?_)
   refine if_d ((x8 : Int) < ((((rsum_l2 xs (lst fun j => rsum_l2_c xs (rsum_l2 xs j))) ++ (rbig_m (imul .u64 ((xs.length : Nat) : Int) 8) 8)).length : Nat) : Int)) hS (fun h3 => ?_) (fun h3 => ?_)
   ·refine wp_skip (then_n (wp_seq (wp_block (s0 [2, 3, 5, 7, 8, 9] [0, 2, 3] 4 hS fun hS => ?_))))
    refine wp_seq (s0 [2, 3, 5, 7, 8, 9, 10] [0, 2, 3] 4 hS fun hS => ?_)
    refine wp_block (loop_y (ι := Nat × (Nat → Int)) hg0 hS (fun z_ => match z_ with | (x10, o9_0) => 16 - x10) (fun z_ => match z_ with | (x10, o9_0) => [(2, .v (.slice none 0 0)), (3, .cp 0 0), (5, .cp 2 0), (7, lb ((rsum_l2 xs (lst fun j => rsum_l2_c xs (rsum_l2 xs j))) ++ (rbig_m (imul .u64 ((xs.length : Nat) : Int) 8) 8))), (8, vi (x8 : Int)), (9, .cp 3 0), (10, vi ((x10 : Nat) : Int))]) (fun z_ => match z_ with | (x10, o9_0) => [(0, .ob 197 (chain [.ar .u64 80 rrounds_m])), (2, .ob 177 (chain [.ar .u32 8 o5_0])), (3, .ob 201 (chain [.ar .u32 64 o9_0]))]) (fun z_ => match z_ with | (x10, o9_0) => (x10 ≤ 16) ∧ (o9_0 = rsum_l4 xs k3 x8 o5_0 x10) ∧ True) 4 (0, fun _ => 0) [(0, 0), (2, 2), (3, 3)] ⟨omm, rfl, trivial⟩ ?_)
    rintro ⟨x10, o9_0⟩ ac gs ws ⟨hx10, hq4, _⟩ hS
    refine wp_seq (s0 [2, 3, 5, 7, 8, 9, 10, 62] [0, 2, 3] 4 hS fun hS => ?_)
    refine if_d ((x10 : Int) < 16) hS (fun h4 => ?_) (fun h4 => ?_)
    ·refine wp_skip (then_n (wp_seq (wp_block (rA [(4, .oi ((4 * x10 : Nat) : Int)), (5, .oi ((x8 + (4 * x10) : Nat) : Int)), (8, .oi ((4 * x10 : Nat) : Int)), (9, .oi ((x8 + (4 * x10) : Nat) : Int)), (10, .oi (((x8 + (4 * x10)) + 4 : Nat) : Int)), (12, .call ⟨137, (c_rgetbig ((((rsum_l2 xs (lst fun j => rsum_l2_c xs (rsum_l2 xs j))) ++ (rbig_m (imul .u64 ((xs.length : Nat) : Int) 8) 8)).take ((x8 + (4 * x10)) + 4)).drop (x8 + (4 * x10))) 4), [], []⟩)] ⟨rgetbig_ok _ _ omm, trivial⟩ (fun C => [imul .i64 4 (x10 : Int) = ((4 * x10 : Nat) : Int), iadd .i64 (x8 : Int) ((4 * x10 : Nat) : Int) = ((x8 + (4 * x10) : Nat) : Int), imul .i64 4 (x10 : Int) = ((4 * x10 : Nat) : Int), iadd .i64 (x8 : Int) ((4 * x10 : Nat) : Int) = ((x8 + (4 * x10) : Nat) : Int), iadd .i64 ((x8 + (4 * x10) : Nat) : Int) 4 = (((x8 + (4 * x10)) + 4 : Nat) : Int), bndP (some ((x8 + (4 * x10) : Nat) : Int)) (some (((x8 + (4 * x10)) + 4 : Nat) : Int)) none ((rsum_l2 xs (lst fun j => rsum_l2_c xs (rsum_l2 xs j))) ++ (rbig_m (imul .u64 ((xs.length : Nat) : Int) 8) 8)).length ((rsum_l2 xs (lst fun j => rsum_l2_c xs (rsum_l2 xs j))) ++ (rbig_m (imul .u64 ((xs.length : Nat) : Int) 8) 8)).length, ndC C 12, (0 : Int) ≤ (x10 : Int) ∧ ((x10 : Int) : Int) < 64]) [2, 3, 5, 7, 8, 9, 10] [0, 2, 3] 4 ⟨by rw [imul64 omm omm]; omega, by rw [iadd64 omm omm]; omega, by rw [imul64 omm omm]; omega, by rw [iadd64 omm omm]; omega, by rw [iadd64 omm omm]; omega, ⟨by simp only [nnI] <;> omega, by simp only [nnI] <;> omega, by simp only [nnI] <;> omega, by simp, by simp only [bl] <;> omega, by simp only [bl] <;> omega, by simp only [bl] <;> omega⟩, rfl, by omega, trivial⟩ hS fun hS => ?_))))
     refine block_n (then_n (rA [(1, .oi ((x10 + 1 : Nat) : Int))] trivial (fun _ => [iadd .i64 (x10 : Int) 1 = ((x10 + 1 : Nat) : Int)]) [2, 3, 5, 7, 8, 9, 10] [0, 2, 3] 4 ⟨by rw [iadd64 omm omm]; omega, trivial⟩ hS fun hS => ?_))
     refine then_n ?_
     exact next_y hg0 hS (s := (x10, o9_0)) (x10 + 1, upd o9_0 x10 (IntKind.wrap .u32 (rgetbig_m ((((rsum_l2 xs (lst fun j => rsum_l2_c xs (rsum_l2 xs j))) ++ (rbig_m (imul .u64 ((xs.length : Nat) : Int) 8) 8)).take ((x8 + (4 * x10)) + 4)).drop (x8 + (4 * x10))) 4))) [(0, 0), (2, 2), (3, 3)] (show 16 - (x10 + 1) < 16 - x10 from by omega) ⟨omm, (it_next (F := rsum_l4 xs k3 x8 o5_0) (st := rsum_l4_s xs k3 x8 o5_0) (fun _ => rfl) hq4 rfl), trivial⟩
    ·have hScur := hS
     obtain rfl : 16 = x10 := by omega
     obtain rfl : rsum_l4 xs k3 x8 o5_0 16 = o9_0 := Eq.symm (congrArg (fun z => z) hq4)
     have hS := hScur
     clear hScur
     refine wp_exit (then_exit (then_exit (block_exit (then_n (wp_seq (s0 [2, 3, 5, 7, 8, 9, 11] [0, 2, 3] 4 hS fun hS => ?_))))))
     refine wp_block (loop_y (ι := Nat × Nat × (Nat → Int)) hg0 hS (fun z_ => match z_ with | (k5, x11, o9_0) => 64 - x11) (fun z_ => match z_ with | (k5, x11, o9_0) => [(2, .v (.slice none 0 0)), (3, .cp 0 0), (5, .cp 2 0), (7, lb ((rsum_l2 xs (lst fun j => rsum_l2_c xs (rsum_l2 xs j))) ++ (rbig_m (imul .u64 ((xs.length : Nat) : Int) 8) 8))), (8, vi (x8 : Int)), (9, .cp 3 0), (11, vi ((x11 : Nat) : Int))]) (fun z_ => match z_ with | (k5, x11, o9_0) => [(0, .ob 197 (chain [.ar .u64 80 rrounds_m])), (2, .ob 177 (chain [.ar .u32 8 o5_0])), (3, .ob 201 (chain [.ar .u32 64 o9_0]))]) (fun z_ => match z_ with | (k5, x11, o9_0) => ((x11, o9_0) = rsum_l5 xs k3 x8 o5_0 k5) ∧ (∀ j, j < k5 → rsum_l5_c xs k3 x8 o5_0 (rsum_l5 xs k3 x8 o5_0 j)) ∧ (16 ≤ x11 ∧ x11 ≤ 64) ∧ True) 4 (0, 16, rsum_l4 xs k3 x8 o5_0 16) [(0, 0), (2, 2), (3, 3)] ⟨rfl, (fun j h => absurd h (Nat.not_lt_zero j)), omm, trivial⟩ ?_)
     rintro ⟨k5, x11, o9_0⟩ ac gs ws ⟨hq5, hj5, p3, _⟩ hS
     refine wp_seq (s0 [2, 3, 5, 7, 8, 9, 11, 81] [0, 2, 3] 4 hS fun hS => ?_)
     refine if_d ((x11 : Int) < 64) hS (fun h5 => ?_) (fun h5 => ?_)
     ·refine wp_skip (then_n (wp_seq (wp_block (sA [(1, .oi ((x11 - 15 : Nat) : Int)), (4, .call ⟨138, (c_rrot (o9_0 (x11 - 15)) 7), [], []⟩), (6, .oi ((x11 - 15 : Nat) : Int)), (9, .call ⟨138, (c_rrot (o9_0 (x11 - 15)) 18), [], []⟩), (12, .oi ((x11 - 15 : Nat) : Int))] ⟨rrot_ok _ _ omm, rrot_ok _ _ omm, trivial⟩ (fun C => [isub .i64 (x11 : Int) 15 = ((x11 - 15 : Nat) : Int), (0 : Int) ≤ ((x11 - 15 : Nat) : Int) ∧ (((x11 - 15 : Nat) : Int) : Int) < 64, ndC C 4, isub .i64 (x11 : Int) 15 = ((x11 - 15 : Nat) : Int), (0 : Int) ≤ ((x11 - 15 : Nat) : Int) ∧ (((x11 - 15 : Nat) : Int) : Int) < 64, ndC C 9, isub .i64 (x11 : Int) 15 = ((x11 - 15 : Nat) : Int), (0 : Int) ≤ ((x11 - 15 : Nat) : Int) ∧ (((x11 - 15 : Nat) : Int) : Int) < 64, (0 : Int) ≤ 3]) [2, 3, 5, 7, 8, 9, 11, 12] [0, 2, 3] 4 ⟨by rw [isub64 omm omm]; omega, by omega, rfl, by rw [isub64 omm omm]; omega, by omega, rfl, by rw [isub64 omm omm]; omega, by omega, by omega, trivial⟩ hS fun hS => ?_))))
      refine sA [(1, .oi ((x11 - 2 : Nat) : Int)), (4, .call ⟨138, (c_rrot (o9_0 (x11 - 2)) 17), [], []⟩), (6, .oi ((x11 - 2 : Nat) : Int)), (9, .call ⟨138, (c_rrot (o9_0 (x11 - 2)) 19), [], []⟩), (12, .oi ((x11 - 2 : Nat) : Int))] ⟨rrot_ok _ _ omm, rrot_ok _ _ omm, trivial⟩ (fun C => [isub .i64 (x11 : Int) 2 = ((x11 - 2 : Nat) : Int), (0 : Int) ≤ ((x11 - 2 : Nat) : Int) ∧ (((x11 - 2 : Nat) : Int) : Int) < 64, ndC C 4, isub .i64 (x11 : Int) 2 = ((x11 - 2 : Nat) : Int), (0 : Int) ≤ ((x11 - 2 : Nat) : Int) ∧ (((x11 - 2 : Nat) : Int) : Int) < 64, ndC C 9, isub .i64 (x11 : Int) 2 = ((x11 - 2 : Nat) : Int), (0 : Int) ≤ ((x11 - 2 : Nat) : Int) ∧ (((x11 - 2 : Nat) : Int) : Int) < 64, (0 : Int) ≤ 10]) [2, 3, 5, 7, 8, 9, 11, 12, 13] [0, 2, 3] 4 ⟨by rw [isub64 omm omm]; omega, by omega, rfl, by rw [isub64 omm omm]; omega, by omega, rfl, by rw [isub64 omm omm]; omega, by omega, by omega, trivial⟩ hS fun hS => ?_
      refine rA [(2, .oi ((x11 - 16 : Nat) : Int)), (8, .oi ((x11 - 7 : Nat) : Int))] trivial (fun _ => [isub .i64 (x11 : Int) 16 = ((x11 - 16 : Nat) : Int), (0 : Int) ≤ ((x11 - 16 : Nat) : Int) ∧ (((x11 - 16 : Nat) : Int) : Int) < 64, isub .i64 (x11 : Int) 7 = ((x11 - 7 : Nat) : Int), (0 : Int) ≤ ((x11 - 7 : Nat) : Int) ∧ (((x11 - 7 : Nat) : Int) : Int) < 64, (0 : Int) ≤ (x11 : Int) ∧ ((x11 : Int) : Int) < 64]) [2, 3, 5, 7, 8, 9, 11] [0, 2, 3] 4 ⟨by rw [isub64 omm omm]; omega, by omega, by rw [isub64 omm omm]; omega, by omega, by omega, trivial⟩ hS fun hS => ?_
      refine block_n (then_n (rA [(1, .oi ((x11 + 1 : Nat) : Int))] trivial (fun _ => [iadd .i64 (x11 : Int) 1 = ((x11 + 1 : Nat) : Int)]) [2, 3, 5, 7, 8, 9, 11] [0, 2, 3] 4 ⟨by rw [iadd64 omm omm]; omega, trivial⟩ hS fun hS => ?_))
      refine then_n ?_
      exact next_y hg0 hS (s := (k5, x11, o9_0)) (k5 + 1, x11 + 1, upd o9_0 x11 (iadd .u32 (iadd .u32 (iadd .u32 (o9_0 (x11 - 16)) (ixor .u32 (ixor .u32 (rrot_m (o9_0 (x11 - 15)) 7) (rrot_m (o9_0 (x11 - 15)) 18)) (ishr .u32 (o9_0 (x11 - 15)) 3))) (o9_0 (x11 - 7))) (ixor .u32 (ixor .u32 (rrot_m (o9_0 (x11 - 2)) 17) (rrot_m (o9_0 (x11 - 2)) 19)) (ishr .u32 (o9_0 (x11 - 2)) 10)))) [(0, 0), (2, 2), (3, 3)] (show 64 - (x11 + 1) < 64 - x11 from by omega) ⟨(it_next (F := rsum_l5 xs k3 x8 o5_0) (st := rsum_l5_s xs k3 x8 o5_0) (fun _ => rfl) hq5 rfl), (lst_next hj5 (by rw [← hq5]; exact h5)), omm, trivial⟩
     ·have hScur := hS
      obtain rfl := lst_eq (P := fun j => rsum_l5_c xs k3 x8 o5_0 (rsum_l5 xs k3 x8 o5_0 j)) (by rw [← hq5]; first | exact h5 | exact not_not_intro h5) hj5
      obtain rfl : (rsum_l5 xs k3 x8 o5_0 (lst fun j => rsum_l5_c xs k3 x8 o5_0 (rsum_l5 xs k3 x8 o5_0 j))).1 = x11 := Eq.symm (congrArg (fun z => z.1) hq5)
      obtain rfl : (rsum_l5 xs k3 x8 o5_0 (lst fun j => rsum_l5_c xs k3 x8 o5_0 (rsum_l5 xs k3 x8 o5_0 j))).2 = o9_0 := Eq.symm (congrArg (fun z => z.2) hq5)
      have hS := hScur
      clear hScur
      refine wp_exit (then_exit (then_exit (block_exit (then_n (s0 [2, 3, 5, 7, 8, 9, 14] [0, 2, 3, 4] 5 hS fun hS => ?_)))))
      refine wp_seq (s0 [2, 3, 5, 7, 8, 9, 14, 15] [0, 2, 3, 4] 5 hS fun hS => ?_)
      refine wp_block (loop_y (ι := Nat × (Nat → Int)) hg0 hS (fun z_ => match z_ with | (x15, o14_0) => 64 - x15) (fun z_ => match z_ with | (x15, o14_0) => [(2, .v (.slice none 0 0)), (3, .cp 0 0), (5, .cp 2 0), (7, lb ((rsum_l2 xs (lst fun j => rsum_l2_c xs (rsum_l2 xs j))) ++ (rbig_m (imul .u64 ((xs.length : Nat) : Int) 8) 8))), (8, vi (x8 : Int)), (9, .cp 3 0), (14, .cp 4 0), (15, vi ((x15 : Nat) : Int))]) (fun z_ => match z_ with | (x15, o14_0) => [(0, .ob 197 (chain [.ar .u64 80 rrounds_m])), (2, .ob 177 (chain [.ar .u32 8 o5_0])), (3, .ob 201 (chain [.ar .u32 64 ((rsum_l5 xs k3 x8 o5_0 (lst fun j => rsum_l5_c xs k3 x8 o5_0 (rsum_l5 xs k3 x8 o5_0 j))).2)])), (4, .ob 177 (chain [.ar .u32 8 o14_0]))]) (fun z_ => match z_ with | (x15, o14_0) => (x15 ≤ 64) ∧ (o14_0 = rsum_l6 xs k3 x8 o5_0 x15) ∧ True) 5 (0, o5_0) [(0, 0), (2, 2), (3, 3), (4, 4)] ⟨omm, rfl, trivial⟩ ?_)
      rintro ⟨x15, o14_0⟩ ac gs ws ⟨hx15, hq6, _⟩ hS
      refine wp_seq (s0 [2, 3, 5, 7, 8, 9, 14, 15, 135] [0, 2, 3, 4] 5 hS fun hS => ?_)
      refine if_d ((x15 : Int) < 64) hS (fun h6 => ?_) (fun h6 => ?_)
      ·refine wp_skip (then_n (wp_seq (wp_block (sA [] trivial (fun _ => [(0 : Int) ≤ 4 ∧ (4 : Int) < 8]) [2, 3, 5, 7, 8, 9, 14, 15, 16] [0, 2, 3, 4] 5 ⟨by omega, trivial⟩ hS fun hS => ?_))))
       refine sA [] trivial (fun _ => [(0 : Int) ≤ 0 ∧ (0 : Int) < 8]) [2, 3, 5, 7, 8, 9, 14, 15, 16, 17] [0, 2, 3, 4] 5 ⟨by omega, trivial⟩ hS fun hS => ?_
       refine sA [(3, .call ⟨138, (c_rrot (o14_0 4) 6), [], []⟩), (5, .call ⟨138, (c_rrot (o14_0 4) 11), [], []⟩), (8, .call ⟨138, (c_rrot (o14_0 4) 25), [], []⟩)] ⟨rrot_ok _ _ omm, rrot_ok _ _ omm, rrot_ok _ _ omm, trivial⟩ (fun C => [(0 : Int) ≤ 7 ∧ (7 : Int) < 8, ndC C 3, ndC C 5, ndC C 8, (0 : Int) ≤ 5 ∧ (5 : Int) < 8, (0 : Int) ≤ 6 ∧ (6 : Int) < 8, (0 : Int) ≤ (x15 : Int) ∧ ((x15 : Int) : Int) < 80, (0 : Int) ≤ 32, (0 : Int) ≤ (x15 : Int) ∧ ((x15 : Int) : Int) < 64]) [2, 3, 5, 7, 8, 9, 14, 15, 17, 18] [0, 2, 3, 4] 5 ⟨by omega, rfl, rfl, rfl, by omega, by omega, by omega, by omega, by omega, trivial⟩ hS fun hS => ?_
       refine sA [(1, .call ⟨138, (c_rrot (o14_0 0) 2), [], []⟩), (3, .call ⟨138, (c_rrot (o14_0 0) 13), [], []⟩), (6, .call ⟨138, (c_rrot (o14_0 0) 22), [], []⟩)] ⟨rrot_ok _ _ omm, rrot_ok _ _ omm, rrot_ok _ _ omm, trivial⟩ (fun C => [ndC C 1, ndC C 3, ndC C 6, (0 : Int) ≤ 1 ∧ (1 : Int) < 8, (0 : Int) ≤ 2 ∧ (2 : Int) < 8, (0 : Int) ≤ 1 ∧ (1 : Int) < 8, (0 : Int) ≤ 2 ∧ (2 : Int) < 8]) [2, 3, 5, 7, 8, 9, 14, 15, 18, 19] [0, 2, 3, 4] 5 ⟨rfl, rfl, rfl, by omega, by omega, by omega, by omega, trivial⟩ hS fun hS => ?_
       refine rA [] trivial (fun _ => [(0 : Int) ≤ 0 ∧ (0 : Int) < 8, (0 : Int) ≤ 1 ∧ (1 : Int) < 8, (0 : Int) ≤ 2 ∧ (2 : Int) < 8, (0 : Int) ≤ 3 ∧ (3 : Int) < 8, (0 : Int) ≤ 4 ∧ (4 : Int) < 8, (0 : Int) ≤ 5 ∧ (5 : Int) < 8, (0 : Int) ≤ 6 ∧ (6 : Int) < 8]) [2, 3, 5, 7, 8, 9, 14, 15] [0, 2, 3, 4] 5 ⟨by omega, by omega, by omega, by omega, by omega, by omega, by omega, trivial⟩ hS fun hS => ?_
       refine block_n (then_n (rA [(1, .oi ((x15 + 1 : Nat) : Int))] trivial (fun _ => [iadd .i64 (x15 : Int) 1 = ((x15 + 1 : Nat) : Int)]) [2, 3, 5, 7, 8, 9, 14, 15] [0, 2, 3, 4] 5 ⟨by rw [iadd64 omm omm]; omega, trivial⟩ hS fun hS => ?_))
       refine then_n ?_
       exact next_y hg0 hS (s := (x15, o14_0)) (x15 + 1, upd (upd (upd (upd (upd (upd (upd (upd (fun _ => 0) 0 (iadd .u32 (iadd .u32 (iadd .u32 (iadd .u32 (iadd .u32 (o14_0 7) (ixor .u32 (ixor .u32 (rrot_m (o14_0 4) 6) (rrot_m (o14_0 4) 11)) (rrot_m (o14_0 4) 25))) (ixor .u32 (iand .u32 (o14_0 4) (o14_0 5)) (iand .u32 (inot .u32 (o14_0 4)) (o14_0 6)))) (IntKind.wrap .u32 (ishr .u64 (rrounds_m x15) 32))) (((rsum_l5 xs k3 x8 o5_0 (lst fun j => rsum_l5_c xs k3 x8 o5_0 (rsum_l5 xs k3 x8 o5_0 j))).2) x15)) (iadd .u32 (ixor .u32 (ixor .u32 (rrot_m (o14_0 0) 2) (rrot_m (o14_0 0) 13)) (rrot_m (o14_0 0) 22)) (ixor .u32 (ixor .u32 (iand .u32 (o14_0 0) (o14_0 1)) (iand .u32 (o14_0 0) (o14_0 2))) (iand .u32 (o14_0 1) (o14_0 2)))))) 1 (o14_0 0)) 2 (o14_0 1)) 3 (o14_0 2)) 4 (iadd .u32 (o14_0 3) (iadd .u32 (iadd .u32 (iadd .u32 (iadd .u32 (o14_0 7) (ixor .u32 (ixor .u32 (rrot_m (o14_0 4) 6) (rrot_m (o14_0 4) 11)) (rrot_m (o14_0 4) 25))) (ixor .u32 (iand .u32 (o14_0 4) (o14_0 5)) (iand .u32 (inot .u32 (o14_0 4)) (o14_0 6)))) (IntKind.wrap .u32 (ishr .u64 (rrounds_m x15) 32))) (((rsum_l5 xs k3 x8 o5_0 (lst fun j => rsum_l5_c xs k3 x8 o5_0 (rsum_l5 xs k3 x8 o5_0 j))).2) x15)))) 5 (o14_0 4)) 6 (o14_0 5)) 7 (o14_0 6)) [(0, 0), (2, 2), (3, 3), (4, 4)] (show 64 - (x15 + 1) < 64 - x15 from by omega) ⟨omm, (it_next (F := rsum_l6 xs k3 x8 o5_0) (st := rsum_l6_s xs k3 x8 o5_0) (fun _ => rfl) hq6 rfl), trivial⟩
      ·have hScur := hS
       obtain rfl : 64 = x15 := by omega
       obtain rfl : rsum_l6 xs k3 x8 o5_0 64 = o14_0 := Eq.symm (congrArg (fun z => z) hq6)
       have hS := hScur
       clear hScur
       refine wp_exit (then_exit (then_exit (block_exit (then_n (s0 [2, 3, 5, 7, 8, 14, 20] [0, 2, 4] 5 hS fun hS => ?_)))))
       refine wp_block (loop_y (ι := Nat × (Nat → Int)) hg0 hS (fun z_ => match z_ with | (x20, o5_0_7) => 8 - x20) (fun z_ => match z_ with | (x20, o5_0_7) => [(2, .v (.slice none 0 0)), (3, .cp 0 0), (5, .cp 2 0), (7, lb ((rsum_l2 xs (lst fun j => rsum_l2_c xs (rsum_l2 xs j))) ++ (rbig_m (imul .u64 ((xs.length : Nat) : Int) 8) 8))), (8, vi (x8 : Int)), (14, .cp 4 0), (20, vi ((x20 : Nat) : Int))]) (fun z_ => match z_ with | (x20, o5_0_7) => [(0, .ob 197 (chain [.ar .u64 80 rrounds_m])), (2, .ob 177 (chain [.ar .u32 8 o5_0_7])), (4, .ob 177 (chain [.ar .u32 8 (rsum_l6 xs k3 x8 o5_0 64)]))]) (fun z_ => match z_ with | (x20, o5_0_7) => (x20 ≤ 8) ∧ (o5_0_7 = rsum_l7 xs k3 x8 o5_0 x20) ∧ True) 5 (0, o5_0) [(0, 0), (2, 2), (4, 4)] ⟨omm, rfl, trivial⟩ ?_)
       rintro ⟨x20, o5_0_7⟩ ac gs ws ⟨hx20, hq7, _⟩ hS
       refine wp_seq (s0 [2, 3, 5, 7, 8, 14, 20, 219] [0, 2, 4] 5 hS fun hS => ?_)
       refine if_d ((x20 : Int) < 8) hS (fun h7 => ?_) (fun h7 => ?_)
       ·refine wp_skip (then_n (wp_seq (wp_block (rA [] trivial (fun _ => [(0 : Int) ≤ (x20 : Int) ∧ ((x20 : Int) : Int) < 8, (0 : Int) ≤ (x20 : Int) ∧ ((x20 : Int) : Int) < 8, (0 : Int) ≤ (x20 : Int) ∧ ((x20 : Int) : Int) < 8]) [2, 3, 5, 7, 8, 14, 20] [0, 2, 4] 5 ⟨by omega, by omega, by omega, trivial⟩ hS fun hS => ?_))))
        refine block_n (then_n (rA [(1, .oi ((x20 + 1 : Nat) : Int))] trivial (fun _ => [iadd .i64 (x20 : Int) 1 = ((x20 + 1 : Nat) : Int)]) [2, 3, 5, 7, 8, 14, 20] [0, 2, 4] 5 ⟨by rw [iadd64 omm omm]; omega, trivial⟩ hS fun hS => ?_))
        refine then_n ?_
        exact next_y hg0 hS (s := (x20, o5_0_7)) (x20 + 1, upd o5_0_7 x20 (iadd .u32 (o5_0_7 x20) ((rsum_l6 xs k3 x8 o5_0 64) x20))) [(0, 0), (2, 2), (4, 4)] (show 8 - (x20 + 1) < 8 - x20 from by omega) ⟨omm, (it_next (F := rsum_l7 xs k3 x8 o5_0) (st := rsum_l7_s xs k3 x8 o5_0) (fun _ => rfl) hq7 rfl), trivial⟩
       ·have hScur := hS
        obtain rfl : 8 = x20 := by omega
        obtain rfl : rsum_l7 xs k3 x8 o5_0 8 = o5_0_7 := Eq.symm (congrArg (fun z => z) hq7)
        have hS := hScur
        clear hScur
        refine wp_exit (then_exit (then_exit (block_exit (block_n (then_n (rA [(1, .oi ((x8 + 64 : Nat) : Int))] trivial (fun _ => [iadd .i64 (x8 : Int) 64 = ((x8 + 64 : Nat) : Int)]) [2, 3, 5, 7, 8] [0, 2] 5 ⟨by rw [iadd64 omm omm]; omega, trivial⟩ hS fun hS => ?_))))))
        refine then_n ?_
        exact next_y hg0 hS (s := (k3, x8, o5_0)) (k3 + 1, x8 + 64, rsum_l7 xs k3 x8 o5_0 8) [(0, 0), (2, 2)] (show ((rsum_l2 xs (lst fun j => rsum_l2_c xs (rsum_l2 xs j))) ++ (rbig_m (imul .u64 ((xs.length : Nat) : Int) 8) 8)).length - (x8 + 64) < ((rsum_l2 xs (lst fun j => rsum_l2_c xs (rsum_l2 xs j))) ++ (rbig_m (imul .u64 ((xs.length : Nat) : Int) 8) 8)).length - x8 from by omega) ⟨(it_next (F := rsum_l3 xs) (st := rsum_l3_s xs) (fun _ => rfl) hq3 rfl), (lst_next hj3 (by rw [← hq3]; exact h3)), omm, trivial⟩
   ·have hScur := hS
    obtain rfl := lst_eq (P := fun j => rsum_l3_c xs (rsum_l3 xs j)) (by rw [← hq3]; first | exact h3 | exact not_not_intro h3) hj3
    obtain rfl : (rsum_l3 xs (lst fun j => rsum_l3_c xs (rsum_l3 xs j))).1 = x8 := Eq.symm (congrArg (fun z => z.1) hq3)
    obtain rfl : (rsum_l3 xs (lst fun j => rsum_l3_c xs (rsum_l3 xs j))).2 = o5_0 := Eq.symm (congrArg (fun z => z.2) hq3)
    have hS := hScur
    clear hScur
    refine wp_exit (then_exit (then_exit (block_exit (then_n (s0 [2, 5, 21] [2] 3 hS fun hS => ?_)))))
    refine wp_seq (s0 [2, 5, 21, 22] [2] 3 hS fun hS => ?_)
    refine wp_block ?_
    obtain ⟨gs, hS⟩ := hS.nilk 21 5 [.int .u8]
    refine loop_y (ι := Nat × (List Int)) hg0 hS (fun z_ => match z_ with | (x22, x21) => 8 - x22) (fun z_ => match z_ with | (x22, x21) => [(2, .v (.slice none 0 0)), (5, .cp 2 0), (21, .sk 3), (22, vi ((x22 : Nat) : Int))]) (fun z_ => match z_ with | (x22, x21) => [(2, .ob 177 (chain [.ar .u32 8 ((rsum_l3 xs (lst fun j => rsum_l3_c xs (rsum_l3 xs j))).2)])), (3, .sl 5 [.int .u8] x21)]) (fun z_ => match z_ with | (x22, x21) => (x22 ≤ 8) ∧ (x21 = rsum_l8 xs x22) ∧ (x21.length = 4 * x22) ∧ True) 4 (0, []) [(2, 2), (3, 3)] ⟨omm, rfl, rfl, trivial⟩ ?_
    rintro ⟨x22, x21⟩ ac gs ws ⟨hx22, hq8, p4, _⟩ hS
    refine wp_seq (s0 [2, 5, 21, 22, 232] [2, 3] 4 hS fun hS => ?_)
    refine if_d ((x22 : Int) < 8) hS (fun h8 => ?_) (fun h8 => ?_)
    ·refine wp_skip (then_n (wp_seq (wp_block (rA [(5, .call ⟨34, (c_rbig (IntKind.wrap .u64 (((rsum_l3 xs (lst fun j => rsum_l3_c xs (rsum_l3 xs j))).2) x22)) 4), [], [(0, 4)]⟩)] ⟨rbig_ok _ _ omm, trivial⟩ (fun C => [(0 : Int) ≤ (x22 : Int) ∧ ((x22 : Int) : Int) < 8, ndC C 5, x21.length + (rbig_m (IntKind.wrap .u64 (((rsum_l3 xs (lst fun j => rsum_l3_c xs (rsum_l3 xs j))).2) x22)) 4).length ≤ 9223372036854775807, (x21.length + (rbig_m (IntKind.wrap .u64 (((rsum_l3 xs (lst fun j => rsum_l3_c xs (rsum_l3 xs j))).2) x22)) 4).length) * 1 ≤ 140737488355328]) [2, 5, 21, 22] [2, 5] 6 ⟨by omega, rfl, by simp <;> omega, by simp <;> omega, trivial⟩ hS fun hS => ?_))))
     refine block_n (then_n (rA [(1, .oi ((x22 + 1 : Nat) : Int))] trivial (fun _ => [iadd .i64 (x22 : Int) 1 = ((x22 + 1 : Nat) : Int)]) [2, 5, 21, 22] [2, 5] 6 ⟨by rw [iadd64 omm omm]; omega, trivial⟩ hS fun hS => ?_))
     refine then_n ?_
     exact next_y hg0 hS (s := (x22, x21)) (x22 + 1, x21 ++ (rbig_m (IntKind.wrap .u64 (((rsum_l3 xs (lst fun j => rsum_l3_c xs (rsum_l3 xs j))).2) x22)) 4)) [(2, 2), (3, 5)] (show 8 - (x22 + 1) < 8 - x22 from by omega) ⟨omm, (it_next (F := rsum_l8 xs) (st := rsum_l8_s xs) (fun _ => rfl) hq8 rfl), (by rw [List.length_append, rbig_len]; omega), trivial⟩
    ·have hScur := hS
     obtain rfl : 8 = x22 := by omega
     obtain rfl : rsum_l8 xs 8 = x21 := Eq.symm (congrArg (fun z => z) hq8)
     have hS := hScur
     clear hScur
     refine wp_exit (then_exit (then_exit (block_exit (then_n (s0 [2] [3] 4 hS fun hS => ?_)))))
     refine wp_ret ?_
     have hM : rsum_m xs = rsum_l8 xs 8 := rsum_e xs
     obtain ⟨gs, hS⟩ := hS.rn [(0, 3)] [(2, .sk 0)] [(0, .sl 5 [.int .u8] (rsum_l8 xs 8))] 1 hg0
     exact fin_y rfl (.inr rfl) hS [.sk 0] [(0, some (.sl 5 [.int .u8] (rsum_l8 xs 8)))] rfl (by show H1Ok _ [(0, .sl 5 [.int .u8] (rsum_m xs))] true; rw [hM]; first | (simp only []; exact ⟨rfl, trivial⟩) | exact ⟨rfl, trivial⟩)

@[simp] theorem rsum_len (xs : List Int) : (rsum_m xs).length = 32 := by
 have key : ∀ i, (rsum_l8 xs i).length = 4 * i := by
  intro i
  induction i with
  | zero => rfl
  | succ i ih =>
   show (_ ++ rbig_m _ _).length = _
   rw [List.length_append, rbig_len, ih]; omega
 rw [rsum_e]
 exact key 8
end
end Go.Sx.Tryz
namespace Go.Sx.Tryz
open Go.Mi Go.RowKit Go.Sx Go.Proofs
noncomputable section
@[simp] theorem rfill_len (xs : List Int) (n : Nat) (h : xs.length ≤ n) : (rfill_m xs n).length = n := by
 rw [rfill_e]; unfold rfill_v
 rw [List.length_append, List.length_take, List.length_drop, List.length_replicate]; omega
def c_rcatf (l : List (List Int)) : Con := ⟨[.ls false [.sl (.int .u8)] l], [], lb (rcat_m l), []⟩
theorem rcatf_ok (l : List (List Int)) (hn : l.length ≤ 1000) (hm : ∀ j, (l.getD j (rz [.sl (.int .u8)])).length ≤ 1000) : ConOk Tryz.prog 98 (c_rcatf l) := ConOk.frz [] 0 5 [.int .u8] (rcat_m l) (rcat_ok l hn hm) (by kernel_rfl)
def c_rsumf (xs : List Int) : Con := ⟨[lb xs], [], lb (rsum_m xs), []⟩
theorem rsumf_ok (xs : List Int) (hx : xs.length ≤ 1000000) : ConOk Tryz.prog 99 (c_rsumf xs) := ConOk.frz [] 0 5 [.int .u8] (rsum_m xs) (rsum_ok xs hx) (by kernel_rfl)
def rmac_l1_s (k xs : List Int) (x8 : Nat) : ((List Int) × (List Int)) → ((List Int) × (List Int)) := fun z_ => match z_ with | (x6, x7) => (x6.set x8 (ixor .u8 ((rfill_m k 64).getD x8 0) 54), x7.set x8 (ixor .u8 ((rfill_m k 64).getD x8 0) 92))
def rmac_l1 (k xs : List Int) : Nat → (List Int) × (List Int)
 | 0 => (List.replicate 64 (0 : Int), List.replicate 64 (0 : Int))
 | x8 + 1 => rmac_l1_s k xs x8 (rmac_l1 k xs x8)
def rmac_v (k xs : List Int) : (List Int) := rsum_m (rcat_m [(rmac_l1 k xs 64).2, rsum_m (rcat_m [(rmac_l1 k xs 64).1, xs])])
def rmac_m (k xs : List Int) : (List Int) := shut (rmac_v k xs)
theorem rmac_e (k xs : List Int) : rmac_m k xs = rmac_v k xs := shut_eq _
@[simp] theorem rmac_len (k xs : List Int) : (rmac_m k xs).length = 32 := by rw [rmac_e]; exact rsum_len ..
def c_rmac (k xs : List Int) : Con := ⟨[lb k, lb xs], [], lb (rmac_m k xs), []⟩
theorem rmac_ok (k xs : List Int) (hk : k.length ≤ 64) (hx : xs.length ≤ 900) : ConOk Tryz.prog 66 (c_rmac k xs) := by
 refine conOk_of rfl (nb := 0) Tryz.func66 rfl rfl Tryz.ntmps66 rfl rfl rfl fun g0 w0 ac gs ws hg0 hS => ?_
 have hlen0 : k.length ≤ 9223372036854775807 := hS.len 0 rfl
 have hlen1 : xs.length ≤ 9223372036854775807 := hS.len 1 rfl
 have hS := hS.sp
 have hk1 : ¬ (64 : Int) < ((k.length : Nat) : Int) := omm
 refine s0 [0, 1, 4] [] 0 hS fun hS => ?_
 refine wp_seq (sA [(2, .ob false)] trivial (fun _ => [(decide ((64 : Int) < ((k.length : Nat) : Int))) = false]) [0, 1, 4, 11] [] 0 ⟨decide_eq_false hk1, trivial⟩ hS fun hS => ?_)
 refine cond_f hS ?_
 refine wp_skip (then_n (sA [(1, .call ⟨100, (c_rfill k 64), [], [(0, 0)]⟩)] ⟨rfill_ok _ _ omm, trivial⟩ (fun C => [ndC C 1]) [1, 4, 5] [0] 1 ⟨rfl, trivial⟩ hS fun hS => ?_))
 refine sA [] trivial (fun _ => [(64 : Int) = 64, (0 : Int) ≤ 64, 1 * 64 ≤ 281474976710656, (64 : Int) ≤ 9223372036854775807]) [1, 4, 5, 6] [0, 1] 2 ⟨rfl, by omega, by omega, by omega, trivial⟩ hS fun hS => ?_
 refine sA [] trivial (fun _ => [(64 : Int) = 64, (0 : Int) ≤ 64, 1 * 64 ≤ 281474976710656, (64 : Int) ≤ 9223372036854775807]) [1, 4, 5, 6, 7] [0, 1, 2] 3 ⟨rfl, by omega, by omega, by omega, trivial⟩ hS fun hS => ?_
 refine wp_seq (s0 [1, 4, 5, 6, 7, 8] [0, 1, 2] 3 hS fun hS => ?_)
 refine wp_block (loop_y (ι := Nat × (List Int) × (List Int)) hg0 hS (fun z_ => match z_ with | (x8, x6, x7) => 64 - x8) (fun z_ => match z_ with | (x8, x6, x7) => [(1, lb xs), (4, .v (.slice none 0 0)), (5, .sk 0), (6, .sk 1), (7, .sk 2), (8, vi ((x8 : Nat) : Int))]) (fun z_ => match z_ with | (x8, x6, x7) => [(0, .sl 5 [.int .u8] (rfill_m k 64)), (1, .sl 5 [.int .u8] x6), (2, .sl 5 [.int .u8] x7)]) (fun z_ => match z_ with | (x8, x6, x7) => (x8 ≤ 64) ∧ ((x6, x7) = rmac_l1 k xs x8) ∧ (x6.length = 64 ∧ x7.length = 64) ∧ True) 3 (0, List.replicate 64 (0 : Int), List.replicate 64 (0 : Int)) [(0, 0), (1, 1), (2, 2)] ⟨omm, rfl, (by simp), trivial⟩ ?_)
 rintro ⟨x8, x6, x7⟩ ac gs ws ⟨hx8, hq1, p1, _⟩ hS
 refine wp_seq (s0 [1, 4, 5, 6, 7, 8, 19] [0, 1, 2] 3 hS fun hS => ?_)
 refine if_d ((x8 : Int) < 64) hS (fun h1 => ?_) (fun h1 => ?_)
 ·refine wp_skip (then_n (wp_seq (wp_block (wp_seq ?_))))
  have hfl := rfill_len k 64 hk
  refine rA [] trivial (fun _ => [(0 : Int) ≤ (x8 : Int) ∧ (x8 : Int) < (((rfill_m k 64).length : Nat) : Int), (0 : Int) ≤ (x8 : Int) ∧ (x8 : Int) < ((x6.length : Nat) : Int)]) [1, 4, 5, 6, 7, 8] [0, 1, 2] 3 ⟨by omega, by omega, trivial⟩ hS fun hS => ?_
  refine then_n ?_
  have hfl := rfill_len k 64 hk
  refine rA [] trivial (fun _ => [(0 : Int) ≤ (x8 : Int) ∧ (x8 : Int) < (((rfill_m k 64).length : Nat) : Int), (0 : Int) ≤ (x8 : Int) ∧ (x8 : Int) < ((x7.length : Nat) : Int)]) [1, 4, 5, 6, 7, 8] [0, 1, 2] 3 ⟨by omega, by omega, trivial⟩ hS fun hS => ?_
  refine block_n (then_n (rA [(1, .oi ((x8 + 1 : Nat) : Int))] trivial (fun _ => [iadd .i64 (x8 : Int) 1 = ((x8 + 1 : Nat) : Int)]) [1, 4, 5, 6, 7, 8] [0, 1, 2] 3 ⟨by rw [iadd64 omm omm]; omega, trivial⟩ hS fun hS => ?_))
  refine then_n ?_
  exact next_y hg0 hS (s := (x8, x6, x7)) (x8 + 1, x6.set x8 (ixor .u8 ((rfill_m k 64).getD x8 0) 54), x7.set x8 (ixor .u8 ((rfill_m k 64).getD x8 0) 92)) [(0, 0), (1, 1), (2, 2)] (show 64 - (x8 + 1) < 64 - x8 from by omega) ⟨omm, (it_next (F := rmac_l1 k xs) (st := rmac_l1_s k xs) (fun _ => rfl) hq1 rfl), (by rw [List.length_set, List.length_set]; exact p1), trivial⟩
 ·have hScur := hS
  obtain rfl : 64 = x8 := by omega
  obtain rfl : (rmac_l1 k xs 64).1 = x6 := Eq.symm (congrArg (fun z => z.1) hq1)
  obtain rfl : (rmac_l1 k xs 64).2 = x7 := Eq.symm (congrArg (fun z => z.2) hq1)
  have hS := hScur
  clear hScur
  refine wp_exit (then_exit (then_exit (block_exit (then_n (wp_seq ?_)))))
  obtain ⟨gs, hS⟩ := hS.fz 1
  obtain ⟨gs, hS⟩ := hS.fz 2
  refine rA [(4, .call ⟨98, (c_rcatf [(rmac_l1 k xs 64).1, xs]), [], []⟩), (5, .call ⟨99, (c_rsumf (rcat_m [(rmac_l1 k xs 64).1, xs])), [], []⟩), (7, .call ⟨98, (c_rcatf [(rmac_l1 k xs 64).2, rsum_m (rcat_m [(rmac_l1 k xs 64).1, xs])]), [], []⟩), (8, .call ⟨99, (c_rsumf (rcat_m [(rmac_l1 k xs 64).2, rsum_m (rcat_m [(rmac_l1 k xs 64).1, xs])])), [], []⟩)] ⟨rcatf_ok _ lnn (fm_getD (by repeat (first | exact fm_nil | (apply fm_cons; focus (first | omega | (simp <;> omega)))))), rsumf_ok _ lnn, rcatf_ok _ lnn (fm_getD (by repeat (first | exact fm_nil | (apply fm_cons; focus (first | omega | (simp <;> omega)))))), rsumf_ok _ lnn, trivial⟩ (fun C => [ndC C 4, ndC C 5, ndC C 7, ndC C 8]) [4] [] 3 ⟨rfl, rfl, rfl, rfl, trivial⟩ hS fun hS => ?_
  refine then_n (wp_ret ?_)
  have hM : rmac_m k xs = rsum_m (rcat_m [(rmac_l1 k xs 64).2, rsum_m (rcat_m [(rmac_l1 k xs 64).1, xs])]) := rmac_e k xs
  exact fin_y rfl (.inr rfl) hS [lb (rsum_m (rcat_m [(rmac_l1 k xs 64).2, rsum_m (rcat_m [(rmac_l1 k xs 64).1, xs])]))] [] (by show weak _ (lb (rmac_m k xs)) = (lb (rmac_m k xs)); rw [hM]; first | (simp only []; rfl) | (simp only []; done) | rfl) trivial

def rexp_l1_s (k xs : List Int) (k1 : Nat) : (Nat × (List Int) × (List Int)) → (Nat × (List Int) × (List Int)) := fun z_ => match z_ with | (x9, x7, x8) => (x9 + 1, x7 ++ (rmac_m k (rcat_m [x8, xs, [(IntKind.wrap .u8 ((x9 : Nat) : Int))]])), rmac_m k (rcat_m [x8, xs, [(IntKind.wrap .u8 ((x9 : Nat) : Int))]]))
def rexp_l1 (k xs : List Int) : Nat → Nat × (List Int) × (List Int)
 | 0 => (1, [], [])
 | k1 + 1 => rexp_l1_s k xs k1 (rexp_l1 k xs k1)
def rexp_l1_c (k xs : List Int) : (Nat × (List Int) × (List Int)) → Prop := fun z_ => match z_ with | (x9, x7, x8) => ((x7.length : Nat) : Int) < 128
def rexp_v (k xs : List Int) : (List Int) := ((rexp_l1 k xs (lst fun j => rexp_l1_c k xs (rexp_l1 k xs j))).2.1).take 128
def rexp_m (k xs : List Int) : (List Int) := shut (rexp_v k xs)
theorem rexp_e (k xs : List Int) : rexp_m k xs = rexp_v k xs := shut_eq _
def c_rexp (k xs : List Int) : Con := ⟨[lb k, lb xs, vi 128], [], lb (rexp_m k xs), []⟩
theorem rexp_ok (k xs : List Int) (hk : k.length ≤ 64) (hx : xs.length ≤ 100) : ConOk Tryz.prog 65 (c_rexp k xs) := by
 refine conOk_of rfl (nb := 0) Tryz.func65 rfl rfl Tryz.ntmps65 rfl rfl rfl fun g0 w0 ac gs ws hg0 hS => ?_
 have hlen0 : k.length ≤ 9223372036854775807 := hS.len 0 rfl
 have hlen1 : xs.length ≤ 9223372036854775807 := hS.len 1 rfl
 have hS := hS.sp
 refine s0 [0, 1, 2, 6] [] 0 hS fun hS => ?_
 refine wp_seq (s0 [0, 1, 2, 6, 15] [] 0 hS fun hS => ?_)
 refine cond_f hS ?_
 refine wp_skip (then_n (s0 [0, 1, 2, 6, 7, 8] [] 0 hS fun hS => ?_))
 refine wp_seq (s0 [0, 1, 2, 6, 7, 8, 9] [] 0 hS fun hS => ?_)
 refine wp_block ?_
 obtain ⟨gs, hS⟩ := hS.nilk 7 5 [.int .u8]
 have hS := hS.wk 8 (lb [])
 refine loop_y (ι := Nat × Nat × (List Int) × (List Int)) hg0 hS (fun z_ => match z_ with | (k1, x9, x7, x8) => 128 - x7.length) (fun z_ => match z_ with | (k1, x9, x7, x8) => [(0, lb k), (1, lb xs), (2, vi 128), (6, .v (.slice none 0 0)), (7, .sk 0), (8, lb x8), (9, vi ((x9 : Nat) : Int))]) (fun z_ => match z_ with | (k1, x9, x7, x8) => [(0, .sl 5 [.int .u8] x7)]) (fun z_ => match z_ with | (k1, x9, x7, x8) => ((x9, x7, x8) = rexp_l1 k xs k1) ∧ (∀ j, j < k1 → rexp_l1_c k xs (rexp_l1 k xs j)) ∧ (x7.length ≤ 160 ∧ x8.length ≤ 32 ∧ x9 ≤ 1 + x7.length) ∧ True) 1 (0, 1, [], []) [(0, 0)] ⟨rfl, (fun j h => absurd h (Nat.not_lt_zero j)), (by simp), trivial⟩ ?_
 rintro ⟨k1, x9, x7, x8⟩ ac gs ws ⟨hq1, hj1, p5, _⟩ hS
 refine wp_seq (s0 [0, 1, 2, 6, 7, 8, 9, 19] [0] 1 hS fun hS => ?_)
 refine if_d (((x7.length : Nat) : Int) < 128) hS (fun h1 => ?_) (fun h1 => ?_)
 ·refine wp_skip (then_n (wp_seq (wp_block (sA [(7, .call ⟨98, (c_rcatf [x8, xs, [(IntKind.wrap .u8 (x9 : Int))]]), [], []⟩), (8, .call ⟨66, (c_rmac k (rcat_m [x8, xs, [(IntKind.wrap .u8 (x9 : Int))]])), [], []⟩)] ⟨rcatf_ok _ lnn (fm_getD (by repeat (first | exact fm_nil | (apply fm_cons; focus (first | omega | (simp <;> omega)))))), rmac_ok _ _ lnn lnn, trivial⟩ (fun C => [ndC C 7, ndC C 8]) [0, 1, 2, 6, 7, 8, 9] [0] 1 ⟨rfl, rfl, trivial⟩ hS fun hS => ?_))))
  refine rA [] trivial (fun _ => [x7.length + (rmac_m k (rcat_m [x8, xs, [(IntKind.wrap .u8 (x9 : Int))]])).length ≤ 9223372036854775807, (x7.length + (rmac_m k (rcat_m [x8, xs, [(IntKind.wrap .u8 (x9 : Int))]])).length) * 1 ≤ 140737488355328]) [0, 1, 2, 6, 7, 8, 9] [1] 2 ⟨by simp <;> omega, by simp <;> omega, trivial⟩ hS fun hS => ?_
  refine block_n (then_n (rA [(1, .oi ((x9 + 1 : Nat) : Int))] trivial (fun _ => [iadd .i64 (x9 : Int) 1 = ((x9 + 1 : Nat) : Int)]) [0, 1, 2, 6, 7, 8, 9] [1] 2 ⟨by rw [iadd64 omm omm]; omega, trivial⟩ hS fun hS => ?_))
  refine then_n ?_
  exact next_y hg0 hS (s := (k1, x9, x7, x8)) (k1 + 1, x9 + 1, x7 ++ (rmac_m k (rcat_m [x8, xs, [(IntKind.wrap .u8 (x9 : Int))]])), rmac_m k (rcat_m [x8, xs, [(IntKind.wrap .u8 (x9 : Int))]])) [(0, 1)] (by show 128 - (x7 ++ _).length < 128 - x7.length; rw [List.length_append, rmac_len]; omega) ⟨(it_next (F := rexp_l1 k xs) (st := rexp_l1_s k xs) (fun _ => rfl) hq1 rfl), (lst_next hj1 (by rw [← hq1]; exact h1)), (by rw [List.length_append, rmac_len]; omega), trivial⟩
 ·have hScur := hS
  obtain rfl := lst_eq (P := fun j => rexp_l1_c k xs (rexp_l1 k xs j)) (by rw [← hq1]; first | exact h1 | exact not_not_intro h1) hj1
  obtain rfl : (rexp_l1 k xs (lst fun j => rexp_l1_c k xs (rexp_l1 k xs j))).1 = x9 := Eq.symm (congrArg (fun z => z.1) hq1)
  obtain rfl : (rexp_l1 k xs (lst fun j => rexp_l1_c k xs (rexp_l1 k xs j))).2.1 = x7 := Eq.symm (congrArg (fun z => z.2.1) hq1)
  obtain rfl : (rexp_l1 k xs (lst fun j => rexp_l1_c k xs (rexp_l1 k xs j))).2.2 = x8 := Eq.symm (congrArg (fun z => z.2.2) hq1)
  have hS := hScur
  clear hScur
  refine wp_exit (then_exit (then_exit (block_exit (then_n (wp_seq ?_)))))
  obtain ⟨gs, hS⟩ := hS.fz 0
  refine rA [] trivial (fun _ => [bndP none (some 128) none ((rexp_l1 k xs (lst fun j => rexp_l1_c k xs (rexp_l1 k xs j))).2.1).length ((rexp_l1 k xs (lst fun j => rexp_l1_c k xs (rexp_l1 k xs j))).2.1).length]) [6] [] 1 ⟨⟨by simp only [nnI] <;> omega, by simp only [nnI] <;> omega, by simp only [nnI] <;> omega, by simp, by simp only [bl] <;> omega, by simp only [bl] <;> omega, by simp only [bl] <;> omega⟩, trivial⟩ hS fun hS => ?_
  refine then_n (wp_ret ?_)
  have hM : rexp_m k xs = ((rexp_l1 k xs (lst fun j => rexp_l1_c k xs (rexp_l1 k xs j))).2.1).take 128 := rexp_e k xs
  exact fin_y rfl (.inr rfl) hS [lb (((rexp_l1 k xs (lst fun j => rexp_l1_c k xs (rexp_l1 k xs j))).2.1).take 128)] [] (by show weak _ (lb (rexp_m k xs)) = (lb (rexp_m k xs)); rw [hM]; first | (simp only []; rfl) | (simp only []; done) | rfl) trivial

def rder_v (k xs : List Int) : (List Int) := rexp_m (rmac_m ([] : List Int) k) xs
def rder_m (k xs : List Int) : (List Int) := shut (rder_v k xs)
theorem rder_e (k xs : List Int) : rder_m k xs = rder_v k xs := shut_eq _
def c_rder (k xs : List Int) : Con := ⟨[.v (.slice none 0 0), lb k, lb xs, vi 128], [], lb (rder_m k xs), []⟩
theorem rder_ok (k xs : List Int) (hk : k.length ≤ 900) (hx : xs.length ≤ 100) : ConOk Tryz.prog 33 (c_rder k xs) := by
 refine conOk_of rfl (nb := 0) Tryz.func33 rfl rfl Tryz.ntmps33 rfl rfl rfl fun g0 w0 ac gs ws hg0 hS => ?_
 have hlen1 : k.length ≤ 9223372036854775807 := hS.len 1 rfl
 have hlen2 : xs.length ≤ 9223372036854775807 := hS.len 2 rfl
 have hS := hS.sp
 refine s0 [0, 1, 2, 3, 8] [] 0 hS fun hS => ?_
 refine sA [(2, .call ⟨66, (c_rmac [] k), [], []⟩), (5, .call ⟨65, (c_rexp (rmac_m ([] : List Int) k) xs), [], []⟩)] ⟨rmac_ok _ _ lnn lnn, rexp_ok _ _ lnn lnn, trivial⟩ (fun C => [ndC C 2, ndC C 5]) [8] [] 0 ⟨rfl, rfl, trivial⟩ hS fun hS => ?_
 refine wp_ret ?_
 have hM : rder_m k xs = rexp_m (rmac_m ([] : List Int) k) xs := rder_e k xs
 exact fin_y rfl (.inr rfl) hS [lb (rexp_m (rmac_m ([] : List Int) k) xs)] [] (by show weak _ (lb (rder_m k xs)) = (lb (rder_m k xs)); rw [hM]; first | (simp only []; rfl) | (simp only []; done) | rfl) trivial

end
end Go.Sx.Tryz
namespace Go.Sx.Tryz
open Go.Mi Go.RowKit Go.Sx Go.Proofs
noncomputable section
theorem rexp_len (k xs : List Int) : (rexp_m k xs).length = 128 := by
 have key : ∀ j, (rexp_l1 k xs j).2.1.length = 32 * j := by
  intro j
  induction j with
  | zero => rfl
  | succ j ih =>
   show (rexp_l1_s k xs j (rexp_l1 k xs j)).2.1.length = _
   generalize rexp_l1 k xs j = z at ih ⊢
   obtain ⟨a, b, c⟩ := z
   show (b ++ rmac_m _ _).length = _
   rw [List.length_append, rmac_len]
   have ih : b.length = 32 * j := ih
   omega
 have hc : ∀ j, rexp_l1_c k xs (rexp_l1 k xs j) ↔ 32 * j < 128 := by
  intro j
  have hj := key j
  generalize rexp_l1 k xs j = z at hj ⊢
  obtain ⟨a, b, c⟩ := z
  show ((b.length : Nat) : Int) < 128 ↔ _
  have hj : b.length = 32 * j := hj
  omega
 have hl : 4 = lst fun j => rexp_l1_c k xs (rexp_l1 k xs j) := lst_eq (P := fun j => rexp_l1_c k xs (rexp_l1 k xs j)) (fun h => absurd ((hc 4).1 h) (by decide)) (fun j hj => (hc j).2 omm)
 rw [rexp_e]; unfold rexp_v
 rw [← hl, List.length_take, key]; rfl
@[simp] theorem rder_len (k xs : List Int) : (rder_m k xs).length = 128 := by rw [rder_e]; exact rexp_len ..
def c_rbigf (v : Int) (n : Nat) : Con := ⟨[.v (.int .u64 v), vi (n : Int)], [], lb (rbig_m v n), []⟩
theorem rbigf_ok (v : Int) (n : Nat) (hn : n ≤ 1000) : ConOk Tryz.prog 34 (c_rbigf v n) := ConOk.frz [] 0 5 [.int .u8] (rbig_m v n) (rbig_ok v n hn) (by kernel_rfl)
def draw_v (n : Int) : (List Int) := rder_m [100, 114, 97, 119] (rbig_m (IntKind.wrap .u64 n) 8)
def draw_m (n : Int) : (List Int) := shut (draw_v n)
theorem draw_e (n : Int) : draw_m n = draw_v n := shut_eq _
@[simp] theorem draw_len (n : Int) : (draw_m n).length = 128 := by rw [draw_e]; exact rder_len ..
def c_draw (n : Int) : Con := ⟨[vi n], [], lb (draw_m n), []⟩
theorem draw_ok (n : Int) : ConOk Tryz.prog 15 (c_draw n) := by
 refine conOk_of rfl (nb := 0) Tryz.func15 rfl rfl Tryz.ntmps15 rfl rfl rfl fun g0 w0 ac gs ws hg0 hS => ?_
 have hS := hS.sp
 refine s0 [0, 2] [] 0 hS fun hS => ?_
 refine sA [(0, .own), (4, .call ⟨34, (c_rbigf (IntKind.wrap .u64 n) 8), [], []⟩), (5, .call ⟨33, (c_rder [100, 114, 97, 119] (rbig_m (IntKind.wrap .u64 n) 8)), [], []⟩)] ⟨rbigf_ok _ _ omm, rder_ok _ _ lnn lnn, trivial⟩ (fun C => [0 < [100, 114, 97, 119].length, ndC C 4, ndC C 5]) [2] [] 1 ⟨by decide, rfl, rfl, trivial⟩ hS fun hS => ?_
 refine wp_ret ?_
 have hM : draw_m n = rder_m [100, 114, 97, 119] (rbig_m (IntKind.wrap .u64 n) 8) := draw_e n
 exact fin_y rfl (.inr rfl) hS [lb (rder_m [100, 114, 97, 119] (rbig_m (IntKind.wrap .u64 n) 8))] [] (by show weak _ (lb (draw_m n)) = (lb (draw_m n)); rw [hM]; first | (simp only []; rfl) | (simp only []; done) | rfl) trivial

end
end Go.Sx.Tryz
namespace Go.Sx.Tryz
open Go.Mi Go.RowKit Go.Sx Go.Proofs
noncomputable section
def c_ints (xs ys : List Int) : Con := ⟨[.ls false [.int .i64] xs, .ls false [.int .i64] ys], [], .v (.bool (decide (xs = ys))), []⟩
theorem ints_ok (xs ys : List Int) : ConOk Tryz.prog 31 (c_ints xs ys) := by
 refine conOk_of rfl (nb := 0) Tryz.func31 rfl rfl Tryz.ntmps31 rfl rfl rfl fun g0 w0 ac gs ws hg0 hS => ?_
 have hlen0 : xs.length ≤ 9223372036854775807 := hS.len 0 rfl
 have hlen1 : ys.length ≤ 9223372036854775807 := hS.len 1 rfl
 have hS := hS.sp
 refine s0 [0, 1, 4] [] 0 hS fun hS => ?_
 refine wp_seq (s0 [0, 1, 4, 10] [] 0 hS fun hS => ?_)
 refine if_n (((xs.length : Nat) : Int) = ((ys.length : Nat) : Int)) hS (fun h1 => ?_) (fun h1 => ?_)
 ·refine s0 [0, 1, 4] [] 0 hS fun hS => ?_
  refine wp_ret (then_ret ?_)
  exact fin_y rfl (.inr rfl) hS [.v (.bool false)] [] (by show weak _ (.v (.bool (decide (xs = ys)))) = .v (.bool (decide (xs = ys))); rw [eq_no1 h1]; rfl) trivial
 ·refine wp_skip (then_n (wp_seq (s0 [0, 1, 4, 5] [] 0 hS fun hS => ?_)))
  refine wp_block (loop_y (ι := Nat) hg0 hS (fun i => xs.length - i) (fun i => [(0, .ls false [.int .i64] xs), (1, .ls false [.int .i64] ys), (5, vi ((i : Nat) : Int))]) (fun i => []) (fun i => (i ≤ xs.length) ∧ (∀ j, j < i → xs.getD j 0 = ys.getD j 0) ∧ True) 0 0 [] ⟨omm, (fun j h => absurd h (Nat.not_lt_zero j)), trivial⟩ ?_)
  rintro i ac gs ws ⟨hi, pm, _⟩ hS
  refine wp_seq (s0 [0, 1, 5, 14] [] 0 hS fun hS => ?_)
  refine if_d ((i : Int) < ((xs.length : Nat) : Int)) hS (fun h2 => ?_) (fun h2 => ?_)
  ·refine wp_skip (then_n (wp_seq (wp_block (sA [] trivial (fun _ => [(0 : Int) ≤ (i : Int) ∧ (i : Int) < ((xs.length : Nat) : Int), (0 : Int) ≤ (i : Int) ∧ (i : Int) < ((ys.length : Nat) : Int)]) [0, 1, 5, 25] [] 0 ⟨by omega, by omega, trivial⟩ hS fun hS => ?_))))
   refine if_n ((xs.getD i 0) = (ys.getD i 0)) hS (fun h3 => ?_) (fun h3 => ?_)
   ·refine s0 [0, 1, 4, 5] [] 0 hS fun hS => ?_
    refine wp_ret (block_ret (then_ret (then_ret (block_ret (then_ret ?_)))))
    exact fin_y rfl (.inr rfl) hS [.v (.bool false)] [] (by show weak _ (.v (.bool (decide (xs = ys)))) = .v (.bool (decide (xs = ys))); rw [eq_no2 h3]; rfl) trivial
   ·refine wp_skip (block_n (then_n (rA [(1, .oi ((i + 1 : Nat) : Int))] trivial (fun _ => [iadd .i64 (i : Int) 1 = ((i + 1 : Nat) : Int)]) [0, 1, 5] [] 0 ⟨by rw [iadd64 omm omm]; omega, trivial⟩ hS fun hS => ?_)))
    refine then_n ?_
    exact next_y hg0 hS (s := (i)) (i + 1) [] (show xs.length - (i + 1) < xs.length - i from by omega) ⟨omm, (lst_next pm asm), trivial⟩
  ·have hScur := hS
   obtain rfl : xs.length = i := by omega
   have hS := hScur
   clear hScur
   refine wp_exit (then_exit (then_exit (block_exit (then_n (s0 [4] [] 0 hS fun hS => ?_)))))
   refine wp_ret ?_
   exact fin_y rfl (.inr rfl) hS [.v (.bool true)] [] (by show weak _ (.v (.bool (decide (xs = ys)))) = .v (.bool (decide (xs = ys))); rw [eq_yes h1 pm]; rfl) trivial

def wrec_l1_s (a b : Nat) (wk : List Int) (i x8 : Nat) : (Bool × (List Int)) → (Bool × (List Int)) := fun z_ => match z_ with | (x7, x6) => if (wk.getD x8 0) = (i : Int) then (true, x6) else (x7, x6 ++ [(wk.getD x8 0)])
def wrec_l1 (a b : Nat) (wk : List Int) (i : Nat) : Nat → Bool × (List Int)
 | 0 => (false, [])
 | x8 + 1 => wrec_l1_s a b wk i x8 (wrec_l1 a b wk i x8)
def wrec_l2_s (a b : Nat) (wk : List Int) (i k2 : Nat) : (Nat × (List Int)) → (Nat × (List Int)) := fun z_ => match z_ with | (x10, o3) => (x10 + 1, o3 ++ [((x10 : Nat) : Int)])
def wrec_l2 (a b : Nat) (wk : List Int) (i : Nat) : Nat → Nat × (List Int)
 | 0 => (b, [] ++ wk)
 | k2 + 1 => wrec_l2_s a b wk i k2 (wrec_l2 a b wk i k2)
def wrec_l2_c (a b : Nat) (wk : List Int) (i : Nat) : (Nat × (List Int)) → Prop := fun z_ => match z_ with | (x10, o3) => ((x10 : Nat) : Int) < (i : Int)
def wrec_v (a b : Nat) (wk : List Int) (i : Nat) : Nat × (List Int) × Nat := if (i : Int) < (b : Int) then (if (!((wrec_l1 a b wk i wk.length).1)) = true then (b, wk, 5) else (b, (wrec_l1 a b wk i wk.length).2, 0)) else (if (40 : Int) < ((i - b : Nat) : Int) then (b, wk, 6) else (if (60 : Int) < ((((wrec_l2 a b wk i (lst fun j => wrec_l2_c a b wk i (wrec_l2 a b wk i j))).2).length : Nat) : Int) then ((i + 1), ((wrec_l2 a b wk i (lst fun j => wrec_l2_c a b wk i (wrec_l2 a b wk i j))).2).drop ((((wrec_l2 a b wk i (lst fun j => wrec_l2_c a b wk i (wrec_l2 a b wk i j))).2).length) - 60), 0) else ((i + 1), (wrec_l2 a b wk i (lst fun j => wrec_l2_c a b wk i (wrec_l2 a b wk i j))).2, 0)))
def wrec_m (a b : Nat) (wk : List Int) (i : Nat) : Nat × (List Int) × Nat := shut (wrec_v a b wk i)
theorem wrec_e (a b : Nat) (wk : List Int) (i : Nat) : wrec_m a b wk i = wrec_v a b wk i := shut_eq _
def c_wrec (a b : Nat) (wk : List Int) (i : Nat) : Con := ⟨[.ag (chain [vi (a : Int), vi (b : Int), .ls false [.int .i64] wk]), vi (i : Int)], [], .tu (chain [.ag (chain [vi (a : Int), vi (((wrec_m a b wk i).1 : Nat) : Int), .ls false [.int .i64] ((wrec_m a b wk i).2.1)]), vi (((wrec_m a b wk i).2.2 : Nat) : Int)]), []⟩
theorem wrec_ok (a b : Nat) (wk : List Int) (i : Nat) (hk : wk.length ≤ 1000) (hi : i ≤ 1000000 ∧ b ≤ 1000000) : ConOk Tryz.prog 35 (c_wrec a b wk i) := by
 refine conOk_of rfl (nb := 0) Tryz.func35 rfl rfl Tryz.ntmps35 rfl rfl rfl fun g0 w0 ac gs ws hg0 hS => ?_
 have hS := hS.sp
 refine s0 [1, 2, 4, 5] [0, 1] 2 hS fun hS => ?_
 refine wp_seq (s0 [1, 2, 4, 5, 14] [0, 1] 2 hS fun hS => ?_)
 refine if_d ((i : Int) < (b : Int)) hS (fun h1 => ?_) (fun h1 => ?_)
 ·refine s0 [1, 2, 4, 5, 6] [0, 1] 2 hS fun hS => ?_
  refine s0 [1, 2, 4, 5, 6, 7] [0, 1] 2 hS fun hS => ?_
  refine wp_seq (s0 [1, 2, 4, 5, 6, 7, 8] [0, 1] 2 hS fun hS => ?_)
  refine wp_block ?_
  obtain ⟨gs, hS⟩ := hS.nilk 6 3 [.int .i64]
  refine loop_y (ι := Nat × Bool × (List Int)) hg0 hS (fun z_ => match z_ with | (x8, x7, x6) => wk.length - x8) (fun z_ => match z_ with | (x8, x7, x6) => [(1, vi (i : Int)), (2, .cp 0 0), (4, .cp 1 0), (5, vi 0), (6, .sk 2), (7, .v (.bool x7)), (8, vi ((x8 : Nat) : Int))]) (fun z_ => match z_ with | (x8, x7, x6) => [(0, .ob 35 (chain [vi (a : Int), vi (b : Int), .ls false [.int .i64] wk])), (1, .ob 35 (chain [vi 0, vi 0, .v (.slice none 0 0)])), (2, .sl 3 [.int .i64] x6)]) (fun z_ => match z_ with | (x8, x7, x6) => (x8 ≤ wk.length) ∧ ((x7, x6) = wrec_l1 a b wk i x8) ∧ (x6.length ≤ x8) ∧ True) 3 (0, false, []) [(0, 0), (1, 1), (2, 2)] ⟨omm, rfl, (by simp), trivial⟩ ?_
  rintro ⟨x8, x7, x6⟩ ac gs ws ⟨hx8, hq1, p1, _⟩ hS
  refine wp_seq (s0 [1, 2, 4, 5, 6, 7, 8, 19] [0, 1, 2] 3 hS fun hS => ?_)
  refine if_d ((x8 : Int) < ((wk.length : Nat) : Int)) hS (fun h2 => ?_) (fun h2 => ?_)
  ·refine wp_skip (then_n (wp_seq (wp_block (sA [] trivial (fun _ => [(0 : Int) ≤ (x8 : Int) ∧ (x8 : Int) < ((wk.length : Nat) : Int)]) [1, 2, 4, 5, 6, 7, 8, 28] [0, 1, 2] 3 ⟨by omega, trivial⟩ hS fun hS => ?_))))
   refine if_d ((wk.getD x8 0) = (i : Int)) hS (fun h3 => ?_) (fun h3 => ?_)
   ·refine r0 [1, 2, 4, 5, 6, 7, 8] [0, 1, 2] 3 hS fun hS => ?_
    refine block_n (then_n (rA [(1, .oi ((x8 + 1 : Nat) : Int))] trivial (fun _ => [iadd .i64 (x8 : Int) 1 = ((x8 + 1 : Nat) : Int)]) [1, 2, 4, 5, 6, 7, 8] [0, 1, 2] 3 ⟨by rw [iadd64 omm omm]; omega, trivial⟩ hS fun hS => ?_))
    refine then_n ?_
    exact next_y hg0 hS (s := (x8, x7, x6)) (x8 + 1, true, x6) [(0, 0), (1, 1), (2, 2)] (show wk.length - (x8 + 1) < wk.length - x8 from by omega) ⟨omm, (it_next (F := wrec_l1 a b wk i) (st := wrec_l1_s a b wk i) (fun _ => rfl) hq1 (Eq.symm (if_pos h3))), (by first | omega | (rw [List.length_append, List.length_cons, List.length_nil]; omega)), trivial⟩
   ·refine rA [] trivial (fun _ => [(0 : Int) ≤ (x8 : Int) ∧ (x8 : Int) < ((wk.length : Nat) : Int), x6.length + [(wk.getD x8 0)].length ≤ 9223372036854775807, (x6.length + [(wk.getD x8 0)].length) * 8 ≤ 140737488355328]) [1, 2, 4, 5, 6, 7, 8] [0, 1, 3] 4 ⟨by omega, by simp <;> omega, by simp <;> omega, trivial⟩ hS fun hS => ?_
    refine block_n (then_n (rA [(1, .oi ((x8 + 1 : Nat) : Int))] trivial (fun _ => [iadd .i64 (x8 : Int) 1 = ((x8 + 1 : Nat) : Int)]) [1, 2, 4, 5, 6, 7, 8] [0, 1, 3] 4 ⟨by rw [iadd64 omm omm]; omega, trivial⟩ hS fun hS => ?_))
    refine then_n ?_
    exact next_y hg0 hS (s := (x8, x7, x6)) (x8 + 1, x7, x6 ++ [(wk.getD x8 0)]) [(0, 0), (1, 1), (2, 3)] (show wk.length - (x8 + 1) < wk.length - x8 from by omega) ⟨omm, (it_next (F := wrec_l1 a b wk i) (st := wrec_l1_s a b wk i) (fun _ => rfl) hq1 (Eq.symm (if_neg h3))), (by first | omega | (rw [List.length_append, List.length_cons, List.length_nil]; omega)), trivial⟩
  ·have hScur := hS
   obtain rfl : wk.length = x8 := by omega
   obtain rfl : (wrec_l1 a b wk i wk.length).1 = x7 := Eq.symm (congrArg (fun z => z.1) hq1)
   obtain rfl : (wrec_l1 a b wk i wk.length).2 = x6 := Eq.symm (congrArg (fun z => z.2) hq1)
   have hS := hScur
   clear hScur
   refine wp_exit (then_exit (then_exit (block_exit (then_n (wp_seq (s0 [1, 2, 4, 5, 6, 38] [0, 1, 2] 3 hS fun hS => ?_))))))
   refine if_y (!((wrec_l1 a b wk i wk.length).1)) hS (fun h4 => ?_) (fun h4 => ?_)
   ·refine s0 [1, 2, 4, 5, 6] [0, 1, 2] 3 hS fun hS => ?_
    refine wp_ret (then_ret (then_ret ?_))
    have hM : wrec_m a b wk i = (b, wk, 5) := (wrec_e a b wk i).trans ((if_pos h1).trans (if_pos h4))
    exact fin_y rfl (.inr rfl) hS [.ag (chain [vi (a : Int), vi (b : Int), .ls false [.int .i64] wk]), vi 5] [] (by show weak _ (.tu (chain [.ag (chain [vi (a : Int), vi (((wrec_m a b wk i).1 : Nat) : Int), .ls false [.int .i64] ((wrec_m a b wk i).2.1)]), vi (((wrec_m a b wk i).2.2 : Nat) : Int)])) = (.tu (chain [.ag (chain [vi (a : Int), vi (((wrec_m a b wk i).1 : Nat) : Int), .ls false [.int .i64] ((wrec_m a b wk i).2.1)]), vi (((wrec_m a b wk i).2.2 : Nat) : Int)])); rw [hM]; first | (simp only []; rfl) | (simp only []; done) | rfl) trivial
   ·refine wp_skip (then_n (s0 [1, 2, 4, 5] [0, 1, 2] 3 hS fun hS => ?_))
    refine wp_ret (then_ret ?_)
    have hM : wrec_m a b wk i = (b, (wrec_l1 a b wk i wk.length).2, 0) := (wrec_e a b wk i).trans ((if_pos h1).trans (if_neg (bne_t h4)))
    obtain ⟨gs, hS⟩ := hS.fz 2
    exact fin_y rfl (.inr rfl) hS [.ag (chain [vi (a : Int), vi (b : Int), .ls false [.int .i64] ((wrec_l1 a b wk i wk.length).2)]), vi 0] [] (by show weak _ (.tu (chain [.ag (chain [vi (a : Int), vi (((wrec_m a b wk i).1 : Nat) : Int), .ls false [.int .i64] ((wrec_m a b wk i).2.1)]), vi (((wrec_m a b wk i).2.2 : Nat) : Int)])) = (.tu (chain [.ag (chain [vi (a : Int), vi (((wrec_m a b wk i).1 : Nat) : Int), .ls false [.int .i64] ((wrec_m a b wk i).2.1)]), vi (((wrec_m a b wk i).2.2 : Nat) : Int)])); rw [hM]; first | (simp only []; rfl) | (simp only []; done) | rfl) trivial
 ·refine wp_skip (then_n (wp_seq (sA [(3, .oi ((i - b : Nat) : Int))] trivial (fun _ => [isub .i64 (i : Int) (b : Int) = ((i - b : Nat) : Int)]) [1, 2, 4, 5, 50] [0, 1] 2 ⟨by rw [isub64 omm omm]; omega, trivial⟩ hS fun hS => ?_)))
  refine if_d ((40 : Int) < ((i - b : Nat) : Int)) hS (fun h5 => ?_) (fun h5 => ?_)
  ·refine s0 [1, 2, 4, 5] [0, 1] 2 hS fun hS => ?_
   refine wp_ret (then_ret ?_)
   have hM : wrec_m a b wk i = (b, wk, 6) := (wrec_e a b wk i).trans ((if_neg h1).trans (if_pos h5))
   exact fin_y rfl (.inr rfl) hS [.ag (chain [vi (a : Int), vi (b : Int), .ls false [.int .i64] wk]), vi 6] [] (by show weak _ (.tu (chain [.ag (chain [vi (a : Int), vi (((wrec_m a b wk i).1 : Nat) : Int), .ls false [.int .i64] ((wrec_m a b wk i).2.1)]), vi (((wrec_m a b wk i).2.2 : Nat) : Int)])) = (.tu (chain [.ag (chain [vi (a : Int), vi (((wrec_m a b wk i).1 : Nat) : Int), .ls false [.int .i64] ((wrec_m a b wk i).2.1)]), vi (((wrec_m a b wk i).2.2 : Nat) : Int)])); rw [hM]; first | (simp only []; rfl) | (simp only []; done) | rfl) trivial
  ·refine wp_skip (then_n (sA [(3, .oi ((i + 1 : Nat) : Int)), (4, .own)] trivial (fun _ => [iadd .i64 (i : Int) 1 = ((i + 1 : Nat) : Int), ([] : List (RT [.int .i64])).length + wk.length ≤ 9223372036854775807, (([] : List (RT [.int .i64])).length + wk.length) * 8 ≤ 140737488355328]) [1, 2, 4, 5, 9] [0, 1, 3, 4] 5 ⟨by rw [iadd64 omm omm]; omega, by simp <;> omega, by simp <;> omega, trivial⟩ hS fun hS => ?_))
   refine wp_seq (s0 [1, 4, 5, 9, 10] [1, 3, 4] 5 hS fun hS => ?_)
   refine wp_block (loop_y (ι := Nat × Nat × (List Int)) hg0 hS (fun z_ => match z_ with | (k2, x10, o3) => i - x10) (fun z_ => match z_ with | (k2, x10, o3) => [(1, vi (i : Int)), (4, .cp 1 0), (5, vi 0), (9, .cp 4 0), (10, vi ((x10 : Nat) : Int))]) (fun z_ => match z_ with | (k2, x10, o3) => [(1, .ob 35 (chain [vi 0, vi 0, .v (.slice none 0 0)])), (3, .sl 3 [.int .i64] o3), (4, .ob 35 (chain [vi (a : Int), vi ((i + 1 : Nat) : Int), .sk 3]))]) (fun z_ => match z_ with | (k2, x10, o3) => ((x10, o3) = wrec_l2 a b wk i k2) ∧ (∀ j, j < k2 → wrec_l2_c a b wk i (wrec_l2 a b wk i j)) ∧ (b ≤ x10 ∧ x10 ≤ i ∧ i ≤ b + 40 ∧ o3.length + b = wk.length + x10) ∧ True) 5 (0, b, [] ++ wk) [(1, 1), (3, 3), (4, 4)] ⟨rfl, (fun j h => absurd h (Nat.not_lt_zero j)), (by simp; omega), trivial⟩ ?_)
   rintro ⟨k2, x10, o3⟩ ac gs ws ⟨hq2, hj2, p2, _⟩ hS
   refine wp_seq (s0 [1, 4, 5, 9, 10, 65] [1, 3, 4] 5 hS fun hS => ?_)
   refine if_d ((x10 : Int) < (i : Int)) hS (fun h6 => ?_) (fun h6 => ?_)
   ·refine wp_skip (then_n (wp_seq (wp_block (rA [] trivial (fun _ => [o3.length + [(x10 : Int)].length ≤ 9223372036854775807, (o3.length + [(x10 : Int)].length) * 8 ≤ 140737488355328]) [1, 4, 5, 9, 10] [1, 4, 5] 6 ⟨by simp <;> omega, by simp <;> omega, trivial⟩ hS fun hS => ?_))))
    refine block_n (then_n (rA [(1, .oi ((x10 + 1 : Nat) : Int))] trivial (fun _ => [iadd .i64 (x10 : Int) 1 = ((x10 + 1 : Nat) : Int)]) [1, 4, 5, 9, 10] [1, 4, 5] 6 ⟨by rw [iadd64 omm omm]; omega, trivial⟩ hS fun hS => ?_))
    refine then_n ?_
    exact next_y hg0 hS (s := (k2, x10, o3)) (k2 + 1, x10 + 1, o3 ++ [(x10 : Int)]) [(1, 1), (3, 5), (4, 4)] (show i - (x10 + 1) < i - x10 from by omega) ⟨(it_next (F := wrec_l2 a b wk i) (st := wrec_l2_s a b wk i) (fun _ => rfl) hq2 rfl), (lst_next hj2 (by rw [← hq2]; exact h6)), (by rw [List.length_append, List.length_cons, List.length_nil]; omega), trivial⟩
   ·have hScur := hS
    obtain rfl := lst_eq (P := fun j => wrec_l2_c a b wk i (wrec_l2 a b wk i j)) (by rw [← hq2]; first | exact h6 | exact not_not_intro h6) hj2
    obtain rfl : (wrec_l2 a b wk i (lst fun j => wrec_l2_c a b wk i (wrec_l2 a b wk i j))).1 = x10 := Eq.symm (congrArg (fun z => z.1) hq2)
    obtain rfl : (wrec_l2 a b wk i (lst fun j => wrec_l2_c a b wk i (wrec_l2 a b wk i j))).2 = o3 := Eq.symm (congrArg (fun z => z.2) hq2)
    have hS := hScur
    clear hScur
    refine wp_exit (then_exit (then_exit (block_exit (then_n (wp_seq (s0 [4, 5, 9, 77] [1, 3, 4] 5 hS fun hS => ?_))))))
    refine if_d ((60 : Int) < ((((wrec_l2 a b wk i (lst fun j => wrec_l2_c a b wk i (wrec_l2 a b wk i j))).2).length : Nat) : Int)) hS (fun h7 => ?_) (fun h7 => ?_)
    ·obtain ⟨gs, hS⟩ := hS.fz 3
     refine rA [(5, .oi (((((wrec_l2 a b wk i (lst fun j => wrec_l2_c a b wk i (wrec_l2 a b wk i j))).2).length) - 60 : Nat) : Int))] trivial (fun _ => [isub .i64 ((((wrec_l2 a b wk i (lst fun j => wrec_l2_c a b wk i (wrec_l2 a b wk i j))).2).length : Nat) : Int) 60 = (((((wrec_l2 a b wk i (lst fun j => wrec_l2_c a b wk i (wrec_l2 a b wk i j))).2).length) - 60 : Nat) : Int), bndP (some (((((wrec_l2 a b wk i (lst fun j => wrec_l2_c a b wk i (wrec_l2 a b wk i j))).2).length) - 60 : Nat) : Int)) none none ((wrec_l2 a b wk i (lst fun j => wrec_l2_c a b wk i (wrec_l2 a b wk i j))).2).length ((wrec_l2 a b wk i (lst fun j => wrec_l2_c a b wk i (wrec_l2 a b wk i j))).2).length]) [4, 5, 9] [1, 4] 5 ⟨by rw [isub64 omm omm]; omega, ⟨by simp only [nnI] <;> omega, by simp only [nnI] <;> omega, by simp only [nnI] <;> omega, by simp, by simp only [bl] <;> omega, by simp only [bl] <;> omega, by simp only [bl] <;> omega⟩, trivial⟩ hS fun hS => ?_
     refine then_n (s0 [4, 5] [1] 5 hS fun hS => ?_)
     refine wp_ret ?_
     have hM : wrec_m a b wk i = ((i + 1), ((wrec_l2 a b wk i (lst fun j => wrec_l2_c a b wk i (wrec_l2 a b wk i j))).2).drop ((((wrec_l2 a b wk i (lst fun j => wrec_l2_c a b wk i (wrec_l2 a b wk i j))).2).length) - 60), 0) := (wrec_e a b wk i).trans ((if_neg h1).trans ((if_neg h5).trans (if_pos h7)))
     exact fin_y rfl (.inr rfl) hS [.ag (chain [vi (a : Int), vi ((i + 1 : Nat) : Int), .ls false [.int .i64] (((wrec_l2 a b wk i (lst fun j => wrec_l2_c a b wk i (wrec_l2 a b wk i j))).2).drop ((((wrec_l2 a b wk i (lst fun j => wrec_l2_c a b wk i (wrec_l2 a b wk i j))).2).length) - 60))]), vi 0] [] (by show weak _ (.tu (chain [.ag (chain [vi (a : Int), vi (((wrec_m a b wk i).1 : Nat) : Int), .ls false [.int .i64] ((wrec_m a b wk i).2.1)]), vi (((wrec_m a b wk i).2.2 : Nat) : Int)])) = (.tu (chain [.ag (chain [vi (a : Int), vi (((wrec_m a b wk i).1 : Nat) : Int), .ls false [.int .i64] ((wrec_m a b wk i).2.1)]), vi (((wrec_m a b wk i).2.2 : Nat) : Int)])); rw [hM]; first | (simp only []; rfl) | (simp only []; done) | rfl) trivial
    ·refine wp_skip (then_n (s0 [4, 5] [1, 3] 5 hS fun hS => ?_))
     refine wp_ret ?_
     have hM : wrec_m a b wk i = ((i + 1), (wrec_l2 a b wk i (lst fun j => wrec_l2_c a b wk i (wrec_l2 a b wk i j))).2, 0) := (wrec_e a b wk i).trans ((if_neg h1).trans ((if_neg h5).trans (if_neg h7)))
     obtain ⟨gs, hS⟩ := hS.fz 3
     exact fin_y rfl (.inr rfl) hS [.ag (chain [vi (a : Int), vi ((i + 1 : Nat) : Int), .ls false [.int .i64] ((wrec_l2 a b wk i (lst fun j => wrec_l2_c a b wk i (wrec_l2 a b wk i j))).2)]), vi 0] [] (by show weak _ (.tu (chain [.ag (chain [vi (a : Int), vi (((wrec_m a b wk i).1 : Nat) : Int), .ls false [.int .i64] ((wrec_m a b wk i).2.1)]), vi (((wrec_m a b wk i).2.2 : Nat) : Int)])) = (.tu (chain [.ag (chain [vi (a : Int), vi (((wrec_m a b wk i).1 : Nat) : Int), .ls false [.int .i64] ((wrec_m a b wk i).2.1)]), vi (((wrec_m a b wk i).2.2 : Nat) : Int)])); rw [hM]; first | (simp only []; rfl) | (simp only []; done) | rfl) trivial

end
end Go.Sx.Tryz
namespace Go.Sx.Tryz
open Go.Mi Go.RowKit Go.Sx Go.Proofs
noncomputable section
def fresh_v (root : List Int) : (List Int) × (List Int) × (List Int) × (List (List Int)) × (List Int) × (List Int) × (List Int) × (List (List Int)) := ((snew_m root true).1, (snew_m root true).2.1, (snew_m root true).2.2.1, (snew_m root true).2.2.2, (snew_m root false).1, (snew_m root false).2.1, (snew_m root false).2.2.1, (snew_m root false).2.2.2)
def fresh_m (root : List Int) : (List Int) × (List Int) × (List Int) × (List (List Int)) × (List Int) × (List Int) × (List Int) × (List (List Int)) := shut (fresh_v root)
theorem fresh_e (root : List Int) : fresh_m root = fresh_v root := shut_eq _
def c_fresh (root : List Int) : Con := ⟨[lb root, .v (.bool false)], [], .tu (chain [.cp 0 0, .v (.bool true)]), [(0, .ob 39 (chain [.cp 1 0, .cp 4 0, vi 0, vi 0, .ls false [.int .i64] [], vi 0, vi 0, .ls false [.int .i64] [], .sk 7])), (1, .ob 80 (chain [lb ((fresh_m root).1), .v (.bool true), .v (.bool false), .cp 2 0, .cp 3 0, .v (.pointer none), vi 0, .ls false [.sl (.int .u8)] ((fresh_m root).2.2.2.1), vi 0, vi 0, .ls false [.int .i64, .int .i64, .sl (.sl (.int .u8))] []])), (2, .ob 122 (chain [lb ((fresh_m root).2.1), vi 0])), (3, .ob 122 (chain [lb ((fresh_m root).2.2.1), vi 0])), (4, .ob 80 (chain [lb ((fresh_m root).2.2.2.2.1), .v (.bool false), .v (.bool false), .cp 5 0, .cp 6 0, .v (.pointer none), vi 0, .ls false [.sl (.int .u8)] ((fresh_m root).2.2.2.2.2.2.2), vi 0, vi 0, .ls false [.int .i64, .int .i64, .sl (.sl (.int .u8))] []])), (5, .ob 122 (chain [lb ((fresh_m root).2.2.2.2.2.1), vi 0])), (6, .ob 122 (chain [lb ((fresh_m root).2.2.2.2.2.2.1), vi 0])), (7, .sl 48 [.int .i64, .int .i64, .sl (.int .u8), .sl (.int .u8)] [])]⟩
theorem fresh_ok (root : List Int) (hr : root.length = 32) : ConOk Tryz.prog 12 (c_fresh root) := by
 refine conOk_of rfl (nb := 0) Tryz.func12 rfl rfl Tryz.ntmps12 rfl rfl rfl fun g0 w0 ac gs ws hg0 hS => ?_
 have hlen0 : root.length ≤ 9223372036854775807 := hS.len 0 rfl
 have hS := hS.sp
 refine s0 [0, 1, 4, 5] [] 0 hS fun hS => ?_
 refine s0 [0, 1, 4, 5, 6] [0] 1 hS fun hS => ?_
 refine wp_seq (s0 [0, 1, 4, 5, 6, 7] [0] 1 hS fun hS => ?_)
 refine wp_block (wp_loop_rounds 3 ?_)
 refine rounds_s (n := 2) ?_
 refine wp_seq (s0 [0, 1, 4, 5, 6, 7, 12, 13] [0] 1 hS fun hS => ?_)
 refine cond_t hS ?_
 refine wp_skip (then_n (wp_seq (wp_block (sA [(4, .call ⟨23, (c_snew root true), [], [(0, 1), (1, 2), (2, 3)]⟩)] ⟨snew_ok _ _ lnn, trivial⟩ (fun C => [ndC C 4]) [0, 1, 4, 5, 6, 7, 8, 9, 12, 13, 16, 17, 18, 19, 20, 21, 22, 23] [0, 1, 2, 3] 4 ⟨rfl, trivial⟩ hS fun hS => ?_))))
 refine wp_seq (s0 [0, 1, 4, 5, 6, 7, 8, 9, 12, 13, 16, 17, 18, 19, 20, 21, 22, 23, 24, 25, 26, 27, 28, 29] [0, 1, 2, 3] 4 hS fun hS => ?_)
 refine cond_f hS ?_
 refine wp_skip (then_n (rA [] trivial (fun _ => [(0 : Int) ≤ 0 ∧ (0 : Int) < 2]) [0, 1, 4, 5, 6, 7, 8, 9, 12, 13, 16, 17, 18, 19, 20, 21, 22, 23, 24, 25, 26, 27, 28, 29, 30, 31, 32, 33, 34, 35] [0, 1, 2, 3] 4 ⟨by omega, trivial⟩ hS fun hS => ?_))
 refine block_n (then_n (r0 [0, 1, 4, 5, 6, 7, 8, 9, 12, 13, 14, 15, 16, 17, 18, 19, 20, 21, 22, 23, 24, 25, 26, 27, 28, 29, 30, 31, 32, 33, 34, 35] [0, 1, 2, 3] 4 hS fun hS => ?_))
 refine then_n (rounds_s (n := 1) ?_)
 refine wp_seq (s0 [0, 1, 4, 5, 6, 7, 8, 9, 12, 13, 14, 15, 16, 17, 18, 19, 20, 21, 22, 23, 24, 25, 26, 27, 28, 29, 30, 31, 32, 33, 34, 35] [0, 1, 2, 3] 4 hS fun hS => ?_)
 refine cond_t hS ?_
 refine wp_skip (then_n (wp_seq (wp_block (sA [(4, .call ⟨23, (c_snew root false), [], [(0, 4), (1, 5), (2, 6)]⟩)] ⟨snew_ok _ _ lnn, trivial⟩ (fun C => [ndC C 4]) [0, 1, 4, 5, 6, 7, 8, 9, 12, 13, 14, 15, 16, 17, 18, 19, 20, 21, 22, 23, 24, 25, 26, 27, 28, 29, 30, 31, 32, 33, 34, 35] [0, 1, 2, 3, 4, 5, 6] 7 ⟨rfl, trivial⟩ hS fun hS => ?_))))
 refine wp_seq (s0 [0, 1, 4, 5, 6, 7, 8, 9, 12, 13, 14, 15, 16, 17, 18, 19, 20, 21, 22, 23, 24, 25, 26, 27, 28, 29, 30, 31, 32, 33, 34, 35] [0, 1, 2, 3, 4, 5, 6] 7 hS fun hS => ?_)
 refine cond_f hS ?_
 refine wp_skip (then_n (rA [] trivial (fun _ => [(0 : Int) ≤ 1 ∧ (1 : Int) < 2]) [0, 1, 4, 5, 6, 7, 8, 9, 12, 13, 14, 15, 16, 17, 18, 19, 20, 21, 22, 23, 24, 25, 26, 27, 28, 29, 30, 31, 32, 33, 34, 35] [0, 1, 2, 3, 4, 5, 6] 7 ⟨by omega, trivial⟩ hS fun hS => ?_))
 refine block_n (then_n (r0 [0, 1, 4, 5, 6, 7, 8, 9, 12, 13, 14, 15, 16, 17, 18, 19, 20, 21, 22, 23, 24, 25, 26, 27, 28, 29, 30, 31, 32, 33, 34, 35] [0, 1, 2, 3, 4, 5, 6] 7 hS fun hS => ?_))
 refine then_n (rounds_s (n := 0) ?_)
 refine wp_seq (s0 [0, 1, 4, 5, 6, 7, 8, 9, 13, 14, 15, 16, 17, 18, 19, 20, 21, 22, 23, 24, 25, 26, 27, 28, 29, 30, 31, 32, 33, 34, 35] [0, 1, 2, 3, 4, 5, 6] 7 hS fun hS => ?_)
 refine cond_f hS ?_
 refine wp_exit (then_exit (then_exit (block_exit (then_n (wp_seq ?_)))))
 have hS := hS.wko 0 [.top, .top, .top, .top, .ls false [.int .i64] [], .top, .top, .ls false [.int .i64] [], .top]
 obtain ⟨gs, hS⟩ := hS.nilob 0 8 48 [.int .i64, .int .i64, .sl (.int .u8), .sl (.int .u8)]
 have hS := hS.wko 1 [.top, .top, .top, .top, .top, .top, .top, .ls false [.sl (.int .u8)] [], .top, .top, .ls false [.int .i64, .int .i64, .sl (.sl (.int .u8))] []]
 have hS := hS.wko 4 [.top, .top, .top, .top, .top, .top, .top, .ls false [.sl (.int .u8)] [], .top, .top, .ls false [.int .i64, .int .i64, .sl (.sl (.int .u8))] []]
 refine r0 [4, 5] [0, 1, 2, 3, 4, 5, 6, 7] 8 hS fun hS => ?_
 refine then_n (wp_ret ?_)
 have hM : fresh_m root = ((snew_m root true).1, (snew_m root true).2.1, (snew_m root true).2.2.1, (snew_m root true).2.2.2, (snew_m root false).1, (snew_m root false).2.1, (snew_m root false).2.2.1, (snew_m root false).2.2.2) := fresh_e root
 exact fin_y rfl (.inr rfl) hS [.cp 0 0, .v (.bool true)] [(0, some (.ob 39 (chain [.cp 1 0, .cp 4 0, vi 0, vi 0, .ls false [.int .i64] [], vi 0, vi 0, .ls false [.int .i64] [], .sk 7]))), (1, some (.ob 80 (chain [lb ((snew_m root true).1), .v (.bool true), .v (.bool false), .cp 2 0, .cp 3 0, .v (.pointer none), vi 0, .ls false [.sl (.int .u8)] ((snew_m root true).2.2.2), vi 0, vi 0, .ls false [.int .i64, .int .i64, .sl (.sl (.int .u8))] []]))), (2, some (.ob 122 (chain [lb ((snew_m root true).2.1), vi 0]))), (3, some (.ob 122 (chain [lb ((snew_m root true).2.2.1), vi 0]))), (4, some (.ob 80 (chain [lb ((snew_m root false).1), .v (.bool false), .v (.bool false), .cp 5 0, .cp 6 0, .v (.pointer none), vi 0, .ls false [.sl (.int .u8)] ((snew_m root false).2.2.2), vi 0, vi 0, .ls false [.int .i64, .int .i64, .sl (.sl (.int .u8))] []]))), (5, some (.ob 122 (chain [lb ((snew_m root false).2.1), vi 0]))), (6, some (.ob 122 (chain [lb ((snew_m root false).2.2.1), vi 0]))), (7, some (.sl 48 [.int .i64, .int .i64, .sl (.int .u8), .sl (.int .u8)] []))] rfl (by show H1Ok _ [(0, .ob 39 (chain [.cp 1 0, .cp 4 0, vi 0, vi 0, .ls false [.int .i64] [], vi 0, vi 0, .ls false [.int .i64] [], .sk 7])), (1, .ob 80 (chain [lb ((fresh_m root).1), .v (.bool true), .v (.bool false), .cp 2 0, .cp 3 0, .v (.pointer none), vi 0, .ls false [.sl (.int .u8)] ((fresh_m root).2.2.2.1), vi 0, vi 0, .ls false [.int .i64, .int .i64, .sl (.sl (.int .u8))] []])), (2, .ob 122 (chain [lb ((fresh_m root).2.1), vi 0])), (3, .ob 122 (chain [lb ((fresh_m root).2.2.1), vi 0])), (4, .ob 80 (chain [lb ((fresh_m root).2.2.2.2.1), .v (.bool false), .v (.bool false), .cp 5 0, .cp 6 0, .v (.pointer none), vi 0, .ls false [.sl (.int .u8)] ((fresh_m root).2.2.2.2.2.2.2), vi 0, vi 0, .ls false [.int .i64, .int .i64, .sl (.sl (.int .u8))] []])), (5, .ob 122 (chain [lb ((fresh_m root).2.2.2.2.2.1), vi 0])), (6, .ob 122 (chain [lb ((fresh_m root).2.2.2.2.2.2.1), vi 0])), (7, .sl 48 [.int .i64, .int .i64, .sl (.int .u8), .sl (.int .u8)] [])] true; rw [hM]; first | (simp only []; exact ⟨rfl, rfl, rfl, rfl, rfl, rfl, rfl, rfl, trivial⟩) | exact ⟨rfl, rfl, rfl, rfl, rfl, rfl, rfl, rfl, trivial⟩)

def pId (root : List Int) : List Int := part_m root (ByteArray.mk #[112, 97, 105, 114])
def pM (root : List Int) : List Int := part_m root (ByteArray.mk #[109, 105, 120])
def pA (root : List Int) : List Int := part_m root (ByteArray.mk #[102, 105, 114, 115, 116])
def pB (root : List Int) : List Int := part_m root (ByteArray.mk #[111, 116, 104, 101, 114])
@[simp] theorem pA_len (root : List Int) : (pA root).length = 32 := part_len ..
@[simp] theorem pB_len (root : List Int) : (pB root).length = 32 := part_len ..
@[simp] theorem pM_len (root : List Int) : (pM root).length = 32 := part_len ..
theorem fresh_eq (root : List Int) : fresh_m root = (pId root, pA root, pB root, [pM root], pId root, pB root, pA root, [pM root]) := by
 have h1 : snew_m root true = (pId root, pA root, pB root, [pM root]) := by rw [snew_e]; unfold snew_v; first | rfl | (simp; rfl)
 have h2 : snew_m root false = (pId root, pB root, pA root, [pM root]) := by rw [snew_e]; unfold snew_v; first | rfl | (simp; rfl)
 rw [fresh_e]; unfold fresh_v; rw [h1, h2]
end
end Go.Sx.Tryz
namespace Go.Sx.Tryz
open Go.Mi Go.RowKit Go.Sx Go.Proofs
noncomputable section
theorem ofI64 {a : Int} (ha : 0 ≤ a ∧ a < 18446744073709551616) : (BitVec.ofInt 64 a).toNat = a.toNat := by rw [BitVec.toNat_ofInt]; omega
theorem wrap_u64n {x : Int} (h : 0 ≤ x ∧ x < 18446744073709551616) : IntKind.wrap .u64 x = x := by
 have : IntKind.wrap .u64 x = x % 18446744073709551616 := by simp [IntKind.wrap, IntKind.bits, IntKind.signed]
 rw [this]; omega
theorem bor64 {a b : Int} (ha : 0 ≤ a ∧ a < 18446744073709551616) (hb : 0 ≤ b ∧ b < 18446744073709551616) : ior .u64 a b = ((a.toNat ||| b.toNat : Nat) : Int) := by
 have h : a.toNat ||| b.toNat < 2 ^ 64 := Nat.or_lt_two_pow omm omm
 unfold ior
 rw [wrap_u64n]
 ·show (((BitVec.ofInt 64 a ||| BitVec.ofInt 64 b).toNat : Nat) : Int) = _
  rw [BitVec.toNat_or, ofI64 ha, ofI64 hb]
 ·show 0 ≤ (((BitVec.ofInt 64 a ||| BitVec.ofInt 64 b).toNat : Nat) : Int) ∧ (((BitVec.ofInt 64 a ||| BitVec.ofInt 64 b).toNat : Nat) : Int) < _
  rw [BitVec.toNat_or, ofI64 ha, ofI64 hb]
  omega
theorem low7c : ((List.range 256).all fun c => decide (iandn .u8 ((c : Nat) : Int) 128 = ((c % 128 : Nat) : Int))) = true := by kernel_rfl
theorem low7 (c : Nat) (h : c < 256) : iandn .u8 (c : Int) 128 = ((c % 128 : Nat) : Int) := of_decide_eq_true (List.all_eq_true.1 low7c c (List.mem_range.2 h))
theorem top7c : ((List.range 256).all fun c => decide (ior .u8 ((c : Nat) : Int) 128 = ((128 + c % 128 : Nat) : Int))) = true := by kernel_rfl
theorem top7 (c : Nat) (h : c < 256) : ior .u8 (c : Int) 128 = ((128 + c % 128 : Nat) : Int) := of_decide_eq_true (List.all_eq_true.1 top7c c (List.mem_range.2 h))
theorem grp {v x i : Nat} (hv : v < 2 ^ (7 * i)) (hx : x < 128) (hl : x * 2 ^ (7 * i) + v < 2 ^ 62) (c : Int) (hc : iandn .u8 c 128 = (x : Nat)) : ior .u64 (v : Int) (ishl .u64 (IntKind.wrap .u64 (iandn .u8 c 128)) ((7 * i : Nat) : Int)) = ((x * 2 ^ (7 * i) + v : Nat) : Int) := by
 rw [hc, wrap_u64n omm]
 by_cases hi : 7 * i ≤ 64
 ·have h1 : ishl .u64 (x : Int) ((7 * i : Nat) : Int) = ((x * 2 ^ (7 * i) : Nat) : Int) := by
   unfold ishl
   rw [show min ((7 * i : Nat) : Int).toNat (IntKind.bits .u64) = 7 * i by simp [IntKind.bits]; omega, show (x : Int) * 2 ^ (7 * i) = ((x * 2 ^ (7 * i) : Nat) : Int) by simp]
   exact wrap_u64n omm
  rw [h1, bor64 omm omm, Int.toNat_natCast, Int.toNat_natCast]
  congr 1
  rw [Nat.or_comm, Nat.mul_comm x]
  exact (Nat.two_pow_add_eq_or_of_lt hv x).symm
 ·have h2 : 2 ^ 62 ≤ 2 ^ (7 * i) := Nat.pow_le_pow_right (by decide) omm
  have hx0 : x = 0 := by
   rcases Nat.eq_zero_or_pos x with h | h
   ·exact h
   ·have : 1 * 2 ^ (7 * i) ≤ x * 2 ^ (7 * i) := Nat.mul_le_mul_right _ h
    omega
  subst hx0
  have h1 : ishl .u64 ((0 : Nat) : Int) ((7 * i : Nat) : Int) = ((0 : Nat) : Int) := by
   unfold ishl
   rw [show ((0 : Nat) : Int) = 0 from rfl, Int.zero_mul]; rfl
  rw [h1, bor64 omm omm, Int.toNat_natCast, Int.toNat_natCast, Nat.or_zero, Nat.zero_mul, Nat.zero_add]
theorem numA_W (r : List Int) : ∀ (m i v : Nat), v < 2 ^ (7 * i) → m * 2 ^ (7 * i) + v < 2 ^ 62 → i ≤ 9 → (0 < i → 0 < m) → numA (10 - i) i ((v : Nat) : Int) (numW m ++ r) = some (((m * 2 ^ (7 * i) + v : Nat) : Int), r) := by
 intro m
 induction m using Nat.strongRecOn with
 | _ m ih =>
  intro i v hv hl hi hp
  obtain ⟨k, hk⟩ : ∃ k, 10 - i = k + 1 := ⟨9 - i, by omega⟩
  have hpow : 0 < 2 ^ (7 * i) := Nat.pow_pos (by decide)
  have hw : IntKind.wrap .u8 (m : Int) = ((m % 256 : Nat) : Int) := by rw [wrap_u8m]; omega
  by_cases h : 128 ≤ m
  ·have h2 : 128 * 2 ^ (7 * i) ≤ m * 2 ^ (7 * i) := Nat.mul_le_mul_right _ h
   have hi2 : i ≤ 7 := by
    rcases Nat.lt_or_ge 7 i with h3 | h3
    ·have : 2 ^ 56 ≤ 2 ^ (7 * i) := Nat.pow_le_pow_right (by decide) omm
     omega
    ·exact h3
   have hdm : m = 128 * (m / 128) + m % 128 := (Nat.div_add_mod m 128).symm
   have hc : ior .u8 (IntKind.wrap .u8 (m : Int)) 128 = ((128 + m % 128 : Nat) : Int) := by
    rw [hw]
    have := top7 (m % 256) (Nat.mod_lt _ (by decide))
    rw [show (m % 256) % 128 = m % 128 by omega] at this
    exact this
   have hlo : iandn .u8 ((128 + m % 128 : Nat) : Int) 128 = ((m % 128 : Nat) : Int) := by
    have := low7 (128 + m % 128) omm
    rw [show (128 + m % 128) % 128 = m % 128 by omega] at this
    exact this
   have hmul : m * 2 ^ (7 * i) = m / 128 * 2 ^ (7 * (i + 1)) + m % 128 * 2 ^ (7 * i) := by
    rw [show 7 * (i + 1) = 7 + 7 * i by omega, Nat.pow_add, show (2 : Nat) ^ 7 = 128 from rfl, ← Nat.mul_assoc, ← Nat.add_mul]
    congr 1; omega
   rw [numW_y h, List.cons_append, hk, hc]
   show (if (128 : Int) ≤ ((128 + m % 128 : Nat) : Int) then numA k (i + 1) (ior .u64 _ (ishl .u64 (IntKind.wrap .u64 (iandn .u8 _ 128)) _)) (numW (m / 128) ++ r) else _) = _
   rw [if_pos omm, grp hv (Nat.mod_lt _ (by decide)) omm _ hlo]
   have hv2 : m % 128 * 2 ^ (7 * i) + v < 2 ^ (7 * (i + 1)) := by
    rw [show 7 * (i + 1) = 7 + 7 * i by omega, Nat.pow_add, show (2 : Nat) ^ 7 = 128 from rfl]
    have : m % 128 * 2 ^ (7 * i) ≤ 127 * 2 ^ (7 * i) := Nat.mul_le_mul_right _ omm
    omega
   have := ih (m / 128) omm (i + 1) (m % 128 * 2 ^ (7 * i) + v) hv2 omm omm (fun _ => by omega)
   rw [show 10 - (i + 1) = k by omega] at this
   rw [this, hmul, Nat.add_assoc]
  ·have hc : IntKind.wrap .u8 (m : Int) = (m : Int) := by rw [hw]; omega
   have hlo : iandn .u8 (m : Int) 128 = (m : Int) := by
    have := low7 m omm
    rw [show m % 128 = m by omega] at this
    exact this
   rw [numW_n h, hk, hc]
   show (if (128 : Int) ≤ (m : Int) then _ else if i = 9 ∧ (1 : Int) < (m : Int) then none else if 0 < i ∧ (m : Int) = 0 then none else some (ior .u64 _ (ishl .u64 (IntKind.wrap .u64 (iandn .u8 _ 128)) _), r)) = _
   have h9 : ¬ (i = 9 ∧ (1 : Int) < (m : Int)) := fun ⟨e, h1⟩ => by
    subst e
    have : 1 * 2 ^ 63 ≤ m * 2 ^ (7 * 9) := Nat.mul_le_mul_right _ omm
    omega
   rw [if_neg omm, if_neg h9, if_neg (fun ⟨a, b⟩ => by have := hp a; omega), grp hv omm hl _ hlo]
theorem numM_W {n : Nat} (h : n < 2 ^ 62) (r : List Int) : numM (numW n ++ r) = some ((n : Int), r) := by
 have := numA_W r n 0 0 (by decide) (by simpa using h) (by decide) (fun h => absurd h (by decide))
 unfold numM
 simpa using this
end
end Go.Sx.Tryz
namespace Go.Sx.Tryz
open Go.Mi Go.RowKit Go.Sx Go.Proofs
noncomputable section
def fhd (n : Nat) : List Int := numW n ++ (numW 0 ++ (numW 0 ++ numW 0))
def fky (mx : List (List Int)) (key : List Int) : List Int := derive32_m (mky key) (mx.getD 0 (rz [.sl (.int .u8)])) [109, 101, 115, 115, 97, 103, 101]
def fbx (mx : List (List Int)) (key : List Int) (n : Nat) (text : List Int) : List Int := seal_m (fky mx key) (List.replicate 12 (0 : Int)) (fhd n) text
def frm (mx : List (List Int)) (key : List Int) (n : Nat) (text : List Int) : List Int := numW (fhd n).length ++ (fhd n ++ (numW (fbx mx key n text).length ++ fbx mx key n text))
@[simp] theorem fky_len (mx : List (List Int)) (key : List Int) : (fky mx key).length = 32 := derive32_len ..
@[simp] theorem fbx_len (mx : List (List Int)) (key : List Int) (n : Nat) (text : List Int) : (fbx mx key n text).length = text.length + 32 := seal_len ..
theorem fhd_le {n : Nat} (h : n < 2 ^ 31) : (fhd n).length ≤ 40 := by
 have h1 := numW_10 (n := n) omm
 have h2 := numW_10 (n := 0) (by decide)
 unfold fhd
 rw [List.length_append, List.length_append, List.length_append]; omega
theorem frm_len (mx : List (List Int)) (key : List Int) {n : Nat} {text : List Int} (hn : n < 2 ^ 31) (ht : text.length ≤ 500) : 0 < (frm mx key n text).length ∧ (frm mx key n text).length ≤ 4000 := by
 have h1 := fhd_le hn
 have h2 := numW_10 (n := (fhd n).length) omm
 have h3 := numW_10 (n := (fbx mx key n text).length) (by rw [fbx_len]; omega)
 unfold frm
 rw [List.length_append, List.length_append, List.length_append, fbx_len]
 rw [fbx_len] at h3
 omega
theorem mixn_0 (fi : Bool) : mixn fi 0 1 0 = 0 := by cases fi <;> rfl
theorem send_frm (id : List Int) (fi : Bool) (ok : List Int) (oi : Nat) (ik : List Int) (ii : Nat) {mx : List (List Int)} (last : Nat) (kl : List KR) (text rand : List Int) (hm : mx.length = 1) : send_m id fi ok oi ik ii 0 mx last 0 kl text rand = (nxt ok, oi + 1, frm mx ok oi text) := by
 rw [send_e]; unfold send_v
 simp only [hm, mixn_0, List.nil_append, List.append_nil, Nat.zero_add, Nat.sub_self, List.length_nil]
 unfold frm fbx fky fhd
 simp only [List.append_assoc]
theorem rb_ok {xs : List Int} {m n : Nat} {r : List Int} (h : numM xs = some ((n : Int), r)) (h1 : n ≤ m) (h2 : n ≤ r.length) : rbytes1_k xs m = true := by
 have hB := num_is h
 have hV := num_v h
 have hs : small_k xs m = true := by rw [small_ke]; unfold small_kv; rw [if_pos hB, hV, if_neg (by show ¬ (m : Int) < (n : Int); omega)]
 rw [rbytes1_ke]; unfold rbytes1_kv
 rw [if_pos hs, hV]
 have hf : rfixed_k r n = true := by rw [rfixed_ke]; unfold rfixed_kv; rw [if_neg omm]
 show (if rfixed_k r (n : Int).toNat = true then true else false) = true
 rw [Int.toNat_natCast, if_pos hf]
theorem sn_ok {xs : List Int} {n : Nat} {r : List Int} (h : numM xs = some ((n : Int), r)) (h1 : n ≤ 2147483648) : snum_k xs = true := by
 rw [snum_ke]; unfold snum_kv
 rw [if_pos (num_is h), num_v h, if_neg (by show ¬ (2147483648 : Int) < (n : Int); omega)]
theorem rend_nil : rend_k [] = true := by rw [rend_ke]; rfl
theorem numM_W0 : numM (numW 0) = some (((0 : Nat) : Int), []) := by
 have := numM_W (n := 0) (by decide) []
 rwa [List.append_nil] at this
theorem head_ok {n : Nat} (hn : n ≤ 2147483648) (ba bb : List Int) : rd2_k (fhd n) ba bb = true ∧ rd2_m (fhd n) ba bb = (n, 0, 0, []) := by
 have m1 := numM_W (n := n) omm (numW 0 ++ (numW 0 ++ numW 0))
 have m2 := numM_W (n := 0) (by decide) (numW 0 ++ numW 0)
 have m3 := numM_W (n := 0) (by decide) (numW 0)
 have v1 : numV (fhd n) = _ := num_v m1
 have v2 := num_v m2
 have v3 := num_v m3
 have v4 := num_v numM_W0
 have hp : pc2_k (fhd n) ba bb = true := by
  rw [pc2_ke]; unfold pc2_kv
  rw [v1]; simp only []
  rw [v2]; simp only []
  rw [v3]; simp only []
  have hs0 : snum_k (fhd n) = true := sn_ok m1 hn
  rw [if_pos hs0, if_pos (sn_ok m2 (by decide)), if_pos (sn_ok m3 (by decide)), if_pos (rb_ok numM_W0 (by decide) (by decide))]
 have hm : pc2_m (fhd n) ba bb = ([], n, 0, 0, []) := by
  rw [pc2_e]; unfold pc2_v
  rw [v1]; simp only []
  rw [v2]; simp only []
  rw [v3]; simp only []
  rw [v4]; simp
 constructor
 ·rw [rd2_ke]; unfold rd2_kv
  rw [if_pos hp, hm, if_pos rend_nil]
 ·rw [rd2_e]; unfold rd2_v
  rw [hm]
theorem frm_ok (mx : List (List Int)) (key : List Int) {n : Nat} {text : List Int} (hn : n < 2 ^ 31) (ht : text.length ≤ 500) : parted_k (frm mx key n text) = true ∧ parted_m (frm mx key n text) = (fhd n, n, 0, 0, [], fbx mx key n text) := by
 have hl := fhd_le hn
 have hb : (fbx mx key n text).length = text.length + 32 := fbx_len ..
 have m1 := numM_W (n := (fhd n).length) omm (fhd n ++ (numW (fbx mx key n text).length ++ fbx mx key n text))
 have m2 := numM_W (n := (fbx mx key n text).length) omm (fbx mx key n text)
 have v1 : numV (frm mx key n text) = _ := num_v m1
 have v2 := num_v m2
 have hh := head_ok (n := n) omm (fhd n) (fbx mx key n text)
 have t1 : List.take (fhd n).length (fhd n ++ (numW (fbx mx key n text).length ++ fbx mx key n text)) = fhd n := List.take_left
 have t2 : List.drop (fhd n).length (fhd n ++ (numW (fbx mx key n text).length ++ fbx mx key n text)) = numW (fbx mx key n text).length ++ fbx mx key n text := List.drop_left
 have r1 : rbytes1_k (frm mx key n text) 4000 = true := rb_ok m1 omm (by rw [List.length_append]; omega)
 have r2 : rbytes1_k (numW (fbx mx key n text).length ++ fbx mx key n text) 4000 = true := rb_ok m2 omm omm
 have hp : pc1_k (frm mx key n text) = true := by
  rw [pc1_ke]; unfold pc1_kv
  simp only [v1, Int.toNat_natCast, t2, r1, r2, if_true]
 have hr : rd1_k (frm mx key n text) = true := by
  rw [rd1_ke]; unfold rd1_kv
  simp only [hp, v1, Int.toNat_natCast, t2, v2, List.drop_length, rend_nil, if_true]
 have e1 : ((([] ++ numW (fhd n).length) ++ fhd n) ++ numW (fbx mx key n text).length) ++ fbx mx key n text = frm mx key n text := by
  unfold frm
  simp only [List.nil_append, List.append_assoc]
 constructor
 ·rw [parted_ke]; unfold parted_kv
  simp only [hr, v1, Int.toNat_natCast, t1, t2, v2, List.take_length, hh.1, e1, if_true]
 ·rw [parted_e]; unfold parted_v
  simp only [v1, Int.toNat_natCast, t1, t2, v2, List.take_length, hh.2]
theorem open_seal (key num data : List Int) {text : List Int} (h : By text) : sopen_m key num data (seal_m key num data text) = (text, 0) := by
 have hb : ∀ (k : List Int) (u1 : Nat → Int) (r1 : List Int) (n1 : Int) (u2 : Nat → Int) (r2 : List Int) (n2 : Int), bopen_m k u1 r1 n1 u2 r2 n2 num data (bseal_m k u1 r1 n1 u2 r2 n2 num data text) = (text, 0) := by
  intro k u1 r1 n1 u2 r2 n2
  have hl : (bseal_m k u1 r1 n1 u2 r2 n2 num data text).length = text.length + 32 := by
   rw [bseal_e]; unfold bseal_v; rw [List.length_append, crypt_len, stag_len]
  rw [bopen_e]; unfold bopen_v
  rw [hl, if_neg omm, show (((text.length + 32 : Nat) : Int) - 32).toNat = (crypt_m k num text).length by rw [crypt_len]; omega, bseal_e]
  unfold bseal_v
  rw [List.take_left, List.drop_left, if_pos rfl, crypt_inv k num h]
 rw [sopen_e, seal_e]; unfold sopen_v seal_v
 rw [hb]
end
end Go.Sx.Tryz
namespace Go.Sx.Tryz
open Go.Mi Go.RowKit Go.Sx Go.Proofs
noncomputable section
theorem nxtN_add (A : List Int) (m : Nat) : ∀ n, nxtN (nxtN A m) n = nxtN A (m + n)
 | 0 => rfl
 | n + 1 => by
  show nxt (nxtN (nxtN A m) n) = nxt (nxtN A (m + n))
  rw [nxtN_add A m n]
def krow (mx : List (List Int)) (A : List Int) (j : Nat) : KR := ((j : Int), (0 : Int), [fky mx (nxtN A j)])
def kls (mx : List (List Int)) (A : List Int) (js : List Nat) : List KR := js.map (krow mx A)
structure RI (ii : Nat) (js : List Nat) : Prop where
 len : js.length ≤ 60
 nd : js.Nodup
 lt : ∀ j, j ∈ js → j < ii
def rOk (ii : Nat) (js : List Nat) (i : Nat) : Bool := if i < ii then decide (i ∈ js) else decide (i ≤ ii + 40)
def rEr (ii i : Nat) : Nat := if i < ii then 5 else 6
def nI (ii i : Nat) : Nat := if i < ii then ii else i + 1
def nJ (ii : Nat) (js : List Nat) (i : Nat) : List Nat := if i < ii then js.filter (· != i) else (js ++ List.range' ii (i - ii)).drop ((js ++ List.range' ii (i - ii)).length - 60)
theorem kls_getD (mx : List (List Int)) (A : List Int) {js : List Nat} {p : Nat} (h : p < js.length) : (kls mx A js).getD p kz = krow mx A (js[p]) := by
 unfold kls
 rw [List.getD_eq_getElem?_getD, List.getElem?_map, List.getElem?_eq_getElem h]; rfl
theorem kls_len (mx : List (List Int)) (A : List Int) (js : List Nat) : (kls mx A js).length = js.length := List.length_map ..
theorem plc_out (mx : List (List Int)) (A : List Int) {js : List Nat} {i : Nat} (h : i ∉ js) : plc (kls mx A js) (i : Int) = -1 := by
 refine plc_no fun j hj e => ?_
 rw [kls_len] at hj
 rw [kls_getD mx A hj] at e
 have e : ((js[j] : Nat) : Int) = (i : Int) := e
 have : js[j] = i := by omega
 exact h (this ▸ List.getElem_mem hj)
theorem plc_in (mx : List (List Int)) (A : List Int) {js : List Nat} {i : Nat} (hn : js.Nodup) (h : i ∈ js) : ∃ p, p < js.length ∧ plc (kls mx A js) (i : Int) = ((p : Nat) : Int) ∧ (kls mx A js).getD p kz = krow mx A i ∧ (kls mx A js).take p ++ (kls mx A js).drop (p + 1) = kls mx A (js.filter (· != i)) := by
 have hp := List.idxOf_lt_length_iff.2 h
 have he : js[js.idxOf i] = i := List.getElem_idxOf hp
 refine ⟨js.idxOf i, hp, plc_at (by rw [kls_len]; exact hp) (fun j hj e => ?_) ?_, ?_, ?_⟩
 ·have hj2 : j < js.length := by omega
  rw [kls_getD mx A hj2] at e
  have e : ((js[j] : Nat) : Int) = (i : Int) := e
  have e : js[j] = i := by omega
  have := List.not_of_lt_findIdx (p := (· == i)) (xs := js) hj
  simp [e] at this
 ·rw [kls_getD mx A hp, he]; rfl
 ·rw [kls_getD mx A hp, he]
 ·rw [← hn.erase_eq_filter i]
  unfold kls
  rw [List.erase_eq_eraseIdx_of_idxOf rfl, List.eraseIdx_eq_take_drop_succ, List.map_append, List.map_take, List.map_drop]
theorem kls_ok (mx : List (List Int)) (A : List Int) {ii : Nat} {js : List Nat} (h : RI ii js) (hi : ii ≤ 1000000000000) : KOk (kls mx A js) := by
 refine ⟨by rw [kls_len]; have := h.len; omega, fun j hj => ?_⟩
 rw [kls_len] at hj
 rw [kls_getD mx A hj]
 have := h.lt _ (List.getElem_mem hj)
 refine ⟨⟨?_, ?_⟩, ⟨?_, ?_⟩, ?_, ?_⟩
 ·show (0 : Int) ≤ ((js[j] : Nat) : Int); omega
 ·show ((js[j] : Nat) : Int) ≤ 1000000000000; omega
 ·exact Int.le_refl 0
 ·show (0 : Int) ≤ 1000000000000; decide
 ·show (1 : Nat) ≤ 100000; decide
 ·intro k hk
  have hk : k = fky mx (nxtN A js[j]) := List.mem_singleton.1 hk
  rw [hk]; exact fky_len ..
section
variable (id : List Int) (fi : Bool) (ok : List Int) (oi : Nat) {mx : List (List Int)} {A : List Int} {ii : Nat} {js : List Nat} {i : Nat} (hb hp hx : List Int)
theorem open_k (hm : mx.length = 1) (hR : RI ii js) : opening_k id fi ok oi (nxtN A ii) ii 0 mx 0 0 (kls mx A js) hb i 0 0 hp hx = rOk ii js i := by
 rw [opening_ke]; unfold opening_kv rOk
 by_cases h : i < ii
 ·rw [if_pos omm, if_pos h]
  by_cases hj : i ∈ js
  ·obtain ⟨p, h1, h2, h3, _⟩ := plc_in mx A hR.nd hj
   have h3' : (kls mx A js).getD p (rz [.int .i64, .int .i64, .sl (.sl (.int .u8))]) = krow mx A i := h3
   simp only [h2, Int.toNat_natCast, h3']
   rw [if_neg omm, if_neg (by show ¬ (((0 : Nat) : Int) < (0 : Int)); omega), if_neg (by show ¬ (((1 : Nat) : Int) ≤ ((0 : Nat) : Int) - 0); omega), decide_eq_true hj]
  ·rw [plc_out mx A hj, if_pos (by decide), decide_eq_false hj]
 ·rw [if_neg omm, if_neg h]
  by_cases h2 : i ≤ ii + 40
  ·rw [if_pos (show cmB ii i = true from decide_eq_true ⟨by omega, h2⟩), if_neg omm, if_neg omm, decide_eq_true h2]
  ·have : cmB ii i = false := decide_eq_false fun hh => h2 hh.2
   rw [this, decide_eq_false h2]; rfl
theorem open_e (hf : rOk ii js i = false) : opening_p_e id fi ok oi (nxtN A ii) ii 0 mx 0 0 (kls mx A js) hb i 0 0 hp hx = rEr ii i := by
 unfold rOk at hf
 rw [opening_p_ee]; unfold opening_p_ev rEr
 by_cases h : i < ii
 ·rw [if_pos h] at hf ⊢
  rw [if_pos omm, plc_out mx A (of_decide_eq_false hf), if_pos (by decide)]
 ·rw [if_neg h] at hf ⊢
  have h2 := of_decide_eq_false hf
  have : cmB ii i = false := decide_eq_false fun hh => h2 hh.2
  rw [if_neg omm, this]
  exact cmay_6 omm
theorem open_m (hR : RI ii js) (hf : rOk ii js i = true) : opening_m id fi ok oi (nxtN A ii) ii 0 mx 0 0 (kls mx A js) hb i 0 0 hp hx = fky mx (nxtN A i) := by
 unfold rOk at hf
 rw [opening_e]; unfold opening_v
 by_cases h : i < ii
 ·rw [if_pos h] at hf
  obtain ⟨p, h1, h2, h3, _⟩ := plc_in mx A hR.nd (of_decide_eq_true hf)
  have h3' : (kls mx A js).getD p (rz [.int .i64, .int .i64, .sl (.sl (.int .u8))]) = krow mx A i := h3
  rw [if_pos omm]
  simp only [h2, Int.toNat_natCast, h3']
  rfl
 ·rw [if_neg omm, nxtN_add, show ii + (i - ii) = i by omega]; rfl
theorem came_b (h : ii ≤ i) (x : Nat) (hx1 : x < i - ii) (o6 : List KR) : (came_l2 id fi ok oi (nxtN A ii) ii 0 mx 0 0 (kls mx A js) hb i 0 0 hp hx x o6 (lst fun j => came_l2_c id fi ok oi (nxtN A ii) ii 0 mx 0 0 (kls mx A js) hb i 0 0 hp hx x o6 (came_l2 id fi ok oi (nxtN A ii) ii 0 mx 0 0 (kls mx A js) hb i 0 0 hp hx x o6 j))).2 = [fky mx (nxtN A (ii + x))] := by
 have hl : 1 = lst fun j => came_l2_c id fi ok oi (nxtN A ii) ii 0 mx 0 0 (kls mx A js) hb i 0 0 hp hx x o6 (came_l2 id fi ok oi (nxtN A ii) ii 0 mx 0 0 (kls mx A js) hb i 0 0 hp hx x o6 j) := by
  refine lst_eq (P := fun j => came_l2_c id fi ok oi (nxtN A ii) ii 0 mx 0 0 (kls mx A js) hb i 0 0 hp hx x o6 (came_l2 id fi ok oi (nxtN A ii) ii 0 mx 0 0 (kls mx A js) hb i 0 0 hp hx x o6 j)) ?_ ?_
  ·show ¬ (((0 + 1 : Nat) : Int) ≤ ((0 : Nat) : Int)); omega
  ·intro j hj
   have : j = 0 := by omega
   subst this
   show ((0 : Nat) : Int) ≤ ((0 : Nat) : Int); omega
 rw [← hl]
 show [derive32_m ((skL (nxtN A ii) (i - ii)).getD x (rz [.sl (.int .u8)])) (mx.getD (0 - 0) (rz [.sl (.int .u8)])) [109, 101, 115, 115, 97, 103, 101]] = _
 rw [skL_get _ hx1, nxtN_add]; rfl
theorem came_a (h : ii ≤ i) : ∀ x, x ≤ i - ii → came_l1 id fi ok oi (nxtN A ii) ii 0 mx 0 0 (kls mx A js) hb i 0 0 hp hx x = kls mx A (js ++ List.range' ii x)
 | 0, _ => by
  show kls mx A js = _
  rw [List.range'_zero, List.append_nil]
 | x + 1, hx1 => by
  show came_l1 id fi ok oi (nxtN A ii) ii 0 mx 0 0 (kls mx A js) hb i 0 0 hp hx x ++ [(((ii + x : Nat) : Int), ((0 : Nat) : Int), _)] = _
  rw [came_b id fi ok oi hb hp hx h x omm, came_a h x omm, List.range'_concat, ← List.append_assoc]
  show _ = (((js ++ List.range' ii x) ++ [ii + 1 * x]).map (krow mx A))
  rw [List.map_append, Nat.one_mul]; rfl
theorem came_m' (hR : RI ii js) (hf : rOk ii js i = true) : came_m id fi ok oi (nxtN A ii) ii 0 mx 0 0 (kls mx A js) hb i 0 0 hp hx = (0, kls mx A (nJ ii js i), nxtN A (nI ii i), nI ii i) := by
 unfold rOk at hf
 rw [came_e]; unfold came_v nJ nI
 by_cases h : i < ii
 ·rw [if_pos h] at hf
  obtain ⟨p, h1, h2, h3, h4⟩ := plc_in mx A hR.nd (of_decide_eq_true hf)
  rw [if_pos omm, if_pos h, if_pos h]
  simp only [h2, Int.toNat_natCast, h4]
 ·rw [if_neg omm, if_neg h, if_neg h, skL_len, came_a id fi ok oi hb hp hx omm _ (Nat.le_refl _), nxtN_add, show ii + (i - ii) = i by omega]
  rw [kls_len, show (max (((js ++ List.range' ii (i - ii)).length : Nat) - 60 : Int) 0).toNat = (js ++ List.range' ii (i - ii)).length - 60 by omega]
  unfold kls
  rw [List.map_drop]; rfl
end
end
end Go.Sx.Tryz
namespace Go.Sx.Tryz
open Go.Mi Go.RowKit Go.Sx Go.Proofs
noncomputable section
section
variable (id : List Int) (fi : Bool) (ok : List Int) (oi : Nat) {mx : List (List Int)} {A : List Int} {ii : Nat} {js : List Nat} {i : Nat} {text : List Int} (rand : List Int)
theorem take_hon (hm : mx.length = 1) (hR : RI ii js) (hi : i < 2 ^ 31) (ht : text.length ≤ 500) (hy : By text) :
  take_k id fi ok oi (nxtN A ii) ii 0 mx 0 0 (kls mx A js) (frm mx (nxtN A i) i text) rand = rOk ii js i
  ∧ (rOk ii js i = false → take_p_e id fi ok oi (nxtN A ii) ii 0 mx 0 0 (kls mx A js) (frm mx (nxtN A i) i text) rand = rEr ii i)
  ∧ (rOk ii js i = true → take_m id fi ok oi (nxtN A ii) ii 0 mx 0 0 (kls mx A js) (frm mx (nxtN A i) i text) rand = (0, 0, kls mx A (nJ ii js i), nxtN A (nI ii i), nI ii i, text, i)) := by
 obtain ⟨h1, h2⟩ := frm_ok mx (nxtN A i) hi ht
 have hk := open_k id fi ok oi (A := A) (i := i) (fhd i) [] (fbx mx (nxtN A i) i text) hm hR
 have hs : rOk ii js i = true → sopen_m (opening_m id fi ok oi (nxtN A ii) ii 0 mx 0 0 (kls mx A js) (fhd i) i 0 0 [] (fbx mx (nxtN A i) i text)) (List.replicate 12 (0 : Int)) (fhd i) (fbx mx (nxtN A i) i text) = (text, 0) := fun hf => by
  rw [open_m id fi ok oi (fhd i) [] (fbx mx (nxtN A i) i text) hR hf]
  exact open_seal _ _ _ hy
 refine ⟨?_, fun hf => ?_, fun hf => ?_⟩
 ·rw [take_ke]; unfold take_kv
  simp only [h1, h2, hk, if_true]
  cases hf : rOk ii js i with
  | false => rfl
  | true => simp only [hs hf, if_true]; rfl
 ·rw [take_p_ee]; unfold take_p_ev
  simp only [h1, h2, hk, hf, if_true]
  exact open_e id fi ok oi (fhd i) [] (fbx mx (nxtN A i) i text) hf
 ·rw [take_e]; unfold take_v
  simp only [h2, hs hf, came_m' id fi ok oi (fhd i) [] (fbx mx (nxtN A i) i text) hR hf]
  rfl
theorem rcv_hon (hm : mx.length = 1) (hR : RI ii js) (hi : i < 2 ^ 31) (ht : text.length ≤ 500) (hy : By text) :
  receive_k id fi ok oi (nxtN A ii) ii 0 mx 0 0 (kls mx A js) (frm mx (nxtN A i) i text) rand = rOk ii js i
  ∧ (rOk ii js i = true → receive_m id fi ok oi (nxtN A ii) ii 0 mx 0 0 (kls mx A js) (frm mx (nxtN A i) i text) rand = (nxtN A (nI ii i), nI ii i, 0, 0, kls mx A (nJ ii js i), text, i)) := by
 obtain ⟨h1, _, h3⟩ := take_hon id fi ok oi (A := A) (rand.drop 64) hm hR hi ht hy
 constructor
 ·rw [receive_ke]; unfold receive_kv
  rw [h1]; cases rOk ii js i <;> rfl
 ·intro hf
  rw [receive_e]; unfold receive_v
  rw [h3 hf]
end
theorem nI_le (ii i : Nat) : nI ii i ≤ max ii (i + 1) := by unfold nI; split <;> omega
theorem RI.next {ii : Nat} {js : List Nat} {i : Nat} (h : RI ii js) : RI (nI ii i) (nJ ii js i) := by
 unfold nI nJ
 by_cases hi : i < ii
 ·rw [if_pos hi, if_pos hi]
  exact ⟨Nat.le_trans (List.length_filter_le ..) h.len, h.nd.filter _, fun j hj => h.lt j (List.mem_filter.1 hj).1⟩
 ·rw [if_neg hi, if_neg hi]
  refine ⟨by rw [List.length_drop]; omega, List.Pairwise.drop ?_, fun j hj => ?_⟩
  ·refine List.nodup_append.2 ⟨h.nd, List.nodup_range' .., fun a ha b hb e => ?_⟩
   have := h.lt a ha
   rw [List.mem_range'_1] at hb
   omega
  ·rcases List.mem_append.1 (List.mem_of_mem_drop hj) with h1 | h1
   ·have := h.lt j h1; omega
   ·rw [List.mem_range'_1] at h1; omega
theorem RI.nil : RI 0 [] := ⟨by decide, List.nodup_nil, fun _ h => by cases h⟩
def ints (l : List Nat) : List Int := l.map fun j => ((j : Nat) : Int)
theorem kix_kls (mx : List (List Int)) (A : List Int) (js : List Nat) : kix (kls mx A js) = ints js := by
 unfold kix kls ints
 rw [List.map_map]; rfl
theorem skept_kix (id : List Int) (fi : Bool) (ok : List Int) (oi : Nat) (ik : List Int) (ii low : Nat) (mx : List (List Int)) (last told : Nat) (kl : List KR) : skept_m id fi ok oi ik ii low mx last told kl = kix kl := by
 have key : ∀ n, n ≤ kl.length → skept_l1 id fi ok oi ik ii low mx last told kl n = kix (kl.take n) := by
  intro n
  induction n with
  | zero => intro _; rfl
  | succ n ih =>
   intro hn
   show skept_l1 id fi ok oi ik ii low mx last told kl n ++ [(kl.getD n kz).1] = _
   rw [ih omm, List.take_succ_eq_append_getElem omm, List.getD_eq_getElem?_getD, List.getElem?_eq_getElem omm]
   unfold kix
   rw [List.map_append]; rfl
 rw [skept_e]; unfold skept_v
 rw [key _ (Nat.le_refl _), List.take_length]
theorem ints_getD {js : List Nat} {n : Nat} (h : n < js.length) : (ints js).getD n 0 = ((js[n] : Nat) : Int) := by
 unfold ints
 rw [List.getD_eq_getElem?_getD, List.getElem?_map, List.getElem?_eq_getElem h]; rfl
theorem way_1 (a ii : Nat) (js : List Nat) (i : Nat) : ∀ n, n ≤ js.length → wrec_l1 a ii (ints js) i n = (decide (i ∈ js.take n), ints ((js.take n).filter (· != i)))
 | 0, _ => by simp [ints]; rfl
 | n + 1, h => by
  have hn : n < js.length := by omega
  show wrec_l1_s a ii (ints js) i n (wrec_l1 a ii (ints js) i n) = _
  rw [way_1 a ii js i n omm, List.take_succ_eq_append_getElem hn, List.filter_append]
  unfold wrec_l1_s
  simp only [ints_getD hn]
  by_cases e : js[n] = i
  ·rw [if_pos omm]
   simp [e]
  ·rw [if_neg omm]
   have e2 : ¬ i = js[n] := fun h => e h.symm
   simp [e, e2, ints, -List.take_append_getElem]
theorem way_2 (a ii : Nat) (js : List Nat) (i : Nat) : ∀ k, wrec_l2 a ii (ints js) i k = (ii + k, ints (js ++ List.range' ii k))
 | 0 => by
  show (ii, [] ++ ints js) = _
  simp
 | k + 1 => by
  show wrec_l2_s a ii (ints js) i k (wrec_l2 a ii (ints js) i k) = _
  rw [way_2 a ii js i k, List.range'_concat]
  unfold wrec_l2_s
  simp [ints, Nat.add_assoc]
theorem way_hon (a : Nat) {ii : Nat} {js : List Nat} (i : Nat) (hR : RI ii js) : wrec_m a ii (ints js) i = if rOk ii js i = true then (nI ii i, ints (nJ ii js i), 0) else (ii, ints js, rEr ii i) := by
 have hl : (ints js).length = js.length := List.length_map ..
 rw [wrec_e]; unfold wrec_v rOk nI nJ rEr
 by_cases h : i < ii
 ·rw [if_pos omm, hl, way_1 a ii js i _ (Nat.le_refl _), List.take_length]
  simp only [if_pos h]
  by_cases hj : i ∈ js <;> simp [hj]
 ·rw [if_neg omm]
  simp only [if_neg h]
  by_cases h2 : i ≤ ii + 40
  ·have hlst : i - ii = lst fun j => wrec_l2_c a ii (ints js) i (wrec_l2 a ii (ints js) i j) := by
    refine lst_eq (P := fun j => wrec_l2_c a ii (ints js) i (wrec_l2 a ii (ints js) i j)) ?_ ?_
    ·show ¬ wrec_l2_c a ii (ints js) i (wrec_l2 a ii (ints js) i (i - ii))
     rw [way_2]
     show ¬ (((ii + (i - ii) : Nat) : Int) < (i : Int)); omega
    ·intro j hj
     show wrec_l2_c a ii (ints js) i (wrec_l2 a ii (ints js) i j)
     rw [way_2]
     show (((ii + j : Nat) : Int) < (i : Int)); omega
   rw [if_neg omm, ← hlst, way_2]
   have hli : (ints (js ++ List.range' ii (i - ii))).length = (js ++ List.range' ii (i - ii)).length := List.length_map ..
   simp only [hli, decide_eq_true h2, if_true]
   have hd : ints ((js ++ List.range' ii (i - ii)).drop ((js ++ List.range' ii (i - ii)).length - 60)) = (ints (js ++ List.range' ii (i - ii))).drop ((js ++ List.range' ii (i - ii)).length - 60) := by unfold ints; rw [List.map_drop]
   by_cases h6 : (60 : Int) < (((js ++ List.range' ii (i - ii)).length : Nat) : Int)
   ·rw [if_pos h6, hd]
   ·rw [if_neg h6, hd, show (js ++ List.range' ii (i - ii)).length - 60 = 0 by omega, List.drop_zero]
  ·rw [if_pos omm, decide_eq_false h2]; rfl
end
end Go.Sx.Tryz
namespace Go.Sx.Tryz
open Go.Mi Go.RowKit Go.Sx Go.Proofs
noncomputable section
def frow (mx : List (List Int)) (A : List Int) (j : Nat) (t : List Int) : Int × Int × List Int × List Int := ((0 : Int), (j : Int), t, frm mx (nxtN A j) j t)
def frs (mx : List (List Int)) (A : List Int) (tx : List (List Int)) : List (Int × Int × List Int × List Int) := tx.mapIdx fun j t => frow mx A j t
theorem frs_len (mx : List (List Int)) (A : List Int) (tx : List (List Int)) : (frs mx A tx).length = tx.length := List.length_mapIdx ..
theorem frs_app (mx : List (List Int)) (A : List Int) (tx : List (List Int)) (t : List Int) : frs mx A (tx ++ [t]) = frs mx A tx ++ [((0 : Int), ((tx.length : Nat) : Int), t, frm mx (nxtN A tx.length) tx.length t)] := by
 unfold frs
 rw [List.mapIdx_append]
 simp [frow]
theorem frs_at (mx : List (List Int)) (A : List Int) {tx : List (List Int)} {k : Nat} (h : k < tx.length) : (frs mx A tx).getD k (rz [.int .i64, .int .i64, .sl (.int .u8), .sl (.int .u8)]) = ((0 : Int), (k : Int), tx.getD k [], frm mx (nxtN A k) k (tx.getD k [])) := by
 show List.getD (α := Int × Int × List Int × List Int) (frs mx A tx) k (0, 0, [], []) = _
 unfold frs
 rw [List.getD_eq_getElem?_getD, List.getElem?_mapIdx, List.getD_eq_getElem?_getD, List.getElem?_eq_getElem h]
 rfl
def c_sendh (id : List Int) (fi : Bool) (ok : List Int) (oi : Nat) (ik : List Int) (ii : Nat) (mx : List (List Int)) (kl : List KR) (text rand : List Int) : Con := ⟨[.cp 0 0, lb text, lb rand], [(0, .ob 80 (chain [lb id, .v (.bool fi), .v (.bool false), .cp 1 0, .cp 2 0, .v (.pointer none), vi 0, .ls false [.sl (.int .u8)] mx, vi 0, vi 0, .ls false [.int .i64, .int .i64, .sl (.sl (.int .u8))] kl])), (1, .ob 122 (chain [lb ok, vi (oi : Int)])), (2, .ob 122 (chain [lb ik, vi (ii : Int)]))], .tu (chain [lb (frm mx ok oi text), vi (oi : Int), vi 0]), [(0, .ob 80 (chain [lb id, .v (.bool fi), .v (.bool false), .cp 1 0, .cp 2 0, .v (.pointer none), vi 0, .ls false [.sl (.int .u8)] mx, vi 0, vi 0, .ls false [.int .i64, .int .i64, .sl (.sl (.int .u8))] kl])), (1, .ob 122 (chain [lb (nxt ok), vi ((oi + 1 : Nat) : Int)])), (2, .ob 122 (chain [lb ik, vi (ii : Int)]))]⟩
theorem sendh_ok (id : List Int) (fi : Bool) (ok : List Int) (oi : Nat) (ik : List Int) (ii : Nat) (mx : List (List Int)) (kl : List KR) (text rand : List Int) (hok : ok.length = 32) (hik : ik.length = 32) (hoi : oi ≤ 1000000) (hii : ii ≤ 1000000) (hm : mx.length = 1) (hm2 : ∀ j, (mx.getD j (rz [.sl (.int .u8)])).length ≤ 32) (htx : text.length ≤ 500) (hr : rand.length = 128) : ConOk Tryz.prog 24 (c_sendh id fi ok oi ik ii mx kl text rand) := by
 have h := send_ok id fi ok oi ik ii 0 mx 0 0 kl text rand hok hik omm omm ⟨by omega, by omega⟩ hm2 omm (Nat.zero_le _) htx hr
 unfold c_send at h
 rw [send_frm _ _ _ _ _ _ _ _ _ _ hm] at h
 exact h
def c_rcvy (id : List Int) (fi : Bool) (ok : List Int) (oi : Nat) (A : List Int) (ii : Nat) (mx : List (List Int)) (js : List Nat) (i : Nat) (t rand : List Int) : Con := ⟨[.cp 0 0, lb (frm mx (nxtN A i) i t), lb rand], [(0, .ob 80 (chain [lb id, .v (.bool fi), .v (.bool false), .cp 1 0, .cp 2 0, .v (.pointer none), vi 0, .ls false [.sl (.int .u8)] mx, vi 0, vi 0, .ls false [.int .i64, .int .i64, .sl (.sl (.int .u8))] (kls mx A js)])), (1, .ob 122 (chain [lb ok, vi (oi : Int)])), (2, .ob 122 (chain [lb (nxtN A ii), vi (ii : Int)]))], .tu (chain [lb t, vi (i : Int), vi 0]), [(0, .ob 80 (chain [lb id, .v (.bool fi), .v (.bool false), .cp 7 0, .cp 8 0, .v (.pointer none), vi 0, .ls false [.sl (.int .u8)] mx, vi 0, vi 0, .ls false [.int .i64, .int .i64, .sl (.sl (.int .u8))] (kls mx A (nJ ii js i))])), (1, .ob 122 (chain [lb ok, vi (oi : Int)])), (2, .ob 122 (chain [lb (nxtN A ii), vi (ii : Int)])), (7, .ob 122 (chain [lb ok, vi (oi : Int)])), (8, .ob 122 (chain [lb (nxtN A (nI ii i)), vi ((nI ii i : Nat) : Int)]))]⟩
theorem rcvy_ok (id : List Int) (fi : Bool) (ok : List Int) (oi : Nat) (A : List Int) (ii : Nat) (mx : List (List Int)) (js : List Nat) (i : Nat) (t rand : List Int) (hok : ok.length = 32) (hA : A.length = 32) (hoi : oi ≤ 1000000) (hii : ii ≤ 1000000) (hm : mx.length = 1) (hm2 : ∀ j, (mx.getD j (rz [.sl (.int .u8)])).length ≤ 32) (hR : RI ii js) (hi : i ≤ 1000000) (ht : t.length ≤ 500) (hy : By t) (hr : rand.length = 128) (hs : rOk ii js i = true) : ConOk Tryz.prog 19 (c_rcvy id fi ok oi A ii mx js i t rand) := by
 have hn := nxtN_len hA
 have hf := (frm_len mx (nxtN A i) (n := i) (text := t) omm ht).2
 have hh := rcv_hon id fi ok oi (A := A) rand hm hR (show i < 2 ^ 31 by omega) ht hy
 have h := receive_ok id fi ok oi (nxtN A ii) ii 0 mx 0 0 (kls mx A js) (frm mx (nxtN A i) i t) rand hok (hn ii) omm omm ⟨by omega, by omega⟩ hm2 omm (kls_ok mx A hR omm) ⟨by omega, by omega⟩ omm omm hr (hh.1.trans hs)
 unfold c_receive at h
 rw [hh.2 hs] at h
 exact h
def c_wrecy (a ii : Nat) (js : List Nat) (i : Nat) : Con := ⟨[.ag (chain [vi (a : Int), vi (ii : Int), .ls false [.int .i64] (ints js)]), vi (i : Int)], [], .tu (chain [.ag (chain [vi (a : Int), vi ((nI ii i : Nat) : Int), .ls false [.int .i64] (ints (nJ ii js i))]), vi 0]), []⟩
theorem wrecy_ok (a ii : Nat) (js : List Nat) (i : Nat) (hR : RI ii js) (hii : ii ≤ 1000000) (hi : i ≤ 1000000) (hs : rOk ii js i = true) : ConOk Tryz.prog 35 (c_wrecy a ii js i) := by
 have hl : (ints js).length = js.length := List.length_map ..
 have h6 := hR.len
 have h := wrec_ok a ii (ints js) i omm ⟨by omega, by omega⟩
 unfold c_wrec at h
 rw [way_hon a i hR, hs] at h
 exact h
def c_skeptf (id : List Int) (fi : Bool) (ok : List Int) (oi : Nat) (ik : List Int) (ii low : Nat) (mx : List (List Int)) (last told : Nat) (kl : List KR) : Con := ⟨[.cp 0 0], [(0, .ob 80 (chain [lb id, .v (.bool fi), .v (.bool false), .cp 1 0, .cp 2 0, .v (.pointer none), vi (low : Int), .ls false [.sl (.int .u8)] mx, vi (last : Int), vi (told : Int), .ls false [.int .i64, .int .i64, .sl (.sl (.int .u8))] kl])), (1, .ob 122 (chain [lb ok, vi (oi : Int)])), (2, .ob 122 (chain [lb ik, vi (ii : Int)]))], .ls false [.int .i64] (skept_m id fi ok oi ik ii low mx last told kl), [(0, .ob 80 (chain [lb id, .v (.bool fi), .v (.bool false), .cp 1 0, .cp 2 0, .v (.pointer none), vi (low : Int), .ls false [.sl (.int .u8)] mx, vi (last : Int), vi (told : Int), .ls false [.int .i64, .int .i64, .sl (.sl (.int .u8))] kl])), (1, .ob 122 (chain [lb ok, vi (oi : Int)])), (2, .ob 122 (chain [lb ik, vi (ii : Int)]))]⟩
theorem skeptf_ok (id : List Int) (fi : Bool) (ok : List Int) (oi : Nat) (ik : List Int) (ii low : Nat) (mx : List (List Int)) (last told : Nat) (kl : List KR) (hK : KOk kl) : ConOk Tryz.prog 21 (c_skeptf id fi ok oi ik ii low mx last told kl) := ConOk.frz [(0, .ob 80 (chain [lb id, .v (.bool fi), .v (.bool false), .cp 1 0, .cp 2 0, .v (.pointer none), vi (low : Int), .ls false [.sl (.int .u8)] mx, vi (last : Int), vi (told : Int), .ls false [.int .i64, .int .i64, .sl (.sl (.int .u8))] kl])), (1, .ob 122 (chain [lb ok, vi (oi : Int)])), (2, .ob 122 (chain [lb ik, vi (ii : Int)]))] 3 3 [.int .i64] (skept_m id fi ok oi ik ii low mx last told kl) (skept_ok id fi ok oi ik ii low mx last told kl hK) (by kernel_rfl)
def c_skepth (id : List Int) (fi : Bool) (ok : List Int) (oi : Nat) (A : List Int) (ii : Nat) (mx : List (List Int)) (js : List Nat) : Con := ⟨[.cp 0 0], [(0, .ob 80 (chain [lb id, .v (.bool fi), .v (.bool false), .cp 1 0, .cp 2 0, .v (.pointer none), vi 0, .ls false [.sl (.int .u8)] mx, vi 0, vi 0, .ls false [.int .i64, .int .i64, .sl (.sl (.int .u8))] (kls mx A js)])), (1, .ob 122 (chain [lb ok, vi (oi : Int)])), (2, .ob 122 (chain [lb (nxtN A ii), vi (ii : Int)]))], .ls false [.int .i64] (ints js), [(0, .ob 80 (chain [lb id, .v (.bool fi), .v (.bool false), .cp 1 0, .cp 2 0, .v (.pointer none), vi 0, .ls false [.sl (.int .u8)] mx, vi 0, vi 0, .ls false [.int .i64, .int .i64, .sl (.sl (.int .u8))] (kls mx A js)])), (1, .ob 122 (chain [lb ok, vi (oi : Int)])), (2, .ob 122 (chain [lb (nxtN A ii), vi (ii : Int)]))]⟩
theorem skepth_ok (id : List Int) (fi : Bool) (ok : List Int) (oi : Nat) (A : List Int) (ii : Nat) (mx : List (List Int)) (js : List Nat) (hR : RI ii js) (hii : ii ≤ 1000000) : ConOk Tryz.prog 21 (c_skepth id fi ok oi A ii mx js) := by
 have h := skeptf_ok id fi ok oi (nxtN A ii) ii 0 mx 0 0 (kls mx A js) (kls_ok mx A hR omm)
 unfold c_skeptf at h
 rw [skept_kix, kix_kls] at h
 exact h
end
end Go.Sx.Tryz
namespace Go.Sx.Tryz
open Go.Mi Go.RowKit Go.Sx Go.Proofs
noncomputable section
def c_psend (A B : List Int) (mx : List (List Int)) (n ii : Nat) (js : List Nat) (tx : List (List Int)) (ida : List Int) (idb text rand : List Int) : Con := ⟨[.cp 0 0, vi 0, lb text, lb rand], [(0, .ob 39 (chain [.cp 1 0, .cp 4 0, vi (n : Int), vi (ii : Int), .ls false [.int .i64] (ints js), vi 0, vi 0, .ls false [.int .i64] [], .sk 7])), (1, .ob 80 (chain [lb ida, .v (.bool true), .v (.bool false), .cp 2 0, .cp 3 0, .v (.pointer none), vi 0, .ls false [.sl (.int .u8)] mx, vi 0, vi 0, .ls false [.int .i64, .int .i64, .sl (.sl (.int .u8))] []])), (2, .ob 122 (chain [lb (nxtN A n), vi (n : Int)])), (3, .ob 122 (chain [lb B, vi 0])), (4, .ob 80 (chain [lb idb, .v (.bool false), .v (.bool false), .cp 5 0, .cp 6 0, .v (.pointer none), vi 0, .ls false [.sl (.int .u8)] mx, vi 0, vi 0, .ls false [.int .i64, .int .i64, .sl (.sl (.int .u8))] (kls mx A js)])), (5, .ob 122 (chain [lb B, vi 0])), (6, .ob 122 (chain [lb (nxtN A ii), vi (ii : Int)])), (7, .sl 48 [.int .i64, .int .i64, .sl (.int .u8), .sl (.int .u8)] (frs mx A tx))], .v (.bool true), [(0, .ob 39 (chain [.cp 1 0, .cp 4 0, vi ((n + 1 : Nat) : Int), vi (ii : Int), .ls false [.int .i64] (ints js), vi 0, vi 0, .ls false [.int .i64] [], .sk 8])), (1, .ob 80 (chain [lb ida, .v (.bool true), .v (.bool false), .cp 2 0, .cp 3 0, .v (.pointer none), vi 0, .ls false [.sl (.int .u8)] mx, vi 0, vi 0, .ls false [.int .i64, .int .i64, .sl (.sl (.int .u8))] []])), (2, .ob 122 (chain [lb (nxtN A (n + 1)), vi ((n + 1 : Nat) : Int)])), (3, .ob 122 (chain [lb B, vi 0])), (4, .ob 80 (chain [lb idb, .v (.bool false), .v (.bool false), .cp 5 0, .cp 6 0, .v (.pointer none), vi 0, .ls false [.sl (.int .u8)] mx, vi 0, vi 0, .ls false [.int .i64, .int .i64, .sl (.sl (.int .u8))] (kls mx A js)])), (5, .ob 122 (chain [lb B, vi 0])), (6, .ob 122 (chain [lb (nxtN A ii), vi (ii : Int)])), (8, .sl 48 [.int .i64, .int .i64, .sl (.int .u8), .sl (.int .u8)] (frs mx A (tx ++ [text])))]⟩
theorem psend_ok (A B : List Int) (mx : List (List Int)) (n ii : Nat) (js : List Nat) (tx : List (List Int)) (ida : List Int) (idb text rand : List Int) (hA : A.length = 32) (hB : B.length = 32) (hm : mx.length = 1) (hm2 : ∀ j, (mx.getD j (rz [.sl (.int .u8)])).length ≤ 32) (hn : n = tx.length ∧ n ≤ 100000) (hii : ii ≤ 100000) (htx : text.length ≤ 500) (hr : rand.length = 128) : ConOk Tryz.prog 14 (c_psend A B mx n ii js tx ida idb text rand) := by
 refine conOk_of rfl (nb := 8) Tryz.func14 rfl rfl Tryz.ntmps14 rfl rfl rfl fun g0 w0 ac gs ws hg0 hS => ?_
 have hlen2 : text.length ≤ 9223372036854775807 := hS.len 2 rfl
 have hlen3 : rand.length ≤ 9223372036854775807 := hS.len 3 rfl
 have hlenk7 : (frs mx A tx).length ≤ 9223372036854775807 := hS.lens 7 rfl
 have hS := hS.sp
 have hx1 : ¬ (500 : Int) < ((text.length : Nat) : Int) := omm
 refine s0 [0, 1, 2, 3, 8] [0, 1, 2, 3, 4, 5, 6, 7] 8 hS fun hS => ?_
 refine sA [(8, .call ⟨24, (c_sendh ida true (nxtN A n) n B 0 mx [] text rand), [(0, 1), (1, 2), (2, 3)], []⟩)] ⟨sendh_ok _ _ _ _ _ _ _ _ _ _ (nxtN_len hA _) hB omm omm hm hm2 htx hr, trivial⟩ (fun C => [(0 : Int) ≤ 0 ∧ (0 : Int) < 2, ndC C 8]) [0, 1, 2, 8, 9, 10, 11] [0, 1, 2, 3, 4, 5, 6, 7] 8 ⟨by omega, rfl, trivial⟩ hS fun hS => ?_
 refine wp_seq (sA [(2, .ob false)] trivial (fun _ => [(decide ((500 : Int) < ((text.length : Nat) : Int))) = false]) [0, 1, 2, 8, 9, 10, 11, 27] [0, 1, 2, 3, 4, 5, 6, 7] 8 ⟨decide_eq_false hx1, trivial⟩ hS fun hS => ?_)
 refine cond_f hS ?_
 refine wp_skip (then_n (wp_seq (wp_seq ?_)))
 have hfl := frm_len mx (nxtN A n) (n := n) (text := text) omm htx
 have hq3 : (n : Int) = (n : Int) := rfl
 have hq1 : ¬ (4000 : Int) < (((frm mx (nxtN A n) n text).length : Nat) : Int) := omm
 have hq2 : ¬ (((frm mx (nxtN A n) n text).length : Nat) : Int) = 0 := omm
 refine rA [(11, .ob false), (16, .ob false), (21, .ob false)] trivial (fun _ => [(0 : Int) ≤ 0 ∧ (0 : Int) < 2, (!decide ((n : Int) = (n : Int))) = false, (decide ((4000 : Int) < (((frm mx (nxtN A n) n text).length : Nat) : Int))) = false, (decide ((((frm mx (nxtN A n) n text).length : Nat) : Int) = 0)) = false]) [0, 1, 2, 8, 9, 10, 61] [0, 1, 2, 3, 4, 5, 6, 7] 8 ⟨by omega, by rw [decide_eq_true hq3]; rfl, decide_eq_false hq1, decide_eq_false hq2, trivial⟩ hS fun hS => ?_
 refine then_n (cond_f hS ?_)
 refine wp_skip (then_n (sA [(7, .oi ((n + 1 : Nat) : Int))] trivial (fun _ => [(0 : Int) ≤ 0 ∧ (0 : Int) < 2, iadd .i64 (n : Int) 1 = ((n + 1 : Nat) : Int), (0 : Int) ≤ 0 ∧ (0 : Int) < 2]) [0, 1, 2, 8, 9, 10] [0, 1, 2, 3, 4, 5, 6, 7] 8 ⟨by omega, by rw [iadd64 omm omm]; omega, by omega, trivial⟩ hS fun hS => ?_))
 refine wp_seq ?_
 have hfs := frs_len mx A tx
 refine rA [] trivial (fun _ => [(frs mx A tx).length + [(0, (n : Int), text, frm mx (nxtN A n) n text)].length ≤ 9223372036854775807, ((frs mx A tx).length + [(0, (n : Int), text, frm mx (nxtN A n) n text)].length) * 64 ≤ 140737488355328]) [0, 1, 8] [0, 1, 2, 3, 4, 5, 6, 8] 9 ⟨by simp <;> omega, by simp <;> omega, trivial⟩ hS fun hS => ?_
 refine then_n (wp_seq ?_)
 have hS := hS.rv [(0, .cp 0 0), (1, vi 0), (8, .v (.bool false))] [(0, some (.ob 39 (chain [.cp 1 0, .cp 4 0, vi ((n + 1 : Nat) : Int), vi (ii : Int), .ls false [.int .i64] (ints js), vi 0, vi 0, .ls false [.int .i64] [], .sk 8]))), (1, some (.ob 80 (chain [lb ida, .v (.bool true), .v (.bool false), .cp 2 0, .cp 3 0, .v (.pointer none), vi 0, .ls false [.sl (.int .u8)] mx, vi 0, vi 0, .ls false [.int .i64, .int .i64, .sl (.sl (.int .u8))] []]))), (2, some (.ob 122 (chain [lb (nxt (nxtN A n)), vi ((n + 1 : Nat) : Int)]))), (3, some (.ob 122 (chain [lb B, vi 0]))), (4, some (.ob 80 (chain [lb idb, .v (.bool false), .v (.bool false), .cp 5 0, .cp 6 0, .v (.pointer none), vi 0, .ls false [.sl (.int .u8)] mx, vi 0, vi 0, .ls false [.int .i64, .int .i64, .sl (.sl (.int .u8))] (kls mx A js)]))), (5, some (.ob 122 (chain [lb B, vi 0]))), (6, some (.ob 122 (chain [lb (nxtN A ii), vi (ii : Int)]))), (8, some (.sl 48 [.int .i64, .int .i64, .sl (.int .u8), .sl (.int .u8)] ((frs mx A tx) ++ [(0, (n : Int), text, frm mx (nxtN A n) n text)])))]
 have hS := hS.cast (L' := [(0, .cp 0 0), (1, vi 0), (8, .v (.bool false))]) (H' := [(0, some (.ob 39 (chain [.cp 1 0, .cp 4 0, vi ((n + 1 : Nat) : Int), vi (ii : Int), .ls false [.int .i64] (ints js), vi 0, vi 0, .ls false [.int .i64] [], .sk 8]))), (1, some (.ob 80 (chain [lb ida, .v (.bool true), .v (.bool false), .cp 2 0, .cp 3 0, .v (.pointer none), vi 0, .ls false [.sl (.int .u8)] mx, vi 0, vi 0, .ls false [.int .i64, .int .i64, .sl (.sl (.int .u8))] []]))), (2, some (.ob 122 (chain [lb (nxt (nxtN A n)), vi ((n + 1 : Nat) : Int)]))), (3, some (.ob 122 (chain [lb B, vi 0]))), (4, some (.ob 80 (chain [lb idb, .v (.bool false), .v (.bool false), .cp 5 0, .cp 6 0, .v (.pointer none), vi 0, .ls false [.sl (.int .u8)] mx, vi 0, vi 0, .ls false [.int .i64, .int .i64, .sl (.sl (.int .u8))] (kls mx A js)]))), (5, some (.ob 122 (chain [lb B, vi 0]))), (6, some (.ob 122 (chain [lb (nxtN A ii), vi (ii : Int)]))), (8, some (.sl 48 [.int .i64, .int .i64, .sl (.int .u8), .sl (.int .u8)] (frs mx A (tx ++ [text]))))]) rfl (by rw [frs_app, ← hn.1] <;> rfl)
 have hS := hS.sp
 refine rA [(6, .call ⟨32, (c_ssent ida true (nxt (nxtN A n)) (n + 1) B 0 0 mx 0 0 []), [(0, 1), (1, 2), (2, 3)], []⟩)] ⟨ssent_ok _ _ _ _ _ _ _ _ _ _ _, trivial⟩ (fun C => [(0 : Int) ≤ 0 ∧ (0 : Int) < 2, ndC C 6, (0 : Int) ≤ 0 ∧ (0 : Int) < 2]) [8] [0, 1, 2, 3, 4, 5, 6, 8] 9 ⟨by omega, rfl, by omega, trivial⟩ hS fun hS => ?_
 refine then_n (wp_ret ?_)
 exact fin_y rfl (.inr rfl) hS [.v (.bool (decide ((((n + 1) : Nat) : Int) = ((n + 1 : Nat) : Int))))] [(0, some (.ob 39 (chain [.cp 1 0, .cp 4 0, vi ((n + 1 : Nat) : Int), vi (ii : Int), .ls false [.int .i64] (ints js), vi 0, vi 0, .ls false [.int .i64] [], .sk 8]))), (1, some (.ob 80 (chain [lb ida, .v (.bool true), .v (.bool false), .cp 2 0, .cp 3 0, .v (.pointer none), vi 0, .ls false [.sl (.int .u8)] mx, vi 0, vi 0, .ls false [.int .i64, .int .i64, .sl (.sl (.int .u8))] []]))), (2, some (.ob 122 (chain [lb (nxt (nxtN A n)), vi (((n + 1) : Nat) : Int)]))), (3, some (.ob 122 (chain [lb B, vi 0]))), (4, some (.ob 80 (chain [lb idb, .v (.bool false), .v (.bool false), .cp 5 0, .cp 6 0, .v (.pointer none), vi 0, .ls false [.sl (.int .u8)] mx, vi 0, vi 0, .ls false [.int .i64, .int .i64, .sl (.sl (.int .u8))] (kls mx A js)]))), (5, some (.ob 122 (chain [lb B, vi 0]))), (6, some (.ob 122 (chain [lb (nxtN A ii), vi (ii : Int)]))), (8, some (.sl 48 [.int .i64, .int .i64, .sl (.int .u8), .sl (.int .u8)] (frs mx A (tx ++ [text]))))] (by show weak (.v (.bool (decide (((n + 1 : Nat) : Int) = ((n + 1 : Nat) : Int))))) (.v (.bool true)) = .v (.bool true); rw [decide_eq_true rfl]; rfl) ⟨rfl, rfl, rfl, rfl, rfl, rfl, rfl, rfl, trivial⟩

end
end Go.Sx.Tryz
namespace Go.Sx.Tryz
open Go.Mi Go.RowKit Go.Sx Go.Proofs
noncomputable section
def c_pshows (A B : List Int) (mx : List (List Int)) (n ii : Nat) (js : List Nat) (tx : List (List Int)) (ida idb : List Int) : Con := ⟨[.cp 0 0, vi 1], [(0, .ob 39 (chain [.cp 1 0, .cp 4 0, vi (n : Int), vi (ii : Int), .ls false [.int .i64] (ints js), vi 0, vi 0, .ls false [.int .i64] [], .sk 7])), (1, .ob 80 (chain [lb ida, .v (.bool true), .v (.bool false), .cp 2 0, .cp 3 0, .v (.pointer none), vi 0, .ls false [.sl (.int .u8)] mx, vi 0, vi 0, .ls false [.int .i64, .int .i64, .sl (.sl (.int .u8))] []])), (2, .ob 122 (chain [lb (nxtN A n), vi (n : Int)])), (3, .ob 122 (chain [lb B, vi 0])), (4, .ob 80 (chain [lb idb, .v (.bool false), .v (.bool false), .cp 5 0, .cp 6 0, .v (.pointer none), vi 0, .ls false [.sl (.int .u8)] mx, vi 0, vi 0, .ls false [.int .i64, .int .i64, .sl (.sl (.int .u8))] (kls mx A js)])), (5, .ob 122 (chain [lb B, vi 0])), (6, .ob 122 (chain [lb (nxtN A ii), vi (ii : Int)])), (7, .sl 48 [.int .i64, .int .i64, .sl (.int .u8), .sl (.int .u8)] (frs mx A tx))], .v (.bool true), [(0, .ob 39 (chain [.cp 1 0, .cp 4 0, vi (n : Int), vi (ii : Int), .ls false [.int .i64] (ints js), vi 0, vi 0, .ls false [.int .i64] [], .sk 7])), (1, .ob 80 (chain [lb ida, .v (.bool true), .v (.bool false), .cp 2 0, .cp 3 0, .v (.pointer none), vi 0, .ls false [.sl (.int .u8)] mx, vi 0, vi 0, .ls false [.int .i64, .int .i64, .sl (.sl (.int .u8))] []])), (2, .ob 122 (chain [lb (nxtN A n), vi (n : Int)])), (3, .ob 122 (chain [lb B, vi 0])), (4, .ob 80 (chain [lb idb, .v (.bool false), .v (.bool false), .cp 5 0, .cp 6 0, .v (.pointer none), vi 0, .ls false [.sl (.int .u8)] mx, vi 0, vi 0, .ls false [.int .i64, .int .i64, .sl (.sl (.int .u8))] (kls mx A js)])), (5, .ob 122 (chain [lb B, vi 0])), (6, .ob 122 (chain [lb (nxtN A ii), vi (ii : Int)])), (7, .sl 48 [.int .i64, .int .i64, .sl (.int .u8), .sl (.int .u8)] (frs mx A tx))]⟩
theorem pshows_ok (A B : List Int) (mx : List (List Int)) (n ii : Nat) (js : List Nat) (tx : List (List Int)) (ida idb : List Int) (hA : A.length = 32) (hB : B.length = 32) (hm : mx.length = 1) (hm2 : ∀ j, (mx.getD j (rz [.sl (.int .u8)])).length ≤ 32) (hR : RI ii js) (hii : ii ≤ 100000) (hn : n ≤ 100000) : ConOk Tryz.prog 27 (c_pshows A B mx n ii js tx ida idb) := by
 refine conOk_of rfl (nb := 8) Tryz.func27 rfl rfl Tryz.ntmps27 rfl rfl rfl fun g0 w0 ac gs ws hg0 hS => ?_
 have hlenk7 : (frs mx A tx).length ≤ 9223372036854775807 := hS.lens 7 rfl
 have hS := hS.sp
 refine s0 [0, 1, 4] [0, 1, 2, 3, 4, 5, 6, 7] 8 hS fun hS => ?_
 refine sA [] trivial (fun _ => [(0 : Int) ≤ 0 ∧ (0 : Int) < 2]) [0, 1, 4, 5] [0, 1, 2, 3, 4, 5, 6, 7, 8] 9 ⟨by omega, trivial⟩ hS fun hS => ?_
 refine wp_seq ?_
 have hq1 : (ii : Int) = (ii : Int) := rfl
 refine rA [(6, .call ⟨20, (c_snext idb false B 0 (nxtN A ii) ii 0 mx 0 0 (kls mx A js)), [(0, 4), (1, 5), (2, 6)], []⟩), (9, .ob true), (17, .call ⟨21, (c_skepth idb false B 0 A ii mx js), [(0, 4), (1, 5), (2, 6)], []⟩), (20, .call ⟨31, (c_ints (ints js) (ints js)), [], []⟩)] ⟨snext_ok _ _ _ _ _ _ _ _ _ _ _, skepth_ok _ _ _ _ _ _ _ _ asm omm, ints_ok _ _, trivial⟩ (fun C => [(0 : Int) ≤ 1 ∧ (1 : Int) < 2, ndC C 6, (decide ((ii : Int) = (ii : Int))) = true, (0 : Int) ≤ 1 ∧ (1 : Int) < 2, ndC C 17, ndC C 20]) [4] [0, 1, 2, 3, 4, 5, 6, 7] 9 ⟨by omega, rfl, decide_eq_true hq1, by omega, rfl, rfl, trivial⟩ hS fun hS => ?_
 refine then_n (wp_ret ?_)
 exact fin_y rfl (.inr rfl) hS [.v (.bool (decide ((ints js) = (ints js))))] [(0, some (.ob 39 (chain [.cp 1 0, .cp 4 0, vi (n : Int), vi (ii : Int), .ls false [.int .i64] (ints js), vi 0, vi 0, .ls false [.int .i64] [], .sk 7]))), (1, some (.ob 80 (chain [lb ida, .v (.bool true), .v (.bool false), .cp 2 0, .cp 3 0, .v (.pointer none), vi 0, .ls false [.sl (.int .u8)] mx, vi 0, vi 0, .ls false [.int .i64, .int .i64, .sl (.sl (.int .u8))] []]))), (2, some (.ob 122 (chain [lb (nxtN A n), vi (n : Int)]))), (3, some (.ob 122 (chain [lb B, vi 0]))), (4, some (.ob 80 (chain [lb idb, .v (.bool false), .v (.bool false), .cp 5 0, .cp 6 0, .v (.pointer none), vi 0, .ls false [.sl (.int .u8)] mx, vi 0, vi 0, .ls false [.int .i64, .int .i64, .sl (.sl (.int .u8))] (kls mx A js)]))), (5, some (.ob 122 (chain [lb B, vi 0]))), (6, some (.ob 122 (chain [lb (nxtN A ii), vi (ii : Int)]))), (7, some (.sl 48 [.int .i64, .int .i64, .sl (.int .u8), .sl (.int .u8)] (frs mx A tx)))] (by show weak (.v (.bool (decide (ints js = ints js)))) (.v (.bool true)) = .v (.bool true); rw [decide_eq_true rfl]; rfl) ⟨rfl, rfl, rfl, rfl, rfl, rfl, rfl, rfl, trivial⟩

def c_pdely (A B : List Int) (mx : List (List Int)) (n ii : Nat) (js : List Nat) (tx : List (List Int)) (ida idb : List Int) (k : Nat) (rand : List Int) : Con := ⟨[.cp 0 0, vi (k : Int), lb rand], [(0, .ob 39 (chain [.cp 1 0, .cp 4 0, vi (n : Int), vi (ii : Int), .ls false [.int .i64] (ints js), vi 0, vi 0, .ls false [.int .i64] [], .sk 7])), (1, .ob 80 (chain [lb ida, .v (.bool true), .v (.bool false), .cp 2 0, .cp 3 0, .v (.pointer none), vi 0, .ls false [.sl (.int .u8)] mx, vi 0, vi 0, .ls false [.int .i64, .int .i64, .sl (.sl (.int .u8))] []])), (2, .ob 122 (chain [lb (nxtN A n), vi (n : Int)])), (3, .ob 122 (chain [lb B, vi 0])), (4, .ob 80 (chain [lb idb, .v (.bool false), .v (.bool false), .cp 5 0, .cp 6 0, .v (.pointer none), vi 0, .ls false [.sl (.int .u8)] mx, vi 0, vi 0, .ls false [.int .i64, .int .i64, .sl (.sl (.int .u8))] (kls mx A js)])), (5, .ob 122 (chain [lb B, vi 0])), (6, .ob 122 (chain [lb (nxtN A ii), vi (ii : Int)])), (7, .sl 48 [.int .i64, .int .i64, .sl (.int .u8), .sl (.int .u8)] (frs mx A tx))], .v (.bool true), [(0, .ob 39 (chain [.cp 1 0, .cp 4 0, vi (n : Int), vi ((nI ii k : Nat) : Int), .ls false [.int .i64] (ints (nJ ii js k)), vi 0, vi 0, .ls false [.int .i64] [], .sk 7])), (1, .ob 80 (chain [lb ida, .v (.bool true), .v (.bool false), .cp 2 0, .cp 3 0, .v (.pointer none), vi 0, .ls false [.sl (.int .u8)] mx, vi 0, vi 0, .ls false [.int .i64, .int .i64, .sl (.sl (.int .u8))] []])), (2, .ob 122 (chain [lb (nxtN A n), vi (n : Int)])), (3, .ob 122 (chain [lb B, vi 0])), (4, .ob 80 (chain [lb idb, .v (.bool false), .v (.bool false), .cp 8 0, .cp 9 0, .v (.pointer none), vi 0, .ls false [.sl (.int .u8)] mx, vi 0, vi 0, .ls false [.int .i64, .int .i64, .sl (.sl (.int .u8))] (kls mx A (nJ ii js k))])), (5, .ob 122 (chain [lb B, vi 0])), (6, .ob 122 (chain [lb (nxtN A ii), vi (ii : Int)])), (7, .sl 48 [.int .i64, .int .i64, .sl (.int .u8), .sl (.int .u8)] (frs mx A tx)), (8, .ob 122 (chain [lb B, vi 0])), (9, .ob 122 (chain [lb (nxtN A (nI ii k)), vi ((nI ii k : Nat) : Int)]))]⟩
theorem pdely_ok (A B : List Int) (mx : List (List Int)) (n ii : Nat) (js : List Nat) (tx : List (List Int)) (ida idb : List Int) (k : Nat) (rand : List Int) (hA : A.length = 32) (hB : B.length = 32) (hm : mx.length = 1) (hm2 : ∀ j, (mx.getD j (rz [.sl (.int .u8)])).length ≤ 32) (hR : RI ii js) (hii : ii ≤ 100000) (hn : n ≤ 100000) (hk : k < tx.length ∧ k < 100000) (htk : (tx.getD k []).length ≤ 500 ∧ By (tx.getD k [])) (hr : rand.length = 128) (hs : rOk ii js k = true) : ConOk Tryz.prog 16 (c_pdely A B mx n ii js tx ida idb k rand) := by
 refine conOk_of rfl (nb := 8) Tryz.func16 rfl rfl Tryz.ntmps16 rfl rfl rfl fun g0 w0 ac gs ws hg0 hS => ?_
 have hlen2 : rand.length ≤ 9223372036854775807 := hS.len 2 rfl
 have hlenk7 : (frs mx A tx).length ≤ 9223372036854775807 := hS.lens 7 rfl
 have hS := hS.sp
 have hs1 : rOk ii js k = true := hs
 refine s0 [0, 1, 2, 6] [0, 1, 2, 3, 4, 5, 6, 7] 8 hS fun hS => ?_
 refine wp_seq ?_
 have hfs := frs_len mx A tx
 refine rA [] trivial (fun _ => [(0 : Int) ≤ (k : Int) ∧ (k : Int) < (((frs mx A tx).length : Nat) : Int)]) [0, 2, 6, 7] [0, 1, 2, 3, 4, 5, 6, 7, 8] 9 ⟨by omega, trivial⟩ hS fun hS => ?_
 refine then_n (wp_seq ?_)
 have hS := hS.rv [(0, .cp 0 0), (2, lb rand), (6, .v (.bool false)), (7, .cp 8 0)] [(0, some (.ob 39 (chain [.cp 1 0, .cp 4 0, vi (n : Int), vi (ii : Int), .ls false [.int .i64] (ints js), vi 0, vi 0, .ls false [.int .i64] [], .sk 7]))), (1, some (.ob 80 (chain [lb ida, .v (.bool true), .v (.bool false), .cp 2 0, .cp 3 0, .v (.pointer none), vi 0, .ls false [.sl (.int .u8)] mx, vi 0, vi 0, .ls false [.int .i64, .int .i64, .sl (.sl (.int .u8))] []]))), (2, some (.ob 122 (chain [lb (nxtN A n), vi (n : Int)]))), (3, some (.ob 122 (chain [lb B, vi 0]))), (4, some (.ob 80 (chain [lb idb, .v (.bool false), .v (.bool false), .cp 5 0, .cp 6 0, .v (.pointer none), vi 0, .ls false [.sl (.int .u8)] mx, vi 0, vi 0, .ls false [.int .i64, .int .i64, .sl (.sl (.int .u8))] (kls mx A js)]))), (5, some (.ob 122 (chain [lb B, vi 0]))), (6, some (.ob 122 (chain [lb (nxtN A ii), vi (ii : Int)]))), (7, some (.sl 48 [.int .i64, .int .i64, .sl (.int .u8), .sl (.int .u8)] (frs mx A tx))), (8, some (.ob 48 (chain [vi (((frs mx A tx).getD k (rz [.int .i64, .int .i64, .sl (.int .u8), .sl (.int .u8)])).1), vi ((((frs mx A tx).getD k (rz [.int .i64, .int .i64, .sl (.int .u8), .sl (.int .u8)])).2).1), lb (((((frs mx A tx).getD k (rz [.int .i64, .int .i64, .sl (.int .u8), .sl (.int .u8)])).2).2).1), lb (((((frs mx A tx).getD k (rz [.int .i64, .int .i64, .sl (.int .u8), .sl (.int .u8)])).2).2).2)])))]
 have hS := hS.cast (L' := [(0, .cp 0 0), (2, lb rand), (6, .v (.bool false)), (7, .cp 8 0)]) (H' := [(0, some (.ob 39 (chain [.cp 1 0, .cp 4 0, vi (n : Int), vi (ii : Int), .ls false [.int .i64] (ints js), vi 0, vi 0, .ls false [.int .i64] [], .sk 7]))), (1, some (.ob 80 (chain [lb ida, .v (.bool true), .v (.bool false), .cp 2 0, .cp 3 0, .v (.pointer none), vi 0, .ls false [.sl (.int .u8)] mx, vi 0, vi 0, .ls false [.int .i64, .int .i64, .sl (.sl (.int .u8))] []]))), (2, some (.ob 122 (chain [lb (nxtN A n), vi (n : Int)]))), (3, some (.ob 122 (chain [lb B, vi 0]))), (4, some (.ob 80 (chain [lb idb, .v (.bool false), .v (.bool false), .cp 5 0, .cp 6 0, .v (.pointer none), vi 0, .ls false [.sl (.int .u8)] mx, vi 0, vi 0, .ls false [.int .i64, .int .i64, .sl (.sl (.int .u8))] (kls mx A js)]))), (5, some (.ob 122 (chain [lb B, vi 0]))), (6, some (.ob 122 (chain [lb (nxtN A ii), vi (ii : Int)]))), (7, some (.sl 48 [.int .i64, .int .i64, .sl (.int .u8), .sl (.int .u8)] (frs mx A tx))), (8, some (.ob 48 (chain [vi 0, vi (k : Int), lb (tx.getD k []), lb (frm mx (nxtN A k) k (tx.getD k []))])))]) rfl (by rw [frs_at mx A hk.1] <;> rfl)
 have hS := hS.sp
 refine r0 [0, 2, 6, 7, 8] [0, 1, 2, 3, 4, 5, 6, 7, 8] 9 hS fun hS => ?_
 refine then_n (sA [(9, .call ⟨35, (c_wrecy n ii js k), [], []⟩)] ⟨wrecy_ok _ _ _ _ asm omm omm hs1, trivial⟩ (fun C => [(0 : Int) ≤ 0 ∧ (0 : Int) < 2, ndC C 9]) [0, 2, 6, 7, 8, 9, 10] [0, 1, 2, 3, 4, 5, 6, 7, 8, 9] 10 ⟨by omega, rfl, trivial⟩ hS fun hS => ?_)
 refine sA [(9, .call ⟨19, (c_rcvy idb false B 0 A ii mx js k (tx.getD k []) rand), [(0, 4), (1, 5), (2, 6)], [(7, 10), (8, 11)]⟩)] ⟨rcvy_ok _ _ _ _ _ _ _ _ _ _ _ hB hA omm omm hm hm2 hR omm htk.1 htk.2 hr hs, trivial⟩ (fun C => [(0 : Int) ≤ 1 ∧ (1 : Int) < 2, ndC C 9]) [0, 6, 7, 8, 9, 10, 11, 12, 13] [0, 1, 2, 3, 4, 5, 6, 7, 8, 9, 10, 11] 12 ⟨by omega, rfl, trivial⟩ hS fun hS => ?_
 refine wp_seq (s0 [0, 6, 7, 8, 9, 11, 12, 13, 53] [0, 1, 2, 3, 4, 5, 6, 7, 8, 9, 10, 11] 12 hS fun hS => ?_)
 refine cond_f hS ?_
 refine wp_skip (then_n (wp_seq (s0 [0, 6, 7, 8, 9, 11, 12, 55] [0, 1, 2, 3, 4, 5, 6, 7, 8, 9, 10, 11] 12 hS fun hS => ?_)))
 refine cond_t hS ?_
 refine sA [] trivial (fun _ => [(0 : Int) ≤ 0 ∧ (0 : Int) < 2]) [0, 6, 7, 8, 11, 12] [0, 1, 2, 3, 4, 5, 6, 7, 8, 10, 11] 12 ⟨by omega, trivial⟩ hS fun hS => ?_
 refine wp_seq ?_
 have hq2 : mkStr (tx.getD k []) = mkStr (tx.getD k []) := rfl
 have hq3 : (k : Int) = (k : Int) := rfl
 refine rA [(5, .ob false), (10, .ob false)] trivial (fun _ => [(!((mkStr (tx.getD k [])).toList == (mkStr (tx.getD k [])).toList)) = false, (!decide ((k : Int) = (k : Int))) = false]) [0, 6, 8, 74] [0, 1, 2, 3, 4, 5, 6, 7, 10, 11] 12 ⟨by rw [beq_self_eq_true _]; rfl, by rw [decide_eq_true hq3]; rfl, trivial⟩ hS fun hS => ?_
 refine then_n (cond_f hS ?_)
 refine wp_skip (then_n (sA [(2, .call ⟨27, (c_pshows A B mx n (nI ii k) (nJ ii js k) tx ida idb), [(0, 0), (1, 1), (2, 2), (3, 3), (4, 4), (5, 10), (6, 11), (7, 7)], []⟩)] ⟨pshows_ok _ _ _ _ _ _ _ _ _ hA hB hm hm2 hR.next (by have := nI_le ii k; omega) omm, trivial⟩ (fun _ => [nd [.cp 0 0, vi 1] [some (.ob 39 (chain [.cp 1 0, .cp 4 0, vi (n : Int), vi ((nI ii k : Nat) : Int), .ls false [.int .i64] (ints (nJ ii js k)), vi 0, vi 0, .ls false [.int .i64] [], .sk 7])), some (.ob 80 (chain [lb ida, .v (.bool true), .v (.bool false), .cp 2 0, .cp 3 0, .v (.pointer none), vi 0, .ls false [.sl (.int .u8)] mx, vi 0, vi 0, .ls false [.int .i64, .int .i64, .sl (.sl (.int .u8))] []])), some (.ob 122 (chain [lb (nxtN A n), vi (n : Int)])), some (.ob 122 (chain [lb B, vi 0])), some (.ob 80 (chain [lb idb, .v (.bool false), .v (.bool false), .cp 10 0, .cp 11 0, .v (.pointer none), vi 0, .ls false [.sl (.int .u8)] mx, vi 0, vi 0, .ls false [.int .i64, .int .i64, .sl (.sl (.int .u8))] (kls mx A (nJ ii js k))])), some (.ob 122 (chain [lb B, vi 0])), some (.ob 122 (chain [lb (nxtN A (nI ii k)), vi ((nI ii k : Nat) : Int)])), some (.sl 48 [.int .i64, .int .i64, .sl (.int .u8), .sl (.int .u8)] (frs mx A tx))]]) [6] [0, 1, 2, 3, 4, 5, 6, 7, 10, 11] 12 ⟨rfl, trivial⟩ hS fun hS => ?_))
 refine wp_ret ?_
 obtain ⟨gs, hS⟩ := hS.rn [(0, 0), (1, 1), (2, 2), (3, 3), (4, 4), (5, 5), (6, 6), (7, 7), (8, 10), (9, 11)] [(6, .v (.bool true))] [(0, .ob 39 (chain [.cp 1 0, .cp 4 0, vi (n : Int), vi (((nI ii k) : Nat) : Int), .ls false [.int .i64] (ints (nJ ii js k)), vi 0, vi 0, .ls false [.int .i64] [], .sk 7])), (1, .ob 80 (chain [lb ida, .v (.bool true), .v (.bool false), .cp 2 0, .cp 3 0, .v (.pointer none), vi 0, .ls false [.sl (.int .u8)] mx, vi 0, vi 0, .ls false [.int .i64, .int .i64, .sl (.sl (.int .u8))] []])), (2, .ob 122 (chain [lb (nxtN A n), vi (n : Int)])), (3, .ob 122 (chain [lb B, vi 0])), (4, .ob 80 (chain [lb idb, .v (.bool false), .v (.bool false), .cp 8 0, .cp 9 0, .v (.pointer none), vi 0, .ls false [.sl (.int .u8)] mx, vi 0, vi 0, .ls false [.int .i64, .int .i64, .sl (.sl (.int .u8))] (kls mx A (nJ ii js k))])), (5, .ob 122 (chain [lb B, vi 0])), (6, .ob 122 (chain [lb (nxtN A ii), vi (ii : Int)])), (7, .sl 48 [.int .i64, .int .i64, .sl (.int .u8), .sl (.int .u8)] (frs mx A tx)), (8, .ob 122 (chain [lb B, vi 0])), (9, .ob 122 (chain [lb (nxtN A (nI ii k)), vi (((nI ii k) : Nat) : Int)]))] 10 hg0
 exact fin_y rfl (.inr rfl) hS [.v (.bool true)] [(0, some (.ob 39 (chain [.cp 1 0, .cp 4 0, vi (n : Int), vi (((nI ii k) : Nat) : Int), .ls false [.int .i64] (ints (nJ ii js k)), vi 0, vi 0, .ls false [.int .i64] [], .sk 7]))), (1, some (.ob 80 (chain [lb ida, .v (.bool true), .v (.bool false), .cp 2 0, .cp 3 0, .v (.pointer none), vi 0, .ls false [.sl (.int .u8)] mx, vi 0, vi 0, .ls false [.int .i64, .int .i64, .sl (.sl (.int .u8))] []]))), (2, some (.ob 122 (chain [lb (nxtN A n), vi (n : Int)]))), (3, some (.ob 122 (chain [lb B, vi 0]))), (4, some (.ob 80 (chain [lb idb, .v (.bool false), .v (.bool false), .cp 8 0, .cp 9 0, .v (.pointer none), vi 0, .ls false [.sl (.int .u8)] mx, vi 0, vi 0, .ls false [.int .i64, .int .i64, .sl (.sl (.int .u8))] (kls mx A (nJ ii js k))]))), (5, some (.ob 122 (chain [lb B, vi 0]))), (6, some (.ob 122 (chain [lb (nxtN A ii), vi (ii : Int)]))), (7, some (.sl 48 [.int .i64, .int .i64, .sl (.int .u8), .sl (.int .u8)] (frs mx A tx))), (8, some (.ob 122 (chain [lb B, vi 0]))), (9, some (.ob 122 (chain [lb (nxtN A (nI ii k)), vi (((nI ii k) : Nat) : Int)])))] rfl ⟨rfl, rfl, rfl, rfl, rfl, rfl, rfl, rfl, rfl, rfl, trivial⟩

end
end Go.Sx.Tryz
namespace Go.Sx.Tryz
open Go.Mi Go.RowKit Go.Sx Go.Proofs
noncomputable section
def c_freshh (root : List Int) : Con := ⟨[lb root, .v (.bool false)], [], .tu (chain [.cp 0 0, .v (.bool true)]), [(0, .ob 39 (chain [.cp 1 0, .cp 4 0, vi 0, vi 0, .ls false [.int .i64] (ints ([] : List Nat)), vi 0, vi 0, .ls false [.int .i64] [], .sk 7])), (1, .ob 80 (chain [lb (pId root), .v (.bool true), .v (.bool false), .cp 2 0, .cp 3 0, .v (.pointer none), vi 0, .ls false [.sl (.int .u8)] [pM root], vi 0, vi 0, .ls false [.int .i64, .int .i64, .sl (.sl (.int .u8))] []])), (2, .ob 122 (chain [lb (nxtN (pA root) 0), vi 0])), (3, .ob 122 (chain [lb (pB root), vi 0])), (4, .ob 80 (chain [lb (pId root), .v (.bool false), .v (.bool false), .cp 5 0, .cp 6 0, .v (.pointer none), vi 0, .ls false [.sl (.int .u8)] [pM root], vi 0, vi 0, .ls false [.int .i64, .int .i64, .sl (.sl (.int .u8))] (kls ([pM root]) (pA root) ([] : List Nat))])), (5, .ob 122 (chain [lb (pB root), vi 0])), (6, .ob 122 (chain [lb (nxtN (pA root) 0), vi 0])), (7, .sl 48 [.int .i64, .int .i64, .sl (.int .u8), .sl (.int .u8)] (frs ([pM root]) (pA root) ([] : List (List Int))))]⟩
theorem freshh_ok (root : List Int) (hr : root.length = 32) : ConOk Tryz.prog 12 (c_freshh root) := by
 have h := fresh_ok root hr
 unfold c_fresh at h
 rw [fresh_eq] at h
 exact h
theorem mx1 {M : List Int} (h : M.length = 32) (j : Nat) : ([M].getD j (rz [.sl (.int .u8)])).length ≤ 32 := by
 show (List.getD (α := List Int) [M] j []).length ≤ 32
 match j with
 | 0 => exact Nat.le_of_eq h
 | j + 1 => simp
def c_snewn : Con := ⟨[.v (.slice none 0 0), .v (.bool true), .v (.bool false)], [], .tu (chain [.v (.pointer none), vi 1]), []⟩
theorem snewn_ok : ConOk Tryz.prog 23 (c_snewn) := by
 refine conOk_of rfl (nb := 0) Tryz.func23 rfl rfl Tryz.ntmps23 rfl rfl rfl fun g0 w0 ac gs ws hg0 hS => ?_
 have hS := hS.sp
 refine s0 [0, 1, 2, 6, 7] [] 0 hS fun hS => ?_
 refine wp_seq (s0 [0, 1, 2, 6, 7, 11] [] 0 hS fun hS => ?_)
 refine cond_t hS ?_
 refine s0 [0, 1, 2, 6, 7] [] 0 hS fun hS => ?_
 refine wp_ret (then_ret ?_)
 exact fin_y rfl (.inr rfl) hS [.v (.pointer none), vi 1] [] rfl trivial

def c_agreeh (id ok : List Int) (oi : Nat) (ik : List Int) (ii : Nat) (mx : List (List Int)) (kl : List KR) (okb : List Int) (oib : Nat) (ikb : List Int) (iib : Nat) (klb : List KR) : Con := ⟨[.cp 0 0, .cp 3 0], [(0, .ob 80 (chain [lb id, .v (.bool true), .v (.bool false), .cp 1 0, .cp 2 0, .v (.pointer none), vi 0, .ls false [.sl (.int .u8)] mx, vi 0, vi 0, .ls false [.int .i64, .int .i64, .sl (.sl (.int .u8))] kl])), (1, .ob 122 (chain [lb ok, vi (oi : Int)])), (2, .ob 122 (chain [lb ik, vi (ii : Int)])), (3, .ob 80 (chain [lb id, .v (.bool false), .v (.bool false), .cp 4 0, .cp 5 0, .v (.pointer none), vi 0, .ls false [.sl (.int .u8)] mx, vi 0, vi 0, .ls false [.int .i64, .int .i64, .sl (.sl (.int .u8))] klb])), (4, .ob 122 (chain [lb okb, vi (oib : Int)])), (5, .ob 122 (chain [lb ikb, vi (iib : Int)]))], .v (.bool true), [(0, .ob 80 (chain [lb id, .v (.bool true), .v (.bool false), .cp 1 0, .cp 2 0, .v (.pointer none), vi 0, .ls false [.sl (.int .u8)] mx, vi 0, vi 0, .ls false [.int .i64, .int .i64, .sl (.sl (.int .u8))] kl])), (1, .ob 122 (chain [lb ok, vi (oi : Int)])), (2, .ob 122 (chain [lb ik, vi (ii : Int)])), (3, .ob 80 (chain [lb id, .v (.bool false), .v (.bool false), .cp 4 0, .cp 5 0, .v (.pointer none), vi 0, .ls false [.sl (.int .u8)] mx, vi 0, vi 0, .ls false [.int .i64, .int .i64, .sl (.sl (.int .u8))] klb])), (4, .ob 122 (chain [lb okb, vi (oib : Int)])), (5, .ob 122 (chain [lb ikb, vi (iib : Int)]))]⟩
theorem agreeh_ok (id ok : List Int) (oi : Nat) (ik : List Int) (ii : Nat) (mx : List (List Int)) (kl : List KR) (okb : List Int) (oib : Nat) (ikb : List Int) (iib : Nat) (klb : List KR) (hm : mx.length = 1) : ConOk Tryz.prog 17 (c_agreeh id ok oi ik ii mx kl okb oib ikb iib klb) := by
 have h := agree_ok id ok oi ik ii 0 mx 0 0 kl id okb oib ikb iib 0 mx 0 0 klb ⟨by omega, by omega⟩ omm ⟨by omega, by omega⟩ omm
 have e : agree_m id ok oi ik ii 0 mx 0 0 kl id okb oib ikb iib 0 mx 0 0 klb = true := by
  rw [agree_e]; unfold agree_v
  rw [if_pos rfl, if_neg omm, if_neg omm]
  exact decide_eq_true rfl
 unfold c_agree at h
 rw [e] at h
 exact h
theorem by1 {b : Int} (h : 0 ≤ b ∧ b < 256) : By [b] := fun x hx => by rw [List.mem_singleton.1 hx]; exact h
def c_intst (xs ys : List Int) : Con := ⟨[.ls false [.int .i64] xs, .ls false [.int .i64] ys], [], .v (.bool true), []⟩
theorem intst_ok (xs ys : List Int) (h : xs = ys) : ConOk Tryz.prog 31 (c_intst xs ys) := by
 have h2 := ints_ok xs ys
 unfold c_ints at h2
 rw [decide_eq_true h] at h2
 exact h2
def c_awake : Con := ⟨[], [], .v (.bool true), []⟩
theorem awake_ok : ConOk Tryz.prog 11 (c_awake) := by
 refine conOk_of rfl (nb := 0) Tryz.func11 rfl rfl Tryz.ntmps11 rfl rfl rfl fun g0 w0 ac gs ws hg0 hS => ?_
 have hS := hS.sp
 refine s0 [0] [] 0 hS fun hS => ?_
 refine sB [(0, .mf)] [(1, .call ⟨12, (c_freshh (List.replicate 32 (0 : Int))), [], [(0, 0), (1, 1), (2, 2), (3, 3), (4, 4), (5, 5), (6, 6), (7, 7)]⟩)] ⟨freshh_ok _ lnn, trivial⟩ (fun C => [(32 : Int) = 32, (0 : Int) ≤ 32, 1 * 32 ≤ 281474976710656, (32 : Int) ≤ 9223372036854775807, ndC C 1]) [0, 1, 2] [0, 1, 2, 3, 4, 5, 6, 7] 8 ⟨rfl, by omega, by omega, by omega, rfl, trivial⟩ hS fun hS => ?_
 refine wp_seq (wp_seq ?_)
 have hm2 := mx1 (pM_len (List.replicate 32 (0 : Int)))
 have hq1 : rOk 0 ([] : List Nat) 1 = true := rfl
 refine rA [(4, .own), (6, .call ⟨15, (c_draw 1), [], []⟩), (7, .call ⟨14, (c_psend (pA (List.replicate 32 (0 : Int))) (pB (List.replicate 32 (0 : Int))) [pM (List.replicate 32 (0 : Int))] 0 0 ([] : List Nat) ([] : List (List Int)) (pId (List.replicate 32 (0 : Int))) (pId (List.replicate 32 (0 : Int))) [97] (draw_m 1)), [(0, 0), (1, 1), (2, 2), (3, 3), (4, 4), (5, 5), (6, 6), (7, 7)], [(8, 9)]⟩), (12, .own), (14, .call ⟨15, (c_draw 2), [], []⟩), (15, .call ⟨14, (c_psend (pA (List.replicate 32 (0 : Int))) (pB (List.replicate 32 (0 : Int))) [pM (List.replicate 32 (0 : Int))] (0 + 1) 0 ([] : List Nat) (([] : List (List Int)) ++ [[97]]) (pId (List.replicate 32 (0 : Int))) (pId (List.replicate 32 (0 : Int))) [98] (draw_m 2)), [(0, 0), (1, 1), (2, 2), (3, 3), (4, 4), (5, 5), (6, 6), (7, 9)], [(8, 11)]⟩), (20, .call ⟨15, (c_draw 3), [], []⟩), (21, .call ⟨16, (c_pdely (pA (List.replicate 32 (0 : Int))) (pB (List.replicate 32 (0 : Int))) [pM (List.replicate 32 (0 : Int))] ((0 + 1) + 1) 0 ([] : List Nat) ((([] : List (List Int)) ++ [[97]]) ++ [[98]]) (pId (List.replicate 32 (0 : Int))) (pId (List.replicate 32 (0 : Int))) 1 (draw_m 3)), [(0, 0), (1, 1), (2, 2), (3, 3), (4, 4), (5, 5), (6, 6), (7, 11)], [(8, 12), (9, 13)]⟩)] ⟨draw_ok _, psend_ok _ _ _ _ _ _ _ _ _ _ _ (pA_len _) (pB_len _) rfl hm2 ⟨rfl, by decide⟩ (by decide) (by decide) (draw_len _), draw_ok _, psend_ok _ _ _ _ _ _ _ _ _ _ _ (pA_len _) (pB_len _) rfl hm2 ⟨rfl, by decide⟩ (by decide) (by decide) (draw_len _), draw_ok _, pdely_ok _ _ _ _ _ _ _ _ _ _ _ (pA_len _) (pB_len _) rfl hm2 RI.nil (by decide) (by decide) ⟨by decide, by decide⟩ ⟨by decide, by have := by1 (b := 98) ⟨by decide, by decide⟩; simpa using this⟩ (draw_len _) hq1, trivial⟩ (fun C => [0 < [97].length, ndC C 6, nd [.cp 0 0, vi 0, lb ([97] : List Int), lb (draw_m 1)] [some (.ob 39 (chain [.cp 1 0, .cp 4 0, vi 0, vi 0, .ls false [.int .i64] (ints ([] : List Nat)), vi 0, vi 0, .ls false [.int .i64] [], .sk 7])), some (.ob 80 (chain [lb (pId (List.replicate 32 (0 : Int))), .v (.bool true), .v (.bool false), .cp 2 0, .cp 3 0, .v (.pointer none), vi 0, .ls false [.sl (.int .u8)] [pM (List.replicate 32 (0 : Int))], vi 0, vi 0, .ls false [.int .i64, .int .i64, .sl (.sl (.int .u8))] []])), some (.ob 122 (chain [lb (nxtN (pA (List.replicate 32 (0 : Int))) 0), vi 0])), some (.ob 122 (chain [lb (pB (List.replicate 32 (0 : Int))), vi 0])), some (.ob 80 (chain [lb (pId (List.replicate 32 (0 : Int))), .v (.bool false), .v (.bool false), .cp 5 0, .cp 6 0, .v (.pointer none), vi 0, .ls false [.sl (.int .u8)] [pM (List.replicate 32 (0 : Int))], vi 0, vi 0, .ls false [.int .i64, .int .i64, .sl (.sl (.int .u8))] (kls ([pM (List.replicate 32 (0 : Int))]) (pA (List.replicate 32 (0 : Int))) ([] : List Nat))])), some (.ob 122 (chain [lb (pB (List.replicate 32 (0 : Int))), vi 0])), some (.ob 122 (chain [lb (nxtN (pA (List.replicate 32 (0 : Int))) 0), vi 0])), some (.sl 48 [.int .i64, .int .i64, .sl (.int .u8), .sl (.int .u8)] (frs ([pM (List.replicate 32 (0 : Int))]) (pA (List.replicate 32 (0 : Int))) ([] : List (List Int))))], 0 < [98].length, ndC C 14, nd [.cp 0 0, vi 0, lb ([98] : List Int), lb (draw_m 2)] [some (.ob 39 (chain [.cp 1 0, .cp 4 0, vi ((0 + 1 : Nat) : Int), vi 0, .ls false [.int .i64] (ints ([] : List Nat)), vi 0, vi 0, .ls false [.int .i64] [], .sk 9])), some (.ob 80 (chain [lb (pId (List.replicate 32 (0 : Int))), .v (.bool true), .v (.bool false), .cp 2 0, .cp 3 0, .v (.pointer none), vi 0, .ls false [.sl (.int .u8)] [pM (List.replicate 32 (0 : Int))], vi 0, vi 0, .ls false [.int .i64, .int .i64, .sl (.sl (.int .u8))] []])), some (.ob 122 (chain [lb (nxtN (pA (List.replicate 32 (0 : Int))) (0 + 1)), vi ((0 + 1 : Nat) : Int)])), some (.ob 122 (chain [lb (pB (List.replicate 32 (0 : Int))), vi 0])), some (.ob 80 (chain [lb (pId (List.replicate 32 (0 : Int))), .v (.bool false), .v (.bool false), .cp 5 0, .cp 6 0, .v (.pointer none), vi 0, .ls false [.sl (.int .u8)] [pM (List.replicate 32 (0 : Int))], vi 0, vi 0, .ls false [.int .i64, .int .i64, .sl (.sl (.int .u8))] (kls [pM (List.replicate 32 (0 : Int))] (pA (List.replicate 32 (0 : Int))) ([] : List Nat))])), some (.ob 122 (chain [lb (pB (List.replicate 32 (0 : Int))), vi 0])), some (.ob 122 (chain [lb (nxtN (pA (List.replicate 32 (0 : Int))) 0), vi 0])), some (.sl 48 [.int .i64, .int .i64, .sl (.int .u8), .sl (.int .u8)] (frs [pM (List.replicate 32 (0 : Int))] (pA (List.replicate 32 (0 : Int))) (([] : List (List Int)) ++ [[97]])))], ndC C 20, nd [.cp 0 0, vi 1, lb (draw_m 3)] [some (.ob 39 (chain [.cp 1 0, .cp 4 0, vi (((0 + 1) + 1 : Nat) : Int), vi 0, .ls false [.int .i64] (ints ([] : List Nat)), vi 0, vi 0, .ls false [.int .i64] [], .sk 11])), some (.ob 80 (chain [lb (pId (List.replicate 32 (0 : Int))), .v (.bool true), .v (.bool false), .cp 2 0, .cp 3 0, .v (.pointer none), vi 0, .ls false [.sl (.int .u8)] [pM (List.replicate 32 (0 : Int))], vi 0, vi 0, .ls false [.int .i64, .int .i64, .sl (.sl (.int .u8))] []])), some (.ob 122 (chain [lb (nxtN (pA (List.replicate 32 (0 : Int))) ((0 + 1) + 1)), vi (((0 + 1) + 1 : Nat) : Int)])), some (.ob 122 (chain [lb (pB (List.replicate 32 (0 : Int))), vi 0])), some (.ob 80 (chain [lb (pId (List.replicate 32 (0 : Int))), .v (.bool false), .v (.bool false), .cp 5 0, .cp 6 0, .v (.pointer none), vi 0, .ls false [.sl (.int .u8)] [pM (List.replicate 32 (0 : Int))], vi 0, vi 0, .ls false [.int .i64, .int .i64, .sl (.sl (.int .u8))] (kls [pM (List.replicate 32 (0 : Int))] (pA (List.replicate 32 (0 : Int))) ([] : List Nat))])), some (.ob 122 (chain [lb (pB (List.replicate 32 (0 : Int))), vi 0])), some (.ob 122 (chain [lb (nxtN (pA (List.replicate 32 (0 : Int))) 0), vi 0])), some (.sl 48 [.int .i64, .int .i64, .sl (.int .u8), .sl (.int .u8)] (frs [pM (List.replicate 32 (0 : Int))] (pA (List.replicate 32 (0 : Int))) ((([] : List (List Int)) ++ [[97]]) ++ [[98]])))]]) [0, 1, 33] [0, 1, 2, 3, 4, 11, 12, 13] 14 ⟨by decide, rfl, rfl, by decide, rfl, rfl, rfl, rfl, trivial⟩ hS fun hS => ?_
 refine then_n (cond_f hS ?_)
 refine wp_skip (then_n (sA [(0, .call ⟨23, (c_snewn), [], []⟩)] ⟨snewn_ok, trivial⟩ (fun C => [ndC C 0]) [0, 1, 4] [0, 1, 2, 3, 4, 11, 12, 13] 14 ⟨rfl, trivial⟩ hS fun hS => ?_))
 refine wp_seq ?_
 have hR5 : RI (nI 0 1) (nJ 0 ([] : List Nat) 1) := RI.nil.next
 refine rA [(5, .call ⟨21, (c_skepth (pId (List.replicate 32 (0 : Int))) false (pB (List.replicate 32 (0 : Int))) 0 (pA (List.replicate 32 (0 : Int))) (nI 0 1) [pM (List.replicate 32 (0 : Int))] (nJ 0 ([] : List Nat) 1)), [(0, 4), (1, 12), (2, 13)], []⟩), (7, .call ⟨31, (c_intst (ints (nJ 0 ([] : List Nat) 1)) [0]), [], []⟩), (23, .call ⟨17, (c_agreeh (pId (List.replicate 32 (0 : Int))) (nxtN (pA (List.replicate 32 (0 : Int))) ((0 + 1) + 1)) ((0 + 1) + 1) (pB (List.replicate 32 (0 : Int))) 0 [pM (List.replicate 32 (0 : Int))] [] (pB (List.replicate 32 (0 : Int))) 0 (nxtN (pA (List.replicate 32 (0 : Int))) (nI 0 1)) (nI 0 1) (kls [pM (List.replicate 32 (0 : Int))] (pA (List.replicate 32 (0 : Int))) (nJ 0 ([] : List Nat) 1))), [(0, 1), (1, 2), (2, 3), (3, 4), (4, 12), (5, 13)], []⟩)] ⟨skepth_ok _ _ _ _ _ _ _ _ hR5 (by decide), intst_ok _ _ rfl, agreeh_ok _ _ _ _ _ _ _ _ _ _ _ _ (by first | assumption | rfl), trivial⟩ (fun C => [(0 : Int) ≤ 1 ∧ (1 : Int) < 2, ndC C 5, ndC C 7, (0 : Int) ≤ 0 ∧ (0 : Int) < 2, (0 : Int) ≤ 1 ∧ (1 : Int) < 2, nd [.cp 1 0, .cp 4 0] [some (.ob 80 (chain [lb (pId (List.replicate 32 (0 : Int))), .v (.bool true), .v (.bool false), .cp 2 0, .cp 3 0, .v (.pointer none), vi 0, .ls false [.sl (.int .u8)] [pM (List.replicate 32 (0 : Int))], vi 0, vi 0, .ls false [.int .i64, .int .i64, .sl (.sl (.int .u8))] []])), some (.ob 122 (chain [lb (nxtN (pA (List.replicate 32 (0 : Int))) ((0 + 1) + 1)), vi ((((0 + 1) + 1) : Nat) : Int)])), some (.ob 122 (chain [lb (pB (List.replicate 32 (0 : Int))), vi 0])), some (.ob 80 (chain [lb (pId (List.replicate 32 (0 : Int))), .v (.bool false), .v (.bool false), .cp 12 0, .cp 13 0, .v (.pointer none), vi 0, .ls false [.sl (.int .u8)] [pM (List.replicate 32 (0 : Int))], vi 0, vi 0, .ls false [.int .i64, .int .i64, .sl (.sl (.int .u8))] (kls [pM (List.replicate 32 (0 : Int))] (pA (List.replicate 32 (0 : Int))) (nJ 0 ([] : List Nat) 1))])), some (.ob 122 (chain [lb (pB (List.replicate 32 (0 : Int))), vi 0])), some (.ob 122 (chain [lb (nxtN (pA (List.replicate 32 (0 : Int))) (nI 0 1)), vi (((nI 0 1) : Nat) : Int)]))]]) [0] [] 14 ⟨by omega, rfl, rfl, by omega, by omega, rfl, trivial⟩ hS fun hS => ?_
 refine then_n (wp_ret ?_)
 exact fin_y rfl (.inr rfl) hS [.v (.bool true)] [] rfl trivial

end
end Go.Sx.Tryz
namespace Go.Sx.Tryz
open Go.Mi Go.RowKit Go.Sx Go.Proofs
noncomputable section
def TxOk (tx : List (List Int)) : Prop := ∀ t, t ∈ tx → t.length ≤ 500 ∧ By t
theorem TxOk.nil : TxOk [] := fun _ h => by cases h
theorem TxOk.at {tx : List (List Int)} (h : TxOk tx) {k : Nat} (hk : k < tx.length) : (tx.getD k []).length ≤ 500 ∧ By (tx.getD k []) := by
 rw [List.getD_eq_getElem?_getD, List.getElem?_eq_getElem hk]
 exact h _ (List.getElem_mem hk)
end
end Go.Sx.Tryz
namespace Go.Sx.Tryz
open Go.Mi Go.RowKit Go.Sx Go.Proofs
noncomputable section
def RowI (m : Nat) (back : Bool) (x ii : Nat) (js : List Nat) : Prop := if back = true then (if x = 0 then ii = 0 ∧ js = [] else ii = m ∧ js = List.range (m - x)) else ii = x ∧ js = []
theorem RowI.le {m x ii : Nat} {back : Bool} {js : List Nat} (h : RowI m back x ii js) (hx : x ≤ m) : ii ≤ m := by
 unfold RowI at h
 split at h
 ·split at h <;> omega
 ·omega
theorem RowI.f {m x ii : Nat} {js : List Nat} (h : RowI m false x ii js) : rOk ii js x = true ∧ RowI m false (x + 1) (nI ii x) (nJ ii js x) := by
 unfold RowI at h ⊢
 rw [if_neg (by decide)] at h ⊢
 obtain ⟨rfl, rfl⟩ := h
 unfold rOk nI nJ
 rw [if_neg (Nat.lt_irrefl _), if_neg (Nat.lt_irrefl _), if_neg (Nat.lt_irrefl _)]
 refine ⟨decide_eq_true omm, rfl, ?_⟩
 rw [Nat.sub_self, List.range'_zero]; rfl
theorem RowI.b {m x ii : Nat} {js : List Nat} (h : RowI m true x ii js) (hx : x < m) (hm : m ≤ 41) : rOk ii js (m - 1 - x) = true ∧ RowI m true (x + 1) (nI ii (m - 1 - x)) (nJ ii js (m - 1 - x)) := by
 unfold RowI at h ⊢
 rw [if_pos rfl] at h ⊢
 rw [if_neg omm]
 by_cases h0 : x = 0
 ·rw [if_pos h0] at h
  obtain ⟨rfl, rfl⟩ := h
  subst h0
  unfold rOk nI nJ
  rw [if_neg omm, if_neg omm, if_neg omm]
  refine ⟨decide_eq_true omm, by omega, ?_⟩
  rw [List.nil_append, List.length_range', show (m - 1 - 0 - 0) - 60 = 0 by omega, List.drop_zero, List.range_eq_range', show m - 1 - 0 - 0 = m - (0 + 1) by omega]
 ·rw [if_neg h0] at h
  obtain ⟨rfl, rfl⟩ := h
  unfold rOk nI nJ
  rw [if_pos omm, if_pos omm, if_pos omm]
  refine ⟨decide_eq_true (List.mem_range.2 omm), rfl, ?_⟩
  rw [show ii - x = (ii - 1 - x) + 1 by omega, List.range_succ, List.filter_append, List.filter_eq_self.2 (fun a ha => by have := List.mem_range.1 ha; simp; omega), show ii - (x + 1) = ii - 1 - x by omega]
  simp
theorem RowI.f' {m x ii : Nat} {back : Bool} {js : List Nat} (hb : back = false) (h : RowI m back x ii js) : rOk ii js x = true ∧ RowI m back (x + 1) (nI ii x) (nJ ii js x) := by
 subst hb; exact h.f
theorem RowI.b' {m x ii : Nat} {back : Bool} {js : List Nat} (hb : back = true) (h : RowI m back x ii js) (hx : x < m) (hm : m ≤ 41) : rOk ii js (m - 1 - x) = true ∧ RowI m back (x + 1) (nI ii (m - 1 - x)) (nJ ii js (m - 1 - x)) := by
 subst hb; exact h.b hx hm
theorem RowI.zero (m : Nat) (back : Bool) : RowI m back 0 0 [] := by
 unfold RowI; cases back <;> simp
theorem RowI.last {m ii : Nat} {back : Bool} {js : List Nat} (h : RowI m back m ii js) : ii = m ∧ js = [] := by
 unfold RowI at h
 split at h
 ·split at h
  ·exact ⟨by omega, h.2⟩
  ·rw [Nat.sub_self] at h; exact h
 ·exact h
end
end Go.Sx.Tryz
namespace Go.Sx.Tryz
open Go.Mi Go.RowKit Go.Sx Go.Proofs
noncomputable section
def lstB (l : List (List Int)) : List Int := (l.map fun x => numW x.length ++ x).flatten
def lstW (l : List (List Int)) : List Int := numW l.length ++ lstB l
theorem lstB_take {l : List (List Int)} {i : Nat} (h : i < l.length) : lstB (l.take (i + 1)) = lstB (l.take i) ++ (numW (l.getD i []).length ++ l.getD i []) := by
 unfold lstB
 rw [List.take_succ_eq_append_getElem h, List.map_append, List.flatten_append, List.getD_eq_getElem?_getD, List.getElem?_eq_getElem h]
 simp
theorem lstB_app (b : List Int) (l : List (List Int)) (i : Nat) (h : i < l.length) : b ++ numW l.length ++ lstB (l.take (i + 1)) = b ++ numW l.length ++ lstB (l.take i) ++ numW (l.getD i []).length ++ l.getD i [] := by rw [lstB_take h]; simp only [List.append_assoc]
theorem lstB_len {l : List (List Int)} {m : Nat} (h : ∀ j, (l.getD j []).length ≤ m) (hm : m < 18446744073709551616) : ∀ i, (lstB (l.take i)).length ≤ i * (m + 10)
 | 0 => by simp [lstB]
 | i + 1 => by
  have ih := lstB_len h hm i
  by_cases hi : i < l.length
  ·rw [lstB_take hi, List.length_append, List.length_append]
   have h1 := h i
   have h2 := numW_10 (n := (l.getD i []).length) omm
   rw [Nat.succ_mul]; omega
  ·rw [show l.take (i + 1) = l.take i by rw [List.take_of_length_le omm, List.take_of_length_le omm], Nat.succ_mul]; omega
theorem mem_le {l : List (List Int)} (h : ∀ k ∈ l, k.length = 32) (j : Nat) : (l.getD j []).length ≤ 10000 := by
 rw [List.getD_eq_getElem?_getD]
 by_cases hj : j < l.length
 ·rw [List.getElem?_eq_getElem hj]
  have := h _ (List.getElem_mem hj)
  simp only [Option.getD_some]; omega
 ·rw [List.getElem?_eq_none omm]; simp
theorem lstW_le {l : List (List Int)} (hl : l.length ≤ 100000) (h : ∀ j, (l.getD j []).length ≤ 32) : (lstW l).length ≤ 4200010 := by
 have h1 := lstB_len h (by decide) l.length
 rw [List.take_of_length_le (Nat.le_refl _)] at h1
 have h2 := numW_10 (n := l.length) omm
 unfold lstW
 rw [List.length_append]; omega
theorem mem32' {l : List (List Int)} (h : ∀ k ∈ l, k.length = 32) (j : Nat) : (l.getD j []).length ≤ 32 := by
 rw [List.getD_eq_getElem?_getD]
 by_cases hj : j < l.length
 ·rw [List.getElem?_eq_getElem hj]
  have := h _ (List.getElem_mem hj)
  simp only [Option.getD_some]; omega
 ·rw [List.getElem?_eq_none omm]; simp
def c_wlist (b : List Int) (l : List (List Int)) : Con := ⟨[.cp 0 0, .ls false [.sl (.int .u8)] l], [(0, .ob 97 (chain [.sk 1])), (1, .sl 5 [.int .u8] b)], .cp 0 0, [(0, .ob 97 (chain [.sk 2])), (2, .sl 5 [.int .u8] (b ++ lstW l))]⟩
theorem wlist_ok (b : List Int) (l : List (List Int)) (hb : b.length ≤ 40000000000) (hl : l.length ≤ 100000) (he : ∀ j, (l.getD j []).length ≤ 10000) : ConOk Tryz.prog 56 (c_wlist b l) := by
 refine conOk_of rfl (nb := 2) Tryz.func56 rfl rfl Tryz.ntmps56 rfl rfl rfl fun g0 w0 ac gs ws hg0 hS => ?_
 have hlen1 : l.length ≤ 9223372036854775807 := hS.len 1 rfl
 have hlenk1 : b.length ≤ 9223372036854775807 := hS.lens 1 rfl
 have hS := hS.sp
 refine s0 [0, 1, 4] [0, 1] 2 hS fun hS => ?_
 refine wp_seq ?_
 have h10 := numW_10 (n := l.length) omm
 refine rA [(3, .oi ((l.length : Nat) : Int)), (4, .call ⟨47, (c_wnum b l.length), [(0, 0), (1, 1)], [(2, 2)]⟩)] ⟨wnum_ok _ _ lnn omm, trivial⟩ (fun C => [IntKind.wrap .u64 ((l.length : Nat) : Int) = ((l.length : Nat) : Int), ndC C 4]) [0, 1, 4] [0, 2] 3 ⟨wrap_u64 omm omm, rfl, trivial⟩ hS fun hS => ?_
 refine then_n (wp_seq (wp_seq (r0 [0, 4, 12, 13, 14] [0, 2] 3 hS fun hS => ?_)))
 have hnw : b ++ numW l.length ++ lstB (l.take 0) = b ++ numW l.length := (by rw [List.take_zero]; simp [lstB])
 have hS := (hS.rv [(0, .cp 0 0), (4, .v (.pointer none)), (12, .ls false [.sl (.int .u8)] l), (13, vi ((l.length : Nat) : Int)), (14, vi 0)] [(0, some (.ob 97 (chain [.sk 2]))), (2, some (.sl 5 [.int .u8] (b ++ numW l.length ++ lstB (l.take 0))))] (by kernel_rfl) (by rw [hnw]; kernel_rfl)).sp
 clear hnw
 refine then_n (wp_block (loop_y (ι := Nat) hg0 hS (fun i => l.length - i) (fun i => [(0, .cp 0 0), (4, .v (.pointer none)), (12, .ls false [.sl (.int .u8)] l), (13, vi ((l.length : Nat) : Int)), (14, vi ((i : Nat) : Int))]) (fun i => [(0, .ob 97 (chain [.sk 2])), (2, .sl 5 [.int .u8] (b ++ numW l.length ++ lstB (l.take i)))]) (fun i => (i ≤ l.length) ∧ True) 3 0 [(0, 0), (1, 1), (2, 2)] ⟨omm, trivial⟩ ?_))
 rintro i ac gs ws ⟨hi, _⟩ hS
 refine s0 [0, 4, 12, 13, 14, 15] [0, 2] 3 hS fun hS => ?_
 refine wp_seq ?_
 refine if_d ((i : Int) < ((l.length : Nat) : Int)) hS (fun h1 => ?_) (fun h1 => ?_)
 ·refine wp_skip (then_n (wp_seq (wp_block (sA [] trivial (fun _ => [(0 : Int) ≤ (i : Int) ∧ (i : Int) < ((l.length : Nat) : Int)]) [0, 4, 6, 12, 13, 14] [0, 2] 3 ⟨by omega, trivial⟩ hS fun hS => ?_))))
  have hli := lstB_len he omm i
  have hei : (l.getD i (rz [.sl (.int .u8)])).length ≤ 10000 := he i
  have hli2 : i * (10000 + 10) ≤ 100000 * (10000 + 10) := Nat.mul_le_mul_right _ omm
  have h10 := numW_10 (n := l.length) omm
  refine rA [(2, .call ⟨48, (c_wbytes (b ++ numW l.length ++ lstB (l.take i)) (l.getD i (rz [.sl (.int .u8)]))), [(0, 0), (1, 2)], [(2, 3)]⟩)] ⟨wbytes_ok _ _ lnn lnn, trivial⟩ (fun C => [ndC C 2]) [0, 4, 12, 13, 14] [0, 3] 4 ⟨rfl, trivial⟩ hS fun hS => ?_
  have hnw : b ++ numW l.length ++ lstB (l.take (i + 1)) = (((b ++ numW l.length ++ lstB (l.take i)) ++ numW (l.getD i (rz [.sl (.int .u8)])).length) ++ (l.getD i (rz [.sl (.int .u8)]))) := lstB_app b l i omm
  have hS := (hS.rv [(0, .cp 0 0), (4, .v (.pointer none)), (12, .ls false [.sl (.int .u8)] l), (13, vi ((l.length : Nat) : Int)), (14, vi (i : Int))] [(0, some (.ob 97 (chain [.sk 3]))), (3, some (.sl 5 [.int .u8] (b ++ numW l.length ++ lstB (l.take (i + 1)))))] (by kernel_rfl) (by rw [hnw]; kernel_rfl)).sp
  clear hnw
  refine block_n (then_n (rA [(0, .oi ((i + 1 : Nat) : Int))] trivial (fun _ => [iadd .i64 (i : Int) 1 = ((i + 1 : Nat) : Int)]) [0, 4, 12, 13, 14] [0, 3] 4 ⟨by rw [iadd64 omm omm]; omega, trivial⟩ hS fun hS => ?_))
  refine then_n ?_
  exact next_y hg0 hS (s := (i)) (i + 1) [(0, 0), (1, 1), (2, 3)] (show l.length - (i + 1) < l.length - i from by omega) ⟨omm, trivial⟩
 ·have hScur := hS
  obtain rfl : l.length = i := by omega
  have hS := hScur
  clear hScur
  refine wp_exit (then_exit (then_exit (block_exit (then_n (wp_seq (r0 [4] [0, 2] 3 hS fun hS => ?_))))))
  have hnw : b ++ lstW l = b ++ numW l.length ++ lstB (l.take l.length) := (by rw [List.take_of_length_le (Nat.le_refl _)]; simp only [lstW, List.append_assoc])
  have hS := (hS.rv [(4, .cp 0 0)] [(0, some (.ob 97 (chain [.sk 2]))), (2, some (.sl 5 [.int .u8] (b ++ lstW l)))] (by kernel_rfl) (by rw [hnw]; kernel_rfl)).sp
  clear hnw
  refine then_n (wp_ret ?_)
  exact fin_y rfl (.inr rfl) hS [.cp 0 0] [(0, some (.ob 97 (chain [.sk 2]))), (2, some (.sl 5 [.int .u8] (b ++ lstW l)))] rfl ⟨rfl, rfl, trivial⟩

def flag_v (b : Bool) : Nat := if b = true then 1 else 0
def flag_m (b : Bool) : Nat := shut (flag_v b)
theorem flag_e (b : Bool) : flag_m b = flag_v b := shut_eq _
theorem flag_le (b : Bool) : flag_m b ≤ 1 := by rw [flag_e]; unfold flag_v; split <;> decide
def c_flag (b : Bool) : Con := ⟨[.v (.bool b)], [], .v (.int .u64 ((flag_m b : Nat) : Int)), []⟩
theorem flag_ok (b : Bool) : ConOk Tryz.prog 54 (c_flag b) := by
 refine conOk_of rfl (nb := 0) Tryz.func54 rfl rfl Tryz.ntmps54 rfl rfl rfl fun g0 w0 ac gs ws hg0 hS => ?_
 have hS := hS.sp
 refine s0 [0, 2] [] 0 hS fun hS => ?_
 refine wp_seq (s0 [2, 3] [] 0 hS fun hS => ?_)
 refine if_y b hS (fun h1 => ?_) (fun h1 => ?_)
 ·refine s0 [2] [] 0 hS fun hS => ?_
  refine wp_ret (then_ret ?_)
  have hM : flag_m b = 1 := (flag_e b).trans (if_pos h1)
  exact fin_y rfl (.inr rfl) hS [.v (.int .u64 1)] [] (by show weak _ (.v (.int .u64 ((flag_m b : Nat) : Int))) = (.v (.int .u64 ((flag_m b : Nat) : Int))); rw [hM]; first | (simp only []; rfl) | (simp only []; done) | rfl) trivial
 ·refine wp_skip (then_n (s0 [2] [] 0 hS fun hS => ?_))
  refine wp_ret ?_
  have hM : flag_m b = 0 := (flag_e b).trans (if_neg (bne_t h1))
  exact fin_y rfl (.inr rfl) hS [.v (.int .u64 0)] [] (by show weak _ (.v (.int .u64 ((flag_m b : Nat) : Int))) = (.v (.int .u64 ((flag_m b : Nat) : Int))); rw [hM]; first | (simp only []; rfl) | (simp only []; done) | rfl) trivial

theorem wrapN {x : Int} (h : 0 ≤ x) (h2 : x ≤ 1000000000000) : IntKind.wrap .u64 x = ((x.toNat : Nat) : Int) := by
 rw [wrap_u64 h omm]; omega
def ssave_l2_s (id : List Int) (fi : Bool) (ok : List Int) (oi : Nat) (ik : List Int) (ii low : Nat) (mx : List (List Int)) (last told : Nat) (kl : List KR) (x89 : Nat) : (List Int) → (List Int) := fun o15 => ((o15 ++ numW (((kl.getD x89 (rz [.int .i64, .int .i64, .sl (.sl (.int .u8))])).1).toNat)) ++ numW (((kl.getD x89 (rz [.int .i64, .int .i64, .sl (.sl (.int .u8))])).2.1).toNat)) ++ lstW (((kl.getD x89 (rz [.int .i64, .int .i64, .sl (.sl (.int .u8))])).2).2)
def ssave_l2 (id : List Int) (fi : Bool) (ok : List Int) (oi : Nat) (ik : List Int) (ii low : Nat) (mx : List (List Int)) (last told : Nat) (kl : List KR) : Nat → (List Int)
 | 0 => ((((((((((([] ++ id) ++ numW (flag_m fi)) ++ numW (flag_m false)) ++ ok) ++ numW oi) ++ ik) ++ numW ii) ++ numW low) ++ lstW mx) ++ numW last) ++ numW told) ++ numW kl.length
 | x89 + 1 => ssave_l2_s id fi ok oi ik ii low mx last told kl x89 (ssave_l2 id fi ok oi ik ii low mx last told kl x89)
def ssave_v (id : List Int) (fi : Bool) (ok : List Int) (oi : Nat) (ik : List Int) (ii low : Nat) (mx : List (List Int)) (last told : Nat) (kl : List KR) : (List Int) := ssave_l2 id fi ok oi ik ii low mx last told kl kl.length
def ssave_m (id : List Int) (fi : Bool) (ok : List Int) (oi : Nat) (ik : List Int) (ii low : Nat) (mx : List (List Int)) (last told : Nat) (kl : List KR) : (List Int) := shut (ssave_v id fi ok oi ik ii low mx last told kl)
theorem ssave_e (id : List Int) (fi : Bool) (ok : List Int) (oi : Nat) (ik : List Int) (ii low : Nat) (mx : List (List Int)) (last told : Nat) (kl : List KR) : ssave_m id fi ok oi ik ii low mx last told kl = ssave_v id fi ok oi ik ii low mx last told kl := shut_eq _
def c_ssave (id : List Int) (fi : Bool) (ok : List Int) (oi : Nat) (ik : List Int) (ii low : Nat) (mx : List (List Int)) (last told : Nat) (kl : List KR) : Con := ⟨[.cp 0 0], [(0, .ob 80 (chain [lb id, .v (.bool fi), .v (.bool false), .cp 1 0, .cp 2 0, .v (.pointer none), vi (low : Int), .ls false [.sl (.int .u8)] mx, vi (last : Int), vi (told : Int), .ls false [.int .i64, .int .i64, .sl (.sl (.int .u8))] kl])), (1, .ob 122 (chain [lb ok, vi (oi : Int)])), (2, .ob 122 (chain [lb ik, vi (ii : Int)]))], lb (ssave_m id fi ok oi ik ii low mx last told kl), [(0, .ob 80 (chain [lb id, .v (.bool fi), .v (.bool false), .cp 1 0, .cp 2 0, .v (.pointer none), vi (low : Int), .ls false [.sl (.int .u8)] mx, vi (last : Int), vi (told : Int), .ls false [.int .i64, .int .i64, .sl (.sl (.int .u8))] kl])), (1, .ob 122 (chain [lb ok, vi (oi : Int)])), (2, .ob 122 (chain [lb ik, vi (ii : Int)]))]⟩
theorem ssave_ok (id : List Int) (fi : Bool) (ok : List Int) (oi : Nat) (ik : List Int) (ii low : Nat) (mx : List (List Int)) (last told : Nat) (kl : List KR) (hok : ok.length = 32) (hik : ik.length = 32) (hoi : oi ≤ 100000000000) (hii : ii ≤ 100000000000) (hm1 : 1 ≤ mx.length ∧ mx.length ≤ 100000) (hm2 : ∀ j, (mx.getD j (rz [.sl (.int .u8)])).length ≤ 32) (hlow : low ≤ 100000000000) (hK : KOk kl) (hll : low ≤ last ∧ last ≤ 100000000000) (htd : told ≤ 100000000000) (hid : id.length = 32) : ConOk Tryz.prog 25 (c_ssave id fi ok oi ik ii low mx last told kl) := by
 refine conOk_of rfl (nb := 3) Tryz.func25 rfl rfl Tryz.ntmps25 rfl rfl rfl fun g0 w0 ac gs ws hg0 hS => ?_
 have hS := hS.sp
 refine s0 [0, 2] [0, 1, 2] 3 hS fun hS => ?_
 refine wp_seq (sC [(1, ⟨36, (c_snoner), [], []⟩, [0, 1])] ⟨snoner_ok, trivial⟩ [] [] trivial (fun _ => [([.im (chain [.top, .top, .top, .im (chain []) 0, .top, .top, .top, .top, .top, .top, .top]) 0] : List D) = [.im (chain [.top, .top, .top, .im (chain []) 0, .top, .top, .top, .top, .top, .top, .top]) 0]]) [0, 2, 9] [0, 1, 2] 3 ⟨rfl, trivial⟩ hS fun hS => ?_)
 refine cond_f hS ?_
 refine wp_skip (then_n (s0 [0, 2, 3] [0, 1, 2, 3] 4 hS fun hS => ?_))
 refine wp_seq ?_
 have hf1 := flag_le fi
 have hf2 := flag_le false
 have hg1 := numW_10 (n := flag_m fi) omm
 have hg2 := numW_10 (n := flag_m false) omm
 have hg3 := numW_10 (n := oi) omm
 have hg4 := numW_10 (n := ii) omm
 have hg5 := numW_10 (n := low) omm
 have hg6 := numW_10 (n := last) omm
 have hg7 := numW_10 (n := told) omm
 have hK1 := hK.1
 have hg8 := numW_10 (n := kl.length) omm
 have hlw := lstW_le hm1.2 hm2
 refine rA [(5, .call ⟨53, (c_wfixed0 id), [(0, 3)], [(1, 4)]⟩), (10, .call ⟨54, (c_flag fi), [], []⟩), (11, .call ⟨47, (c_wnum ([] ++ id) (flag_m fi)), [(0, 3), (1, 4)], [(2, 5)]⟩), (16, .call ⟨54, (c_flag false), [], []⟩), (17, .call ⟨47, (c_wnum (([] ++ id) ++ numW (flag_m fi)) (flag_m false)), [(0, 3), (1, 5)], [(2, 6)]⟩)] ⟨wfixed0_ok _ lnn, flag_ok _, wnum_ok _ _ lnn omm, flag_ok _, wnum_ok _ _ lnn omm, trivial⟩ (fun C => [ndC C 5, ndC C 10, ndC C 11, ndC C 16, ndC C 17]) [0, 2, 3] [0, 1, 2, 3, 6] 7 ⟨rfl, rfl, rfl, rfl, rfl, trivial⟩ hS fun hS => ?_
 refine then_n (wp_seq (s0 [0, 2, 3, 38, 39, 40] [0, 1, 2, 3, 6] 7 hS fun hS => ?_))
 refine wp_block (wp_loop_rounds 3 ?_)
 refine rounds_s (n := 2) ?_
 refine s0 [0, 2, 3, 38, 39, 40, 41] [0, 1, 2, 3, 6] 7 hS fun hS => ?_
 refine wp_seq (cond_t hS ?_)
 refine wp_skip (then_n (wp_seq (wp_block (sA [] trivial (fun _ => [(0 : Int) ≤ 0 ∧ (0 : Int) < 2]) [0, 2, 3, 5, 38, 39, 40, 41, 42, 43] [0, 1, 2, 3, 6] 7 ⟨by omega, trivial⟩ hS fun hS => ?_))))
 refine rA [(2, .call ⟨55, (c_ckey ok oi), [(0, 1)], []⟩), (3, .call ⟨53, (c_wfixed ((([] ++ id) ++ numW (flag_m fi)) ++ numW (flag_m false)) ok), [(0, 3), (1, 6)], [(2, 7)]⟩), (5, .call ⟨40, (c_cindex ok oi), [(0, 1)], []⟩), (6, .oi (oi : Int)), (7, .call ⟨47, (c_wnum (((([] ++ id) ++ numW (flag_m fi)) ++ numW (flag_m false)) ++ ok) oi), [(0, 3), (1, 7)], [(2, 8)]⟩)] ⟨ckey_ok _ _ lnn, wfixed_ok _ _ lnn lnn, cindex_ok _ _, wnum_ok _ _ lnn omm, trivial⟩ (fun C => [ndC C 2, ndC C 3, ndC C 5, IntKind.wrap .u64 (oi : Int) = (oi : Int), ndC C 7]) [0, 2, 3, 5, 38, 39, 40, 41, 42, 43, 44, 45, 46, 47, 48, 49, 50] [0, 1, 2, 3, 8] 9 ⟨rfl, rfl, rfl, wrap_u64 omm omm, rfl, trivial⟩ hS fun hS => ?_
 refine block_n (then_n (r0 [0, 2, 3, 5, 38, 39, 40, 41, 42, 43, 44, 45, 46, 47, 48, 49, 50, 52] [0, 1, 2, 3, 8] 9 hS fun hS => ?_))
 refine then_n (rounds_s (n := 1) ?_)
 refine s0 [0, 2, 3, 5, 38, 39, 40, 41, 42, 43, 44, 45, 46, 47, 48, 49, 50, 52] [0, 1, 2, 3, 8] 9 hS fun hS => ?_
 refine wp_seq (cond_t hS ?_)
 refine wp_skip (then_n (wp_seq (wp_block (sA [] trivial (fun _ => [(0 : Int) ≤ 1 ∧ (1 : Int) < 2]) [0, 2, 3, 5, 38, 39, 40, 41, 42, 43, 44, 45, 46, 47, 48, 49, 50, 52] [0, 1, 2, 3, 8] 9 ⟨by omega, trivial⟩ hS fun hS => ?_))))
 refine rA [(2, .call ⟨55, (c_ckey ik ii), [(0, 2)], []⟩), (3, .call ⟨53, (c_wfixed ((((([] ++ id) ++ numW (flag_m fi)) ++ numW (flag_m false)) ++ ok) ++ numW oi) ik), [(0, 3), (1, 8)], [(2, 9)]⟩), (5, .call ⟨40, (c_cindex ik ii), [(0, 2)], []⟩), (6, .oi (ii : Int)), (7, .call ⟨47, (c_wnum (((((([] ++ id) ++ numW (flag_m fi)) ++ numW (flag_m false)) ++ ok) ++ numW oi) ++ ik) ii), [(0, 3), (1, 9)], [(2, 10)]⟩)] ⟨ckey_ok _ _ lnn, wfixed_ok _ _ lnn lnn, cindex_ok _ _, wnum_ok _ _ lnn omm, trivial⟩ (fun C => [ndC C 2, ndC C 3, ndC C 5, IntKind.wrap .u64 (ii : Int) = (ii : Int), ndC C 7]) [0, 2, 3, 5, 38, 39, 40, 41, 42, 43, 44, 45, 46, 47, 48, 49, 50, 52] [0, 1, 2, 3, 10] 11 ⟨rfl, rfl, rfl, wrap_u64 omm omm, rfl, trivial⟩ hS fun hS => ?_
 refine block_n (then_n (r0 [0, 2, 3, 5, 38, 39, 40, 41, 42, 43, 44, 45, 46, 47, 48, 49, 50, 52] [0, 1, 2, 3, 10] 11 hS fun hS => ?_))
 refine then_n (rounds_s (n := 0) ?_)
 refine s0 [0, 2, 3, 5, 38, 40, 41, 42, 43, 44, 45, 46, 47, 48, 49, 50, 52] [0, 1, 2, 3, 10] 11 hS fun hS => ?_
 refine wp_seq (cond_f hS ?_)
 refine wp_exit (then_exit (then_exit (block_exit (then_n (sA [(5, .oi (low : Int)), (6, .call ⟨47, (c_wnum ((((((([] ++ id) ++ numW (flag_m fi)) ++ numW (flag_m false)) ++ ok) ++ numW oi) ++ ik) ++ numW ii) low), [(0, 3), (1, 10)], [(2, 11)]⟩), (11, .call ⟨56, (c_wlist (((((((([] ++ id) ++ numW (flag_m fi)) ++ numW (flag_m false)) ++ ok) ++ numW oi) ++ ik) ++ numW ii) ++ numW low) mx), [(0, 3), (1, 11)], [(2, 12)]⟩), (16, .oi (last : Int)), (17, .call ⟨47, (c_wnum ((((((((([] ++ id) ++ numW (flag_m fi)) ++ numW (flag_m false)) ++ ok) ++ numW oi) ++ ik) ++ numW ii) ++ numW low) ++ lstW mx) last), [(0, 3), (1, 12)], [(2, 13)]⟩), (22, .oi (told : Int)), (23, .call ⟨47, (c_wnum (((((((((([] ++ id) ++ numW (flag_m fi)) ++ numW (flag_m false)) ++ ok) ++ numW oi) ++ ik) ++ numW ii) ++ numW low) ++ lstW mx) ++ numW last) told), [(0, 3), (1, 13)], [(2, 14)]⟩), (29, .oi ((kl.length : Nat) : Int)), (30, .call ⟨47, (c_wnum ((((((((((([] ++ id) ++ numW (flag_m fi)) ++ numW (flag_m false)) ++ ok) ++ numW oi) ++ ik) ++ numW ii) ++ numW low) ++ lstW mx) ++ numW last) ++ numW told) kl.length), [(0, 3), (1, 14)], [(2, 15)]⟩)] ⟨wnum_ok _ _ lnn omm, wlist_ok _ _ lnn lnn (by first | assumption | exact fun j => Nat.le_trans (hm2 j) (by decide) | exact mem_le hkr.2.2.2), wnum_ok _ _ lnn omm, wnum_ok _ _ lnn omm, wnum_ok _ _ lnn omm, trivial⟩ (fun C => [IntKind.wrap .u64 (low : Int) = (low : Int), ndC C 6, ndC C 11, IntKind.wrap .u64 (last : Int) = (last : Int), ndC C 17, IntKind.wrap .u64 (told : Int) = (told : Int), ndC C 23, IntKind.wrap .u64 ((kl.length : Nat) : Int) = ((kl.length : Nat) : Int), ndC C 30]) [0, 2, 3] [0, 1, 2, 3, 15] 16 ⟨wrap_u64 omm omm, rfl, rfl, wrap_u64 omm omm, rfl, wrap_u64 omm omm, rfl, wrap_u64 omm omm, rfl, trivial⟩ hS fun hS => ?_)))))
 refine wp_seq (s0 [0, 2, 3, 87, 88, 89] [0, 1, 2, 3, 15] 16 hS fun hS => ?_)
 refine wp_block (loop_y (ι := Nat × (List Int)) hg0 hS (fun z_ => match z_ with | (x89, o15) => kl.length - x89) (fun z_ => match z_ with | (x89, o15) => [(0, .cp 0 0), (2, .v (.slice none 0 0)), (3, .cp 3 0), (87, .ls false [.int .i64, .int .i64, .sl (.sl (.int .u8))] kl), (88, vi ((kl.length : Nat) : Int)), (89, vi ((x89 : Nat) : Int))]) (fun z_ => match z_ with | (x89, o15) => [(0, .ob 80 (chain [lb id, .v (.bool fi), .v (.bool false), .cp 1 0, .cp 2 0, .v (.pointer none), vi (low : Int), .ls false [.sl (.int .u8)] mx, vi (last : Int), vi (told : Int), .ls false [.int .i64, .int .i64, .sl (.sl (.int .u8))] kl])), (1, .ob 122 (chain [lb ok, vi (oi : Int)])), (2, .ob 122 (chain [lb ik, vi (ii : Int)])), (3, .ob 97 (chain [.sk 15])), (15, .sl 5 [.int .u8] o15)]) (fun z_ => match z_ with | (x89, o15) => (x89 ≤ kl.length) ∧ (o15 = ssave_l2 id fi ok oi ik ii low mx last told kl x89) ∧ (o15.length ≤ 5000000 + x89 * 5000000) ∧ True) 16 (0, ((((((((((([] ++ id) ++ numW (flag_m fi)) ++ numW (flag_m false)) ++ ok) ++ numW oi) ++ ik) ++ numW ii) ++ numW low) ++ lstW mx) ++ numW last) ++ numW told) ++ numW kl.length) [(0, 0), (1, 1), (2, 2), (3, 3), (15, 15)] ⟨omm, rfl, lnn, trivial⟩ ?_)
 rintro ⟨x89, o15⟩ ac gs ws ⟨hx89, hq2, pL, _⟩ hS
 refine s0 [0, 2, 3, 87, 88, 89, 90] [0, 1, 2, 3, 15] 16 hS fun hS => ?_
 refine wp_seq ?_
 refine if_d ((x89 : Int) < ((kl.length : Nat) : Int)) hS (fun h1 => ?_) (fun h1 => ?_)
 ·refine wp_skip (then_n (wp_seq (wp_block (sA [] trivial (fun _ => [(0 : Int) ≤ (x89 : Int) ∧ (x89 : Int) < ((kl.length : Nat) : Int)]) [0, 2, 3, 7, 87, 88, 89] [0, 1, 2, 3, 15, 16] 17 ⟨by omega, trivial⟩ hS fun hS => ?_))))
  have hkr : (0 ≤ (kl.getD x89 (rz [.int .i64, .int .i64, .sl (.sl (.int .u8))])).1 ∧ (kl.getD x89 (rz [.int .i64, .int .i64, .sl (.sl (.int .u8))])).1 ≤ 1000000000000) ∧ (0 ≤ (kl.getD x89 (rz [.int .i64, .int .i64, .sl (.sl (.int .u8))])).2.1 ∧ (kl.getD x89 (rz [.int .i64, .int .i64, .sl (.sl (.int .u8))])).2.1 ≤ 1000000000000) ∧ (kl.getD x89 (rz [.int .i64, .int .i64, .sl (.sl (.int .u8))])).2.2.length ≤ 100000 ∧ ∀ k ∈ (kl.getD x89 (rz [.int .i64, .int .i64, .sl (.sl (.int .u8))])).2.2, k.length = 32 := hK.2 x89 omm
  have hkw : (lstW ((kl.getD x89 (rz [.int .i64, .int .i64, .sl (.sl (.int .u8))])).2.2)).length ≤ 4200010 := lstW_le hkr.2.2.1 (mem32' hkr.2.2.2)
  have hn1 := numW_10 (n := ((kl.getD x89 (rz [.int .i64, .int .i64, .sl (.sl (.int .u8))])).1).toNat) omm
  have hn2 := numW_10 (n := ((kl.getD x89 (rz [.int .i64, .int .i64, .sl (.sl (.int .u8))])).2.1).toNat) omm
  refine rA [(3, .oi ((((kl.getD x89 (rz [.int .i64, .int .i64, .sl (.sl (.int .u8))])).1).toNat : Nat) : Int)), (4, .call ⟨47, (c_wnum o15 (((kl.getD x89 (rz [.int .i64, .int .i64, .sl (.sl (.int .u8))])).1).toNat)), [(0, 3), (1, 15)], [(2, 17)]⟩), (7, .oi ((((kl.getD x89 (rz [.int .i64, .int .i64, .sl (.sl (.int .u8))])).2.1).toNat : Nat) : Int)), (8, .call ⟨47, (c_wnum (o15 ++ numW (((kl.getD x89 (rz [.int .i64, .int .i64, .sl (.sl (.int .u8))])).1).toNat)) (((kl.getD x89 (rz [.int .i64, .int .i64, .sl (.sl (.int .u8))])).2.1).toNat)), [(0, 3), (1, 17)], [(2, 18)]⟩), (11, .call ⟨56, (c_wlist ((o15 ++ numW (((kl.getD x89 (rz [.int .i64, .int .i64, .sl (.sl (.int .u8))])).1).toNat)) ++ numW (((kl.getD x89 (rz [.int .i64, .int .i64, .sl (.sl (.int .u8))])).2.1).toNat)) (((kl.getD x89 (rz [.int .i64, .int .i64, .sl (.sl (.int .u8))])).2).2)), [(0, 3), (1, 18)], [(2, 19)]⟩)] ⟨wnum_ok _ _ lnn omm, wnum_ok _ _ lnn omm, wlist_ok _ _ lnn lnn (by first | assumption | exact fun j => Nat.le_trans (hm2 j) (by decide) | exact mem_le hkr.2.2.2), trivial⟩ (fun C => [IntKind.wrap .u64 ((kl.getD x89 (rz [.int .i64, .int .i64, .sl (.sl (.int .u8))])).1) = ((((kl.getD x89 (rz [.int .i64, .int .i64, .sl (.sl (.int .u8))])).1).toNat : Nat) : Int), ndC C 4, IntKind.wrap .u64 ((kl.getD x89 (rz [.int .i64, .int .i64, .sl (.sl (.int .u8))])).2.1) = ((((kl.getD x89 (rz [.int .i64, .int .i64, .sl (.sl (.int .u8))])).2.1).toNat : Nat) : Int), ndC C 8, ndC C 11]) [0, 2, 3, 87, 88, 89] [0, 1, 2, 3, 19] 20 ⟨wrapN hkr.1.1 hkr.1.2, rfl, wrapN hkr.2.1.1 hkr.2.1.2, rfl, rfl, trivial⟩ hS fun hS => ?_
  refine block_n (then_n (rA [(0, .oi ((x89 + 1 : Nat) : Int))] trivial (fun _ => [iadd .i64 (x89 : Int) 1 = ((x89 + 1 : Nat) : Int)]) [0, 2, 3, 87, 88, 89] [0, 1, 2, 3, 19] 20 ⟨by rw [iadd64 omm omm]; omega, trivial⟩ hS fun hS => ?_))
  refine then_n ?_
  exact next_y hg0 hS (s := (x89, o15)) (x89 + 1, ((o15 ++ numW (((kl.getD x89 (rz [.int .i64, .int .i64, .sl (.sl (.int .u8))])).1).toNat)) ++ numW (((kl.getD x89 (rz [.int .i64, .int .i64, .sl (.sl (.int .u8))])).2.1).toNat)) ++ lstW (((kl.getD x89 (rz [.int .i64, .int .i64, .sl (.sl (.int .u8))])).2).2)) [(0, 0), (1, 1), (2, 2), (3, 3), (15, 19)] (show kl.length - (x89 + 1) < kl.length - x89 from by omega) ⟨omm, (it_next (F := ssave_l2 id fi ok oi ik ii low mx last told kl) (st := ssave_l2_s id fi ok oi ik ii low mx last told kl) (fun _ => rfl) hq2 rfl), lnn, trivial⟩
 ·have hScur := hS
  obtain rfl : kl.length = x89 := by omega
  obtain rfl : ssave_l2 id fi ok oi ik ii low mx last told kl kl.length = o15 := Eq.symm (congrArg (fun z => z) hq2)
  have hS := hScur
  clear hScur
  refine wp_exit (then_exit (then_exit (block_exit (then_n (wp_seq (s0 [0, 2, 3, 109] [0, 1, 2, 3, 15] 16 hS fun hS => ?_))))))
  refine cond_f hS ?_
  refine wp_skip (then_n (sA [(1, .call ⟨49, (c_wdone (ssave_l2 id fi ok oi ik ii low mx last told kl kl.length)), [(0, 3), (1, 15)], []⟩)] ⟨wdone_ok _ lnn, trivial⟩ (fun C => [ndC C 1]) [2] [0, 1, 2] 16 ⟨rfl, trivial⟩ hS fun hS => ?_))
  refine wp_ret ?_
  have hM : ssave_m id fi ok oi ik ii low mx last told kl = ssave_l2 id fi ok oi ik ii low mx last told kl kl.length := ssave_e id fi ok oi ik ii low mx last told kl
  exact fin_y rfl (.inr rfl) hS [lb (ssave_l2 id fi ok oi ik ii low mx last told kl kl.length)] [(0, some (.ob 80 (chain [lb id, .v (.bool fi), .v (.bool false), .cp 1 0, .cp 2 0, .v (.pointer none), vi (low : Int), .ls false [.sl (.int .u8)] mx, vi (last : Int), vi (told : Int), .ls false [.int .i64, .int .i64, .sl (.sl (.int .u8))] kl]))), (1, some (.ob 122 (chain [lb ok, vi (oi : Int)]))), (2, some (.ob 122 (chain [lb ik, vi (ii : Int)])))] (by show weak _ (lb (ssave_m id fi ok oi ik ii low mx last told kl)) = (lb (ssave_m id fi ok oi ik ii low mx last told kl)); rw [hM]; first | (simp only []; rfl) | (simp only []; done) | rfl) ⟨rfl, rfl, rfl, trivial⟩

end
end Go.Sx.Tryz
