/- General lemmas, walks. -/
import Derived.Test.YtmkplecnmklbfaaGreatJ6PRoots
set_option maxRecDepth 100000
set_option maxHeartbeats 1000000
set_option linter.unusedSimpArgs false
set_option linter.unusedVariables false
set_option linter.unnecessarySimpa false
set_option linter.unusedSectionVars false
namespace Go.Sx.Tryz
open Go.Mi Go.RowKit Go.Sx Go.Proofs
noncomputable section
theorem rb_ge (xs : List Int) (m : Nat) : 2 ≤ rbytes1_p_e xs m := by
 rw [rbytes1_p_ee]; unfold rbytes1_p_ev; split
 ·decide
 ·rw [small_p_ee]; unfold small_p_ev; split <;> decide
theorem rd1_ge (xs : List Int) : 2 ≤ rd1_p_e xs := by
 rw [rd1_p_ee]; unfold rd1_p_ev; split
 ·decide
 ·rw [pc1_p_ee]; unfold pc1_p_ev; split <;> exact rb_ge ..
theorem rd2_ge (xs a b : List Int) : 2 ≤ rd2_p_e xs a b := by
 rw [rd2_p_ee]; unfold rd2_p_ev; split
 ·decide
 ·rw [pc2_p_ee]; unfold pc2_p_ev
  split
  ·split
   ·split
    ·exact rb_ge ..
    ·decide
   ·decide
  ·decide
theorem parted_ge (xs : List Int) : 2 ≤ parted_p_e xs := by
 rw [parted_p_ee]; unfold parted_p_ev
 split
 ·split
  ·decide
  ·exact rd2_ge ..
 ·exact rd1_ge ..
theorem sopen_02 (key num data text : List Int) : (sopen_m key num data text).2 = 0 ∨ (sopen_m key num data text).2 = 2 := by
 rw [sopen_e]; unfold sopen_v
 show (bopen_m _ _ _ _ _ _ _ _ _ _).2 = 0 ∨ (bopen_m _ _ _ _ _ _ _ _ _ _).2 = 2
 rw [bopen_e]; unfold bopen_v
 split
 ·exact .inr rfl
 ·split
  ·exact .inl rfl
  ·exact .inr rfl
theorem opening_ge (id : List Int) (fi : Bool) (ok : List Int) (oi : Nat) (ik : List Int) (ii low : Nat) (mx : List (List Int)) (last told : Nat) (kl : List KR) (hb : List Int) (hi hn hh : Nat) (hp hx : List Int) : 2 ≤ opening_p_e id fi ok oi ik ii low mx last told kl hb hi hn hh hp hx := by
 rw [opening_p_ee]; unfold opening_p_ev
 split
 ·split
  ·decide
  ·split <;> decide
 ·split
  ·split <;> decide
  ·rename_i h
   have h : ¬ (ii ≤ hi ∧ hi ≤ ii + 40) := fun e => h (decide_eq_true e)
   by_cases h1 : hi < ii
   ·rw [cmay_5 h1]; decide
   ·rw [cmay_6 omm]; decide
theorem take_ge {id : List Int} {fi : Bool} {ok : List Int} {oi : Nat} {ik : List Int} {ii low : Nat} {mx : List (List Int)} {last told : Nat} {kl : List KR} {xs rand : List Int} (h : take_k id fi ok oi ik ii low mx last told kl xs rand = false) : 2 ≤ take_p_e id fi ok oi ik ii low mx last told kl xs rand := by
 rw [take_ke] at h; unfold take_kv at h
 rw [take_p_ee]; unfold take_p_ev
 split at h
 ·rename_i h1
  rw [if_pos h1]
  split at h
  ·rename_i h2
   rw [if_pos h2]
   split at h
   ·cases h
   ·rename_i h3
    rcases sopen_02 (opening_m id fi ok oi ik ii low mx last told kl (parted_m xs).1 (parted_m xs).2.1 (parted_m xs).2.2.1 (parted_m xs).2.2.2.1 (parted_m xs).2.2.2.2.1 (parted_m xs).2.2.2.2.2) (List.replicate 12 (0 : Int)) (parted_m xs).1 (parted_m xs).2.2.2.2.2 with h4 | h4
    ·exact absurd (by rw [h4]; rfl) h3
    ·rw [h4]; exact Nat.le_refl _
  ·rename_i h2
   rw [if_neg h2]; exact opening_ge ..
 ·rename_i h1
  rw [if_neg h1]; exact parted_ge ..
theorem rcv_ge {id : List Int} {fi : Bool} {ok : List Int} {oi : Nat} {ik : List Int} {ii low : Nat} {mx : List (List Int)} {last told : Nat} {kl : List KR} {xs rand : List Int} (h : receive_k id fi ok oi ik ii low mx last told kl xs rand = false) : 2 ≤ take_p_e id fi ok oi ik ii low mx last told kl xs (rand.drop 64) := by
 rw [receive_ke] at h; unfold receive_kv at h
 refine take_ge (h := ?_)
 split at h
 ·cases h
 ·rename_i h1; exact bne_k h1
theorem snew_f (root : List Int) (fi : Bool) : (snew_m root fi).1.length = 32 ∧ (snew_m root fi).2.1.length = 32 ∧ (snew_m root fi).2.2.1.length = 32 ∧ (snew_m root fi).2.2.2.length = 1 ∧ ∀ j, ((snew_m root fi).2.2.2.getD j (rz [.sl (.int .u8)])).length ≤ 32 := by
 rw [snew_e]; unfold snew_v
 split <;> exact ⟨part_len .., part_len .., part_len .., rfl, mx1 (part_len ..)⟩
theorem kok0 : KOk [] := ⟨by decide, fun j h => by cases h⟩
def c_rcvg_p (id : List Int) (fi : Bool) (ok : List Int) (oi : Nat) (ik : List Int) (ii low : Nat) (mx : List (List Int)) (last told : Nat) (kl : List KR) (xs rand : List Int) : Con := ⟨[.cp 0 0, lb xs, lb rand], [(0, .ob 80 (chain [lb id, .v (.bool fi), .v (.bool false), .cp 1 0, .cp 2 0, .v (.pointer none), vi (low : Int), .ls false [.sl (.int .u8)] mx, vi (last : Int), vi (told : Int), .ls false [.int .i64, .int .i64, .sl (.sl (.int .u8))] kl])), (1, .ob 122 (chain [lb ok, vi (oi : Int)])), (2, .ob 122 (chain [lb ik, vi (ii : Int)]))], .tu (chain [.v (.slice none 0 0), vi 0, vi ((take_p_e id fi ok oi ik ii low mx last told kl xs (rand.drop 64) : Nat) : Int)]), [(0, .ob 80 (chain [lb id, .v (.bool fi), .v (.bool false), .cp 1 0, .cp 2 0, .v (.pointer none), vi (low : Int), .ls false [.sl (.int .u8)] mx, vi (last : Int), vi (told : Int), .ls false [.int .i64, .int .i64, .sl (.sl (.int .u8))] kl])), (1, .ob 122 (chain [lb ok, vi (oi : Int)])), (2, .ob 122 (chain [lb ik, vi (ii : Int)]))]⟩
theorem rcvg_p_ok (id : List Int) (fi : Bool) (ok : List Int) (oi : Nat) (ik : List Int) (ii low : Nat) (mx : List (List Int)) (last told : Nat) (kl : List KR) (xs rand : List Int) (hok : ok.length = 32) (hik : ik.length = 32) (hoi : oi ≤ 100000000000) (hii : ii ≤ 100000000000) (hm1 : 1 ≤ mx.length ∧ mx.length ≤ 100000) (hm2 : ∀ j, (mx.getD j (rz [.sl (.int .u8)])).length ≤ 32) (hlow : low ≤ 100000000000) (hK : KOk kl) (hll : low ≤ last ∧ last ≤ 100000000000) (htd : told ≤ 100000000000) (hf : xs.length ≤ 50000) (hr : rand.length = 128) (hk : receive_k id fi ok oi ik ii low mx last told kl xs rand = false) : ConOk Tryz.prog 19 (c_rcvg_p id fi ok oi ik ii low mx last told kl xs rand) := receive_p_ok id fi ok oi ik ii low mx last told kl xs rand hok hik hoi hii hm1 hm2 hlow hK hll htd hf hr hk
def c_sroots (a b : List Int) (same : Bool) (n : Int) : Con := ⟨[lb a, lb b, .v (.bool same), vi n], [], .v (.bool true), []⟩
theorem sroots_ok (a b : List Int) (same : Bool) (n : Int) : ConOk Tryz.prog 7 (c_sroots a b same n) := by
 refine conOk_of rfl (nb := 0) Tryz.func7 rfl rfl Tryz.ntmps7 rfl rfl rfl fun g0 w0 ac gs ws hg0 hS => ?_
 have hlen0 : a.length ≤ 9223372036854775807 := hS.len 0 rfl
 have hlen1 : b.length ≤ 9223372036854775807 := hS.len 1 rfl
 have hS := hS.sp
 refine s0 [0, 1, 2, 3, 8] [] 0 hS fun hS => ?_
 refine wp_seq (wp_seq ?_)
 by_cases h1 : ((a.length : Nat) : Int) = 32
 ·by_cases h2 : ((b.length : Nat) : Int) = 32
  ·by_cases h3 : n < 0
   ·refine rA [(2, .ob false), (6, .ob false), (10, .ob true)] trivial (fun _ => [(!decide (((a.length : Nat) : Int) = 32)) = false, (!decide (((b.length : Nat) : Int) = 32)) = false, (decide (n < 0)) = true]) [0, 1, 2, 3, 8, 36] [] 0 ⟨by rw [decide_eq_true h1]; rfl, by rw [decide_eq_true h2]; rfl, decide_eq_true h3, trivial⟩ hS fun hS => ?_
    refine then_n (cond_t hS ?_)
    refine sA [(0, .call ⟨11, (c_awake), [], []⟩)] ⟨awake_ok, trivial⟩ (fun C => [ndC C 0]) [0, 1, 2, 3, 8] [] 0 ⟨rfl, trivial⟩ hS fun hS => ?_
    refine wp_ret (then_ret ?_)
    exact fin_y rfl (.inr rfl) hS [.v (.bool true)] [] rfl trivial
   ·refine rA [(2, .ob false), (6, .ob false), (10, .ob false)] trivial (fun _ => [(!decide (((a.length : Nat) : Int) = 32)) = false, (!decide (((b.length : Nat) : Int) = 32)) = false, (decide (n < 0)) = false]) [0, 1, 2, 3, 8, 36] [] 0 ⟨by rw [decide_eq_true h1]; rfl, by rw [decide_eq_true h2]; rfl, decide_eq_false h3, trivial⟩ hS fun hS => ?_
    refine then_n ?_
    refine if_d ((6 : Int) < n) hS (fun h4 => ?_) (fun h4 => ?_)
    ·refine sA [(0, .call ⟨11, (c_awake), [], []⟩)] ⟨awake_ok, trivial⟩ (fun C => [ndC C 0]) [0, 1, 2, 3, 8] [] 0 ⟨rfl, trivial⟩ hS fun hS => ?_
     refine wp_ret (then_ret ?_)
     exact fin_y rfl (.inr rfl) hS [.v (.bool true)] [] rfl trivial
    ·refine wp_skip (then_n (sA [(1, .call ⟨23, (c_snew a true), [], [(0, 0), (1, 1), (2, 2)]⟩)] ⟨snew_ok _ _ lnn, trivial⟩ (fun C => [ndC C 1]) [0, 1, 2, 3, 8, 9, 10] [0, 1, 2] 3 ⟨rfl, trivial⟩ hS fun hS => ?_))
     refine sA [(2, .call ⟨23, (c_snew b same), [], [(0, 3), (1, 4), (2, 5)]⟩)] ⟨snew_ok _ _ lnn, trivial⟩ (fun C => [ndC C 2]) [0, 1, 2, 3, 8, 9, 10, 11, 12] [0, 1, 2, 3, 4, 5] 6 ⟨rfl, trivial⟩ hS fun hS => ?_
     refine wp_seq (s0 [0, 1, 2, 3, 8, 9, 11, 62] [0, 1, 2, 3, 4, 5] 6 hS fun hS => ?_)
     refine cond_f hS ?_
     refine wp_skip (then_n (wp_seq (wp_seq ?_)))
     by_cases h5 : ((mkStr a).toList == (mkStr b).toList) = true
     ·refine rA [(4, .ob true)] trivial (fun _ => [(((mkStr a).toList == (mkStr b).toList)) = true]) [3, 8, 9, 11, 71] [0, 1, 2, 3, 4, 5] 6 ⟨h5, trivial⟩ hS fun hS => ?_
      refine then_n ?_
      refine if_y (!same) hS (fun h6 => ?_) (fun h6 => ?_)
      ·refine sA [(0, .call ⟨11, (c_awake), [], []⟩)] ⟨awake_ok, trivial⟩ (fun C => [ndC C 0]) [3, 8, 9, 11] [0, 1, 2, 3, 4, 5] 6 ⟨rfl, trivial⟩ hS fun hS => ?_
       refine wp_ret (then_ret ?_)
       exact fin_y rfl (.inr rfl) hS [.v (.bool true)] [] rfl trivial
      ·refine wp_skip (then_n (wp_seq (wp_seq ?_)))
       have hfa := snew_f a true
       have hfb := snew_f b same
       obtain ⟨ha1, ha2, ha3, ha4, ha5⟩ := hfa
       obtain ⟨hb1, hb2, hb3, hb4, hb5⟩ := hfb
       have hS := hS.wko 0 [.top, .top, .top, .top, .top, .top, .top, .ls false [.sl (.int .u8)] [], .top, .top, .ls false [.int .i64, .int .i64, .sl (.sl (.int .u8))] []]
       have hS := hS.wko 3 [.top, .top, .top, .top, .top, .top, .top, .ls false [.sl (.int .u8)] [], .top, .top, .ls false [.int .i64, .int .i64, .sl (.sl (.int .u8))] []]
       obtain ⟨m, rfl⟩ := Int.eq_ofNat_of_zero_le (by omega : 0 ≤ n)
       refine r0 [3, 8, 9, 11, 13] [0, 1, 2, 3, 4, 5] 6 hS fun hS => ?_
       refine then_n (wp_block (loop_y (ι := Nat) hg0 hS (fun i => m - i) (fun i => [(3, vi (m : Int)), (9, .cp 0 0), (11, .cp 3 0), (13, vi ((i : Nat) : Int))]) (fun i => [(0, .ob 80 (chain [lb ((snew_m a true).1), .v (.bool true), .v (.bool false), .cp 1 0, .cp 2 0, .v (.pointer none), vi 0, .ls false [.sl (.int .u8)] ((snew_m a true).2.2.2), vi 0, vi 0, .ls false [.int .i64, .int .i64, .sl (.sl (.int .u8))] []])), (1, .ob 122 (chain [lb (nxtN (snew_m a true).2.1 i), vi ((i : Nat) : Int)])), (2, .ob 122 (chain [lb ((snew_m a true).2.2.1), vi 0])), (3, .ob 80 (chain [lb ((snew_m b same).1), .v (.bool same), .v (.bool false), .cp 4 0, .cp 5 0, .v (.pointer none), vi 0, .ls false [.sl (.int .u8)] ((snew_m b same).2.2.2), vi 0, vi 0, .ls false [.int .i64, .int .i64, .sl (.sl (.int .u8))] []])), (4, .ob 122 (chain [lb ((snew_m b same).2.1), vi 0])), (5, .ob 122 (chain [lb ((snew_m b same).2.2.1), vi 0]))]) (fun i => (i ≤ m) ∧ True) 6 0 [(0, 0), (1, 1), (2, 2), (3, 3), (4, 4), (5, 5)] ⟨omm, trivial⟩ ?_))
       rintro i ac gs ws ⟨hi, _⟩ hS
       refine wp_seq (s0 [3, 9, 11, 13, 75] [0, 1, 2, 3, 4, 5] 6 hS fun hS => ?_)
       refine if_d ((i : Int) < (m : Int)) hS (fun h7 => ?_) (fun h7 => ?_)
       ·refine wp_skip (then_n (wp_seq (wp_block (sA [(1, .own), (4, .call ⟨15, (c_draw (i : Int)), [], []⟩), (5, .call ⟨24, (c_sendh ((snew_m a true).1) true (nxtN (snew_m a true).2.1 i) i ((snew_m a true).2.2.1) 0 ((snew_m a true).2.2.2) [] [120] (draw_m (i : Int))), [(0, 0), (1, 1), (2, 2)], []⟩)] ⟨draw_ok _, sendh_ok _ _ _ _ _ _ _ _ _ _ (nxtN_len ha2 i) ha3 omm omm ha4 ha5 (by simp) (draw_len _), trivial⟩ (fun C => [0 < [120].length, ndC C 4, ndC C 5]) [3, 9, 11, 13, 14, 15, 16] [0, 1, 2, 3, 4, 5] 7 ⟨by decide, rfl, rfl, trivial⟩ hS fun hS => ?_))))
        refine wp_seq (wp_seq ?_)
        have hii : (i : Int) = (i : Int) := rfl
        refine rA [(5, .ob false)] trivial (fun _ => [(!decide ((i : Int) = (i : Int))) = false]) [3, 9, 11, 13, 14, 94] [0, 1, 2, 3, 4, 5] 7 ⟨by rw [decide_eq_true hii]; rfl, trivial⟩ hS fun hS => ?_
        refine then_n (cond_f hS ?_)
        refine wp_skip (then_n (sA [(1, .call ⟨25, (c_ssave ((snew_m b same).1) same ((snew_m b same).2.1) 0 ((snew_m b same).2.2.1) 0 0 ((snew_m b same).2.2.2) 0 0 []), [(0, 3), (1, 4), (2, 5)], []⟩)] ⟨ssave_ok _ _ _ _ _ _ _ _ _ _ _ hb2 hb3 omm omm ⟨by omega, by omega⟩ hb5 omm kok0 ⟨by omega, by omega⟩ omm hb1, trivial⟩ (fun C => [ndC C 1]) [3, 9, 11, 13, 14, 17] [0, 1, 2, 3, 4, 5] 7 ⟨rfl, trivial⟩ hS fun hS => ?_))
        refine wp_seq ?_
        have hf := (frm_len (snew_m a true).2.2.2 (nxtN (snew_m a true).2.1 i) (n := i) (text := [120]) omm (by simp)).2
        by_cases h8 : receive_k ((snew_m b same).1) same ((snew_m b same).2.1) 0 ((snew_m b same).2.2.1) 0 0 ((snew_m b same).2.2.2) 0 0 [] (frm ((snew_m a true).2.2.2) (nxtN (snew_m a true).2.1 i) i [120]) (draw_m (i : Int)) = true
        ·have hf := (frm_len (snew_m a true).2.2.2 (nxtN (snew_m a true).2.1 i) (n := i) (text := [120]) omm (by simp)).2
         refine rA [(3, .call ⟨15, (c_draw (i : Int)), [], []⟩), (4, .call ⟨19, (c_receive ((snew_m b same).1) same ((snew_m b same).2.1) 0 ((snew_m b same).2.2.1) 0 0 ((snew_m b same).2.2.2) 0 0 [] (frm ((snew_m a true).2.2.2) (nxtN (snew_m a true).2.1 i) i [120]) (draw_m (i : Int))), [(0, 3), (1, 4), (2, 5)], [(7, 7), (8, 8)]⟩)] ⟨draw_ok _, receive_ok _ _ _ _ _ _ _ _ _ _ _ _ _ hb2 hb3 omm omm ⟨by omega, by omega⟩ hb5 omm kok0 ⟨by omega, by omega⟩ omm omm (draw_len _) h8, trivial⟩ (fun C => [ndC C 3, ndC C 4]) [3, 9, 11, 13, 17, 18, 19, 20] [0, 1, 2, 3, 7, 8] 9 ⟨rfl, rfl, trivial⟩ hS fun hS => ?_
         refine then_n (wp_seq (s0 [3, 9, 11, 13, 17, 18, 19, 20, 107] [0, 1, 2, 3, 7, 8] 9 hS fun hS => ?_))
         refine cond_t hS ?_
         refine sA [(0, .call ⟨11, (c_awake), [], []⟩)] ⟨awake_ok, trivial⟩ (fun C => [ndC C 0]) [3, 8, 9, 11, 13, 17, 18, 19, 20] [0, 1, 2, 3, 7, 8] 9 ⟨rfl, trivial⟩ hS fun hS => ?_
         refine wp_ret (then_ret (block_ret (then_ret (then_ret (block_ret (then_ret ?_))))))
         exact fin_y rfl (.inr rfl) hS [.v (.bool true)] [] rfl trivial
        ·have hf := (frm_len (snew_m a true).2.2.2 (nxtN (snew_m a true).2.1 i) (n := i) (text := [120]) omm (by simp)).2
         refine rA [(3, .call ⟨15, (c_draw (i : Int)), [], []⟩), (4, .call ⟨19, (c_rcvg_p ((snew_m b same).1) same ((snew_m b same).2.1) 0 ((snew_m b same).2.2.1) 0 0 ((snew_m b same).2.2.2) 0 0 [] (frm ((snew_m a true).2.2.2) (nxtN (snew_m a true).2.1 i) i [120]) (draw_m (i : Int))), [(0, 3), (1, 4), (2, 5)], []⟩)] ⟨draw_ok _, rcvg_p_ok _ _ _ _ _ _ _ _ _ _ _ _ _ hb2 hb3 omm omm ⟨by omega, by omega⟩ hb5 omm kok0 ⟨by omega, by omega⟩ omm omm (draw_len _) (bne_k h8), trivial⟩ (fun C => [ndC C 3, ndC C 4]) [3, 9, 11, 13, 17, 18, 19, 20] [0, 1, 2, 3, 4, 5] 7 ⟨rfl, rfl, trivial⟩ hS fun hS => ?_
         refine then_n (wp_seq (wp_seq ?_))
         have hge : 2 ≤ take_p_e ((snew_m b same).1) same ((snew_m b same).2.1) 0 ((snew_m b same).2.2.1) 0 0 ((snew_m b same).2.2.2) 0 0 ([] : List KR) (frm ((snew_m a true).2.2.2) (nxtN (snew_m a true).2.1 i) i [120]) ((draw_m (i : Int)).drop 64) := rcv_ge (bne_k asm)
         have he0 : ¬ ((take_p_e ((snew_m b same).1) same ((snew_m b same).2.1) 0 ((snew_m b same).2.2.1) 0 0 ((snew_m b same).2.2.2) 0 0 ([] : List KR) (frm ((snew_m a true).2.2.2) (nxtN (snew_m a true).2.1 i) i [120]) ((draw_m (i : Int)).drop 64) : Nat) : Int) = 0 := omm
         have he1 : ¬ ((take_p_e ((snew_m b same).1) same ((snew_m b same).2.1) 0 ((snew_m b same).2.2.1) 0 0 ((snew_m b same).2.2.2) 0 0 ([] : List KR) (frm ((snew_m a true).2.2.2) (nxtN (snew_m a true).2.1 i) i [120]) ((draw_m (i : Int)).drop 64) : Nat) : Int) = 1 := omm
         refine rA [(1, .ob false)] trivial (fun _ => [(decide (((take_p_e ((snew_m b same).1) same ((snew_m b same).2.1) 0 ((snew_m b same).2.2.1) 0 0 ((snew_m b same).2.2.2) 0 0 ([] : List KR) (frm ((snew_m a true).2.2.2) (nxtN (snew_m a true).2.1 i) i [120]) ((draw_m (i : Int)).drop 64) : Nat) : Int) = 0)) = false]) [3, 9, 11, 13, 17, 18, 19, 20, 107] [0, 1, 2, 3, 4, 5] 7 ⟨decide_eq_false he0, trivial⟩ hS fun hS => ?_
         refine then_n (cond_f hS ?_)
         refine wp_skip (then_n (sA [(1, .ob false), (13, .call ⟨25, (c_ssave ((snew_m b same).1) same ((snew_m b same).2.1) 0 ((snew_m b same).2.2.1) 0 0 ((snew_m b same).2.2.2) 0 0 []), [(0, 3), (1, 4), (2, 5)], []⟩), (17, .ob false)] ⟨ssave_ok _ _ _ _ _ _ _ _ _ _ _ hb2 hb3 omm omm ⟨by omega, by omega⟩ hb5 omm kok0 ⟨by omega, by omega⟩ omm hb1, trivial⟩ (fun C => [(decide (((take_p_e ((snew_m b same).1) same ((snew_m b same).2.1) 0 ((snew_m b same).2.2.1) 0 0 ((snew_m b same).2.2.2) 0 0 ([] : List KR) (frm ((snew_m a true).2.2.2) (nxtN (snew_m a true).2.1 i) i [120]) ((draw_m (i : Int)).drop 64) : Nat) : Int) = 1)) = false, ndC C 13, (!((mkStr (ssave_m ((snew_m b same).1) same ((snew_m b same).2.1) 0 ((snew_m b same).2.2.1) 0 0 ((snew_m b same).2.2.2) 0 0 ([] : List KR))).toList == (mkStr (ssave_m ((snew_m b same).1) same ((snew_m b same).2.1) 0 ((snew_m b same).2.2.1) 0 0 ((snew_m b same).2.2.2) 0 0 ([] : List KR))).toList)) = false]) [3, 9, 11, 13, 127] [0, 1, 2, 3, 4, 5] 7 ⟨decide_eq_false he1, rfl, by rw [beq_self_eq_true _]; rfl, trivial⟩ hS fun hS => ?_))
         refine cond_f hS ?_
         refine wp_skip (block_n (then_n (rA [(1, .oi ((i + 1 : Nat) : Int))] trivial (fun _ => [iadd .i64 (i : Int) 1 = ((i + 1 : Nat) : Int)]) [3, 9, 11, 13] [0, 1, 2, 3, 4, 5] 7 ⟨by rw [iadd64 omm omm]; omega, trivial⟩ hS fun hS => ?_)))
         refine then_n ?_
         exact next_y hg0 hS (s := (i)) (i + 1) [(0, 0), (1, 1), (2, 2), (3, 3), (4, 4), (5, 5)] (show m - (i + 1) < m - i from by omega) ⟨omm, trivial⟩
       ·have hScur := hS
        obtain rfl : m = i := by omega
        have hS := hScur
        clear hScur
        refine wp_exit (then_exit (then_exit (block_exit (then_n (sA [(0, .call ⟨11, (c_awake), [], []⟩)] ⟨awake_ok, trivial⟩ (fun C => [ndC C 0]) [8] [] 6 ⟨rfl, trivial⟩ hS fun hS => ?_)))))
        refine wp_ret ?_
        exact fin_y rfl (.inr rfl) hS [.v (.bool true)] [] rfl trivial
     ·have h5 := bne_k h5
      refine rA [(4, .ob false)] trivial (fun _ => [(((mkStr a).toList == (mkStr b).toList)) = false]) [3, 8, 9, 11, 71] [0, 1, 2, 3, 4, 5] 6 ⟨h5, trivial⟩ hS fun hS => ?_
      refine then_n (cond_f hS ?_)
      refine wp_skip (then_n (wp_seq (wp_seq ?_)))
      have hfa := snew_f a true
      have hfb := snew_f b same
      obtain ⟨ha1, ha2, ha3, ha4, ha5⟩ := hfa
      obtain ⟨hb1, hb2, hb3, hb4, hb5⟩ := hfb
      have hS := hS.wko 0 [.top, .top, .top, .top, .top, .top, .top, .ls false [.sl (.int .u8)] [], .top, .top, .ls false [.int .i64, .int .i64, .sl (.sl (.int .u8))] []]
      have hS := hS.wko 3 [.top, .top, .top, .top, .top, .top, .top, .ls false [.sl (.int .u8)] [], .top, .top, .ls false [.int .i64, .int .i64, .sl (.sl (.int .u8))] []]
      obtain ⟨m, rfl⟩ := Int.eq_ofNat_of_zero_le (by omega : 0 ≤ n)
      refine r0 [3, 8, 9, 11, 13] [0, 1, 2, 3, 4, 5] 6 hS fun hS => ?_
      refine then_n (wp_block (loop_y (ι := Nat) hg0 hS (fun i => m - i) (fun i => [(3, vi (m : Int)), (9, .cp 0 0), (11, .cp 3 0), (13, vi ((i : Nat) : Int))]) (fun i => [(0, .ob 80 (chain [lb ((snew_m a true).1), .v (.bool true), .v (.bool false), .cp 1 0, .cp 2 0, .v (.pointer none), vi 0, .ls false [.sl (.int .u8)] ((snew_m a true).2.2.2), vi 0, vi 0, .ls false [.int .i64, .int .i64, .sl (.sl (.int .u8))] []])), (1, .ob 122 (chain [lb (nxtN (snew_m a true).2.1 i), vi ((i : Nat) : Int)])), (2, .ob 122 (chain [lb ((snew_m a true).2.2.1), vi 0])), (3, .ob 80 (chain [lb ((snew_m b same).1), .v (.bool same), .v (.bool false), .cp 4 0, .cp 5 0, .v (.pointer none), vi 0, .ls false [.sl (.int .u8)] ((snew_m b same).2.2.2), vi 0, vi 0, .ls false [.int .i64, .int .i64, .sl (.sl (.int .u8))] []])), (4, .ob 122 (chain [lb ((snew_m b same).2.1), vi 0])), (5, .ob 122 (chain [lb ((snew_m b same).2.2.1), vi 0]))]) (fun i => (i ≤ m) ∧ True) 6 0 [(0, 0), (1, 1), (2, 2), (3, 3), (4, 4), (5, 5)] ⟨omm, trivial⟩ ?_))
      rintro i ac gs ws ⟨hi, _⟩ hS
      refine wp_seq (s0 [3, 9, 11, 13, 75] [0, 1, 2, 3, 4, 5] 6 hS fun hS => ?_)
      refine if_d ((i : Int) < (m : Int)) hS (fun h9 => ?_) (fun h9 => ?_)
      ·refine wp_skip (then_n (wp_seq (wp_block (sA [(1, .own), (4, .call ⟨15, (c_draw (i : Int)), [], []⟩), (5, .call ⟨24, (c_sendh ((snew_m a true).1) true (nxtN (snew_m a true).2.1 i) i ((snew_m a true).2.2.1) 0 ((snew_m a true).2.2.2) [] [120] (draw_m (i : Int))), [(0, 0), (1, 1), (2, 2)], []⟩)] ⟨draw_ok _, sendh_ok _ _ _ _ _ _ _ _ _ _ (nxtN_len ha2 i) ha3 omm omm ha4 ha5 (by simp) (draw_len _), trivial⟩ (fun C => [0 < [120].length, ndC C 4, ndC C 5]) [3, 9, 11, 13, 14, 15, 16] [0, 1, 2, 3, 4, 5] 7 ⟨by decide, rfl, rfl, trivial⟩ hS fun hS => ?_))))
       refine wp_seq (wp_seq ?_)
       have hii : (i : Int) = (i : Int) := rfl
       refine rA [(5, .ob false)] trivial (fun _ => [(!decide ((i : Int) = (i : Int))) = false]) [3, 9, 11, 13, 14, 94] [0, 1, 2, 3, 4, 5] 7 ⟨by rw [decide_eq_true hii]; rfl, trivial⟩ hS fun hS => ?_
       refine then_n (cond_f hS ?_)
       refine wp_skip (then_n (sA [(1, .call ⟨25, (c_ssave ((snew_m b same).1) same ((snew_m b same).2.1) 0 ((snew_m b same).2.2.1) 0 0 ((snew_m b same).2.2.2) 0 0 []), [(0, 3), (1, 4), (2, 5)], []⟩)] ⟨ssave_ok _ _ _ _ _ _ _ _ _ _ _ hb2 hb3 omm omm ⟨by omega, by omega⟩ hb5 omm kok0 ⟨by omega, by omega⟩ omm hb1, trivial⟩ (fun C => [ndC C 1]) [3, 9, 11, 13, 14, 17] [0, 1, 2, 3, 4, 5] 7 ⟨rfl, trivial⟩ hS fun hS => ?_))
       refine wp_seq ?_
       have hf := (frm_len (snew_m a true).2.2.2 (nxtN (snew_m a true).2.1 i) (n := i) (text := [120]) omm (by simp)).2
       by_cases h10 : receive_k ((snew_m b same).1) same ((snew_m b same).2.1) 0 ((snew_m b same).2.2.1) 0 0 ((snew_m b same).2.2.2) 0 0 [] (frm ((snew_m a true).2.2.2) (nxtN (snew_m a true).2.1 i) i [120]) (draw_m (i : Int)) = true
       ·have hf := (frm_len (snew_m a true).2.2.2 (nxtN (snew_m a true).2.1 i) (n := i) (text := [120]) omm (by simp)).2
        refine rA [(3, .call ⟨15, (c_draw (i : Int)), [], []⟩), (4, .call ⟨19, (c_receive ((snew_m b same).1) same ((snew_m b same).2.1) 0 ((snew_m b same).2.2.1) 0 0 ((snew_m b same).2.2.2) 0 0 [] (frm ((snew_m a true).2.2.2) (nxtN (snew_m a true).2.1 i) i [120]) (draw_m (i : Int))), [(0, 3), (1, 4), (2, 5)], [(7, 7), (8, 8)]⟩)] ⟨draw_ok _, receive_ok _ _ _ _ _ _ _ _ _ _ _ _ _ hb2 hb3 omm omm ⟨by omega, by omega⟩ hb5 omm kok0 ⟨by omega, by omega⟩ omm omm (draw_len _) h10, trivial⟩ (fun C => [ndC C 3, ndC C 4]) [3, 9, 11, 13, 17, 18, 19, 20] [0, 1, 2, 3, 7, 8] 9 ⟨rfl, rfl, trivial⟩ hS fun hS => ?_
        refine then_n (wp_seq (s0 [3, 9, 11, 13, 17, 18, 19, 20, 107] [0, 1, 2, 3, 7, 8] 9 hS fun hS => ?_))
        refine cond_t hS ?_
        refine sA [(0, .call ⟨11, (c_awake), [], []⟩)] ⟨awake_ok, trivial⟩ (fun C => [ndC C 0]) [3, 8, 9, 11, 13, 17, 18, 19, 20] [0, 1, 2, 3, 7, 8] 9 ⟨rfl, trivial⟩ hS fun hS => ?_
        refine wp_ret (then_ret (block_ret (then_ret (then_ret (block_ret (then_ret ?_))))))
        exact fin_y rfl (.inr rfl) hS [.v (.bool true)] [] rfl trivial
       ·have hf := (frm_len (snew_m a true).2.2.2 (nxtN (snew_m a true).2.1 i) (n := i) (text := [120]) omm (by simp)).2
        refine rA [(3, .call ⟨15, (c_draw (i : Int)), [], []⟩), (4, .call ⟨19, (c_rcvg_p ((snew_m b same).1) same ((snew_m b same).2.1) 0 ((snew_m b same).2.2.1) 0 0 ((snew_m b same).2.2.2) 0 0 [] (frm ((snew_m a true).2.2.2) (nxtN (snew_m a true).2.1 i) i [120]) (draw_m (i : Int))), [(0, 3), (1, 4), (2, 5)], []⟩)] ⟨draw_ok _, rcvg_p_ok _ _ _ _ _ _ _ _ _ _ _ _ _ hb2 hb3 omm omm ⟨by omega, by omega⟩ hb5 omm kok0 ⟨by omega, by omega⟩ omm omm (draw_len _) (bne_k h10), trivial⟩ (fun C => [ndC C 3, ndC C 4]) [3, 9, 11, 13, 17, 18, 19, 20] [0, 1, 2, 3, 4, 5] 7 ⟨rfl, rfl, trivial⟩ hS fun hS => ?_
        refine then_n (wp_seq (wp_seq ?_))
        have hge : 2 ≤ take_p_e ((snew_m b same).1) same ((snew_m b same).2.1) 0 ((snew_m b same).2.2.1) 0 0 ((snew_m b same).2.2.2) 0 0 ([] : List KR) (frm ((snew_m a true).2.2.2) (nxtN (snew_m a true).2.1 i) i [120]) ((draw_m (i : Int)).drop 64) := rcv_ge (bne_k asm)
        have he0 : ¬ ((take_p_e ((snew_m b same).1) same ((snew_m b same).2.1) 0 ((snew_m b same).2.2.1) 0 0 ((snew_m b same).2.2.2) 0 0 ([] : List KR) (frm ((snew_m a true).2.2.2) (nxtN (snew_m a true).2.1 i) i [120]) ((draw_m (i : Int)).drop 64) : Nat) : Int) = 0 := omm
        have he1 : ¬ ((take_p_e ((snew_m b same).1) same ((snew_m b same).2.1) 0 ((snew_m b same).2.2.1) 0 0 ((snew_m b same).2.2.2) 0 0 ([] : List KR) (frm ((snew_m a true).2.2.2) (nxtN (snew_m a true).2.1 i) i [120]) ((draw_m (i : Int)).drop 64) : Nat) : Int) = 1 := omm
        refine rA [(1, .ob false)] trivial (fun _ => [(decide (((take_p_e ((snew_m b same).1) same ((snew_m b same).2.1) 0 ((snew_m b same).2.2.1) 0 0 ((snew_m b same).2.2.2) 0 0 ([] : List KR) (frm ((snew_m a true).2.2.2) (nxtN (snew_m a true).2.1 i) i [120]) ((draw_m (i : Int)).drop 64) : Nat) : Int) = 0)) = false]) [3, 9, 11, 13, 17, 18, 19, 20, 107] [0, 1, 2, 3, 4, 5] 7 ⟨decide_eq_false he0, trivial⟩ hS fun hS => ?_
        refine then_n (cond_f hS ?_)
        refine wp_skip (then_n (sA [(1, .ob false), (13, .call ⟨25, (c_ssave ((snew_m b same).1) same ((snew_m b same).2.1) 0 ((snew_m b same).2.2.1) 0 0 ((snew_m b same).2.2.2) 0 0 []), [(0, 3), (1, 4), (2, 5)], []⟩), (17, .ob false)] ⟨ssave_ok _ _ _ _ _ _ _ _ _ _ _ hb2 hb3 omm omm ⟨by omega, by omega⟩ hb5 omm kok0 ⟨by omega, by omega⟩ omm hb1, trivial⟩ (fun C => [(decide (((take_p_e ((snew_m b same).1) same ((snew_m b same).2.1) 0 ((snew_m b same).2.2.1) 0 0 ((snew_m b same).2.2.2) 0 0 ([] : List KR) (frm ((snew_m a true).2.2.2) (nxtN (snew_m a true).2.1 i) i [120]) ((draw_m (i : Int)).drop 64) : Nat) : Int) = 1)) = false, ndC C 13, (!((mkStr (ssave_m ((snew_m b same).1) same ((snew_m b same).2.1) 0 ((snew_m b same).2.2.1) 0 0 ((snew_m b same).2.2.2) 0 0 ([] : List KR))).toList == (mkStr (ssave_m ((snew_m b same).1) same ((snew_m b same).2.1) 0 ((snew_m b same).2.2.1) 0 0 ((snew_m b same).2.2.2) 0 0 ([] : List KR))).toList)) = false]) [3, 9, 11, 13, 127] [0, 1, 2, 3, 4, 5] 7 ⟨decide_eq_false he1, rfl, by rw [beq_self_eq_true _]; rfl, trivial⟩ hS fun hS => ?_))
        refine cond_f hS ?_
        refine wp_skip (block_n (then_n (rA [(1, .oi ((i + 1 : Nat) : Int))] trivial (fun _ => [iadd .i64 (i : Int) 1 = ((i + 1 : Nat) : Int)]) [3, 9, 11, 13] [0, 1, 2, 3, 4, 5] 7 ⟨by rw [iadd64 omm omm]; omega, trivial⟩ hS fun hS => ?_)))
        refine then_n ?_
        exact next_y hg0 hS (s := (i)) (i + 1) [(0, 0), (1, 1), (2, 2), (3, 3), (4, 4), (5, 5)] (show m - (i + 1) < m - i from by omega) ⟨omm, trivial⟩
      ·have hScur := hS
       obtain rfl : m = i := by omega
       have hS := hScur
       clear hScur
       refine wp_exit (then_exit (then_exit (block_exit (then_n (sA [(0, .call ⟨11, (c_awake), [], []⟩)] ⟨awake_ok, trivial⟩ (fun C => [ndC C 0]) [8] [] 6 ⟨rfl, trivial⟩ hS fun hS => ?_)))))
       refine wp_ret ?_
       exact fin_y rfl (.inr rfl) hS [.v (.bool true)] [] rfl trivial
  ·refine rA [(2, .ob false), (6, .ob true)] trivial (fun _ => [(!decide (((a.length : Nat) : Int) = 32)) = false, (!decide (((b.length : Nat) : Int) = 32)) = true]) [0, 1, 2, 3, 8, 36] [] 0 ⟨by rw [decide_eq_true h1]; rfl, by rw [decide_eq_false h2]; rfl, trivial⟩ hS fun hS => ?_
   refine then_n (cond_t hS ?_)
   refine sA [(0, .call ⟨11, (c_awake), [], []⟩)] ⟨awake_ok, trivial⟩ (fun C => [ndC C 0]) [0, 1, 2, 3, 8] [] 0 ⟨rfl, trivial⟩ hS fun hS => ?_
   refine wp_ret (then_ret ?_)
   exact fin_y rfl (.inr rfl) hS [.v (.bool true)] [] rfl trivial
 ·refine rA [(2, .ob true)] trivial (fun _ => [(!decide (((a.length : Nat) : Int) = 32)) = true]) [0, 1, 2, 3, 8, 36] [] 0 ⟨by rw [decide_eq_false h1]; rfl, trivial⟩ hS fun hS => ?_
  refine then_n (cond_t hS ?_)
  refine sA [(0, .call ⟨11, (c_awake), [], []⟩)] ⟨awake_ok, trivial⟩ (fun C => [ndC C 0]) [0, 1, 2, 3, 8] [] 0 ⟨rfl, trivial⟩ hS fun hS => ?_
  refine wp_ret (then_ret ?_)
  exact fin_y rfl (.inr rfl) hS [.v (.bool true)] [] rfl trivial

end
end Go.Sx.Tryz
