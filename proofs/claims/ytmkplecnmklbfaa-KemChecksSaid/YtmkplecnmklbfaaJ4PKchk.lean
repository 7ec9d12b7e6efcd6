/- General lemmas, walks. -/
import Derived.Test.YtmkplecnmklbfaaJ3PKchk
set_option maxRecDepth 100000
set_option maxHeartbeats 1000000
set_option linter.unusedSimpArgs false
set_option linter.unusedVariables false
set_option linter.unnecessarySimpa false
set_option linter.unusedSectionVars false
namespace Go.Sx.Try
open Go.Mi Go.RowKit Go.Sx Go.Proofs
noncomputable section
theorem eq_no1 {xs ys : List Int} (h : ¬ ((xs.length : Nat) : Int) = ((ys.length : Nat) : Int)) : decide (xs = ys) = false := decide_eq_false fun e => h (by rw [e])
theorem eq_no2 {xs ys : List Int} {i : Nat} (h : ¬ xs.getD i 0 = ys.getD i 0) : decide (xs = ys) = false := decide_eq_false fun e => h (by rw [e])
theorem eq_yes {xs ys : List Int} (hl : ((xs.length : Nat) : Int) = ((ys.length : Nat) : Int)) (h : ∀ j, j < xs.length → xs.getD j 0 = ys.getD j 0) : decide (xs = ys) = true := decide_eq_true (by
 refine List.ext_getElem omm fun i h1 h2 => ?_
 have := h i h1
 rwa [List.getD_eq_getElem?_getD, List.getD_eq_getElem?_getD, List.getElem?_eq_getElem h1, List.getElem?_eq_getElem h2] at this)
def rmay (xs : List Int) : Bool := (List.range 3).all fun i => mayB fun j => rowof_m xs (i * 256 + j)
theorem rmay_no {xs : List Int} {i : Nat} (hi : i < 3) (h : mayB (fun j => rowof_m xs (i * 256 + j)) = false) : rmay xs = false := by
 cases hb : rmay xs with
 | false => rfl
 | true =>
  have := List.all_eq_true.1 hb i (List.mem_range.2 hi)
  rw [h] at this; cases this
theorem rmay_yes {xs : List Int} (h : ∀ i, i < 3 → mayB (fun j => rowof_m xs (i * 256 + j)) = true) : rmay xs = true := by
 unfold rmay
 rw [List.all_eq_true]
 exact fun i hi => h i (List.mem_range.1 hi)
def chk (xs : List Int) : Nat := if xs.length = 1184 then (if rmay xs = true then 0 else 2) else 1
theorem chk_1 {xs : List Int} (h : ¬ ((xs.length : Nat) : Int) = 1184) : chk xs = 1 := by unfold chk; rw [if_neg omm]
theorem chk_2 {xs : List Int} (h : ((xs.length : Nat) : Int) = 1184) (h2 : rmay xs = false) : chk xs = 2 := by unfold chk; rw [if_pos omm, if_neg (by rw [h2]; decide)]
theorem chk_0 {xs : List Int} (h : ((xs.length : Nat) : Int) = 1184) (h2 : rmay xs = true) : chk xs = 0 := by unfold chk; rw [if_pos omm, if_pos h2]
def chkdk (xs : List Int) : Nat := if xs.length = 2400 then (if rmay xs = true then (if chk ((xs.take 2336).drop 1152) = 0 then (if sum256_m [(xs.take 2336).drop 1152] = (xs.take 2368).drop 2336 then 0 else 2) else 2) else 2) else 1
def c_sequal (xs ys : List Int) : Con := ⟨[lb xs, lb ys], [], .v (.bool (decide (xs = ys))), []⟩
theorem sequal_ok (xs ys : List Int) : ConOk Try.prog 66 (c_sequal xs ys) := by
 refine conOk_of rfl (nb := 0) Try.func66 rfl rfl Try.ntmps66 rfl rfl rfl fun g0 w0 ac gs ws hg0 hS => ?_
 have hlen0 : xs.length ≤ 9223372036854775807 := hS.len 0 rfl
 have hlen1 : ys.length ≤ 9223372036854775807 := hS.len 1 rfl
 have hS := hS.sp
 refine s0 [0, 1, 4] [] 0 hS fun hS => ?_
 refine wp_seq (s0 [0, 1, 4, 10] [] 0 hS fun hS => ?_)
 refine if_n (((xs.length : Nat) : Int) = ((ys.length : Nat) : Int)) hS (fun h1 => ?_) (fun h1 => ?_)
 ·refine s0 [0, 1, 4] [] 0 hS fun hS => ?_
  refine wp_ret (then_ret ?_)
  exact fin_y rfl (.inr rfl) hS [.v (.bool false)] [] (by show weak _ (.v (.bool (decide (xs = ys)))) = .v (.bool (decide (xs = ys))); rw [eq_no1 h1]; rfl) trivial
 ·refine wp_skip (then_n (wp_seq (s0 [0, 1, 4, 12, 13] [] 0 hS fun hS => ?_)))
  refine wp_block (loop_y (ι := Nat) hg0 hS (fun i => xs.length - i) (fun i => [(0, lb xs), (1, lb ys), (12, vi ((xs.length : Nat) : Int)), (13, vi ((i : Nat) : Int))]) (fun i => []) (fun i => (i ≤ xs.length) ∧ (∀ j, j < i → xs.getD j 0 = ys.getD j 0) ∧ True) 0 0 [] ⟨omm, (fun j h => absurd h (Nat.not_lt_zero j)), trivial⟩ ?_)
  rintro i ac gs ws ⟨hi, pm, _⟩ hS
  refine s0 [0, 1, 12, 13, 14] [] 0 hS fun hS => ?_
  refine wp_seq ?_
  refine if_d ((i : Int) < ((xs.length : Nat) : Int)) hS (fun h2 => ?_) (fun h2 => ?_)
  ·refine wp_skip (then_n (wp_seq (wp_block (s0 [0, 1, 5, 12, 13] [] 0 hS fun hS => ?_))))
   refine sA [] trivial (fun _ => [(0 : Int) ≤ (i : Int) ∧ (i : Int) < ((xs.length : Nat) : Int), (0 : Int) ≤ (i : Int) ∧ (i : Int) < ((ys.length : Nat) : Int)]) [0, 1, 12, 13, 24] [] 0 ⟨by omega, by omega, trivial⟩ hS fun hS => ?_
   refine if_n ((xs.getD i 0) = (ys.getD i 0)) hS (fun h3 => ?_) (fun h3 => ?_)
   ·refine s0 [0, 1, 4, 12, 13] [] 0 hS fun hS => ?_
    refine wp_ret (block_ret (then_ret (then_ret (block_ret (then_ret ?_)))))
    exact fin_y rfl (.inr rfl) hS [.v (.bool false)] [] (by show weak _ (.v (.bool (decide (xs = ys)))) = .v (.bool (decide (xs = ys))); rw [eq_no2 h3]; rfl) trivial
   ·refine wp_skip (block_n (then_n (rA [(0, .oi ((i + 1 : Nat) : Int))] trivial (fun _ => [iadd .i64 (i : Int) 1 = ((i + 1 : Nat) : Int)]) [0, 1, 12, 13] [] 0 ⟨by rw [iadd64 omm omm]; omega, trivial⟩ hS fun hS => ?_)))
    refine then_n ?_
    exact next_y hg0 hS (s := (i)) (i + 1) [] (show xs.length - (i + 1) < xs.length - i from by omega) ⟨omm, (lst_next pm asm), trivial⟩
  ·have hScur := hS
   obtain rfl : xs.length = i := by omega
   have hS := hScur
   clear hScur
   refine wp_exit (then_exit (then_exit (block_exit (then_n (s0 [4] [] 0 hS fun hS => ?_)))))
   refine wp_ret ?_
   exact fin_y rfl (.inr rfl) hS [.v (.bool true)] [] (by show weak _ (.v (.bool (decide (xs = ys)))) = .v (.bool (decide (xs = ys))); rw [eq_yes h1 pm]; rfl) trivial

def c_equal (xs ys : List Int) : Con := ⟨[lb xs, lb ys], [], .v (.bool (decide (xs = ys))), []⟩
theorem equal_ok (xs ys : List Int) : ConOk Try.prog 36 (c_equal xs ys) := by
 refine conOk_of rfl (nb := 0) Try.func36 rfl rfl Try.ntmps36 rfl rfl rfl fun g0 w0 ac gs ws hg0 hS => ?_
 have hlen0 : xs.length ≤ 9223372036854775807 := hS.len 0 rfl
 have hlen1 : ys.length ≤ 9223372036854775807 := hS.len 1 rfl
 have hS := hS.sp
 refine s0 [0, 1, 4] [] 0 hS fun hS => ?_
 refine sA [(2, .call ⟨66, (c_sequal xs ys), [], []⟩)] ⟨sequal_ok _ _, trivial⟩ (fun C => [ndC C 2]) [4] [] 0 ⟨rfl, trivial⟩ hS fun hS => ?_
 refine wp_ret ?_
 exact fin_y rfl (.inr rfl) hS [.v (.bool (decide (xs = ys)))] [] rfl trivial

theorem bne_f {b : Bool} (h : (!b) = true) : b = false := by cases b <;> simp_all
theorem bne_g {b : Bool} (h : (!b) = false) : b = true := by cases b <;> simp_all
def c_check (ek : List Int) : Con := ⟨[lb ek], [], vi ((chk ek : Nat) : Int), []⟩
theorem check_ok (ek : List Int) : ConOk Try.prog 10 (c_check ek) := by
 refine conOk_of rfl (nb := 0) Try.func10 rfl rfl Try.ntmps10 rfl rfl rfl fun g0 w0 ac gs ws hg0 hS => ?_
 have hlen0 : ek.length ≤ 9223372036854775807 := hS.len 0 rfl
 have hS := hS.sp
 refine s0 [0, 2] [] 0 hS fun hS => ?_
 refine wp_seq (s0 [0, 2, 7] [] 0 hS fun hS => ?_)
 refine if_n (((ek.length : Nat) : Int) = 1184) hS (fun h1 => ?_) (fun h1 => ?_)
 ·refine s0 [0, 2] [] 0 hS fun hS => ?_
  refine wp_ret (then_ret ?_)
  exact fin_y rfl (.inr rfl) hS [vi 1] [] (by show weak _ (vi ((chk ek : Nat) : Int)) = vi ((chk ek : Nat) : Int); rw [chk_1 h1]; rfl) trivial
 ·refine wp_skip (then_n (wp_seq (sA [(1, .call ⟨33, (c_rowof ek), [], []⟩)] ⟨rowof_ok _ lnn, trivial⟩ (fun C => [ndC C 1]) [2, 9, 10] [] 0 ⟨rfl, trivial⟩ hS fun hS => ?_)))
  refine wp_block (loop_y (ι := Nat) hg0 hS (fun i => 3 - i) (fun i => [(9, .ar .u16 768 (rowof_m ek)), (10, vi ((i : Nat) : Int))]) (fun i => []) (fun i => (i ≤ 3) ∧ (∀ j, j < i → mayB (fun t => rowof_m ek (j * 256 + t)) = true) ∧ True) 0 0 [] ⟨omm, (fun j h => absurd h (Nat.not_lt_zero j)), trivial⟩ ?_)
  rintro i ac gs ws ⟨hi, pm, _⟩ hS
  refine s0 [9, 10, 11] [] 0 hS fun hS => ?_
  refine wp_seq ?_
  refine if_d ((i : Int) < 3) hS (fun h2 => ?_) (fun h2 => ?_)
  ·refine wp_skip (then_n (wp_seq (wp_block (sA [] trivial (fun _ => [(0 : Int) ≤ (i : Int) ∧ ((i : Int) : Int) < 3]) [4, 9, 10] [0] 1 ⟨by omega, trivial⟩ hS fun hS => ?_))))
   refine sA [(0, .ov (.ar .u16 256 (fun j => (rowof_m ek) (i * 256 + j)))), (1, .call ⟨34, (c_may (fun j => (rowof_m ek) (i * 256 + j))), [], []⟩)] ⟨may_ok _, trivial⟩ (fun C => [(.ar .u16 256 (fun j => (rowof_m ek) (i * 256 + j)) : D) = (.ar .u16 256 (fun j => (rowof_m ek) (i * 256 + j))), ndC C 1]) [9, 10, 15] [] 1 ⟨rfl, rfl, trivial⟩ hS fun hS => ?_
   refine if_y (!(mayB (fun j => (rowof_m ek) (i * 256 + j)))) hS (fun h3 => ?_) (fun h3 => ?_)
   ·refine s0 [2, 9, 10] [] 1 hS fun hS => ?_
    refine wp_ret (block_ret (then_ret (then_ret (block_ret (then_ret ?_)))))
    exact fin_y rfl (.inr rfl) hS [vi 2] [] (by show weak _ (vi ((chk ek : Nat) : Int)) = vi ((chk ek : Nat) : Int); rw [chk_2 h1 (rmay_no omm (bne_f h3))]; rfl) trivial
   ·refine wp_skip (block_n (then_n (rA [(0, .oi ((i + 1 : Nat) : Int))] trivial (fun _ => [iadd .i64 (i : Int) 1 = ((i + 1 : Nat) : Int)]) [9, 10] [] 1 ⟨by rw [iadd64 omm omm]; omega, trivial⟩ hS fun hS => ?_)))
    refine then_n ?_
    exact next_y hg0 hS (s := (i)) (i + 1) [] (show 3 - (i + 1) < 3 - i from by omega) ⟨omm, (lst_next pm (bne_g asm)), trivial⟩
  ·have hScur := hS
   obtain rfl : 3 = i := by omega
   have hS := hScur
   clear hScur
   refine wp_exit (then_exit (then_exit (block_exit (then_n (s0 [2] [] 0 hS fun hS => ?_)))))
   refine wp_ret ?_
   exact fin_y rfl (.inr rfl) hS [vi 0] [] (by show weak _ (vi ((chk ek : Nat) : Int)) = vi ((chk ek : Nat) : Int); rw [chk_0 h1 (rmay_yes pm)]; rfl) trivial

def c_checkdk (dk : List Int) : Con := ⟨[lb dk], [], vi ((chkdk dk : Nat) : Int), []⟩
theorem checkdk_ok (dk : List Int) : ConOk Try.prog 12 (c_checkdk dk) := by
 refine conOk_of rfl (nb := 0) Try.func12 rfl rfl Try.ntmps12 rfl rfl rfl fun g0 w0 ac gs ws hg0 hS => ?_
 have hlen0 : dk.length ≤ 9223372036854775807 := hS.len 0 rfl
 have hS := hS.sp
 refine s0 [0, 2] [] 0 hS fun hS => ?_
 refine wp_seq (s0 [0, 2, 7] [] 0 hS fun hS => ?_)
 refine if_n (((dk.length : Nat) : Int) = 2400) hS (fun h1 => ?_) (fun h1 => ?_)
 ·refine s0 [0, 2] [] 0 hS fun hS => ?_
  refine wp_ret (then_ret ?_)
  exact fin_y rfl (.inr rfl) hS [vi 1] [] (by show weak _ (vi ((chkdk dk : Nat) : Int)) = vi ((chkdk dk : Nat) : Int); unfold chkdk; rw [if_neg omm]; rfl) trivial
 ·refine wp_skip (then_n (wp_seq (sA [(1, .call ⟨33, (c_rowof dk), [], []⟩)] ⟨rowof_ok _ lnn, trivial⟩ (fun C => [ndC C 1]) [0, 2, 9, 10] [] 0 ⟨rfl, trivial⟩ hS fun hS => ?_)))
  refine wp_block (loop_y (ι := Nat) hg0 hS (fun i => 3 - i) (fun i => [(0, lb dk), (9, .ar .u16 768 (rowof_m dk)), (10, vi ((i : Nat) : Int))]) (fun i => []) (fun i => (i ≤ 3) ∧ (∀ j, j < i → mayB (fun t => rowof_m dk (j * 256 + t)) = true) ∧ True) 0 0 [] ⟨omm, (fun j h => absurd h (Nat.not_lt_zero j)), trivial⟩ ?_)
  rintro i ac gs ws ⟨hi, pm, _⟩ hS
  refine s0 [0, 9, 10, 11] [] 0 hS fun hS => ?_
  refine wp_seq ?_
  refine if_d ((i : Int) < 3) hS (fun h2 => ?_) (fun h2 => ?_)
  ·refine wp_skip (then_n (wp_seq (wp_block (sA [] trivial (fun _ => [(0 : Int) ≤ (i : Int) ∧ ((i : Int) : Int) < 3]) [0, 4, 9, 10] [0] 1 ⟨by omega, trivial⟩ hS fun hS => ?_))))
   refine sA [(0, .ov (.ar .u16 256 (fun j => (rowof_m dk) (i * 256 + j)))), (1, .call ⟨34, (c_may (fun j => (rowof_m dk) (i * 256 + j))), [], []⟩)] ⟨may_ok _, trivial⟩ (fun C => [(.ar .u16 256 (fun j => (rowof_m dk) (i * 256 + j)) : D) = (.ar .u16 256 (fun j => (rowof_m dk) (i * 256 + j))), ndC C 1]) [0, 9, 10, 15] [] 1 ⟨rfl, rfl, trivial⟩ hS fun hS => ?_
   refine if_y (!(mayB (fun j => (rowof_m dk) (i * 256 + j)))) hS (fun h3 => ?_) (fun h3 => ?_)
   ·refine s0 [0, 2, 9, 10] [] 1 hS fun hS => ?_
    refine wp_ret (block_ret (then_ret (then_ret (block_ret (then_ret ?_)))))
    exact fin_y rfl (.inr rfl) hS [vi 2] [] (by show weak _ (vi ((chkdk dk : Nat) : Int)) = vi ((chkdk dk : Nat) : Int); unfold chkdk; rw [if_pos omm, if_neg (by rw [rmay_no omm (bne_f h3)]; decide)]; rfl) trivial
   ·refine wp_skip (block_n (then_n (rA [(0, .oi ((i + 1 : Nat) : Int))] trivial (fun _ => [iadd .i64 (i : Int) 1 = ((i + 1 : Nat) : Int)]) [0, 9, 10] [] 1 ⟨by rw [iadd64 omm omm]; omega, trivial⟩ hS fun hS => ?_)))
    refine then_n ?_
    exact next_y hg0 hS (s := (i)) (i + 1) [] (show 3 - (i + 1) < 3 - i from by omega) ⟨omm, (lst_next pm (bne_g asm)), trivial⟩
  ·have hScur := hS
   obtain rfl : 3 = i := by omega
   have hS := hScur
   clear hScur
   refine wp_exit (then_exit (then_exit (block_exit (then_n (wp_seq (wp_seq ?_))))))
   by_cases h4 : ((chk ((dk.take 2336).drop 1152) : Nat) : Int) = 0
   ·refine rA [(2, .call ⟨10, (c_check ((dk.take 2336).drop 1152)), [], []⟩), (3, .ob false), (8, .call ⟨37, (c_sum256 [(dk.take 2336).drop 1152]), [], []⟩), (11, .call ⟨36, (c_equal (sum256_m [(dk.take 2336).drop 1152]) ((dk.take 2368).drop 2336)), [], []⟩)] ⟨check_ok _, sum256_ok _ (by first | omega | (simp only [List.flatten_cons, List.flatten_nil, List.length_append, List.length_cons, List.length_nil, List.length_take, List.length_drop, List.length_replicate] <;> omega) | (simp <;> omega)), equal_ok _ _, trivial⟩ (fun C => [bndP (some 1152) (some 2336) none dk.length dk.length, ndC C 2, (!decide (((chk ((dk.take 2336).drop 1152) : Nat) : Int) = 0)) = false, bndP (some 1152) (some 2336) none dk.length dk.length, ndC C 8, bndP (some 2336) (some 2368) none dk.length dk.length, ndC C 11]) [30] [] 0 ⟨⟨by simp only [nnI] <;> omega, by simp only [nnI] <;> omega, by simp only [nnI] <;> omega, by simp, by simp only [bl] <;> omega, by simp only [bl] <;> omega, by simp only [bl] <;> omega⟩, rfl, by rw [decide_eq_true h4]; rfl, ⟨by simp only [nnI] <;> omega, by simp only [nnI] <;> omega, by simp only [nnI] <;> omega, by simp, by simp only [bl] <;> omega, by simp only [bl] <;> omega, by simp only [bl] <;> omega⟩, rfl, ⟨by simp only [nnI] <;> omega, by simp only [nnI] <;> omega, by simp only [nnI] <;> omega, by simp, by simp only [bl] <;> omega, by simp only [bl] <;> omega, by simp only [bl] <;> omega⟩, rfl, trivial⟩ hS fun hS => ?_
    refine then_n ?_
    refine if_n ((sum256_m [(dk.take 2336).drop 1152]) = ((dk.take 2368).drop 2336)) hS (fun h5 => ?_) (fun h5 => ?_)
    ·refine s0 [2] [] 0 hS fun hS => ?_
     refine wp_ret (then_ret ?_)
     exact fin_y rfl (.inr rfl) hS [vi 2] [] (by show weak _ (vi ((chkdk dk : Nat) : Int)) = vi ((chkdk dk : Nat) : Int); unfold chkdk; rw [if_pos omm, if_pos (rmay_yes pm), if_pos omm, if_neg h5]; rfl) trivial
    ·refine wp_skip (then_n (s0 [2] [] 0 hS fun hS => ?_))
     refine wp_ret ?_
     exact fin_y rfl (.inr rfl) hS [vi 0] [] (by show weak _ (vi ((chkdk dk : Nat) : Int)) = vi ((chkdk dk : Nat) : Int); unfold chkdk; rw [if_pos omm, if_pos (rmay_yes pm), if_pos omm, if_pos h5]; rfl) trivial
   ·refine rA [(2, .call ⟨10, (c_check ((dk.take 2336).drop 1152)), [], []⟩), (3, .ob true)] ⟨check_ok _, trivial⟩ (fun C => [bndP (some 1152) (some 2336) none dk.length dk.length, ndC C 2, (!decide (((chk ((dk.take 2336).drop 1152) : Nat) : Int) = 0)) = true]) [30] [] 0 ⟨⟨by simp only [nnI] <;> omega, by simp only [nnI] <;> omega, by simp only [nnI] <;> omega, by simp, by simp only [bl] <;> omega, by simp only [bl] <;> omega, by simp only [bl] <;> omega⟩, rfl, by rw [decide_eq_false h4]; rfl, trivial⟩ hS fun hS => ?_
    refine then_n (cond_t hS ?_)
    refine s0 [2] [] 0 hS fun hS => ?_
    refine wp_ret (then_ret ?_)
    exact fin_y rfl (.inr rfl) hS [vi 2] [] (by show weak _ (vi ((chkdk dk : Nat) : Int)) = vi ((chkdk dk : Nat) : Int); unfold chkdk; rw [if_pos omm, if_pos (rmay_yes pm), if_neg omm]; rfl) trivial

end
end Go.Sx.Try
namespace Go.Sx.Try
open Go.Mi Go.RowKit Go.Sx Go.Proofs
noncomputable section
@[simp] theorem rbytes_len (f : Nat → Int) : (rbytes_m f).length = 1152 := by
 have key : ∀ i, (rbytes_l1 f i).length = 384 * i := by
  intro i
  induction i with
  | zero => rfl
  | succ i ih =>
   show (rbytes_l1_s f i (rbytes_l1 f i)).length = _
   unfold rbytes_l1_s
   rw [List.length_append, encode12_len, ih]; omega
 rw [rbytes_e]
 exact key 3
def keys_l1_s (d z : List Int) (x35 : Nat) : (Nat → Int) → (Nat → Int) := fun o11_0 => updW o11_0 (x35 * 256) 256 (add_m (fun j => o11_0 (x35 * 256 + j)) (dot_m (matrix_false_m ((sum512_m [d, [3]]).take 32) x35) (each_ntt_m (knoise_m ((sum512_m [d, [3]]).drop 32) 0))))
def keys_l1 (d z : List Int) : Nat → (Nat → Int)
 | 0 => each_ntt_m (knoise_m ((sum512_m [d, [3]]).drop 32) 3)
 | x35 + 1 => keys_l1_s d z x35 (keys_l1 d z x35)
def keys_v (d z : List Int) : (List Int) × (List Int) := ([rbytes_m (keys_l1 d z 3), (sum512_m [d, [3]]).take 32].flatten, [rbytes_m (each_ntt_m (knoise_m ((sum512_m [d, [3]]).drop 32) 0)), [rbytes_m (keys_l1 d z 3), (sum512_m [d, [3]]).take 32].flatten, sum256_m [[rbytes_m (keys_l1 d z 3), (sum512_m [d, [3]]).take 32].flatten], z].flatten)
def keys_m (d z : List Int) : (List Int) × (List Int) := shut (keys_v d z)
theorem keys_e (d z : List Int) : keys_m d z = keys_v d z := shut_eq _
theorem keys_len (d z : List Int) (hz : z.length = 32) : (keys_m d z).1.length = 1184 ∧ (keys_m d z).2.length = 2400 := by
 have h1 := sum512_len [d, [3]]
 rw [keys_e]
 unfold keys_v
 simp only [List.flatten_cons, List.flatten_nil, List.length_append, List.length_nil, rbytes_len, sum256_len, List.length_take, h1, hz]
 exact ⟨by omega, by omega⟩
def c_keys (d z : List Int) : Con := ⟨[lb d, lb z], [], .tu (chain [lb ((keys_m d z).1), .sk 0, vi 0]), [(0, .sl 5 [.int .u8] ((keys_m d z).2))]⟩
theorem keys_ok (d z : List Int) (hd : d.length = 32) (hz : z.length = 32) : ConOk Try.prog 14 (c_keys d z) := by
 refine conOk_of rfl (nb := 0) Try.func14 rfl rfl Try.ntmps14 rfl rfl rfl fun g0 w0 ac gs ws hg0 hS => ?_
 have hlen0 : d.length ≤ 9223372036854775807 := hS.len 0 rfl
 have hlen1 : z.length ≤ 9223372036854775807 := hS.len 1 rfl
 have hS := hS.sp
 have hd1 : ((d.length : Nat) : Int) = 32 := omm
 have hz1 : ((z.length : Nat) : Int) = 32 := omm
 refine s0 [0, 1, 4, 5, 6] [] 0 hS fun hS => ?_
 refine wp_seq (sA [(2, .ob false), (6, .ob false)] trivial (fun _ => [(!decide (((d.length : Nat) : Int) = 32)) = false, (!decide (((z.length : Nat) : Int) = 32)) = false]) [0, 1, 4, 5, 6, 20] [] 0 ⟨by rw [decide_eq_true hd1]; rfl, by rw [decide_eq_true hz1]; rfl, trivial⟩ hS fun hS => ?_)
 refine cond_f hS ?_
 refine wp_skip (then_n (sA [(3, .call ⟨38, (c_sum512 [d, [3]]), [], []⟩)] ⟨sum512_ok _ (by first | omega | (simp only [List.flatten_cons, List.flatten_nil, List.length_append, List.length_cons, List.length_nil, List.length_take, List.length_drop, List.length_replicate] <;> omega) | (simp <;> omega)), trivial⟩ (fun C => [ndC C 3]) [1, 4, 5, 6, 7] [] 0 ⟨rfl, trivial⟩ hS fun hS => ?_))
 refine wp_seq ?_
 have hl := sum512_len [d, [3]]
 refine rA [] trivial (fun _ => [bndP none (some 32) none (sum512_m [d, [3]]).length (sum512_m [d, [3]]).length, bndP (some 32) none none (sum512_m [d, [3]]).length (sum512_m [d, [3]]).length]) [1, 4, 5, 6, 8, 9] [] 0 ⟨⟨by simp only [nnI] <;> omega, by simp only [nnI] <;> omega, by simp only [nnI] <;> omega, by simp, by simp only [bl] <;> omega, by simp only [bl] <;> omega, by simp only [bl] <;> omega⟩, ⟨by simp only [nnI] <;> omega, by simp only [nnI] <;> omega, by simp only [nnI] <;> omega, by simp, by simp only [bl] <;> omega, by simp only [bl] <;> omega, by simp only [bl] <;> omega⟩, trivial⟩ hS fun hS => ?_
 refine then_n (sA [(1, .call ⟨39, (c_knoise ((sum512_m [d, [3]]).drop 32) 0), [], []⟩), (2, .call ⟨40, (c_each_ntt (knoise_m ((sum512_m [d, [3]]).drop 32) 0)), [], []⟩)] ⟨knoise_ok _ _ lnn omm, each_ntt_ok _, trivial⟩ (fun C => [ndC C 1, nd [.ar .u16 768 (knoise_m ((sum512_m [d, [3]]).drop 32) 0), .v (.func (.func 41) #[] #[])] []]) [1, 4, 5, 6, 8, 9, 10] [0] 1 ⟨rfl, rfl, trivial⟩ hS fun hS => ?_)
 refine sA [(1, .call ⟨39, (c_knoise ((sum512_m [d, [3]]).drop 32) 3), [], []⟩), (2, .call ⟨40, (c_each_ntt (knoise_m ((sum512_m [d, [3]]).drop 32) 3)), [], []⟩)] ⟨knoise_ok _ _ lnn omm, each_ntt_ok _, trivial⟩ (fun C => [ndC C 1, nd [.ar .u16 768 (knoise_m ((sum512_m [d, [3]]).drop 32) 3), .v (.func (.func 41) #[] #[])] []]) [1, 4, 5, 6, 8, 10, 11] [0, 1] 2 ⟨rfl, rfl, trivial⟩ hS fun hS => ?_
 refine wp_seq (s0 [1, 4, 5, 6, 8, 10, 11, 35] [0, 1] 2 hS fun hS => ?_)
 refine wp_block (loop_y (ι := Nat × (Nat → Int)) hg0 hS (fun z_ => match z_ with | (x35, o11_0) => 3 - x35) (fun z_ => match z_ with | (x35, o11_0) => [(1, lb z), (4, .v (.slice none 0 0)), (5, .v (.slice none 0 0)), (6, vi 0), (8, lb ((sum512_m [d, [3]]).take 32)), (10, .cp 0 0), (11, .cp 1 0), (35, vi ((x35 : Nat) : Int))]) (fun z_ => match z_ with | (x35, o11_0) => [(0, .ob 62 (chain [.ar .u16 768 (each_ntt_m (knoise_m ((sum512_m [d, [3]]).drop 32) 0))])), (1, .ob 62 (chain [.ar .u16 768 o11_0]))]) (fun z_ => match z_ with | (x35, o11_0) => (x35 ≤ 3) ∧ (o11_0 = keys_l1 d z x35) ∧ True) 2 (0, each_ntt_m (knoise_m ((sum512_m [d, [3]]).drop 32) 3)) [(0, 0), (1, 1)] ⟨omm, rfl, trivial⟩ ?_)
 rintro ⟨x35, o11_0⟩ ac gs ws ⟨hx35, hq1, _⟩ hS
 refine s0 [1, 4, 5, 6, 8, 10, 11, 35, 36] [0, 1] 2 hS fun hS => ?_
 refine wp_seq ?_
 refine if_d ((x35 : Int) < 3) hS (fun h1 => ?_) (fun h1 => ?_)
 ·refine wp_skip (then_n (wp_seq (wp_block (s0 [1, 4, 5, 6, 8, 10, 11, 12, 35] [0, 1] 2 hS fun hS => ?_))))
  refine rA [(3, .ov (.ar .u16 256 (fun j => o11_0 (x35 * 256 + j)))), (6, .call ⟨43, (c_matrix_false ((sum512_m [d, [3]]).take 32) x35), [], []⟩), (7, .ov (.ar .u16 768 (each_ntt_m (knoise_m ((sum512_m [d, [3]]).drop 32) 0)))), (8, .call ⟨44, (c_dot (matrix_false_m ((sum512_m [d, [3]]).take 32) x35) (each_ntt_m (knoise_m ((sum512_m [d, [3]]).drop 32) 0))), [], []⟩), (9, .call ⟨42, (c_add (fun j => o11_0 (x35 * 256 + j)) (dot_m (matrix_false_m ((sum512_m [d, [3]]).take 32) x35) (each_ntt_m (knoise_m ((sum512_m [d, [3]]).drop 32) 0)))), [], []⟩)] ⟨matrix_false_ok _ _ lnn omm, dot_ok _ _, add_ok _ _, trivial⟩ (fun C => [(0 : Int) ≤ (x35 : Int) ∧ ((x35 : Int) : Int) < 3, (.ar .u16 256 (fun j => o11_0 (x35 * 256 + j)) : D) = (.ar .u16 256 (fun j => o11_0 (x35 * 256 + j))), ndC C 6, (.ar .u16 768 (each_ntt_m (knoise_m ((sum512_m [d, [3]]).drop 32) 0)) : D) = (.ar .u16 768 (each_ntt_m (knoise_m ((sum512_m [d, [3]]).drop 32) 0))), nd [.ar .u16 768 (matrix_false_m ((sum512_m [d, [3]]).take 32) x35), .ar .u16 768 (each_ntt_m (knoise_m ((sum512_m [d, [3]]).drop 32) 0))] [], nd [.ar .u16 256 (fun j => o11_0 (x35 * 256 + j)), .ar .u16 256 (dot_m (matrix_false_m ((sum512_m [d, [3]]).take 32) x35) (each_ntt_m (knoise_m ((sum512_m [d, [3]]).drop 32) 0)))] [], (0 : Int) ≤ (x35 : Int) ∧ ((x35 : Int) : Int) < 3]) [1, 4, 5, 6, 8, 10, 11, 35] [0, 1] 2 ⟨by omega, rfl, rfl, rfl, rfl, rfl, by omega, trivial⟩ hS fun hS => ?_
  refine block_n (then_n (rA [(0, .oi ((x35 + 1 : Nat) : Int))] trivial (fun _ => [iadd .i64 (x35 : Int) 1 = ((x35 + 1 : Nat) : Int)]) [1, 4, 5, 6, 8, 10, 11, 35] [0, 1] 2 ⟨by rw [iadd64 omm omm]; omega, trivial⟩ hS fun hS => ?_))
  refine then_n ?_
  exact next_y hg0 hS (s := (x35, o11_0)) (x35 + 1, updW o11_0 (x35 * 256) 256 (add_m (fun j => o11_0 (x35 * 256 + j)) (dot_m (matrix_false_m ((sum512_m [d, [3]]).take 32) x35) (each_ntt_m (knoise_m ((sum512_m [d, [3]]).drop 32) 0))))) [(0, 0), (1, 1)] (show 3 - (x35 + 1) < 3 - x35 from by omega) ⟨omm, (it_next (F := keys_l1 d z) (st := keys_l1_s d z) (fun _ => rfl) hq1 rfl), trivial⟩
 ·have hScur := hS
  obtain rfl : 3 = x35 := by omega
  obtain rfl : keys_l1 d z 3 = o11_0 := Eq.symm (congrArg (fun z => z) hq1)
  have hS := hScur
  clear hScur
  refine wp_exit (then_exit (then_exit (block_exit (then_n (wp_seq ?_)))))
  have hb := rbytes_len (keys_l1 d z 3)
  refine rA [(0, .ov (.ar .u16 768 (keys_l1 d z 3))), (1, .call ⟨46, (c_rbytes (keys_l1 d z 3)), [], []⟩), (4, .call ⟨45, (c_cat [rbytes_m (keys_l1 d z 3), (sum512_m [d, [3]]).take 32]), [], [(0, 2)]⟩)] ⟨rbytes_ok _, cat_ok _ (by first | omega | (simp only [List.flatten_cons, List.flatten_nil, List.length_append, List.length_cons, List.length_nil, List.length_take, List.length_drop, List.length_replicate] <;> omega) | (simp <;> omega)), trivial⟩ (fun C => [(.ar .u16 768 (keys_l1 d z 3) : D) = (.ar .u16 768 (keys_l1 d z 3)), ndC C 1, ndC C 4]) [1, 4, 5, 6, 10] [0, 2] 3 ⟨rfl, rfl, rfl, trivial⟩ hS fun hS => ?_
  refine then_n (wp_seq ?_)
  have hb2 := rbytes_len (each_ntt_m (knoise_m ((sum512_m [d, [3]]).drop 32) 0))
  obtain ⟨gs, hS⟩ := hS.fz 2
  refine rA [(1, .ov (.ar .u16 768 (each_ntt_m (knoise_m ((sum512_m [d, [3]]).drop 32) 0)))), (2, .call ⟨46, (c_rbytes (each_ntt_m (knoise_m ((sum512_m [d, [3]]).drop 32) 0))), [], []⟩), (6, .call ⟨37, (c_sum256 [[rbytes_m (keys_l1 d z 3), (sum512_m [d, [3]]).take 32].flatten]), [], []⟩), (9, .call ⟨45, (c_cat [rbytes_m (each_ntt_m (knoise_m ((sum512_m [d, [3]]).drop 32) 0)), [rbytes_m (keys_l1 d z 3), (sum512_m [d, [3]]).take 32].flatten, sum256_m [[rbytes_m (keys_l1 d z 3), (sum512_m [d, [3]]).take 32].flatten], z]), [], [(0, 3)]⟩)] ⟨rbytes_ok _, sum256_ok _ (by first | omega | (simp only [List.flatten_cons, List.flatten_nil, List.length_append, List.length_cons, List.length_nil, List.length_take, List.length_drop, List.length_replicate] <;> omega) | (simp <;> omega)), cat_ok _ (by first | omega | (simp only [List.flatten_cons, List.flatten_nil, List.length_append, List.length_cons, List.length_nil, List.length_take, List.length_drop, List.length_replicate] <;> omega) | (simp <;> omega)), trivial⟩ (fun C => [(.ar .u16 768 (each_ntt_m (knoise_m ((sum512_m [d, [3]]).drop 32) 0)) : D) = (.ar .u16 768 (each_ntt_m (knoise_m ((sum512_m [d, [3]]).drop 32) 0))), ndC C 2, ndC C 6, ndC C 9]) [4, 5, 6] [3] 4 ⟨rfl, rfl, rfl, rfl, trivial⟩ hS fun hS => ?_
  refine then_n (wp_ret ?_)
  have hM : keys_m d z = ([rbytes_m (keys_l1 d z 3), (sum512_m [d, [3]]).take 32].flatten, [rbytes_m (each_ntt_m (knoise_m ((sum512_m [d, [3]]).drop 32) 0)), [rbytes_m (keys_l1 d z 3), (sum512_m [d, [3]]).take 32].flatten, sum256_m [[rbytes_m (keys_l1 d z 3), (sum512_m [d, [3]]).take 32].flatten], z].flatten) := keys_e d z
  obtain ⟨gs, hS⟩ := hS.rn [(0, 3)] [(4, lb ([rbytes_m (keys_l1 d z 3), (sum512_m [d, [3]]).take 32].flatten)), (5, .sk 0), (6, vi 0)] [(0, .sl 5 [.int .u8] ([rbytes_m (each_ntt_m (knoise_m ((sum512_m [d, [3]]).drop 32) 0)), [rbytes_m (keys_l1 d z 3), (sum512_m [d, [3]]).take 32].flatten, sum256_m [[rbytes_m (keys_l1 d z 3), (sum512_m [d, [3]]).take 32].flatten], z].flatten))] 1 hg0
  exact fin_y rfl (.inr rfl) hS [lb ([rbytes_m (keys_l1 d z 3), (sum512_m [d, [3]]).take 32].flatten), .sk 0, vi 0] [(0, some (.sl 5 [.int .u8] ([rbytes_m (each_ntt_m (knoise_m ((sum512_m [d, [3]]).drop 32) 0)), [rbytes_m (keys_l1 d z 3), (sum512_m [d, [3]]).take 32].flatten, sum256_m [[rbytes_m (keys_l1 d z 3), (sum512_m [d, [3]]).take 32].flatten], z].flatten)))] (by show weak _ (.tu (chain [lb ((keys_m d z).1), .sk 0, vi 0])) = (.tu (chain [lb ((keys_m d z).1), .sk 0, vi 0])); rw [hM]; first | (simp only []; rfl) | (simp only []; done) | rfl) (by show H1Ok _ [(0, .sl 5 [.int .u8] ((keys_m d z).2))] true; rw [hM]; first | (simp only []; exact ⟨rfl, trivial⟩) | exact ⟨rfl, trivial⟩)

def keysk_l1_s (d z : List Int) (x35 : Nat) : (Nat → Int) → (Nat → Int) := fun o11_0 => updW o11_0 (x35 * 256) 256 (add_m (fun j => o11_0 (x35 * 256 + j)) (dot_m (matrix_false_m ((sum512_m [d, [3]]).take 32) x35) (each_ntt_m (knoise_m ((sum512_m [d, [3]]).drop 32) 0))))
def keysk_l1 (d z : List Int) : Nat → (Nat → Int)
 | 0 => each_ntt_m (knoise_m ((sum512_m [d, [3]]).drop 32) 3)
 | x35 + 1 => keysk_l1_s d z x35 (keysk_l1 d z x35)
def keysk_v (d z : List Int) : (List Int) × (List Int) := ([rbytes_m (keysk_l1 d z 3), (sum512_m [d, [3]]).take 32].flatten, [rbytes_m (each_ntt_m (knoise_m ((sum512_m [d, [3]]).drop 32) 0)), [rbytes_m (keysk_l1 d z 3), (sum512_m [d, [3]]).take 32].flatten, sum256_m [[rbytes_m (keysk_l1 d z 3), (sum512_m [d, [3]]).take 32].flatten], z].flatten)
def keysk_m (d z : List Int) : (List Int) × (List Int) := shut (keysk_v d z)
theorem keysk_e (d z : List Int) : keysk_m d z = keysk_v d z := shut_eq _
theorem keysk_len (d z : List Int) (hz : z.length = 32) : (keysk_m d z).1.length = 1184 ∧ (keysk_m d z).2.length = 2400 := by
 have h1 := sum512_len [d, [3]]
 rw [keysk_e]
 unfold keysk_v
 simp only [List.flatten_cons, List.flatten_nil, List.length_append, List.length_nil, rbytes_len, sum256_len, List.length_take, h1, hz]
 exact ⟨by omega, by omega⟩
def c_keysk (d z : List Int) : Con := ⟨[.sk 0, .sk 1], [(0, .sl 5 [.int .u8] d), (1, .sl 5 [.int .u8] z)], .tu (chain [lb ((keysk_m d z).1), .sk 2, vi 0]), [(2, .sl 5 [.int .u8] ((keysk_m d z).2))]⟩
theorem keysk_ok (d z : List Int) (hd : d.length = 32) (hz : z.length = 32) : ConOk Try.prog 14 (c_keysk d z) := by
 refine conOk_of rfl (nb := 2) Try.func14 rfl rfl Try.ntmps14 rfl rfl rfl fun g0 w0 ac gs ws hg0 hS => ?_
 have hlenk0 : d.length ≤ 9223372036854775807 := hS.lens 0 rfl
 have hlenk1 : z.length ≤ 9223372036854775807 := hS.lens 1 rfl
 have hS := hS.sp
 have hd1 : ((d.length : Nat) : Int) = 32 := omm
 have hz1 : ((z.length : Nat) : Int) = 32 := omm
 refine s0 [0, 1, 4, 5, 6] [0, 1] 2 hS fun hS => ?_
 refine wp_seq (sA [(2, .ob false), (6, .ob false)] trivial (fun _ => [(!decide (((d.length : Nat) : Int) = 32)) = false, (!decide (((z.length : Nat) : Int) = 32)) = false]) [0, 1, 4, 5, 6, 20] [0, 1] 2 ⟨by rw [decide_eq_true hd1]; rfl, by rw [decide_eq_true hz1]; rfl, trivial⟩ hS fun hS => ?_)
 refine cond_f hS ?_
 refine wp_skip (then_n (wp_seq ?_))
 obtain ⟨gs, hS⟩ := hS.fz 0
 refine rA [(3, .call ⟨38, (c_sum512 [d, [3]]), [], []⟩)] ⟨sum512_ok _ (by first | omega | (simp only [List.flatten_cons, List.flatten_nil, List.length_append, List.length_cons, List.length_nil, List.length_take, List.length_drop, List.length_replicate] <;> omega) | (simp <;> omega)), trivial⟩ (fun C => [ndC C 3]) [1, 4, 5, 6, 7] [1] 2 ⟨rfl, trivial⟩ hS fun hS => ?_
 refine then_n (wp_seq ?_)
 have hl := sum512_len [d, [3]]
 refine rA [] trivial (fun _ => [bndP none (some 32) none (sum512_m [d, [3]]).length (sum512_m [d, [3]]).length, bndP (some 32) none none (sum512_m [d, [3]]).length (sum512_m [d, [3]]).length]) [1, 4, 5, 6, 8, 9] [1] 2 ⟨⟨by simp only [nnI] <;> omega, by simp only [nnI] <;> omega, by simp only [nnI] <;> omega, by simp, by simp only [bl] <;> omega, by simp only [bl] <;> omega, by simp only [bl] <;> omega⟩, ⟨by simp only [nnI] <;> omega, by simp only [nnI] <;> omega, by simp only [nnI] <;> omega, by simp, by simp only [bl] <;> omega, by simp only [bl] <;> omega, by simp only [bl] <;> omega⟩, trivial⟩ hS fun hS => ?_
 refine then_n (sA [(1, .call ⟨39, (c_knoise ((sum512_m [d, [3]]).drop 32) 0), [], []⟩), (2, .call ⟨40, (c_each_ntt (knoise_m ((sum512_m [d, [3]]).drop 32) 0)), [], []⟩)] ⟨knoise_ok _ _ lnn omm, each_ntt_ok _, trivial⟩ (fun C => [ndC C 1, nd [.ar .u16 768 (knoise_m ((sum512_m [d, [3]]).drop 32) 0), .v (.func (.func 41) #[] #[])] []]) [1, 4, 5, 6, 8, 9, 10] [1, 2] 3 ⟨rfl, rfl, trivial⟩ hS fun hS => ?_)
 refine sA [(1, .call ⟨39, (c_knoise ((sum512_m [d, [3]]).drop 32) 3), [], []⟩), (2, .call ⟨40, (c_each_ntt (knoise_m ((sum512_m [d, [3]]).drop 32) 3)), [], []⟩)] ⟨knoise_ok _ _ lnn omm, each_ntt_ok _, trivial⟩ (fun C => [ndC C 1, nd [.ar .u16 768 (knoise_m ((sum512_m [d, [3]]).drop 32) 3), .v (.func (.func 41) #[] #[])] []]) [1, 4, 5, 6, 8, 10, 11] [1, 2, 3] 4 ⟨rfl, rfl, trivial⟩ hS fun hS => ?_
 refine wp_seq (s0 [1, 4, 5, 6, 8, 10, 11, 35] [1, 2, 3] 4 hS fun hS => ?_)
 refine wp_block (loop_y (ι := Nat × (Nat → Int)) hg0 hS (fun z_ => match z_ with | (x35, o11_0) => 3 - x35) (fun z_ => match z_ with | (x35, o11_0) => [(1, .sk 1), (4, .v (.slice none 0 0)), (5, .v (.slice none 0 0)), (6, vi 0), (8, lb ((sum512_m [d, [3]]).take 32)), (10, .cp 2 0), (11, .cp 3 0), (35, vi ((x35 : Nat) : Int))]) (fun z_ => match z_ with | (x35, o11_0) => [(1, .sl 5 [.int .u8] z), (2, .ob 62 (chain [.ar .u16 768 (each_ntt_m (knoise_m ((sum512_m [d, [3]]).drop 32) 0))])), (3, .ob 62 (chain [.ar .u16 768 o11_0]))]) (fun z_ => match z_ with | (x35, o11_0) => (x35 ≤ 3) ∧ (o11_0 = keysk_l1 d z x35) ∧ True) 4 (0, each_ntt_m (knoise_m ((sum512_m [d, [3]]).drop 32) 3)) [(0, 0), (1, 1), (2, 2), (3, 3)] ⟨omm, rfl, trivial⟩ ?_)
 rintro ⟨x35, o11_0⟩ ac gs ws ⟨hx35, hq1, _⟩ hS
 refine s0 [1, 4, 5, 6, 8, 10, 11, 35, 36] [1, 2, 3] 4 hS fun hS => ?_
 refine wp_seq ?_
 refine if_d ((x35 : Int) < 3) hS (fun h1 => ?_) (fun h1 => ?_)
 ·refine wp_skip (then_n (wp_seq (wp_block (s0 [1, 4, 5, 6, 8, 10, 11, 12, 35] [1, 2, 3] 4 hS fun hS => ?_))))
  refine rA [(3, .ov (.ar .u16 256 (fun j => o11_0 (x35 * 256 + j)))), (6, .call ⟨43, (c_matrix_false ((sum512_m [d, [3]]).take 32) x35), [], []⟩), (7, .ov (.ar .u16 768 (each_ntt_m (knoise_m ((sum512_m [d, [3]]).drop 32) 0)))), (8, .call ⟨44, (c_dot (matrix_false_m ((sum512_m [d, [3]]).take 32) x35) (each_ntt_m (knoise_m ((sum512_m [d, [3]]).drop 32) 0))), [], []⟩), (9, .call ⟨42, (c_add (fun j => o11_0 (x35 * 256 + j)) (dot_m (matrix_false_m ((sum512_m [d, [3]]).take 32) x35) (each_ntt_m (knoise_m ((sum512_m [d, [3]]).drop 32) 0)))), [], []⟩)] ⟨matrix_false_ok _ _ lnn omm, dot_ok _ _, add_ok _ _, trivial⟩ (fun C => [(0 : Int) ≤ (x35 : Int) ∧ ((x35 : Int) : Int) < 3, (.ar .u16 256 (fun j => o11_0 (x35 * 256 + j)) : D) = (.ar .u16 256 (fun j => o11_0 (x35 * 256 + j))), ndC C 6, (.ar .u16 768 (each_ntt_m (knoise_m ((sum512_m [d, [3]]).drop 32) 0)) : D) = (.ar .u16 768 (each_ntt_m (knoise_m ((sum512_m [d, [3]]).drop 32) 0))), nd [.ar .u16 768 (matrix_false_m ((sum512_m [d, [3]]).take 32) x35), .ar .u16 768 (each_ntt_m (knoise_m ((sum512_m [d, [3]]).drop 32) 0))] [], nd [.ar .u16 256 (fun j => o11_0 (x35 * 256 + j)), .ar .u16 256 (dot_m (matrix_false_m ((sum512_m [d, [3]]).take 32) x35) (each_ntt_m (knoise_m ((sum512_m [d, [3]]).drop 32) 0)))] [], (0 : Int) ≤ (x35 : Int) ∧ ((x35 : Int) : Int) < 3]) [1, 4, 5, 6, 8, 10, 11, 35] [1, 2, 3] 4 ⟨by omega, rfl, rfl, rfl, rfl, rfl, by omega, trivial⟩ hS fun hS => ?_
  refine block_n (then_n (rA [(0, .oi ((x35 + 1 : Nat) : Int))] trivial (fun _ => [iadd .i64 (x35 : Int) 1 = ((x35 + 1 : Nat) : Int)]) [1, 4, 5, 6, 8, 10, 11, 35] [1, 2, 3] 4 ⟨by rw [iadd64 omm omm]; omega, trivial⟩ hS fun hS => ?_))
  refine then_n ?_
  exact next_y hg0 hS (s := (x35, o11_0)) (x35 + 1, updW o11_0 (x35 * 256) 256 (add_m (fun j => o11_0 (x35 * 256 + j)) (dot_m (matrix_false_m ((sum512_m [d, [3]]).take 32) x35) (each_ntt_m (knoise_m ((sum512_m [d, [3]]).drop 32) 0))))) [(0, 0), (1, 1), (2, 2), (3, 3)] (show 3 - (x35 + 1) < 3 - x35 from by omega) ⟨omm, (it_next (F := keysk_l1 d z) (st := keysk_l1_s d z) (fun _ => rfl) hq1 rfl), trivial⟩
 ·have hScur := hS
  obtain rfl : 3 = x35 := by omega
  obtain rfl : keysk_l1 d z 3 = o11_0 := Eq.symm (congrArg (fun z => z) hq1)
  have hS := hScur
  clear hScur
  refine wp_exit (then_exit (then_exit (block_exit (then_n (wp_seq ?_)))))
  have hb := rbytes_len (keysk_l1 d z 3)
  refine rA [(0, .ov (.ar .u16 768 (keysk_l1 d z 3))), (1, .call ⟨46, (c_rbytes (keysk_l1 d z 3)), [], []⟩), (4, .call ⟨45, (c_cat [rbytes_m (keysk_l1 d z 3), (sum512_m [d, [3]]).take 32]), [], [(0, 4)]⟩)] ⟨rbytes_ok _, cat_ok _ (by first | omega | (simp only [List.flatten_cons, List.flatten_nil, List.length_append, List.length_cons, List.length_nil, List.length_take, List.length_drop, List.length_replicate] <;> omega) | (simp <;> omega)), trivial⟩ (fun C => [(.ar .u16 768 (keysk_l1 d z 3) : D) = (.ar .u16 768 (keysk_l1 d z 3)), ndC C 1, ndC C 4]) [1, 4, 5, 6, 10] [1, 2, 4] 5 ⟨rfl, rfl, rfl, trivial⟩ hS fun hS => ?_
  refine then_n (wp_seq ?_)
  have hb2 := rbytes_len (each_ntt_m (knoise_m ((sum512_m [d, [3]]).drop 32) 0))
  obtain ⟨gs, hS⟩ := hS.fz 4
  obtain ⟨gs, hS⟩ := hS.fz 1
  refine rA [(1, .ov (.ar .u16 768 (each_ntt_m (knoise_m ((sum512_m [d, [3]]).drop 32) 0)))), (2, .call ⟨46, (c_rbytes (each_ntt_m (knoise_m ((sum512_m [d, [3]]).drop 32) 0))), [], []⟩), (6, .call ⟨37, (c_sum256 [[rbytes_m (keysk_l1 d z 3), (sum512_m [d, [3]]).take 32].flatten]), [], []⟩), (9, .call ⟨45, (c_cat [rbytes_m (each_ntt_m (knoise_m ((sum512_m [d, [3]]).drop 32) 0)), [rbytes_m (keysk_l1 d z 3), (sum512_m [d, [3]]).take 32].flatten, sum256_m [[rbytes_m (keysk_l1 d z 3), (sum512_m [d, [3]]).take 32].flatten], z]), [], [(0, 5)]⟩)] ⟨rbytes_ok _, sum256_ok _ (by first | omega | (simp only [List.flatten_cons, List.flatten_nil, List.length_append, List.length_cons, List.length_nil, List.length_take, List.length_drop, List.length_replicate] <;> omega) | (simp <;> omega)), cat_ok _ (by first | omega | (simp only [List.flatten_cons, List.flatten_nil, List.length_append, List.length_cons, List.length_nil, List.length_take, List.length_drop, List.length_replicate] <;> omega) | (simp <;> omega)), trivial⟩ (fun C => [(.ar .u16 768 (each_ntt_m (knoise_m ((sum512_m [d, [3]]).drop 32) 0)) : D) = (.ar .u16 768 (each_ntt_m (knoise_m ((sum512_m [d, [3]]).drop 32) 0))), ndC C 2, ndC C 6, ndC C 9]) [4, 5, 6] [5] 6 ⟨rfl, rfl, rfl, rfl, trivial⟩ hS fun hS => ?_
  refine then_n (wp_ret ?_)
  have hM : keysk_m d z = ([rbytes_m (keysk_l1 d z 3), (sum512_m [d, [3]]).take 32].flatten, [rbytes_m (each_ntt_m (knoise_m ((sum512_m [d, [3]]).drop 32) 0)), [rbytes_m (keysk_l1 d z 3), (sum512_m [d, [3]]).take 32].flatten, sum256_m [[rbytes_m (keysk_l1 d z 3), (sum512_m [d, [3]]).take 32].flatten], z].flatten) := keysk_e d z
  obtain ⟨gs, hS⟩ := hS.rn [(0, 0), (1, 1), (2, 5)] [(4, lb ([rbytes_m (keysk_l1 d z 3), (sum512_m [d, [3]]).take 32].flatten)), (5, .sk 2), (6, vi 0)] [(2, .sl 5 [.int .u8] ([rbytes_m (each_ntt_m (knoise_m ((sum512_m [d, [3]]).drop 32) 0)), [rbytes_m (keysk_l1 d z 3), (sum512_m [d, [3]]).take 32].flatten, sum256_m [[rbytes_m (keysk_l1 d z 3), (sum512_m [d, [3]]).take 32].flatten], z].flatten))] 3 hg0
  exact fin_y rfl (.inr rfl) hS [lb ([rbytes_m (keysk_l1 d z 3), (sum512_m [d, [3]]).take 32].flatten), .sk 2, vi 0] [(2, some (.sl 5 [.int .u8] ([rbytes_m (each_ntt_m (knoise_m ((sum512_m [d, [3]]).drop 32) 0)), [rbytes_m (keysk_l1 d z 3), (sum512_m [d, [3]]).take 32].flatten, sum256_m [[rbytes_m (keysk_l1 d z 3), (sum512_m [d, [3]]).take 32].flatten], z].flatten)))] (by show weak _ (.tu (chain [lb ((keysk_m d z).1), .sk 2, vi 0])) = (.tu (chain [lb ((keysk_m d z).1), .sk 2, vi 0])); rw [hM]; first | (simp only []; rfl) | (simp only []; done) | rfl) (by show H1Ok _ [(2, .sl 5 [.int .u8] ((keysk_m d z).2))] true; rw [hM]; first | (simp only []; exact ⟨rfl, trivial⟩) | exact ⟨rfl, trivial⟩)

def c_keysn : Con := ⟨[.v (.slice none 0 0), .v (.slice none 0 0)], [], .tu (chain [.v (.slice none 0 0), .v (.slice none 0 0), vi 1]), []⟩
theorem keysn_ok : ConOk Try.prog 14 (c_keysn) := by
 refine conOk_of rfl (nb := 0) Try.func14 rfl rfl Try.ntmps14 rfl rfl rfl fun g0 w0 ac gs ws hg0 hS => ?_
 have hS := hS.sp
 refine s0 [0, 1, 4, 5, 6] [] 0 hS fun hS => ?_
 refine wp_seq (s0 [0, 1, 4, 5, 6, 20] [] 0 hS fun hS => ?_)
 refine cond_t hS ?_
 refine s0 [0, 1, 4, 5, 6] [] 0 hS fun hS => ?_
 refine wp_ret (then_ret ?_)
 exact fin_y rfl (.inr rfl) hS [.v (.slice none 0 0), .v (.slice none 0 0), vi 1] [] rfl trivial

end
end Go.Sx.Try
namespace Go.Sx
open Go.Mi Go.RowKit
theorem wrap_u16m (x : Int) : IntKind.wrap .u16 x = x % 65536 := by
 simp [IntKind.wrap, IntKind.bits, IntKind.signed]
theorem ofI8 {a : Int} (ha : 0 ≤ a ∧ a < 256) : (BitVec.ofInt 8 a).toNat = a.toNat := by rw [BitVec.toNat_ofInt]; omega
theorem ofI16 {a : Int} (ha : 0 ≤ a ∧ a < 65536) : (BitVec.ofInt 16 a).toNat = a.toNat := by rw [BitVec.toNat_ofInt]; omega
theorem bor8 {a b : Int} (ha : 0 ≤ a ∧ a < 256) (hb : 0 ≤ b ∧ b < 256) : ior .u8 a b = ((a.toNat ||| b.toNat : Nat) : Int) := by
 have h : a.toNat ||| b.toNat < 2 ^ 8 := Nat.or_lt_two_pow (by omega) (by omega)
 unfold ior
 rw [wrap_u8m]
 show (((BitVec.ofInt 8 a ||| BitVec.ofInt 8 b).toNat : Nat) : Int) % 256 = _
 rw [BitVec.toNat_or, ofI8 ha, ofI8 hb]
 omega
theorem bor16 {a b : Int} (ha : 0 ≤ a ∧ a < 65536) (hb : 0 ≤ b ∧ b < 65536) : ior .u16 a b = ((a.toNat ||| b.toNat : Nat) : Int) := by
 have h : a.toNat ||| b.toNat < 2 ^ 16 := Nat.or_lt_two_pow (by omega) (by omega)
 unfold ior
 rw [wrap_u16m]
 show (((BitVec.ofInt 16 a ||| BitVec.ofInt 16 b).toNat : Nat) : Int) % 65536 = _
 rw [BitVec.toNat_or, ofI16 ha, ofI16 hb]
 omega
theorem fdiv_nat {a : Int} (ha : 0 ≤ a) (n : Nat) : a.fdiv (2 ^ n) = ((a.toNat >>> n : Nat) : Int) := by
 obtain ⟨m, rfl⟩ := Int.eq_ofNat_of_zero_le ha
 rw [Int.fdiv_eq_ediv_of_nonneg _ (Int.pow_nonneg (by decide)), show (2 : Int) ^ n = ((2 ^ n : Nat) : Int) by simp, Nat.shiftRight_eq_div_pow]
 rfl
theorem shr8 {a : Int} (ha : 0 ≤ a) {n : Nat} (hn : n ≤ 8) : ishr .u8 a ((n : Nat) : Int) = ((a.toNat >>> n : Nat) : Int) := by
 unfold ishr
 rw [show min ((n : Nat) : Int).toNat (IntKind.bits .u8) = n by simp [IntKind.bits]; omega, fdiv_nat ha]
theorem shr16 {a : Int} (ha : 0 ≤ a) {n : Nat} (hn : n ≤ 16) : ishr .u16 a ((n : Nat) : Int) = ((a.toNat >>> n : Nat) : Int) := by
 unfold ishr
 rw [show min ((n : Nat) : Int).toNat (IntKind.bits .u16) = n by simp [IntKind.bits]; omega, fdiv_nat ha]
theorem bit_tt (x n : Nat) : x >>> n % 2 = (x.testBit n).toNat := by
 rw [Nat.testBit_eq_decide_div_mod_eq, Nat.shiftRight_eq_div_pow]
 rcases Nat.mod_two_eq_zero_or_one (x / 2 ^ n) with h | h <;> simp [h]
theorem dig16 {x : Int} (hx : 0 ≤ x ∧ x < 65536) {k : Nat} (hk : k ≤ 16) : iand .u16 (ishr .u16 x ((k : Nat) : Int)) 1 = ((x.toNat.testBit k).toNat : Int) := by
 rw [shr16 hx.1 hk]
 have h1 : x.toNat >>> k ≤ x.toNat := by rw [Nat.shiftRight_eq_div_pow]; exact Nat.div_le_self _ _
 have h9 : (0 : Int) ≤ ((x.toNat >>> k : Nat) : Int) ∧ ((x.toNat >>> k : Nat) : Int) < 65536 := by
  generalize x.toNat >>> k = y at h1 ⊢
  omega
 unfold iand
 rw [wrap_u16m]
 show (((BitVec.ofInt 16 _ &&& BitVec.ofInt 16 1).toNat : Nat) : Int) % 65536 = _
 rw [BitVec.toNat_and, ofI16 h9, show (BitVec.ofInt 16 1).toNat = 1 from rfl, Nat.and_one_is_mod, Int.toNat_natCast, bit_tt]
 cases x.toNat.testBit k <;> rfl
theorem dig8 {x : Int} (hx : 0 ≤ x ∧ x < 256) {k : Nat} (hk : k ≤ 8) : iand .u8 (ishr .u8 x ((k : Nat) : Int)) 1 = ((x.toNat.testBit k).toNat : Int) := by
 rw [shr8 hx.1 hk]
 have h1 : x.toNat >>> k ≤ x.toNat := by rw [Nat.shiftRight_eq_div_pow]; exact Nat.div_le_self _ _
 have h9 : (0 : Int) ≤ ((x.toNat >>> k : Nat) : Int) ∧ ((x.toNat >>> k : Nat) : Int) < 256 := by
  generalize x.toNat >>> k = y at h1 ⊢
  omega
 unfold iand
 rw [wrap_u8m]
 show (((BitVec.ofInt 8 _ &&& BitVec.ofInt 8 1).toNat : Nat) : Int) % 256 = _
 rw [BitVec.toNat_and, ofI8 h9, show (BitVec.ofInt 8 1).toNat = 1 from rfl, Nat.and_one_is_mod, Int.toNat_natCast, bit_tt]
 cases x.toNat.testBit k <;> rfl
theorem two_le {a b : Nat} (h : a < b) : 2 ^ a * 2 ≤ 2 ^ b := by
 rw [← Nat.pow_succ]; exact Nat.pow_le_pow_right (by decide) h
theorem shl8 (b : Bool) {s : Nat} (hs : s < 8) : ishl .u8 (IntKind.wrap .u8 ((b.toNat : Nat) : Int)) ((s : Nat) : Int) = ((b.toNat * 2 ^ s : Nat) : Int) := by
 have h2 := two_le hs
 unfold ishl
 rw [wrap_u8m, wrap_u8m, show min ((s : Nat) : Int).toNat (IntKind.bits .u8) = s by simp [IntKind.bits]; omega]
 cases b
 ·simp
 ·have e : ((2 ^ s : Nat) : Int) = (2 : Int) ^ s := by simp
  simp only [Bool.toNat_true, Nat.one_mul]
  rw [e]
  have : (2 : Int) ^ s < 256 := by rw [← e]; omega
  have : (0 : Int) ≤ 2 ^ s := by rw [← e]; omega
  omega
theorem shl16 (b : Bool) {s : Nat} (hs : s < 16) : ishl .u16 (IntKind.wrap .u16 ((b.toNat : Nat) : Int)) ((s : Nat) : Int) = ((b.toNat * 2 ^ s : Nat) : Int) := by
 have h2 := two_le hs
 unfold ishl
 rw [wrap_u16m, wrap_u16m, show min ((s : Nat) : Int).toNat (IntKind.bits .u16) = s by simp [IntKind.bits]; omega]
 cases b
 ·simp
 ·have e : ((2 ^ s : Nat) : Int) = (2 : Int) ^ s := by simp
  simp only [Bool.toNat_true, Nat.one_mul]
  rw [e]
  have : (2 : Int) ^ s < 65536 := by rw [← e]; omega
  have : (0 : Int) ≤ 2 ^ s := by rw [← e]; omega
  omega
theorem tb_pow (b : Bool) (s i : Nat) : (b.toNat * 2 ^ s).testBit i = (b && decide (i = s)) := by
 cases b
 ·simp
 ·simp only [Bool.toNat_true, Nat.one_mul, Bool.true_and, Nat.testBit_two_pow]
  by_cases h : s = i
  ·simp [h]
  ·rw [decide_eq_false h, decide_eq_false fun e => h e.symm]
def By (o : List Int) : Prop := ∀ x ∈ o, 0 ≤ x ∧ x < 256
theorem By.at {o : List Int} (h : By o) (i : Nat) : 0 ≤ o.getD i 0 ∧ o.getD i 0 < 256 := by
 rw [List.getD_eq_getElem?_getD]
 cases e : o[i]? with
 | none => simp
 | some x => exact h x (List.mem_of_getElem? e)
def bt (o : List Int) (n : Nat) : Bool := (o.getD (n / 8) 0).toNat.testBit (n % 8)
def stb (o : List Int) (n : Nat) (v : Int) : List Int := o.set (n / 8) (ior .u8 (o.getD (n / 8) 0) (ishl .u8 (IntKind.wrap .u8 v) ((n % 8 : Nat) : Int)))
theorem stb_len (o : List Int) (n : Nat) (v : Int) : (stb o n v).length = o.length := List.length_set
theorem stb_ok {o : List Int} (ho : By o) {n : Nat} (hn : n < 8 * o.length) (b : Bool) : By (stb o n ((b.toNat : Nat) : Int)) ∧ ∀ m, bt (stb o n ((b.toNat : Nat) : Int)) m = (bt o m || (b && decide (m = n))) := by
 have hm := Nat.mod_lt n (show 0 < 8 by decide)
 have h2 := two_le hm
 have hv : b.toNat * 2 ^ (n % 8) < 256 := by cases b <;> simp <;> omega
 have hx := ho.at (n / 8)
 have e : ior .u8 (o.getD (n / 8) 0) (ishl .u8 (IntKind.wrap .u8 ((b.toNat : Nat) : Int)) ((n % 8 : Nat) : Int)) = (((o.getD (n / 8) 0).toNat ||| b.toNat * 2 ^ (n % 8) : Nat) : Int) := by
  rw [shl8 b hm, bor8 hx ⟨by omega, by omega⟩, Int.toNat_natCast]
 have hr : (o.getD (n / 8) 0).toNat ||| b.toNat * 2 ^ (n % 8) < 2 ^ 8 := Nat.or_lt_two_pow (by omega) (by omega)
 unfold stb
 rw [e]
 refine ⟨fun x hx' => ?_, fun m => ?_⟩
 ·rcases List.mem_or_eq_of_mem_set hx' with h | h
  ·exact ho x h
  ·rw [h]; omega
 ·unfold bt
  rw [List.getD_eq_getElem?_getD, List.getElem?_set]
  by_cases h : n / 8 = m / 8
  ·rw [if_pos h, if_pos (by omega), Option.getD_some, Int.toNat_natCast, Nat.testBit_or, tb_pow, h]
   congr 2
   by_cases e2 : m = n
   ·rw [e2, decide_eq_true rfl, decide_eq_true rfl]
   ·rw [decide_eq_false e2, decide_eq_false (by omega)]
  ·rw [if_neg h, ← List.getD_eq_getElem?_getD]
   rw [decide_eq_false (by intro e2; rw [e2] at h; exact h rfl)]
   simp
def rdb (o : List Int) (n0 : Nat) : Nat → Int → Int
 | 0, a => a
 | k + 1, a => ior .u16 (rdb o n0 k a) (ishl .u16 (IntKind.wrap .u16 (iand .u8 (ishr .u8 (o.getD ((n0 + k) / 8) 0) (((n0 + k) % 8 : Nat) : Int)) 1)) ((k : Nat) : Int))
theorem rdb_ok {o : List Int} (ho : By o) (n0 : Nat) : ∀ k, k ≤ 16 → (0 ≤ rdb o n0 k 0 ∧ rdb o n0 k 0 < 65536) ∧ ∀ i, (rdb o n0 k 0).toNat.testBit i = (decide (i < k) && bt o (n0 + i))
 | 0, _ => ⟨by simp [rdb], fun i => by simp [rdb]⟩
 | k + 1, hk => by
  obtain ⟨h1, h2⟩ := rdb_ok ho n0 k (by omega)
  have hm := Nat.mod_lt (n0 + k) (show 0 < 8 by decide)
  have h3 := two_le (show k < 16 by omega)
  have e : rdb o n0 (k + 1) 0 = (((rdb o n0 k 0).toNat ||| (bt o (n0 + k)).toNat * 2 ^ k : Nat) : Int) := by
   show ior .u16 (rdb o n0 k 0) _ = _
   rw [dig8 (ho.at _) (by omega), shl16 _ (by omega)]
   have hv : (bt o (n0 + k)).toNat * 2 ^ k < 65536 := by cases bt o (n0 + k) <;> simp <;> omega
   show ior .u16 (rdb o n0 k 0) (((bt o (n0 + k)).toNat * 2 ^ k : Nat) : Int) = _
   rw [bor16 h1 ⟨by omega, by omega⟩, Int.toNat_natCast]
  have hv : (bt o (n0 + k)).toNat * 2 ^ k < 65536 := by cases bt o (n0 + k) <;> simp <;> omega
  have hr : (rdb o n0 k 0).toNat ||| (bt o (n0 + k)).toNat * 2 ^ k < 2 ^ 16 := Nat.or_lt_two_pow (by omega) (by omega)
  rw [e]
  refine ⟨by omega, fun i => ?_⟩
  rw [Int.toNat_natCast, Nat.testBit_or, h2, tb_pow]
  by_cases hi : i = k
  ·subst hi
   rw [decide_eq_false (Nat.lt_irrefl _), decide_eq_true rfl, decide_eq_true (Nat.lt_succ_self _)]
   simp
  ·rw [decide_eq_false hi]
   by_cases h4 : i < k
   ·rw [decide_eq_true h4, decide_eq_true (by omega)]; simp
   ·rw [decide_eq_false h4, decide_eq_false (by omega)]; simp
end Go.Sx
namespace Go.Sx.Try
open Go.Mi Go.RowKit Go.Sx Go.Proofs
noncomputable section
theorem rd_by (r : Nat) (f : Nat → Int) (a : Nat) : ∀ n, By (rdA r f a n).2.2
 | 0 => by rw [← rd_0]; intro x hx; cases hx
 | n + 1 => by
  have ih := rd_by r f a n
  rw [rdA_s]
  generalize rdA r f a n = q at ih
  obtain ⟨g, b, o⟩ := q
  simp only at ih ⊢
  have hw : ∀ z : Int, 0 ≤ IntKind.wrap .u8 z ∧ IntKind.wrap .u8 z < 256 := fun z => by rw [wrap_u8m]; omega
  split
  ·intro x hx
   rcases List.mem_append.1 hx with h | h
   ·exact ih x h
   ·rw [List.mem_singleton.1 h]; exact hw _
  ·intro x hx
   rcases List.mem_append.1 hx with h | h
   ·exact ih x h
   ·rw [List.mem_singleton.1 h]; exact hw _
theorem sum512_by (l : List (List Int)) : By (sum512_m l) := by rw [sum512_e]; exact rd_by _ _ _ _
theorem sum256_by (l : List (List Int)) : By (sum256_m l) := by rw [sum256_e]; exact rd_by _ _ _ _
def xr (f : Nat → Int) (i : Nat) : Nat := (irem (f i) 3329).toNat
theorem xr_ok {x : Int} (h : 0 ≤ x) : 0 ≤ irem x 3329 ∧ irem x 3329 < 3329 := by rw [irem64 h]; omega
def Wr (f : Nat → Int) (o : List Int) (m : Nat) : Prop := By o ∧ o.length = 384 ∧ ∀ n, bt o n = (decide (n < m) && (xr f (n / 12)).testBit (n % 12))
theorem enc_s {f : Nat → Int} (hf : ∀ i, i < 256 → 0 ≤ f i) {o : List Int} {i k : Nat} (hi : i < 256) (hk : k < 12) (h : Wr f o (i * 12 + k)) (x6 : List Int) : Wr f (encode12_l2_s f i x6 k o) (i * 12 + k + 1) := by
 obtain ⟨h1, h2, h3⟩ := h
 have hx := xr_ok (hf i hi)
 have e : encode12_l2_s f i x6 k o = stb o (i * 12 + k) (((xr f i).testBit k).toNat : Nat) := by
  show stb o (i * 12 + k) (iand .u16 (ishr .u16 (irem (f i) 3329) (k : Int)) 1) = _
  rw [dig16 ⟨hx.1, by omega⟩ omm]
  rfl
 rw [e]
 obtain ⟨k1, k2⟩ := stb_ok h1 (n := i * 12 + k) (by rw [h2]; omega) ((xr f i).testBit k)
 refine ⟨k1, by rw [stb_len, h2], fun n => ?_⟩
 rw [k2, h3]
 by_cases hn : n = i * 12 + k
 ·subst hn
  rw [decide_eq_false (Nat.lt_irrefl _), decide_eq_true rfl, decide_eq_true (Nat.lt_succ_self _), show (i * 12 + k) / 12 = i by omega, show (i * 12 + k) % 12 = k by omega]
  simp
 ·rw [decide_eq_false hn, Bool.and_false, Bool.or_false]
  by_cases h4 : n < i * 12 + k
  ·rw [decide_eq_true h4, decide_eq_true omm]
  ·rw [decide_eq_false h4, decide_eq_false omm]
theorem enc_2 {f : Nat → Int} (hf : ∀ i, i < 256 → 0 ≤ f i) {o : List Int} {i : Nat} (hi : i < 256) (h : Wr f o (i * 12)) : ∀ k, k ≤ 12 → Wr f (encode12_l2 f i o k) (i * 12 + k)
 | 0, _ => h
 | k + 1, hk => enc_s hf hi omm (enc_2 hf hi h k omm) o
theorem enc_1 {f : Nat → Int} (hf : ∀ i, i < 256 → 0 ≤ f i) : ∀ i, i ≤ 256 → Wr f (encode12_l1 f i) (i * 12)
 | 0, _ => by
  refine ⟨fun x hx => ?_, List.length_replicate, fun n => ?_⟩
  ·have : x = 0 := List.eq_of_mem_replicate hx
   omega
  ·have e : (encode12_l1 f 0).getD (n / 8) 0 = 0 := by
    show (List.replicate 384 (0 : Int)).getD (n / 8) 0 = 0
    rw [List.getD_eq_getElem?_getD, List.getElem?_replicate]
    split <;> rfl
   unfold bt
   rw [e]
   simp
 | i + 1, hi => by
  have := enc_2 hf (i := i) omm (enc_1 hf i omm) 12 (Nat.le_refl _)
  rw [show (i + 1) * 12 = i * 12 + 12 by omega]
  exact this
theorem enc_ok {f : Nat → Int} (hf : ∀ i, i < 256 → 0 ≤ f i) : By (encode12_m f) ∧ ∀ n, n < 3072 → bt (encode12_m f) n = (xr f (n / 12)).testBit (n % 12) := by
 rw [encode12_e]
 obtain ⟨h1, _, h3⟩ := enc_1 hf 256 (Nat.le_refl _)
 exact ⟨h1, fun n hn => by
  have := h3 n
  rw [decide_eq_true hn, Bool.true_and] at this
  exact this⟩
theorem unp_2 (xs : List Int) (i : Nat) (g : Nat → Int) : ∀ k j, unpack12_l2 xs i g k j = if j = i then rdb xs (i * 12) k (g i) else g j
 | 0, j => by
  show g j = _
  by_cases h : j = i
  ·rw [if_pos h, h]; rfl
  ·rw [if_neg h]
 | k + 1, j => by
  have ih := unp_2 xs i g k
  show upd (unpack12_l2 xs i g k) i _ j = _
  unfold upd
  by_cases h : j = i
  ·rw [if_pos h, if_pos h]
   show ior .u16 (unpack12_l2 xs i g k i) _ = ior .u16 (rdb xs (i * 12) k (g i)) _
   rw [ih i, if_pos rfl]
  ·rw [if_neg h, if_neg h, ih j, if_neg h]
theorem unp_1 (xs : List Int) : ∀ n j, unpack12_l1 xs n j = if j < n then rdb xs (j * 12) 12 0 else 0
 | 0, j => by rw [if_neg (Nat.not_lt_zero j)]; rfl
 | n + 1, j => by
  have ih := unp_1 xs n
  show unpack12_l2 xs n (unpack12_l1 xs n) 12 j = _
  rw [unp_2]
  by_cases h : j = n
  ·rw [if_pos h, h, ih n, if_neg (Nat.lt_irrefl _), if_pos (Nat.lt_succ_self _)]
  ·rw [if_neg h, ih j]
   by_cases h2 : j < n
   ·rw [if_pos h2, if_pos omm]
   ·rw [if_neg h2, if_neg omm]
theorem unp_of {f : Nat → Int} (hf : ∀ i, i < 256 → 0 ≤ f i) {xs : List Int} (hx : By xs) (h : ∀ n, n < 384 → xs.getD n 0 = (encode12_m f).getD n 0) {j : Nat} (hj : j < 256) : unpack12_m xs j = (xr f j : Nat) := by
 have hb : ∀ n, n < 3072 → bt xs n = (xr f (n / 12)).testBit (n % 12) := fun n hn => by
  rw [← (enc_ok hf).2 n hn]
  unfold bt
  rw [h (n / 8) omm]
 rw [unpack12_e]
 show unpack12_l1 xs 256 j = _
 rw [unp_1, if_pos hj]
 obtain ⟨h1, h2⟩ := rdb_ok hx (j * 12) 12 omm
 have hlt : xr f j < 2 ^ 12 := by have := xr_ok (hf j hj); unfold xr; omega
 have e : (rdb xs (j * 12) 12 0).toNat = xr f j := by
  refine Nat.eq_of_testBit_eq fun i => ?_
  rw [h2]
  by_cases hi : i < 12
  ·rw [decide_eq_true hi, Bool.true_and, hb _ omm, show (j * 12 + i) / 12 = j by omega, show (j * 12 + i) % 12 = i by omega]
  ·rw [decide_eq_false hi, Bool.false_and]
   exact (Nat.testBit_lt_two_pow (Nat.lt_of_lt_of_le hlt (Nat.pow_le_pow_right (by decide) omm))).symm
 omega
theorem rowof_at (xs : List Int) {i j : Nat} (hi : i < 3) (hj : j < 256) : rowof_m xs (i * 256 + j) = unpack12_m (xs.drop (384 * i)) j := by
 have key : ∀ n, i < n → rowof_l1 xs n (i * 256 + j) = unpack12_m (xs.drop (384 * i)) j := by
  intro n
  induction n with
  | zero => exact fun h => absurd h (Nat.not_lt_zero _)
  | succ n ih =>
   intro h
   show updW (rowof_l1 xs n) (n * 256) 256 (unpack12_m (xs.drop (384 * n))) (i * 256 + j) = _
   unfold updW
   by_cases e : i = n
   ·subst e
    rw [show Nat.ble (i * 256) (i * 256 + j) = true by rw [Nat.ble_eq]; omega, show Nat.blt (i * 256 + j) (i * 256 + 256) = true by rw [Nat.blt_eq]; omega]
    simp only [Bool.and_self, cond_true]
    rw [show i * 256 + j - i * 256 = j by omega]
   ·have : Nat.ble (n * 256) (i * 256 + j) = false := by
     cases hb : Nat.ble (n * 256) (i * 256 + j) with
     | false => rfl
     | true => rw [Nat.ble_eq] at hb; omega
    rw [this, Bool.false_and, cond_false]
    exact ih omm
 rw [rowof_e]
 exact key 3 hi
theorem rbytes_at (f : Nat → Int) {i n : Nat} (hi : i < 3) (hn : n < 384) : (rbytes_m f).getD (384 * i + n) 0 = (encode12_m fun j => f (i * 256 + j)).getD n 0 := by
 have key : ∀ m, (rbytes_l1 f m).length = 384 * m ∧ (i < m → (rbytes_l1 f m).getD (384 * i + n) 0 = (encode12_m fun j => f (i * 256 + j)).getD n 0) := by
  intro m
  induction m with
  | zero => exact ⟨rfl, fun h => absurd h (Nat.not_lt_zero _)⟩
  | succ m ih =>
   have e : rbytes_l1 f (m + 1) = rbytes_l1 f m ++ encode12_m (fun j => f (m * 256 + j)) := rfl
   rw [e]
   refine ⟨by rw [List.length_append, ih.1, encode12_len]; omega, fun h => ?_⟩
   rw [List.getD_eq_getElem?_getD]
   by_cases e2 : i = m
   ·subst e2
    rw [List.getElem?_append_right (by rw [ih.1]; omega), ih.1, ← List.getD_eq_getElem?_getD, show 384 * i + n - 384 * i = n by omega]
   ·rw [List.getElem?_append_left (by rw [ih.1]; omega), ← List.getD_eq_getElem?_getD]
    exact ih.2 omm
 rw [rbytes_e]
 exact (key 3).2 hi
theorem rbytes_by {f : Nat → Int} (hf : ∀ i, i < 768 → 0 ≤ f i) : By (rbytes_m f) := by
 have key : ∀ m, m ≤ 3 → By (rbytes_l1 f m) := by
  intro m
  induction m with
  | zero => exact fun _ x hx => by cases hx
  | succ m ih =>
   intro hm x hx
   have e : rbytes_l1 f (m + 1) = rbytes_l1 f m ++ encode12_m (fun j => f (m * 256 + j)) := rfl
   rw [e] at hx
   rcases List.mem_append.1 hx with h | h
   ·exact ih omm x h
   ·exact (enc_ok fun i hi => hf _ omm).1 x h
 rw [rbytes_e]
 exact key 3 (Nat.le_refl _)
theorem rmay_of {f : Nat → Int} (hf : ∀ i, i < 768 → 0 ≤ f i) {rest : List Int} (hr : By rest) : rmay (rbytes_m f ++ rest) = true := by
 refine rmay_yes fun i hi => may_yes fun j hj => ?_
 rw [rowof_at _ hi hj]
 have hf2 : ∀ j, j < 256 → 0 ≤ f (i * 256 + j) := fun j hj => hf _ omm
 rw [unp_of (f := fun j => f (i * 256 + j)) hf2 (fun x hx => ?_) (fun n hn => ?_) hj]
 ·have := (xr_ok (hf2 j hj)).2
  unfold xr
  have := (xr_ok (hf2 j hj)).1
  simp only
  omega
 ·rcases List.mem_append.1 (List.mem_of_mem_drop hx) with h | h
  ·exact rbytes_by hf x h
  ·exact hr x h
 ·rw [List.getD_eq_getElem?_getD, List.getElem?_drop, List.getElem?_append_left (by rw [rbytes_len]; omega), ← List.getD_eq_getElem?_getD]
  exact rbytes_at f hi hn
theorem mod_nn (x : Int) : 0 ≤ mod_m x := by
 rw [mod_e]; show 0 ≤ IntKind.wrap .u16 _; rw [wrap_u16m]; omega
theorem add_nn (f g : Nat → Int) {j : Nat} (hj : j < 256) : 0 ≤ add_m f g j := by
 have key : ∀ n, j < n → 0 ≤ add_l1 f g n j := by
  intro n
  induction n with
  | zero => exact fun h => absurd h (Nat.not_lt_zero _)
  | succ n ih =>
   intro h
   show 0 ≤ upd (add_l1 f g n) n (mod_m _) j
   unfold upd
   split
   ·exact mod_nn _
   ·exact ih omm
 rw [add_e]
 exact key 256 hj
theorem keys_nn (d z : List Int) {k : Nat} (hk : k < 768) : 0 ≤ keys_l1 d z 3 k := by
 have key : ∀ n, k / 256 < n → 0 ≤ keys_l1 d z n k := by
  intro n
  induction n with
  | zero => exact fun h => absurd h (Nat.not_lt_zero _)
  | succ n ih =>
   intro h
   show 0 ≤ updW (keys_l1 d z n) (n * 256) 256 (add_m _ _) k
   unfold updW
   cases hb : Nat.ble (n * 256) k && Nat.blt k (n * 256 + 256) with
   | true =>
    rw [Bool.and_eq_true, Nat.ble_eq, Nat.blt_eq] at hb
    exact add_nn _ _ omm
   | false =>
    rw [cond_false]
    refine ih ?_
    have h1 : k / 256 ≠ n := fun e => by
     have h2 : Nat.ble (n * 256) k = true := by rw [Nat.ble_eq]; omega
     have h3 : Nat.blt k (n * 256 + 256) = true := by rw [Nat.blt_eq]; omega
     rw [h2, h3] at hb; cases hb
    omega
 exact key 3 omm
theorem keysk_nn (d z : List Int) {k : Nat} (hk : k < 768) : 0 ≤ keysk_l1 d z 3 k := by
 have key : ∀ n, k / 256 < n → 0 ≤ keysk_l1 d z n k := by
  intro n
  induction n with
  | zero => exact fun h => absurd h (Nat.not_lt_zero _)
  | succ n ih =>
   intro h
   show 0 ≤ updW (keysk_l1 d z n) (n * 256) 256 (add_m _ _) k
   unfold updW
   cases hb : Nat.ble (n * 256) k && Nat.blt k (n * 256 + 256) with
   | true =>
    rw [Bool.and_eq_true, Nat.ble_eq, Nat.blt_eq] at hb
    exact add_nn _ _ omm
   | false =>
    rw [cond_false]
    refine ih ?_
    have h1 : k / 256 ≠ n := fun e => by
     have h2 : Nat.ble (n * 256) k = true := by rw [Nat.ble_eq]; omega
     have h3 : Nat.blt k (n * 256 + 256) = true := by rw [Nat.blt_eq]; omega
     rw [h2, h3] at hb; cases hb
    omega
 exact key 3 omm
theorem keysk_chk (d z : List Int) : chk (keysk_m d z).1 = 0 := by
 have hl := sum512_len [d, [3]]
 have e : (keysk_m d z).1 = rbytes_m (keysk_l1 d z 3) ++ ((sum512_m [d, [3]]).take 32 ++ []) := by rw [keysk_e]; rfl
 rw [e]
 refine chk_0 ?_ (rmay_of (fun i hi => keysk_nn d z hi) fun x hx => ?_)
 ·rw [List.length_append, List.length_append, rbytes_len, List.length_take, hl]; rfl
 ·rw [List.append_nil] at hx
  exact sum512_by _ x (List.mem_of_mem_take hx)
end
end Go.Sx.Try
namespace Go.Sx.Try
open Go.Mi Go.RowKit Go.Sx Go.Proofs
noncomputable section
def c_awake11 : Con := ⟨[], [], .v (.bool true), []⟩
theorem awake11_ok : ConOk Try.prog 7 (c_awake11) := by
 refine conOk_of rfl (nb := 0) Try.func7 rfl rfl Try.ntmps7 rfl rfl rfl fun g0 w0 ac gs ws hg0 hS => ?_
 have hS := hS.sp
 refine s0 [0] [] 0 hS fun hS => ?_
 refine sA [(0, .call ⟨14, (c_keysn), [], []⟩)] ⟨keysn_ok, trivial⟩ (fun C => [ndC C 0]) [0, 3] [] 0 ⟨rfl, trivial⟩ hS fun hS => ?_
 refine sA [(2, .call ⟨14, (c_keysk (List.replicate 32 (0 : Int)) (List.replicate 32 (0 : Int))), [(0, 0), (1, 1)], [(2, 2)]⟩)] ⟨keysk_ok _ _ lnn lnn, trivial⟩ (fun C => [(32 : Int) = 32, (0 : Int) ≤ 32, 1 * 32 ≤ 281474976710656, (32 : Int) ≤ 9223372036854775807, (32 : Int) = 32, (0 : Int) ≤ 32, 1 * 32 ≤ 281474976710656, (32 : Int) ≤ 9223372036854775807, ndC C 2]) [0, 3, 4, 5, 6] [2] 3 ⟨rfl, by omega, by omega, by omega, rfl, by omega, by omega, by omega, rfl, trivial⟩ hS fun hS => ?_
 refine wp_seq ?_
 have hlk := keysk_len (List.replicate 32 (0 : Int)) (List.replicate 32 (0 : Int)) List.length_replicate
 have hck := keysk_chk (List.replicate 32 (0 : Int)) (List.replicate 32 (0 : Int))
 have hk1 : ((((keysk_m (List.replicate 32 (0 : Int)) (List.replicate 32 (0 : Int))).1).length : Nat) : Int) = 1184 := omm
 have hk2 : ((((keysk_m (List.replicate 32 (0 : Int)) (List.replicate 32 (0 : Int))).2).length : Nat) : Int) = 2400 := omm
 have hk3 : ((chk ((keysk_m (List.replicate 32 (0 : Int)) (List.replicate 32 (0 : Int))).1) : Nat) : Int) = 0 := omm
 have hk4 : ((chk ([] : List Int) : Nat) : Int) = 1 := by rw [chk_1 (by decide)]; rfl
 refine rA [(9, .ob true), (14, .ob true), (18, .call ⟨10, (c_check ((keysk_m (List.replicate 32 (0 : Int)) (List.replicate 32 (0 : Int))).1)), [], []⟩), (19, .ob true), (22, .call ⟨10, (c_check []), [], []⟩), (23, .ob true)] ⟨check_ok _, check_ok _, trivial⟩ (fun C => [(decide (((((keysk_m (List.replicate 32 (0 : Int)) (List.replicate 32 (0 : Int))).1).length : Nat) : Int) = 1184)) = true, (decide (((((keysk_m (List.replicate 32 (0 : Int)) (List.replicate 32 (0 : Int))).2).length : Nat) : Int) = 2400)) = true, ndC C 18, (decide (((chk ((keysk_m (List.replicate 32 (0 : Int)) (List.replicate 32 (0 : Int))).1) : Nat) : Int) = 0)) = true, ndC C 22, (decide (((chk ([] : List Int) : Nat) : Int) = 1)) = true]) [0] [] 3 ⟨decide_eq_true hk1, decide_eq_true hk2, rfl, decide_eq_true hk3, rfl, decide_eq_true hk4, trivial⟩ hS fun hS => ?_
 refine then_n (wp_ret ?_)
 exact fin_y rfl (.inr rfl) hS [.v (.bool true)] [] rfl trivial

end
end Go.Sx.Try
namespace Go.Sx.Try
open Go.Mi Go.RowKit Go.Sx Go.Proofs
noncomputable section
theorem getD_mem {α : Type} {l : List α} {j : Nat} {z : α} (h : j < l.length) : l.getD j z ∈ l := by
 rw [List.getD_eq_getElem?_getD, List.getElem?_eq_getElem h]; exact List.getElem_mem h
theorem fm_cons {α : Type} {p : α → Prop} {a : α} {l : List α} (h1 : p a) (h2 : ∀ x ∈ l, p x) : ∀ x ∈ a :: l, p x := List.forall_mem_cons.2 ⟨h1, h2⟩
theorem fm_nil : ∀ x ∈ ([] : List (List Int)), x.length ≤ 3000 := fun _ h => nomatch h
theorem fm_getD {l : List (List Int)} (h : ∀ x ∈ l, x.length ≤ 3000) (j : Nat) : (l.getD j (rz [.sl (.int .u8)])).length ≤ 3000 := by
 show (List.getD (α := List Int) l j []).length ≤ 3000
 by_cases hj : j < l.length
 ·exact h _ (getD_mem hj)
 ·rw [List.getD_eq_getElem?_getD, List.getElem?_eq_none omm]; decide
def rbig_l1_s (v : Int) (n x6 : Nat) : (List Int) → (List Int) := fun x5 => x5.set (Int.toNat (((n : Int) - 1) - (x6 : Int))) (IntKind.wrap .u8 (ishr .u64 v ((8 * x6 : Nat) : Int)))
def rbig_l1 (v : Int) (n : Nat) : Nat → (List Int)
 | 0 => List.replicate n (0 : Int)
 | x6 + 1 => rbig_l1_s v n x6 (rbig_l1 v n x6)
def rbig_v (v : Int) (n : Nat) : (List Int) := rbig_l1 v n n
def rbig_m (v : Int) (n : Nat) : (List Int) := shut (rbig_v v n)
theorem rbig_e (v : Int) (n : Nat) : rbig_m v n = rbig_v v n := shut_eq _
def c_rbig (v : Int) (n : Nat) : Con := ⟨[.v (.int .u64 v), vi (n : Int)], [], .sk 0, [(0, .sl 5 [.int .u8] (rbig_m v n))]⟩
theorem rbig_ok (v : Int) (n : Nat) (hn : n ≤ 1000) : ConOk Try.prog 53 (c_rbig v n) := by
 refine conOk_of rfl (nb := 0) Try.func53 rfl rfl Try.ntmps53 rfl rfl rfl fun g0 w0 ac gs ws hg0 hS => ?_
 have hS := hS.sp
 refine s0 [0, 1, 4] [] 0 hS fun hS => ?_
 refine sA [] trivial (fun _ => [((n : Int) : Int) = (n : Int), (0 : Int) ≤ (n : Int), 1 * n ≤ 281474976710656, ((n : Int) : Int) ≤ 9223372036854775807]) [0, 1, 4, 5] [0] 1 ⟨rfl, by omega, by omega, by omega, trivial⟩ hS fun hS => ?_
 refine wp_seq (s0 [0, 1, 4, 5, 6] [0] 1 hS fun hS => ?_)
 refine wp_block (loop_y (ι := Nat × (List Int)) hg0 hS (fun z_ => match z_ with | (x6, x5) => n - x6) (fun z_ => match z_ with | (x6, x5) => [(0, .v (.int .u64 v)), (1, vi (n : Int)), (4, .v (.slice none 0 0)), (5, .sk 0), (6, vi ((x6 : Nat) : Int))]) (fun z_ => match z_ with | (x6, x5) => [(0, .sl 5 [.int .u8] x5)]) (fun z_ => match z_ with | (x6, x5) => (x6 ≤ n) ∧ (x5 = rbig_l1 v n x6) ∧ (x5.length = n) ∧ True) 1 (0, List.replicate n (0 : Int)) [(0, 0)] ⟨omm, rfl, (by simp), trivial⟩ ?_)
 rintro ⟨x6, x5⟩ ac gs ws ⟨hx6, hq1, p1, _⟩ hS
 refine wp_seq (s0 [0, 1, 4, 5, 6, 11] [0] 1 hS fun hS => ?_)
 refine if_d ((x6 : Int) < (n : Int)) hS (fun h1 => ?_) (fun h1 => ?_)
 ·refine wp_skip (then_n (wp_seq (wp_block (rA [(2, .oi ((n : Int) - 1)), (4, .oi (((n : Int) - 1) - (x6 : Int))), (7, .oi ((8 * x6 : Nat) : Int))] trivial (fun _ => [isub .i64 (n : Int) 1 = ((n : Int) - 1), isub .i64 ((n : Int) - 1) (x6 : Int) = (((n : Int) - 1) - (x6 : Int)), imul .i64 8 (x6 : Int) = ((8 * x6 : Nat) : Int), (0 : Int) ≤ ((8 * x6 : Nat) : Int), (0 : Int) ≤ (((n : Int) - 1) - (x6 : Int)) ∧ (((n : Int) - 1) - (x6 : Int)) < ((x5.length : Nat) : Int)]) [0, 1, 4, 5, 6] [0] 1 ⟨isub64 omm omm, isub64 omm omm, by rw [imul64 omm omm]; omega, by omega, by omega, trivial⟩ hS fun hS => ?_))))
  refine block_n (then_n (rA [(1, .oi ((x6 + 1 : Nat) : Int))] trivial (fun _ => [iadd .i64 (x6 : Int) 1 = ((x6 + 1 : Nat) : Int)]) [0, 1, 4, 5, 6] [0] 1 ⟨by rw [iadd64 omm omm]; omega, trivial⟩ hS fun hS => ?_))
  refine then_n ?_
  exact next_y hg0 hS (s := (x6, x5)) (x6 + 1, x5.set (Int.toNat (((n : Int) - 1) - (x6 : Int))) (IntKind.wrap .u8 (ishr .u64 v ((8 * x6 : Nat) : Int)))) [(0, 0)] (show n - (x6 + 1) < n - x6 from by omega) ⟨omm, (it_next (F := rbig_l1 v n) (st := rbig_l1_s v n) (fun _ => rfl) hq1 rfl), (by rw [List.length_set]; exact p1), trivial⟩
 ·have hScur := hS
  obtain rfl : n = x6 := by omega
  obtain rfl : rbig_l1 v n n = x5 := Eq.symm (congrArg (fun z => z) hq1)
  have hS := hScur
  clear hScur
  refine wp_exit (then_exit (then_exit (block_exit (then_n (s0 [4] [0] 1 hS fun hS => ?_)))))
  refine wp_ret ?_
  have hM : rbig_m v n = rbig_l1 v n n := rbig_e v n
  exact fin_y rfl (.inr rfl) hS [.sk 0] [(0, some (.sl 5 [.int .u8] (rbig_l1 v n n)))] rfl (by show H1Ok _ [(0, .sl 5 [.int .u8] (rbig_m v n))] true; rw [hM]; first | (simp only []; exact ⟨rfl, trivial⟩) | exact ⟨rfl, trivial⟩)

def rcat_l1_s (l : List (List Int)) (x4 : Nat) : (List Int) → (List Int) := fun x3 => x3 ++ (l.getD x4 (rz [.sl (.int .u8)]))
def rcat_l1 (l : List (List Int)) : Nat → (List Int)
 | 0 => []
 | x4 + 1 => rcat_l1_s l x4 (rcat_l1 l x4)
def rcat_v (l : List (List Int)) : (List Int) := rcat_l1 l l.length
def rcat_m (l : List (List Int)) : (List Int) := shut (rcat_v l)
theorem rcat_e (l : List (List Int)) : rcat_m l = rcat_v l := shut_eq _
def c_rcat (l : List (List Int)) : Con := ⟨[.ls false [.sl (.int .u8)] l], [], .sk 0, [(0, .sl 5 [.int .u8] (rcat_m l))]⟩
theorem rcat_ok (l : List (List Int)) (hn : l.length ≤ 1000) (hm : ∀ j, (l.getD j (rz [.sl (.int .u8)])).length ≤ 3000) : ConOk Try.prog 26 (c_rcat l) := by
 refine conOk_of rfl (nb := 0) Try.func26 rfl rfl Try.ntmps26 rfl rfl rfl fun g0 w0 ac gs ws hg0 hS => ?_
 have hlen0 : l.length ≤ 9223372036854775807 := hS.len 0 rfl
 have hS := hS.sp
 refine s0 [0, 2] [] 0 hS fun hS => ?_
 refine s0 [0, 2, 3] [] 0 hS fun hS => ?_
 refine wp_seq (s0 [0, 2, 3, 4] [] 0 hS fun hS => ?_)
 refine wp_block ?_
 obtain ⟨gs, hS⟩ := hS.nilk 3 5 [.int .u8]
 refine loop_y (ι := Nat × (List Int)) hg0 hS (fun z_ => match z_ with | (x4, x3) => l.length - x4) (fun z_ => match z_ with | (x4, x3) => [(0, .ls false [.sl (.int .u8)] l), (2, .v (.slice none 0 0)), (3, .sk 0), (4, vi ((x4 : Nat) : Int))]) (fun z_ => match z_ with | (x4, x3) => [(0, .sl 5 [.int .u8] x3)]) (fun z_ => match z_ with | (x4, x3) => (x4 ≤ l.length) ∧ (x3 = rcat_l1 l x4) ∧ (x3.length ≤ 3000 * x4) ∧ True) 1 (0, []) [(0, 0)] ⟨omm, rfl, (by simp), trivial⟩ ?_
 rintro ⟨x4, x3⟩ ac gs ws ⟨hx4, hq1, p1, _⟩ hS
 refine wp_seq (s0 [0, 2, 3, 4, 8] [0] 1 hS fun hS => ?_)
 refine if_d ((x4 : Int) < ((l.length : Nat) : Int)) hS (fun h1 => ?_) (fun h1 => ?_)
 ·refine wp_skip (then_n (wp_seq (wp_block ?_)))
  have hmx := hm x4
  refine rA [] trivial (fun _ => [(0 : Int) ≤ (x4 : Int) ∧ (x4 : Int) < ((l.length : Nat) : Int), x3.length + (l.getD x4 (rz [.sl (.int .u8)])).length ≤ 9223372036854775807, (x3.length + (l.getD x4 (rz [.sl (.int .u8)])).length) * 1 ≤ 140737488355328]) [0, 2, 3, 4] [1] 2 ⟨by omega, by omega, by omega, trivial⟩ hS fun hS => ?_
  refine block_n (then_n (rA [(1, .oi ((x4 + 1 : Nat) : Int))] trivial (fun _ => [iadd .i64 (x4 : Int) 1 = ((x4 + 1 : Nat) : Int)]) [0, 2, 3, 4] [1] 2 ⟨by rw [iadd64 omm omm]; omega, trivial⟩ hS fun hS => ?_))
  refine then_n ?_
  exact next_y hg0 hS (s := (x4, x3)) (x4 + 1, x3 ++ (l.getD x4 (rz [.sl (.int .u8)]))) [(0, 1)] (show l.length - (x4 + 1) < l.length - x4 from by omega) ⟨omm, (it_next (F := rcat_l1 l) (st := rcat_l1_s l) (fun _ => rfl) hq1 rfl), (by rw [List.length_append]; have := hm x4; omega), trivial⟩
 ·have hScur := hS
  obtain rfl : l.length = x4 := by omega
  obtain rfl : rcat_l1 l l.length = x3 := Eq.symm (congrArg (fun z => z) hq1)
  have hS := hScur
  clear hScur
  refine wp_exit (then_exit (then_exit (block_exit (then_n (s0 [2] [0] 1 hS fun hS => ?_)))))
  refine wp_ret ?_
  have hM : rcat_m l = rcat_l1 l l.length := rcat_e l
  exact fin_y rfl (.inr rfl) hS [.sk 0] [(0, some (.sl 5 [.int .u8] (rcat_l1 l l.length)))] rfl (by show H1Ok _ [(0, .sl 5 [.int .u8] (rcat_m l))] true; rw [hM]; first | (simp only []; exact ⟨rfl, trivial⟩) | exact ⟨rfl, trivial⟩)

theorem rcat_flat (l : List (List Int)) : rcat_m l = l.flatten := by
 have key : ∀ i, i ≤ l.length → rcat_l1 l i = (l.take i).flatten := by
  intro i
  induction i with
  | zero => intro _; rfl
  | succ i ih =>
   intro hi
   show rcat_l1 l i ++ List.getD (α := List Int) l i [] = _
   rw [ih omm, List.take_succ_eq_append_getElem omm, List.flatten_append, List.getD_eq_getElem?_getD, List.getElem?_eq_getElem omm]
   simp
 rw [rcat_e]
 exact (key _ (Nat.le_refl _)).trans (by rw [List.take_length])
@[simp] theorem rcat_len (l : List (List Int)) : (rcat_m l).length = l.flatten.length := by rw [rcat_flat]
end
end Go.Sx.Try
namespace Go.Sx.Try
open Go.Mi Go.RowKit Go.Sx Go.Proofs
noncomputable section
theorem rn_ok (t : Nat) (h : t < 24) : (0 : Int) < irem (iquo .i64 (imul .i64 ((t + 1 : Nat) : Int) ((t + 2 : Nat) : Int)) 2) 64 ∧ irem (iquo .i64 (imul .i64 ((t + 1 : Nat) : Int) ((t + 2 : Nat) : Int)) 2) 64 < 64 := by
 have key : ((List.range 24).all fun t => decide ((0 : Int) < irem (iquo .i64 (imul .i64 ((t + 1 : Nat) : Int) ((t + 2 : Nat) : Int)) 2) 64) && decide (irem (iquo .i64 (imul .i64 ((t + 1 : Nat) : Int) ((t + 2 : Nat) : Int)) 2) 64 < 64)) = true := by kernel_rfl
 have := List.all_eq_true.1 key t (List.mem_range.2 h)
 rwa [Bool.and_eq_true, decide_eq_true_iff, decide_eq_true_iff] at this
def rperm_l2_s (a : Nat → Int) (x4 : Nat) (x3 : Int) (o1_0 : Nat → Int) (x6 : Nat) : (Nat → Int) → (Nat → Int) := fun o5_0 => upd o5_0 x6 (ixor .u64 (ixor .u64 (ixor .u64 (ixor .u64 (o1_0 x6) (o1_0 (x6 + 5))) (o1_0 (x6 + 10))) (o1_0 (x6 + 15))) (o1_0 (x6 + 20)))
def rperm_l2 (a : Nat → Int) (x4 : Nat) (x3 : Int) (o1_0 : Nat → Int) : Nat → (Nat → Int)
 | 0 => fun _ => 0
 | x6 + 1 => rperm_l2_s a x4 x3 o1_0 x6 (rperm_l2 a x4 x3 o1_0 x6)
def rperm_l4_s (a : Nat → Int) (x4 : Nat) (x3 : Int) (o1_0 : Nat → Int) (x7 : Nat) (o1_0_3 : Nat → Int) (x9 : Nat) : (Nat → Int) → (Nat → Int) := fun o1_0_4 => upd o1_0_4 (x7 + (5 * x9)) (ixor .u64 (o1_0_4 (x7 + (5 * x9))) (ixor .u64 ((rperm_l2 a x4 x3 o1_0 5) ((x7 + 4) % 5)) (ior .u64 (ishl .u64 ((rperm_l2 a x4 x3 o1_0 5) ((x7 + 1) % 5)) 1) (ishr .u64 ((rperm_l2 a x4 x3 o1_0 5) ((x7 + 1) % 5)) 63))))
def rperm_l4 (a : Nat → Int) (x4 : Nat) (x3 : Int) (o1_0 : Nat → Int) (x7 : Nat) (o1_0_3 : Nat → Int) : Nat → (Nat → Int)
 | 0 => o1_0_3
 | x9 + 1 => rperm_l4_s a x4 x3 o1_0 x7 o1_0_3 x9 (rperm_l4 a x4 x3 o1_0 x7 o1_0_3 x9)
def rperm_l3_s (a : Nat → Int) (x4 : Nat) (x3 : Int) (o1_0 : Nat → Int) (x7 : Nat) : (Nat → Int) → (Nat → Int) := fun o1_0_3 => rperm_l4 a x4 x3 o1_0 x7 o1_0_3 5
def rperm_l3 (a : Nat → Int) (x4 : Nat) (x3 : Int) (o1_0 : Nat → Int) : Nat → (Nat → Int)
 | 0 => o1_0
 | x7 + 1 => rperm_l3_s a x4 x3 o1_0 x7 (rperm_l3 a x4 x3 o1_0 x7)
def rperm_l5_s (a : Nat → Int) (x4 : Nat) (x3 : Int) (o1_0 : Nat → Int) (x13 : Nat) : (Nat × Nat × (Nat → Int)) → (Nat × Nat × (Nat → Int)) := fun z_ => match z_ with | (x11, x12, o10_0) => (x12, ((2 * x11) + (3 * x12)) % 5, upd o10_0 (x12 + (5 * (((2 * x11) + (3 * x12)) % 5))) (ior .u64 (ishl .u64 ((rperm_l3 a x4 x3 o1_0 5) (x11 + (5 * x12))) (irem (iquo .i64 (imul .i64 ((x13 + 1 : Nat) : Int) ((x13 + 2 : Nat) : Int)) 2) 64)) (ishr .u64 ((rperm_l3 a x4 x3 o1_0 5) (x11 + (5 * x12))) (64 - (irem (iquo .i64 (imul .i64 ((x13 + 1 : Nat) : Int) ((x13 + 2 : Nat) : Int)) 2) 64)))))
def rperm_l5 (a : Nat → Int) (x4 : Nat) (x3 : Int) (o1_0 : Nat → Int) : Nat → Nat × Nat × (Nat → Int)
 | 0 => (1, 0, upd (fun _ => 0) 0 ((rperm_l3 a x4 x3 o1_0 5) 0))
 | x13 + 1 => rperm_l5_s a x4 x3 o1_0 x13 (rperm_l5 a x4 x3 o1_0 x13)
def rperm_l7_s (a : Nat → Int) (x4 : Nat) (x3 : Int) (o1_0 : Nat → Int) (x17 : Nat) (o1_0_6 : Nat → Int) (x18 : Nat) : (Nat → Int) → (Nat → Int) := fun o1_0_7 => upd o1_0_7 (x18 + (5 * x17)) (ixor .u64 (((rperm_l5 a x4 x3 o1_0 24).2.2) (x18 + (5 * x17))) (iand .u64 (inot .u64 (((rperm_l5 a x4 x3 o1_0 24).2.2) (((x18 + 1) % 5) + (5 * x17)))) (((rperm_l5 a x4 x3 o1_0 24).2.2) (((x18 + 2) % 5) + (5 * x17)))))
def rperm_l7 (a : Nat → Int) (x4 : Nat) (x3 : Int) (o1_0 : Nat → Int) (x17 : Nat) (o1_0_6 : Nat → Int) : Nat → (Nat → Int)
 | 0 => o1_0_6
 | x18 + 1 => rperm_l7_s a x4 x3 o1_0 x17 o1_0_6 x18 (rperm_l7 a x4 x3 o1_0 x17 o1_0_6 x18)
def rperm_l6_s (a : Nat → Int) (x4 : Nat) (x3 : Int) (o1_0 : Nat → Int) (x17 : Nat) : (Nat → Int) → (Nat → Int) := fun o1_0_6 => rperm_l7 a x4 x3 o1_0 x17 o1_0_6 5
def rperm_l6 (a : Nat → Int) (x4 : Nat) (x3 : Int) (o1_0 : Nat → Int) : Nat → (Nat → Int)
 | 0 => rperm_l3 a x4 x3 o1_0 5
 | x17 + 1 => rperm_l6_s a x4 x3 o1_0 x17 (rperm_l6 a x4 x3 o1_0 x17)
def rperm_l8_s (a : Nat → Int) (x4 : Nat) (x3 : Int) (o1_0 : Nat → Int) (x19 : Nat) : (Int × (Nat → Int)) → (Int × (Nat → Int)) := fun z_ => match z_ with | (x3_8, o1_0_8) => if (iand .u8 x3_8 1) = 1 then (if (ishr .u8 x3_8 7) = 1 then ((ixor .u8 (ishl .u8 x3_8 1) 113), upd o1_0_8 0 (ixor .u64 (o1_0_8 0) (ishl .u64 1 (isub .u64 (ishl .u64 1 (x19 : Int)) 1)))) else ((ishl .u8 x3_8 1), upd o1_0_8 0 (ixor .u64 (o1_0_8 0) (ishl .u64 1 (isub .u64 (ishl .u64 1 (x19 : Int)) 1))))) else (if (ishr .u8 x3_8 7) = 1 then ((ixor .u8 (ishl .u8 x3_8 1) 113), o1_0_8) else ((ishl .u8 x3_8 1), o1_0_8))
def rperm_l8 (a : Nat → Int) (x4 : Nat) (x3 : Int) (o1_0 : Nat → Int) : Nat → Int × (Nat → Int)
 | 0 => (x3, rperm_l6 a x4 x3 o1_0 5)
 | x19 + 1 => rperm_l8_s a x4 x3 o1_0 x19 (rperm_l8 a x4 x3 o1_0 x19)
def rperm_l1_s (a : Nat → Int) (x4 : Nat) : (Int × (Nat → Int)) → (Int × (Nat → Int)) := fun z_ => match z_ with | (x3, o1_0) => (((rperm_l8 a x4 x3 o1_0 7).1), (rperm_l8 a x4 x3 o1_0 7).2)
def rperm_l1 (a : Nat → Int) : Nat → Int × (Nat → Int)
 | 0 => (1, a)
 | x4 + 1 => rperm_l1_s a x4 (rperm_l1 a x4)
def rperm_v (a : Nat → Int) : (Nat → Int) := (rperm_l1 a 24).2
def rperm_m (a : Nat → Int) : (Nat → Int) := shut (rperm_v a)
theorem rperm_e (a : Nat → Int) : rperm_m a = rperm_v a := shut_eq _
def c_rperm (a : Nat → Int) : Con := ⟨[.ar .u64 25 a], [], .ar .u64 25 (rperm_m a), []⟩
theorem rperm_ok (a : Nat → Int) : ConOk Try.prog 96 (c_rperm a) := by
 refine conOk_of rfl (nb := 0) Try.func96 rfl rfl Try.ntmps96 rfl rfl rfl fun g0 w0 ac gs ws hg0 hS => ?_
 have hS := hS.sp
 refine s0 [1, 2] [0, 1] 2 hS fun hS => ?_
 refine s0 [1, 2, 3] [0, 1] 2 hS fun hS => ?_
 refine wp_seq (s0 [1, 2, 3, 4] [0, 1] 2 hS fun hS => ?_)
 refine wp_block (loop_y (ι := Nat × Int × (Nat → Int)) hg0 hS (fun z_ => match z_ with | (x4, x3, o1_0) => 24 - x4) (fun z_ => match z_ with | (x4, x3, o1_0) => [(1, .cp 0 0), (2, .cp 1 0), (3, .v (.int .u8 x3)), (4, vi ((x4 : Nat) : Int))]) (fun z_ => match z_ with | (x4, x3, o1_0) => [(0, .ob 137 (chain [.ar .u64 25 o1_0])), (1, .ob 137 (chain [.ar .u64 25 (fun _ => 0)]))]) (fun z_ => match z_ with | (x4, x3, o1_0) => (x4 ≤ 24) ∧ ((x3, o1_0) = rperm_l1 a x4) ∧ True) 2 (0, 1, a) [(0, 0), (1, 1)] ⟨omm, rfl, trivial⟩ ?_)
 rintro ⟨x4, x3, o1_0⟩ ac gs ws ⟨hx4, hq1, _⟩ hS
 refine wp_seq (s0 [1, 2, 3, 4, 22] [0, 1] 2 hS fun hS => ?_)
 refine if_d ((x4 : Int) < 24) hS (fun h1 => ?_) (fun h1 => ?_)
 ·refine wp_skip (then_n (wp_seq (wp_block (s0 [1, 2, 3, 4, 5] [0, 1, 2] 3 hS fun hS => ?_))))
  refine wp_seq (s0 [1, 2, 3, 4, 5, 6] [0, 1, 2] 3 hS fun hS => ?_)
  refine wp_block (loop_y (ι := Nat × (Nat → Int)) hg0 hS (fun z_ => match z_ with | (x6, o5_0) => 5 - x6) (fun z_ => match z_ with | (x6, o5_0) => [(1, .cp 0 0), (2, .cp 1 0), (3, .v (.int .u8 x3)), (4, vi (x4 : Int)), (5, .cp 2 0), (6, vi ((x6 : Nat) : Int))]) (fun z_ => match z_ with | (x6, o5_0) => [(0, .ob 137 (chain [.ar .u64 25 o1_0])), (1, .ob 137 (chain [.ar .u64 25 (fun _ => 0)])), (2, .ob 154 (chain [.ar .u64 5 o5_0]))]) (fun z_ => match z_ with | (x6, o5_0) => (x6 ≤ 5) ∧ (o5_0 = rperm_l2 a x4 x3 o1_0 x6) ∧ True) 3 (0, fun _ => 0) [(0, 0), (1, 1), (2, 2)] ⟨omm, rfl, trivial⟩ ?_)
  rintro ⟨x6, o5_0⟩ ac gs ws ⟨hx6, hq2, _⟩ hS
  refine wp_seq (s0 [1, 2, 3, 4, 5, 6, 26] [0, 1, 2] 3 hS fun hS => ?_)
  refine if_d ((x6 : Int) < 5) hS (fun h2 => ?_) (fun h2 => ?_)
  ·refine wp_skip (then_n (wp_seq (wp_block (rA [(5, .oi ((x6 + 5 : Nat) : Int)), (10, .oi ((x6 + 10 : Nat) : Int)), (15, .oi ((x6 + 15 : Nat) : Int)), (20, .oi ((x6 + 20 : Nat) : Int))] trivial (fun _ => [(0 : Int) ≤ (x6 : Int) ∧ ((x6 : Int) : Int) < 25, iadd .i64 (x6 : Int) 5 = ((x6 + 5 : Nat) : Int), (0 : Int) ≤ ((x6 + 5 : Nat) : Int) ∧ (((x6 + 5 : Nat) : Int) : Int) < 25, iadd .i64 (x6 : Int) 10 = ((x6 + 10 : Nat) : Int), (0 : Int) ≤ ((x6 + 10 : Nat) : Int) ∧ (((x6 + 10 : Nat) : Int) : Int) < 25, iadd .i64 (x6 : Int) 15 = ((x6 + 15 : Nat) : Int), (0 : Int) ≤ ((x6 + 15 : Nat) : Int) ∧ (((x6 + 15 : Nat) : Int) : Int) < 25, iadd .i64 (x6 : Int) 20 = ((x6 + 20 : Nat) : Int), (0 : Int) ≤ ((x6 + 20 : Nat) : Int) ∧ (((x6 + 20 : Nat) : Int) : Int) < 25, (0 : Int) ≤ (x6 : Int) ∧ ((x6 : Int) : Int) < 5]) [1, 2, 3, 4, 5, 6] [0, 1, 2] 3 ⟨by omega, by rw [iadd64 omm omm]; omega, by omega, by rw [iadd64 omm omm]; omega, by omega, by rw [iadd64 omm omm]; omega, by omega, by rw [iadd64 omm omm]; omega, by omega, by omega, trivial⟩ hS fun hS => ?_))))
   refine block_n (then_n (rA [(1, .oi ((x6 + 1 : Nat) : Int))] trivial (fun _ => [iadd .i64 (x6 : Int) 1 = ((x6 + 1 : Nat) : Int)]) [1, 2, 3, 4, 5, 6] [0, 1, 2] 3 ⟨by rw [iadd64 omm omm]; omega, trivial⟩ hS fun hS => ?_))
   refine then_n ?_
   exact next_y hg0 hS (s := (x6, o5_0)) (x6 + 1, upd o5_0 x6 (ixor .u64 (ixor .u64 (ixor .u64 (ixor .u64 (o1_0 x6) (o1_0 (x6 + 5))) (o1_0 (x6 + 10))) (o1_0 (x6 + 15))) (o1_0 (x6 + 20)))) [(0, 0), (1, 1), (2, 2)] (show 5 - (x6 + 1) < 5 - x6 from by omega) ⟨omm, (it_next (F := rperm_l2 a x4 x3 o1_0) (st := rperm_l2_s a x4 x3 o1_0) (fun _ => rfl) hq2 rfl), trivial⟩
  ·have hScur := hS
   obtain rfl : 5 = x6 := by omega
   obtain rfl : rperm_l2 a x4 x3 o1_0 5 = o5_0 := Eq.symm (congrArg (fun z => z) hq2)
   have hS := hScur
   clear hScur
   refine wp_exit (then_exit (then_exit (block_exit (then_n (wp_seq (s0 [1, 2, 3, 4, 5, 7] [0, 1, 2] 3 hS fun hS => ?_))))))
   refine wp_block (loop_y (ι := Nat × (Nat → Int)) hg0 hS (fun z_ => match z_ with | (x7, o1_0_3) => 5 - x7) (fun z_ => match z_ with | (x7, o1_0_3) => [(1, .cp 0 0), (2, .cp 1 0), (3, .v (.int .u8 x3)), (4, vi (x4 : Int)), (5, .cp 2 0), (7, vi ((x7 : Nat) : Int))]) (fun z_ => match z_ with | (x7, o1_0_3) => [(0, .ob 137 (chain [.ar .u64 25 o1_0_3])), (1, .ob 137 (chain [.ar .u64 25 (fun _ => 0)])), (2, .ob 154 (chain [.ar .u64 5 (rperm_l2 a x4 x3 o1_0 5)]))]) (fun z_ => match z_ with | (x7, o1_0_3) => (x7 ≤ 5) ∧ (o1_0_3 = rperm_l3 a x4 x3 o1_0 x7) ∧ True) 3 (0, o1_0) [(0, 0), (1, 1), (2, 2)] ⟨omm, rfl, trivial⟩ ?_)
   rintro ⟨x7, o1_0_3⟩ ac gs ws ⟨hx7, hq3, _⟩ hS
   refine wp_seq (s0 [1, 2, 3, 4, 5, 7, 55] [0, 1, 2] 3 hS fun hS => ?_)
   refine if_d ((x7 : Int) < 5) hS (fun h3 => ?_) (fun h3 => ?_)
   ·refine wp_skip (then_n (wp_seq (wp_block (sA [(1, .oi ((x7 + 4 : Nat) : Int)), (2, .oi (((x7 + 4) % 5 : Nat) : Int)), (6, .oi ((x7 + 1 : Nat) : Int)), (7, .oi (((x7 + 1) % 5 : Nat) : Int)), (12, .oi ((x7 + 1 : Nat) : Int)), (13, .oi (((x7 + 1) % 5 : Nat) : Int))] trivial (fun _ => [iadd .i64 (x7 : Int) 4 = ((x7 + 4 : Nat) : Int), irem ((x7 + 4 : Nat) : Int) 5 = (((x7 + 4) % 5 : Nat) : Int), (5 : Int) ≠ 0, (0 : Int) ≤ (((x7 + 4) % 5 : Nat) : Int) ∧ ((((x7 + 4) % 5 : Nat) : Int) : Int) < 5, iadd .i64 (x7 : Int) 1 = ((x7 + 1 : Nat) : Int), irem ((x7 + 1 : Nat) : Int) 5 = (((x7 + 1) % 5 : Nat) : Int), (5 : Int) ≠ 0, (0 : Int) ≤ (((x7 + 1) % 5 : Nat) : Int) ∧ ((((x7 + 1) % 5 : Nat) : Int) : Int) < 5, (0 : Int) ≤ 1, iadd .i64 (x7 : Int) 1 = ((x7 + 1 : Nat) : Int), irem ((x7 + 1 : Nat) : Int) 5 = (((x7 + 1) % 5 : Nat) : Int), (5 : Int) ≠ 0, (0 : Int) ≤ (((x7 + 1) % 5 : Nat) : Int) ∧ ((((x7 + 1) % 5 : Nat) : Int) : Int) < 5, (0 : Int) ≤ 63]) [1, 2, 3, 4, 5, 7, 8] [0, 1, 2] 3 ⟨by rw [iadd64 omm omm]; omega, by rw [irem64 omm]; omega, by omega, by omega, by rw [iadd64 omm omm]; omega, by rw [irem64 omm]; omega, by omega, by omega, by omega, by rw [iadd64 omm omm]; omega, by rw [irem64 omm]; omega, by omega, by omega, by omega, trivial⟩ hS fun hS => ?_))))
    refine s0 [1, 2, 3, 4, 5, 7, 8, 9] [0, 1, 2] 3 hS fun hS => ?_
    refine wp_block (loop_y (ι := Nat × (Nat → Int)) hg0 hS (fun z_ => match z_ with | (x9, o1_0_4) => 5 - x9) (fun z_ => match z_ with | (x9, o1_0_4) => [(1, .cp 0 0), (2, .cp 1 0), (3, .v (.int .u8 x3)), (4, vi (x4 : Int)), (5, .cp 2 0), (7, vi (x7 : Int)), (8, .v (.int .u64 (ixor .u64 ((rperm_l2 a x4 x3 o1_0 5) ((x7 + 4) % 5)) (ior .u64 (ishl .u64 ((rperm_l2 a x4 x3 o1_0 5) ((x7 + 1) % 5)) 1) (ishr .u64 ((rperm_l2 a x4 x3 o1_0 5) ((x7 + 1) % 5)) 63))))), (9, vi ((x9 : Nat) : Int))]) (fun z_ => match z_ with | (x9, o1_0_4) => [(0, .ob 137 (chain [.ar .u64 25 o1_0_4])), (1, .ob 137 (chain [.ar .u64 25 (fun _ => 0)])), (2, .ob 154 (chain [.ar .u64 5 (rperm_l2 a x4 x3 o1_0 5)]))]) (fun z_ => match z_ with | (x9, o1_0_4) => (x9 ≤ 5) ∧ (o1_0_4 = rperm_l4 a x4 x3 o1_0 x7 o1_0_3 x9) ∧ True) 3 (0, o1_0_3) [(0, 0), (1, 1), (2, 2)] ⟨omm, rfl, trivial⟩ ?_)
    rintro ⟨x9, o1_0_4⟩ ac gs ws ⟨hx9, hq4, _⟩ hS
    refine wp_seq (s0 [1, 2, 3, 4, 5, 7, 8, 9, 78] [0, 1, 2] 3 hS fun hS => ?_)
    refine if_d ((x9 : Int) < 5) hS (fun h4 => ?_) (fun h4 => ?_)
    ·refine wp_skip (then_n (wp_seq (wp_block (rA [(2, .oi ((5 * x9 : Nat) : Int)), (3, .oi ((x7 + (5 * x9) : Nat) : Int)), (6, .oi ((5 * x9 : Nat) : Int)), (7, .oi ((x7 + (5 * x9) : Nat) : Int))] trivial (fun _ => [imul .i64 5 (x9 : Int) = ((5 * x9 : Nat) : Int), iadd .i64 (x7 : Int) ((5 * x9 : Nat) : Int) = ((x7 + (5 * x9) : Nat) : Int), imul .i64 5 (x9 : Int) = ((5 * x9 : Nat) : Int), iadd .i64 (x7 : Int) ((5 * x9 : Nat) : Int) = ((x7 + (5 * x9) : Nat) : Int), (0 : Int) ≤ ((x7 + (5 * x9) : Nat) : Int) ∧ (((x7 + (5 * x9) : Nat) : Int) : Int) < 25, (0 : Int) ≤ ((x7 + (5 * x9) : Nat) : Int) ∧ (((x7 + (5 * x9) : Nat) : Int) : Int) < 25]) [1, 2, 3, 4, 5, 7, 8, 9] [0, 1, 2] 3 ⟨by rw [imul64 omm omm]; omega, by rw [iadd64 omm omm]; omega, by rw [imul64 omm omm]; omega, by rw [iadd64 omm omm]; omega, by omega, by omega, trivial⟩ hS fun hS => ?_))))
     refine block_n (then_n (rA [(1, .oi ((x9 + 1 : Nat) : Int))] trivial (fun _ => [iadd .i64 (x9 : Int) 1 = ((x9 + 1 : Nat) : Int)]) [1, 2, 3, 4, 5, 7, 8, 9] [0, 1, 2] 3 ⟨by rw [iadd64 omm omm]; omega, trivial⟩ hS fun hS => ?_))
     refine then_n ?_
     exact next_y hg0 hS (s := (x9, o1_0_4)) (x9 + 1, upd o1_0_4 (x7 + (5 * x9)) (ixor .u64 (o1_0_4 (x7 + (5 * x9))) (ixor .u64 ((rperm_l2 a x4 x3 o1_0 5) ((x7 + 4) % 5)) (ior .u64 (ishl .u64 ((rperm_l2 a x4 x3 o1_0 5) ((x7 + 1) % 5)) 1) (ishr .u64 ((rperm_l2 a x4 x3 o1_0 5) ((x7 + 1) % 5)) 63))))) [(0, 0), (1, 1), (2, 2)] (show 5 - (x9 + 1) < 5 - x9 from by omega) ⟨omm, (it_next (F := rperm_l4 a x4 x3 o1_0 x7 o1_0_3) (st := rperm_l4_s a x4 x3 o1_0 x7 o1_0_3) (fun _ => rfl) hq4 rfl), trivial⟩
    ·have hScur := hS
     obtain rfl : 5 = x9 := by omega
     obtain rfl : rperm_l4 a x4 x3 o1_0 x7 o1_0_3 5 = o1_0_4 := Eq.symm (congrArg (fun z => z) hq4)
     have hS := hScur
     clear hScur
     refine wp_exit (then_exit (then_exit (block_exit (block_n (then_n (rA [(1, .oi ((x7 + 1 : Nat) : Int))] trivial (fun _ => [iadd .i64 (x7 : Int) 1 = ((x7 + 1 : Nat) : Int)]) [1, 2, 3, 4, 5, 7] [0, 1, 2] 3 ⟨by rw [iadd64 omm omm]; omega, trivial⟩ hS fun hS => ?_))))))
     refine then_n ?_
     exact next_y hg0 hS (s := (x7, o1_0_3)) (x7 + 1, rperm_l4 a x4 x3 o1_0 x7 o1_0_3 5) [(0, 0), (1, 1), (2, 2)] (show 5 - (x7 + 1) < 5 - x7 from by omega) ⟨omm, (it_next (F := rperm_l3 a x4 x3 o1_0) (st := rperm_l3_s a x4 x3 o1_0) (fun _ => rfl) hq3 rfl), trivial⟩
   ·have hScur := hS
    obtain rfl : 5 = x7 := by omega
    obtain rfl : rperm_l3 a x4 x3 o1_0 5 = o1_0_3 := Eq.symm (congrArg (fun z => z) hq3)
    have hS := hScur
    clear hScur
    refine wp_exit (then_exit (then_exit (block_exit (then_n (s0 [1, 2, 3, 4, 10] [0, 1, 3] 4 hS fun hS => ?_)))))
    refine sA [] trivial (fun _ => [(0 : Int) ≤ 0 ∧ (0 : Int) < 25, (0 : Int) ≤ 0 ∧ (0 : Int) < 25]) [1, 2, 3, 4, 10] [0, 1, 3] 4 ⟨by omega, by omega, trivial⟩ hS fun hS => ?_
    refine s0 [1, 2, 3, 4, 10, 11, 12] [0, 1, 3] 4 hS fun hS => ?_
    refine wp_seq (s0 [1, 2, 3, 4, 10, 11, 12, 13] [0, 1, 3] 4 hS fun hS => ?_)
    refine wp_block (loop_y (ι := Nat × Nat × Nat × (Nat → Int)) hg0 hS (fun z_ => match z_ with | (x13, x11, x12, o10_0) => 24 - x13) (fun z_ => match z_ with | (x13, x11, x12, o10_0) => [(1, .cp 0 0), (2, .cp 1 0), (3, .v (.int .u8 x3)), (4, vi (x4 : Int)), (10, .cp 3 0), (11, vi ((x11 : Nat) : Int)), (12, vi ((x12 : Nat) : Int)), (13, vi ((x13 : Nat) : Int))]) (fun z_ => match z_ with | (x13, x11, x12, o10_0) => [(0, .ob 137 (chain [.ar .u64 25 (rperm_l3 a x4 x3 o1_0 5)])), (1, .ob 137 (chain [.ar .u64 25 (fun _ => 0)])), (3, .ob 137 (chain [.ar .u64 25 o10_0]))]) (fun z_ => match z_ with | (x13, x11, x12, o10_0) => (x13 ≤ 24) ∧ ((x11, x12, o10_0) = rperm_l5 a x4 x3 o1_0 x13) ∧ (x11 < 5 ∧ x12 < 5) ∧ True) 4 (0, 1, 0, upd (fun _ => 0) 0 ((rperm_l3 a x4 x3 o1_0 5) 0)) [(0, 0), (1, 1), (3, 3)] ⟨omm, rfl, omm, trivial⟩ ?_)
    rintro ⟨x13, x11, x12, o10_0⟩ ac gs ws ⟨hx13, hq5, p5, _⟩ hS
    refine wp_seq (s0 [1, 2, 3, 4, 10, 11, 12, 13, 98] [0, 1, 3] 4 hS fun hS => ?_)
    refine if_d ((x13 : Int) < 24) hS (fun h5 => ?_) (fun h5 => ?_)
    ·refine wp_skip (then_n (wp_seq (wp_block (sA [(1, .oi ((x13 + 1 : Nat) : Int)), (3, .oi ((x13 + 2 : Nat) : Int))] trivial (fun _ => [iadd .i64 (x13 : Int) 1 = ((x13 + 1 : Nat) : Int), iadd .i64 (x13 : Int) 2 = ((x13 + 2 : Nat) : Int), (2 : Int) ≠ 0, (64 : Int) ≠ 0]) [1, 2, 3, 4, 10, 11, 12, 13, 14] [0, 1, 3] 4 ⟨by rw [iadd64 omm omm]; omega, by rw [iadd64 omm omm]; omega, by omega, by omega, trivial⟩ hS fun hS => ?_))))
     refine sA [(2, .oi ((5 * x12 : Nat) : Int)), (3, .oi ((x11 + (5 * x12) : Nat) : Int))] trivial (fun _ => [imul .i64 5 (x12 : Int) = ((5 * x12 : Nat) : Int), iadd .i64 (x11 : Int) ((5 * x12 : Nat) : Int) = ((x11 + (5 * x12) : Nat) : Int), (0 : Int) ≤ ((x11 + (5 * x12) : Nat) : Int) ∧ (((x11 + (5 * x12) : Nat) : Int) : Int) < 25]) [1, 2, 3, 4, 10, 11, 12, 13, 14, 15] [0, 1, 3] 4 ⟨by rw [imul64 omm omm]; omega, by rw [iadd64 omm omm]; omega, by omega, trivial⟩ hS fun hS => ?_
     refine s0 [1, 2, 3, 4, 10, 11, 12, 13, 14, 15, 16] [0, 1, 3] 4 hS fun hS => ?_
     refine wp_seq (wp_seq ?_)
     have hn := rn_ok x13 omm
     have hn1 : (0 : Int) < (irem (iquo .i64 (imul .i64 ((x13 + 1 : Nat) : Int) ((x13 + 2 : Nat) : Int)) 2) 64) := hn.1
     refine rA [(1, .ob true)] trivial (fun _ => [(decide ((0 : Int) < (irem (iquo .i64 (imul .i64 ((x13 + 1 : Nat) : Int) ((x13 + 2 : Nat) : Int)) 2) 64))) = true]) [1, 2, 3, 4, 10, 11, 12, 13, 14, 15, 16, 116] [0, 1, 3] 4 ⟨decide_eq_true hn1, trivial⟩ hS fun hS => ?_
     refine then_n (cond_t hS ?_)
     refine rA [(5, .oi (64 - (irem (iquo .i64 (imul .i64 ((x13 + 1 : Nat) : Int) ((x13 + 2 : Nat) : Int)) 2) 64)))] trivial (fun _ => [(0 : Int) ≤ (irem (iquo .i64 (imul .i64 ((x13 + 1 : Nat) : Int) ((x13 + 2 : Nat) : Int)) 2) 64), isub .i64 64 (irem (iquo .i64 (imul .i64 ((x13 + 1 : Nat) : Int) ((x13 + 2 : Nat) : Int)) 2) 64) = (64 - (irem (iquo .i64 (imul .i64 ((x13 + 1 : Nat) : Int) ((x13 + 2 : Nat) : Int)) 2) 64)), (0 : Int) ≤ (64 - (irem (iquo .i64 (imul .i64 ((x13 + 1 : Nat) : Int) ((x13 + 2 : Nat) : Int)) 2) 64))]) [1, 2, 3, 4, 10, 11, 12, 13, 16] [0, 1, 3] 4 ⟨by omega, isub64 omm omm, by omega, trivial⟩ hS fun hS => ?_
     refine then_n (sA [(2, .oi ((2 * x11 : Nat) : Int)), (4, .oi ((3 * x12 : Nat) : Int)), (5, .oi (((2 * x11) + (3 * x12) : Nat) : Int)), (6, .oi ((((2 * x11) + (3 * x12)) % 5 : Nat) : Int)), (7, .oi ((5 * (((2 * x11) + (3 * x12)) % 5) : Nat) : Int)), (8, .oi ((x12 + (5 * (((2 * x11) + (3 * x12)) % 5)) : Nat) : Int))] trivial (fun _ => [imul .i64 2 (x11 : Int) = ((2 * x11 : Nat) : Int), imul .i64 3 (x12 : Int) = ((3 * x12 : Nat) : Int), iadd .i64 ((2 * x11 : Nat) : Int) ((3 * x12 : Nat) : Int) = (((2 * x11) + (3 * x12) : Nat) : Int), irem (((2 * x11) + (3 * x12) : Nat) : Int) 5 = ((((2 * x11) + (3 * x12)) % 5 : Nat) : Int), (5 : Int) ≠ 0, imul .i64 5 ((((2 * x11) + (3 * x12)) % 5 : Nat) : Int) = ((5 * (((2 * x11) + (3 * x12)) % 5) : Nat) : Int), iadd .i64 (x12 : Int) ((5 * (((2 * x11) + (3 * x12)) % 5) : Nat) : Int) = ((x12 + (5 * (((2 * x11) + (3 * x12)) % 5)) : Nat) : Int), (0 : Int) ≤ ((x12 + (5 * (((2 * x11) + (3 * x12)) % 5)) : Nat) : Int) ∧ (((x12 + (5 * (((2 * x11) + (3 * x12)) % 5)) : Nat) : Int) : Int) < 25]) [1, 2, 3, 4, 10, 11, 12, 13] [0, 1, 3] 4 ⟨by rw [imul64 omm omm]; omega, by rw [imul64 omm omm]; omega, by rw [iadd64 omm omm]; omega, by rw [irem64 omm]; omega, by omega, by rw [imul64 omm omm]; omega, by rw [iadd64 omm omm]; omega, by omega, trivial⟩ hS fun hS => ?_)
     refine rA [(2, .oi ((2 * x11 : Nat) : Int)), (4, .oi ((3 * x12 : Nat) : Int)), (5, .oi (((2 * x11) + (3 * x12) : Nat) : Int)), (6, .oi ((((2 * x11) + (3 * x12)) % 5 : Nat) : Int))] trivial (fun _ => [imul .i64 2 (x11 : Int) = ((2 * x11 : Nat) : Int), imul .i64 3 (x12 : Int) = ((3 * x12 : Nat) : Int), iadd .i64 ((2 * x11 : Nat) : Int) ((3 * x12 : Nat) : Int) = (((2 * x11) + (3 * x12) : Nat) : Int), irem (((2 * x11) + (3 * x12) : Nat) : Int) 5 = ((((2 * x11) + (3 * x12)) % 5 : Nat) : Int), (5 : Int) ≠ 0]) [1, 2, 3, 4, 10, 11, 12, 13] [0, 1, 3] 4 ⟨by rw [imul64 omm omm]; omega, by rw [imul64 omm omm]; omega, by rw [iadd64 omm omm]; omega, by rw [irem64 omm]; omega, by omega, trivial⟩ hS fun hS => ?_
     refine block_n (then_n (rA [(1, .oi ((x13 + 1 : Nat) : Int))] trivial (fun _ => [iadd .i64 (x13 : Int) 1 = ((x13 + 1 : Nat) : Int)]) [1, 2, 3, 4, 10, 11, 12, 13] [0, 1, 3] 4 ⟨by rw [iadd64 omm omm]; omega, trivial⟩ hS fun hS => ?_))
     refine then_n ?_
     exact next_y hg0 hS (s := (x13, x11, x12, o10_0)) (x13 + 1, x12, ((2 * x11) + (3 * x12)) % 5, upd o10_0 (x12 + (5 * (((2 * x11) + (3 * x12)) % 5))) (ior .u64 (ishl .u64 ((rperm_l3 a x4 x3 o1_0 5) (x11 + (5 * x12))) (irem (iquo .i64 (imul .i64 ((x13 + 1 : Nat) : Int) ((x13 + 2 : Nat) : Int)) 2) 64)) (ishr .u64 ((rperm_l3 a x4 x3 o1_0 5) (x11 + (5 * x12))) (64 - (irem (iquo .i64 (imul .i64 ((x13 + 1 : Nat) : Int) ((x13 + 2 : Nat) : Int)) 2) 64))))) [(0, 0), (1, 1), (3, 3)] (show 24 - (x13 + 1) < 24 - x13 from by omega) ⟨omm, (it_next (F := rperm_l5 a x4 x3 o1_0) (st := rperm_l5_s a x4 x3 o1_0) (fun _ => rfl) hq5 rfl), omm, trivial⟩
    ·have hScur := hS
     obtain rfl : 24 = x13 := by omega
     obtain rfl : (rperm_l5 a x4 x3 o1_0 24).1 = x11 := Eq.symm (congrArg (fun z => z.1) hq5)
     obtain rfl : (rperm_l5 a x4 x3 o1_0 24).2.1 = x12 := Eq.symm (congrArg (fun z => z.2.1) hq5)
     obtain rfl : (rperm_l5 a x4 x3 o1_0 24).2.2 = o10_0 := Eq.symm (congrArg (fun z => z.2.2) hq5)
     have hS := hScur
     clear hScur
     refine wp_exit (then_exit (then_exit (block_exit (then_n (wp_seq (s0 [1, 2, 3, 4, 10, 17] [0, 1, 3] 4 hS fun hS => ?_))))))
     refine wp_block (loop_y (ι := Nat × (Nat → Int)) hg0 hS (fun z_ => match z_ with | (x17, o1_0_6) => 5 - x17) (fun z_ => match z_ with | (x17, o1_0_6) => [(1, .cp 0 0), (2, .cp 1 0), (3, .v (.int .u8 x3)), (4, vi (x4 : Int)), (10, .cp 3 0), (17, vi ((x17 : Nat) : Int))]) (fun z_ => match z_ with | (x17, o1_0_6) => [(0, .ob 137 (chain [.ar .u64 25 o1_0_6])), (1, .ob 137 (chain [.ar .u64 25 (fun _ => 0)])), (3, .ob 137 (chain [.ar .u64 25 ((rperm_l5 a x4 x3 o1_0 24).2.2)]))]) (fun z_ => match z_ with | (x17, o1_0_6) => (x17 ≤ 5) ∧ (o1_0_6 = rperm_l6 a x4 x3 o1_0 x17) ∧ True) 4 (0, rperm_l3 a x4 x3 o1_0 5) [(0, 0), (1, 1), (3, 3)] ⟨omm, rfl, trivial⟩ ?_)
     rintro ⟨x17, o1_0_6⟩ ac gs ws ⟨hx17, hq6, _⟩ hS
     refine wp_seq (s0 [1, 2, 3, 4, 10, 17, 144] [0, 1, 3] 4 hS fun hS => ?_)
     refine if_d ((x17 : Int) < 5) hS (fun h6 => ?_) (fun h6 => ?_)
     ·refine wp_skip (then_n (wp_seq (wp_block (s0 [1, 2, 3, 4, 10, 17, 18] [0, 1, 3] 4 hS fun hS => ?_))))
      refine wp_block (loop_y (ι := Nat × (Nat → Int)) hg0 hS (fun z_ => match z_ with | (x18, o1_0_7) => 5 - x18) (fun z_ => match z_ with | (x18, o1_0_7) => [(1, .cp 0 0), (2, .cp 1 0), (3, .v (.int .u8 x3)), (4, vi (x4 : Int)), (10, .cp 3 0), (17, vi (x17 : Int)), (18, vi ((x18 : Nat) : Int))]) (fun z_ => match z_ with | (x18, o1_0_7) => [(0, .ob 137 (chain [.ar .u64 25 o1_0_7])), (1, .ob 137 (chain [.ar .u64 25 (fun _ => 0)])), (3, .ob 137 (chain [.ar .u64 25 ((rperm_l5 a x4 x3 o1_0 24).2.2)]))]) (fun z_ => match z_ with | (x18, o1_0_7) => (x18 ≤ 5) ∧ (o1_0_7 = rperm_l7 a x4 x3 o1_0 x17 o1_0_6 x18) ∧ True) 4 (0, o1_0_6) [(0, 0), (1, 1), (3, 3)] ⟨omm, rfl, trivial⟩ ?_)
      rintro ⟨x18, o1_0_7⟩ ac gs ws ⟨hx18, hq7, _⟩ hS
      refine wp_seq (s0 [1, 2, 3, 4, 10, 17, 18, 148] [0, 1, 3] 4 hS fun hS => ?_)
      refine if_d ((x18 : Int) < 5) hS (fun h7 => ?_) (fun h7 => ?_)
      ·refine wp_skip (then_n (wp_seq (wp_block (rA [(2, .oi ((5 * x17 : Nat) : Int)), (3, .oi ((x18 + (5 * x17) : Nat) : Int)), (6, .oi ((5 * x17 : Nat) : Int)), (7, .oi ((x18 + (5 * x17) : Nat) : Int)), (11, .oi ((x18 + 1 : Nat) : Int)), (12, .oi (((x18 + 1) % 5 : Nat) : Int)), (14, .oi ((5 * x17 : Nat) : Int)), (15, .oi ((((x18 + 1) % 5) + (5 * x17) : Nat) : Int)), (20, .oi ((x18 + 2 : Nat) : Int)), (21, .oi (((x18 + 2) % 5 : Nat) : Int)), (23, .oi ((5 * x17 : Nat) : Int)), (24, .oi ((((x18 + 2) % 5) + (5 * x17) : Nat) : Int))] trivial (fun _ => [imul .i64 5 (x17 : Int) = ((5 * x17 : Nat) : Int), iadd .i64 (x18 : Int) ((5 * x17 : Nat) : Int) = ((x18 + (5 * x17) : Nat) : Int), imul .i64 5 (x17 : Int) = ((5 * x17 : Nat) : Int), iadd .i64 (x18 : Int) ((5 * x17 : Nat) : Int) = ((x18 + (5 * x17) : Nat) : Int), (0 : Int) ≤ ((x18 + (5 * x17) : Nat) : Int) ∧ (((x18 + (5 * x17) : Nat) : Int) : Int) < 25, iadd .i64 (x18 : Int) 1 = ((x18 + 1 : Nat) : Int), irem ((x18 + 1 : Nat) : Int) 5 = (((x18 + 1) % 5 : Nat) : Int), (5 : Int) ≠ 0, imul .i64 5 (x17 : Int) = ((5 * x17 : Nat) : Int), iadd .i64 (((x18 + 1) % 5 : Nat) : Int) ((5 * x17 : Nat) : Int) = ((((x18 + 1) % 5) + (5 * x17) : Nat) : Int), (0 : Int) ≤ ((((x18 + 1) % 5) + (5 * x17) : Nat) : Int) ∧ (((((x18 + 1) % 5) + (5 * x17) : Nat) : Int) : Int) < 25, iadd .i64 (x18 : Int) 2 = ((x18 + 2 : Nat) : Int), irem ((x18 + 2 : Nat) : Int) 5 = (((x18 + 2) % 5 : Nat) : Int), (5 : Int) ≠ 0, imul .i64 5 (x17 : Int) = ((5 * x17 : Nat) : Int), iadd .i64 (((x18 + 2) % 5 : Nat) : Int) ((5 * x17 : Nat) : Int) = ((((x18 + 2) % 5) + (5 * x17) : Nat) : Int), (0 : Int) ≤ ((((x18 + 2) % 5) + (5 * x17) : Nat) : Int) ∧ (((((x18 + 2) % 5) + (5 * x17) : Nat) : Int) : Int) < 25, (0 : Int) ≤ ((x18 + (5 * x17) : Nat) : Int) ∧ (((x18 + (5 * x17) : Nat) : Int) : Int) < 25]) [1, 2, 3, 4, 10, 17, 18] [0, 1, 3] 4 ⟨by rw [imul64 omm omm]; omega, by rw [iadd64 omm omm]; omega, by rw [imul64 omm omm]; omega, by rw [iadd64 omm omm]; omega, by omega, by rw [iadd64 omm omm]; omega, by rw [irem64 omm]; omega, by omega, by rw [imul64 omm omm]; omega, by rw [iadd64 omm omm]; omega, by omega, by rw [iadd64 omm omm]; omega, by rw [irem64 omm]; omega, by omega, by rw [imul64 omm omm]; omega, by rw [iadd64 omm omm]; omega, by omega, by omega, trivial⟩ hS fun hS => ?_))))
       refine block_n (then_n (rA [(1, .oi ((x18 + 1 : Nat) : Int))] trivial (fun _ => [iadd .i64 (x18 : Int) 1 = ((x18 + 1 : Nat) : Int)]) [1, 2, 3, 4, 10, 17, 18] [0, 1, 3] 4 ⟨by rw [iadd64 omm omm]; omega, trivial⟩ hS fun hS => ?_))
       refine then_n ?_
       exact next_y hg0 hS (s := (x18, o1_0_7)) (x18 + 1, upd o1_0_7 (x18 + (5 * x17)) (ixor .u64 (((rperm_l5 a x4 x3 o1_0 24).2.2) (x18 + (5 * x17))) (iand .u64 (inot .u64 (((rperm_l5 a x4 x3 o1_0 24).2.2) (((x18 + 1) % 5) + (5 * x17)))) (((rperm_l5 a x4 x3 o1_0 24).2.2) (((x18 + 2) % 5) + (5 * x17)))))) [(0, 0), (1, 1), (3, 3)] (show 5 - (x18 + 1) < 5 - x18 from by omega) ⟨omm, (it_next (F := rperm_l7 a x4 x3 o1_0 x17 o1_0_6) (st := rperm_l7_s a x4 x3 o1_0 x17 o1_0_6) (fun _ => rfl) hq7 rfl), trivial⟩
      ·have hScur := hS
       obtain rfl : 5 = x18 := by omega
       obtain rfl : rperm_l7 a x4 x3 o1_0 x17 o1_0_6 5 = o1_0_7 := Eq.symm (congrArg (fun z => z) hq7)
       have hS := hScur
       clear hScur
       refine wp_exit (then_exit (then_exit (block_exit (block_n (then_n (rA [(1, .oi ((x17 + 1 : Nat) : Int))] trivial (fun _ => [iadd .i64 (x17 : Int) 1 = ((x17 + 1 : Nat) : Int)]) [1, 2, 3, 4, 10, 17] [0, 1, 3] 4 ⟨by rw [iadd64 omm omm]; omega, trivial⟩ hS fun hS => ?_))))))
       refine then_n ?_
       exact next_y hg0 hS (s := (x17, o1_0_6)) (x17 + 1, rperm_l7 a x4 x3 o1_0 x17 o1_0_6 5) [(0, 0), (1, 1), (3, 3)] (show 5 - (x17 + 1) < 5 - x17 from by omega) ⟨omm, (it_next (F := rperm_l6 a x4 x3 o1_0) (st := rperm_l6_s a x4 x3 o1_0) (fun _ => rfl) hq6 rfl), trivial⟩
     ·have hScur := hS
      obtain rfl : 5 = x17 := by omega
      obtain rfl : rperm_l6 a x4 x3 o1_0 5 = o1_0_6 := Eq.symm (congrArg (fun z => z) hq6)
      have hS := hScur
      clear hScur
      refine wp_exit (then_exit (then_exit (block_exit (then_n (s0 [1, 2, 3, 4, 19] [0, 1] 4 hS fun hS => ?_)))))
      refine wp_block (loop_y (ι := Nat × Int × (Nat → Int)) hg0 hS (fun z_ => match z_ with | (x19, x3_8, o1_0_8) => 7 - x19) (fun z_ => match z_ with | (x19, x3_8, o1_0_8) => [(1, .cp 0 0), (2, .cp 1 0), (3, .v (.int .u8 x3_8)), (4, vi (x4 : Int)), (19, vi ((x19 : Nat) : Int))]) (fun z_ => match z_ with | (x19, x3_8, o1_0_8) => [(0, .ob 137 (chain [.ar .u64 25 o1_0_8])), (1, .ob 137 (chain [.ar .u64 25 (fun _ => 0)]))]) (fun z_ => match z_ with | (x19, x3_8, o1_0_8) => (x19 ≤ 7) ∧ ((x3_8, o1_0_8) = rperm_l8 a x4 x3 o1_0 x19) ∧ True) 2 (0, x3, rperm_l6 a x4 x3 o1_0 5) [(0, 0), (1, 1)] ⟨omm, rfl, trivial⟩ ?_)
      rintro ⟨x19, x3_8, o1_0_8⟩ ac gs ws ⟨hx19, hq8, _⟩ hS
      refine wp_seq (s0 [1, 2, 3, 4, 19, 182] [0, 1] 2 hS fun hS => ?_)
      refine if_d ((x19 : Int) ≤ 6) hS (fun h8 => ?_) (fun h8 => ?_)
      ·refine wp_skip (then_n (wp_seq (wp_block (wp_seq (s0 [1, 2, 3, 4, 19, 187] [0, 1] 2 hS fun hS => ?_)))))
       refine if_d ((iand .u8 x3_8 1) = 1) hS (fun h9 => ?_) (fun h9 => ?_)
       ·refine rA [] trivial (fun _ => [(0 : Int) ≤ 0 ∧ (0 : Int) < 25, (0 : Int) ≤ (x19 : Int), (0 : Int) ≤ (isub .u64 (ishl .u64 1 (x19 : Int)) 1), (0 : Int) ≤ 0 ∧ (0 : Int) < 25]) [1, 2, 3, 4, 19] [0, 1] 2 ⟨by omega, by omega, wrap_nn rfl, by omega, trivial⟩ hS fun hS => ?_
        refine then_n (sA [] trivial (fun _ => [(0 : Int) ≤ 7]) [1, 2, 3, 4, 19, 20] [0, 1] 2 ⟨by omega, trivial⟩ hS fun hS => ?_)
        refine sA [] trivial (fun _ => [(0 : Int) ≤ 1]) [1, 2, 3, 4, 19, 20] [0, 1] 2 ⟨by omega, trivial⟩ hS fun hS => ?_
        refine s0 [1, 2, 3, 4, 19, 201] [0, 1] 2 hS fun hS => ?_
        refine if_d ((ishr .u8 x3_8 7) = 1) hS (fun h10 => ?_) (fun h10 => ?_)
        ·refine r0 [1, 2, 3, 4, 19] [0, 1] 2 hS fun hS => ?_
         refine block_n (then_n (rA [(1, .oi ((x19 + 1 : Nat) : Int))] trivial (fun _ => [iadd .i64 (x19 : Int) 1 = ((x19 + 1 : Nat) : Int)]) [1, 2, 3, 4, 19] [0, 1] 2 ⟨by rw [iadd64 omm omm]; omega, trivial⟩ hS fun hS => ?_))
         refine then_n ?_
         exact next_y hg0 hS (s := (x19, x3_8, o1_0_8)) (x19 + 1, (ixor .u8 (ishl .u8 x3_8 1) 113), upd o1_0_8 0 (ixor .u64 (o1_0_8 0) (ishl .u64 1 (isub .u64 (ishl .u64 1 (x19 : Int)) 1)))) [(0, 0), (1, 1)] (show 7 - (x19 + 1) < 7 - x19 from by omega) ⟨omm, (it_next (F := rperm_l8 a x4 x3 o1_0) (st := rperm_l8_s a x4 x3 o1_0) (fun _ => rfl) hq8 (Eq.symm ((if_pos h9).trans (if_pos h10)))), trivial⟩
        ·refine wp_skip (block_n (then_n (rA [(1, .oi ((x19 + 1 : Nat) : Int))] trivial (fun _ => [iadd .i64 (x19 : Int) 1 = ((x19 + 1 : Nat) : Int)]) [1, 2, 3, 4, 19] [0, 1] 2 ⟨by rw [iadd64 omm omm]; omega, trivial⟩ hS fun hS => ?_)))
         refine then_n ?_
         exact next_y hg0 hS (s := (x19, x3_8, o1_0_8)) (x19 + 1, (ishl .u8 x3_8 1), upd o1_0_8 0 (ixor .u64 (o1_0_8 0) (ishl .u64 1 (isub .u64 (ishl .u64 1 (x19 : Int)) 1)))) [(0, 0), (1, 1)] (show 7 - (x19 + 1) < 7 - x19 from by omega) ⟨omm, (it_next (F := rperm_l8 a x4 x3 o1_0) (st := rperm_l8_s a x4 x3 o1_0) (fun _ => rfl) hq8 (Eq.symm ((if_pos h9).trans (if_neg h10)))), trivial⟩
       ·refine wp_skip (then_n (sA [] trivial (fun _ => [(0 : Int) ≤ 7]) [1, 2, 3, 4, 19, 20] [0, 1] 2 ⟨by omega, trivial⟩ hS fun hS => ?_))
        refine sA [] trivial (fun _ => [(0 : Int) ≤ 1]) [1, 2, 3, 4, 19, 20] [0, 1] 2 ⟨by omega, trivial⟩ hS fun hS => ?_
        refine s0 [1, 2, 3, 4, 19, 201] [0, 1] 2 hS fun hS => ?_
        refine if_d ((ishr .u8 x3_8 7) = 1) hS (fun h11 => ?_) (fun h11 => ?_)
        ·refine r0 [1, 2, 3, 4, 19] [0, 1] 2 hS fun hS => ?_
         refine block_n (then_n (rA [(1, .oi ((x19 + 1 : Nat) : Int))] trivial (fun _ => [iadd .i64 (x19 : Int) 1 = ((x19 + 1 : Nat) : Int)]) [1, 2, 3, 4, 19] [0, 1] 2 ⟨by rw [iadd64 omm omm]; omega, trivial⟩ hS fun hS => ?_))
         refine then_n ?_
         exact next_y hg0 hS (s := (x19, x3_8, o1_0_8)) (x19 + 1, (ixor .u8 (ishl .u8 x3_8 1) 113), o1_0_8) [(0, 0), (1, 1)] (show 7 - (x19 + 1) < 7 - x19 from by omega) ⟨omm, (it_next (F := rperm_l8 a x4 x3 o1_0) (st := rperm_l8_s a x4 x3 o1_0) (fun _ => rfl) hq8 (Eq.symm ((if_neg h9).trans (if_pos h11)))), trivial⟩
        ·refine wp_skip (block_n (then_n (rA [(1, .oi ((x19 + 1 : Nat) : Int))] trivial (fun _ => [iadd .i64 (x19 : Int) 1 = ((x19 + 1 : Nat) : Int)]) [1, 2, 3, 4, 19] [0, 1] 2 ⟨by rw [iadd64 omm omm]; omega, trivial⟩ hS fun hS => ?_)))
         refine then_n ?_
         exact next_y hg0 hS (s := (x19, x3_8, o1_0_8)) (x19 + 1, (ishl .u8 x3_8 1), o1_0_8) [(0, 0), (1, 1)] (show 7 - (x19 + 1) < 7 - x19 from by omega) ⟨omm, (it_next (F := rperm_l8 a x4 x3 o1_0) (st := rperm_l8_s a x4 x3 o1_0) (fun _ => rfl) hq8 (Eq.symm ((if_neg h9).trans (if_neg h11)))), trivial⟩
      ·have hScur := hS
       obtain rfl : 7 = x19 := by omega
       obtain rfl : (rperm_l8 a x4 x3 o1_0 7).1 = x3_8 := Eq.symm (congrArg (fun z => z.1) hq8)
       obtain rfl : (rperm_l8 a x4 x3 o1_0 7).2 = o1_0_8 := Eq.symm (congrArg (fun z => z.2) hq8)
       have hS := hScur
       clear hScur
       refine wp_exit (then_exit (then_exit (block_exit (block_n (then_n (rA [(1, .oi ((x4 + 1 : Nat) : Int))] trivial (fun _ => [iadd .i64 (x4 : Int) 1 = ((x4 + 1 : Nat) : Int)]) [1, 2, 3, 4] [0, 1] 2 ⟨by rw [iadd64 omm omm]; omega, trivial⟩ hS fun hS => ?_))))))
       refine then_n ?_
       exact next_y hg0 hS (s := (x4, x3, o1_0)) (x4 + 1, ((rperm_l8 a x4 x3 o1_0 7).1), (rperm_l8 a x4 x3 o1_0 7).2) [(0, 0), (1, 1)] (show 24 - (x4 + 1) < 24 - x4 from by omega) ⟨omm, (it_next (F := rperm_l1 a) (st := rperm_l1_s a) (fun _ => rfl) hq1 rfl), trivial⟩
 ·have hScur := hS
  obtain rfl : 24 = x4 := by omega
  obtain rfl : (rperm_l1 a 24).1 = x3 := Eq.symm (congrArg (fun z => z.1) hq1)
  obtain rfl : (rperm_l1 a 24).2 = o1_0 := Eq.symm (congrArg (fun z => z.2) hq1)
  have hS := hScur
  clear hScur
  refine wp_exit (then_exit (then_exit (block_exit (then_n (s0 [2] [1] 2 hS fun hS => ?_)))))
  refine wp_ret ?_
  have hM : rperm_m a = (rperm_l1 a 24).2 := rperm_e a
  exact fin_y rfl (.inr rfl) hS [.ar .u64 25 ((rperm_l1 a 24).2)] [] (by show weak _ (.ar .u64 25 (rperm_m a)) = (.ar .u64 25 (rperm_m a)); rw [hM]; first | (simp only []; rfl) | (simp only []; done) | rfl) trivial

end
end Go.Sx.Try
namespace Go.Sx.Try
open Go.Mi Go.RowKit Go.Sx Go.Proofs
noncomputable section
theorem ixor_0 (p q : Int) : ixor .u64 (ixor .u64 0 p) q = ixor .u64 p q := by
 show IntKind.wrap .u64 _ = IntKind.wrap .u64 _
 show IntKind.wrap .u64 (((BitVec.ofInt 64 (ixor .u64 0 p) ^^^ BitVec.ofInt 64 q).toNat : Nat) : Int) = IntKind.wrap .u64 (((BitVec.ofInt 64 p ^^^ BitVec.ofInt 64 q).toNat : Nat) : Int)
 rw [bv_xor]
 simp
theorem ixor_as (p q r : Int) : ixor .u64 (ixor .u64 p q) r = ixor .u64 p (ixor .u64 q r) := by
 show IntKind.wrap .u64 (((BitVec.ofInt 64 (ixor .u64 p q) ^^^ BitVec.ofInt 64 r).toNat : Nat) : Int) = IntKind.wrap .u64 (((BitVec.ofInt 64 p ^^^ BitVec.ofInt 64 (ixor .u64 q r)).toNat : Nat) : Int)
 rw [bv_xor, bv_xor, BitVec.xor_assoc]
theorem l2_at (a : Nat → Int) (x4 : Nat) (x3 : Int) (f : Nat → Int) : ∀ n j, rperm_l2 a x4 x3 f n j = if j < n then ixor .u64 (ixor .u64 (ixor .u64 (ixor .u64 (f j) (f (j + 5))) (f (j + 10))) (f (j + 15))) (f (j + 20)) else 0
 | 0, j => by rw [if_neg (Nat.not_lt_zero j)]; rfl
 | n + 1, j => by
  show upd (rperm_l2 a x4 x3 f n) n _ j = _
  unfold upd
  by_cases h : j = n
  ·subst h; rw [if_pos rfl, if_pos (Nat.lt_succ_self _)]
  ·rw [if_neg h, l2_at a x4 x3 f n j]
   by_cases h2 : j < n
   ·rw [if_pos h2, if_pos omm]
   ·rw [if_neg h2, if_neg omm]
theorem thC_out (a : Nat → Int) : ∀ n j, 5 ≤ j → thC a n j = 0
 | 0, _, _ => rfl
 | n + 1, j, h => by rw [thC_s, if_neg omm]; exact thC_out a n j h
theorem l2_thC (a : Nat → Int) (x4 : Nat) (x3 : Int) (f : Nat → Int) : rperm_l2 a x4 x3 f 5 = thC f 25 := by
 funext j
 rw [l2_at]
 by_cases h : j < 5
 ·rw [if_pos h]
  have h1 := thC_5 f 4 j h
  have h2 := thC_5 f 3 j h
  have h3 := thC_5 f 2 j h
  have h4 := thC_5 f 1 j h
  have h5 := thC_5 f 0 j h
  show _ = thC f (5 * 4 + 5) j
  rw [h1, show thC f (5 * 4) j = thC f (5 * 3 + 5) j from rfl, h2, show thC f (5 * 3) j = thC f (5 * 2 + 5) j from rfl, h3, show thC f (5 * 2) j = thC f (5 * 1 + 5) j from rfl, h4, show thC f (5 * 1) j = thC f (5 * 0 + 5) j from rfl, h5, show thC f (5 * 0) j = 0 from rfl, ixor_0]
  simp only [Nat.mul_zero, Nat.mul_one, Nat.reduceMul, Nat.add_comm, Nat.add_zero]
 ·rw [if_neg h, thC_out f 25 j omm]
theorem l4_at (a : Nat → Int) (x4 : Nat) (x3 : Int) (f : Nat → Int) (x7 : Nat) (h7 : x7 < 5) (o : Nat → Int) : ∀ n j, rperm_l4 a x4 x3 f x7 o n j = if j % 5 = x7 ∧ j / 5 < n then ixor .u64 (o j) (ixor .u64 (thC f 25 ((x7 + 4) % 5)) (rotl (thC f 25 ((x7 + 1) % 5)) 1)) else o j
 | 0, j => by rw [if_neg omm]; rfl
 | n + 1, j => by
  show upd (rperm_l4 a x4 x3 f x7 o n) (x7 + 5 * n) _ j = _
  unfold upd
  by_cases h : j = x7 + 5 * n
  ·rw [if_pos h, if_pos omm, ← h, l4_at a x4 x3 f x7 h7 o n j, if_neg omm, l2_thC]
   rfl
  ·rw [if_neg h, l4_at a x4 x3 f x7 h7 o n j]
   by_cases h2 : j % 5 = x7 ∧ j / 5 < n
   ·rw [if_pos h2, if_pos omm]
   ·rw [if_neg h2, if_neg omm]
theorem l3_at (a : Nat → Int) (x4 : Nat) (x3 : Int) (f : Nat → Int) : ∀ n, n ≤ 5 → ∀ j, rperm_l3 a x4 x3 f n j = if j % 5 < n ∧ j < 25 then ixor .u64 (f j) (ixor .u64 (thC f 25 ((j % 5 + 4) % 5)) (rotl (thC f 25 ((j % 5 + 1) % 5)) 1)) else f j
 | 0, _, j => by rw [if_neg omm]; rfl
 | n + 1, hn, j => by
  show rperm_l4 a x4 x3 f n (rperm_l3 a x4 x3 f n) 5 j = _
  rw [l4_at a x4 x3 f n omm, l3_at a x4 x3 f n omm j]
  by_cases h : j % 5 = n
  ·by_cases h2 : j < 25
   ·rw [if_pos ⟨h, by omega⟩, if_neg omm, if_pos omm, h]
   ·rw [if_neg omm, if_neg omm, if_neg omm]
  ·rw [if_neg omm]
   by_cases h2 : j % 5 < n ∧ j < 25
   ·rw [if_pos h2, if_pos omm]
   ·rw [if_neg h2, if_neg omm]
theorem l3_theta (a : Nat → Int) (x4 : Nat) (x3 : Int) (f : Nat → Int) : rperm_l3 a x4 x3 f 5 = theta f := by
 funext j
 rw [l3_at a x4 x3 f 5 (Nat.le_refl _)]
 unfold theta
 rw [thA_at]
 by_cases h : j < 25
 ·rw [if_pos ⟨by omega, h⟩, if_pos h]
 ·rw [if_neg omm, if_neg h]
theorem rotl_n (x : Int) (t : Nat) (ht : t < 24) : ior .u64 (ishl .u64 x (irem (iquo .i64 (imul .i64 ((t + 1 : Nat) : Int) ((t + 2 : Nat) : Int)) 2) 64)) (ishr .u64 x (64 - (irem (iquo .i64 (imul .i64 ((t + 1 : Nat) : Int) ((t + 2 : Nat) : Int)) 2) 64))) = rotl x (iquo .i64 (imul .i64 ((t + 1 : Nat) : Int) ((t + 2 : Nat) : Int)) 2) := by
 have key : ((List.range 24).all fun t => decide (irem (iquo .i64 (imul .i64 ((t + 1 : Nat) : Int) ((t + 2 : Nat) : Int)) 2) 64 = iand .u64 (IntKind.wrap .u64 (iquo .i64 (imul .i64 ((t + 1 : Nat) : Int) ((t + 2 : Nat) : Int)) 2)) 63) && decide (64 - irem (iquo .i64 (imul .i64 ((t + 1 : Nat) : Int) ((t + 2 : Nat) : Int)) 2) 64 = isub .u64 64 (iand .u64 (IntKind.wrap .u64 (iquo .i64 (imul .i64 ((t + 1 : Nat) : Int) ((t + 2 : Nat) : Int)) 2)) 63))) = true := by kernel_rfl
 have := List.all_eq_true.1 key t (List.mem_range.2 ht)
 rw [Bool.and_eq_true, decide_eq_true_iff, decide_eq_true_iff] at this
 rw [this.2, this.1]
 rfl
theorem l5_at (a : Nat → Int) (x4 : Nat) (x3 : Int) (f : Nat → Int) : ∀ n, n ≤ 24 → ∃ g, rperm_l5 a x4 x3 f n = ((Ke.px n).1, (Ke.px n).2, g) ∧ g 0 = theta f 0 ∧ ∀ t, t < n → g (Ke.ps (t + 1)) = rotl (theta f (Ke.ps t)) (iquo .i64 (imul .i64 ((t + 1 : Nat) : Int) ((t + 2 : Nat) : Int)) 2)
 | 0, _ => by
  refine ⟨_, rfl, ?_, fun t h => absurd h (Nat.not_lt_zero t)⟩
  show upd _ 0 _ 0 = _
  rw [l3_theta]; rfl
 | n + 1, hn => by
  obtain ⟨g, h1, h2, h3⟩ := l5_at a x4 x3 f n omm
  refine ⟨upd g (Ke.ps (n + 1)) (rotl (theta f (Ke.ps n)) (iquo .i64 (imul .i64 ((n + 1 : Nat) : Int) ((n + 2 : Nat) : Int)) 2)), ?_, ?_, ?_⟩
  ·show rperm_l5_s a x4 x3 f n (rperm_l5 a x4 x3 f n) = _
   rw [h1, ← rotl_n _ n omm, ← l3_theta a x4 x3 f]
   rfl
  ·unfold upd
   rw [if_neg (fun e => Ke.ps_zero (n + 1) hn e.symm)]
   exact h2
  ·intro t ht
   unfold upd
   by_cases e : t = n
   ·subst e; rw [if_pos rfl]
   ·rw [if_neg (fun h => e (by have := Ke.ps_ne (t + 1) (n + 1) omm hn omm omm h; omega))]
    exact h3 t omm
theorem rhoA_at' (a : Nat → Int) : ∀ n, n ≤ 24 → rhoA a n 0 = a 0 ∧ (∀ t, t < n → rhoA a n (Ke.ps (t + 1)) = rotl (a (Ke.ps t)) (iquo .i64 (imul .i64 ((t + 1 : Nat) : Int) ((t + 2 : Nat) : Int)) 2)) ∧ ∀ j, 25 ≤ j → rhoA a n j = a j
 | 0, _ => ⟨rfl, fun t h => absurd h (Nat.not_lt_zero t), fun _ _ => rfl⟩
 | n + 1, hn => by
  obtain ⟨h2, h3, h4⟩ := rhoA_at' a n omm
  have e : rhoA a (n + 1) = upd (rhoA a n) (Ke.ps (n + 1)) (rotl (a (Ke.ps n)) (iquo .i64 (imul .i64 ((n + 1 : Nat) : Int) ((n + 2 : Nat) : Int)) 2)) := rfl
  rw [e]
  refine ⟨?_, ?_, ?_⟩
  ·unfold upd
   rw [if_neg (fun e => Ke.ps_zero (n + 1) hn e.symm)]
   exact h2
  ·intro t ht
   unfold upd
   by_cases e : t = n
   ·subst e; rw [if_pos rfl]
   ·rw [if_neg (fun h => e (by have := Ke.ps_ne (t + 1) (n + 1) omm hn omm omm h; omega))]
    exact h3 t omm
  ·intro j hj
   have := Ke.ps_lt (n + 1) hn
   unfold upd
   rw [if_neg omm]
   exact h4 j hj
theorem l5_rho (a : Nat → Int) (x4 : Nat) (x3 : Int) (f : Nat → Int) (j : Nat) (hj : j < 25) : (rperm_l5 a x4 x3 f 24).2.2 j = rho (theta f) j := by
 obtain ⟨g, h1, h2, h3⟩ := l5_at a x4 x3 f 24 (Nat.le_refl _)
 obtain ⟨k2, k3, _⟩ := rhoA_at' (theta f) 24 (Nat.le_refl _)
 rw [h1]
 unfold rho
 rcases Ke.ps_all j hj with rfl | ⟨t, ht, rfl⟩
 ·rw [k2]; exact h2
 ·cases t with
  | zero =>
   have e : Ke.ps 0 = Ke.ps (23 + 1) := rfl
   rw [e, k3 23 omm]
   exact h3 23 omm
  | succ s => rw [k3 s omm]; exact h3 s omm
theorem l7_at (a : Nat → Int) (x4 : Nat) (x3 : Int) (f : Nat → Int) (y : Nat) (hy : y < 5) (o : Nat → Int) : ∀ n, n ≤ 5 → ∀ j, rperm_l7 a x4 x3 f y o n j = if j / 5 = y ∧ j % 5 < n then chi (rho (theta f)) j else o j
 | 0, _, j => by rw [if_neg omm]; rfl
 | n + 1, hn, j => by
  show upd (rperm_l7 a x4 x3 f y o n) (n + 5 * y) _ j = _
  unfold upd
  by_cases h : j = n + 5 * y
  ·rw [if_pos h, if_pos omm]
   unfold chi
   rw [chiA_at, if_pos omm, l5_rho _ _ _ _ _ omm, l5_rho _ _ _ _ _ omm, l5_rho _ _ _ _ _ omm, ← h]
   rw [show j - j % 5 + (j + 1) % 5 = (n + 1) % 5 + 5 * y by omega, show j - j % 5 + (j + 2) % 5 = (n + 2) % 5 + 5 * y by omega]
  ·rw [if_neg h, l7_at a x4 x3 f y hy o n omm j]
   by_cases h2 : j / 5 = y ∧ j % 5 < n
   ·rw [if_pos h2, if_pos omm]
   ·rw [if_neg h2, if_neg omm]
theorem l6_at (a : Nat → Int) (x4 : Nat) (x3 : Int) (f : Nat → Int) : ∀ n, n ≤ 5 → ∀ j, rperm_l6 a x4 x3 f n j = if j / 5 < n then chi (rho (theta f)) j else theta f j
 | 0, _, j => by rw [if_neg omm]; show rperm_l3 a x4 x3 f 5 j = _; rw [l3_theta]
 | n + 1, hn, j => by
  show rperm_l7 a x4 x3 f n (rperm_l6 a x4 x3 f n) 5 j = _
  rw [l7_at a x4 x3 f n omm _ 5 (Nat.le_refl _), l6_at a x4 x3 f n omm j]
  by_cases h : j / 5 = n
  ·rw [if_pos ⟨h, by omega⟩, if_pos omm]
  ·rw [if_neg omm]
   by_cases h2 : j / 5 < n
   ·rw [if_pos h2, if_pos omm]
   ·rw [if_neg h2, if_neg omm]
theorem l6_kst (a : Nat → Int) (x4 : Nat) (x3 : Int) (f : Nat → Int) : rperm_l6 a x4 x3 f 5 = kst f 3 := by
 funext j
 rw [l6_at _ _ _ _ 5 (Nat.le_refl _), kst3]
 by_cases h : j / 5 < 5
 ·rw [if_pos h]
 ·rw [if_neg h]
  unfold chi
  rw [chiA_at, if_neg omm]
  unfold rho
  rw [(rhoA_at' (theta f) 24 (Nat.le_refl _)).2.2 j omm]
def iotF (f : Nat → Int) : List Int → Nat → Int
 | [] => f
 | m :: l => iotF (upd f 0 (ixor .u64 (f 0) m)) l
theorem iotF_eq (f : Nat → Int) : ∀ (m : Int) (l : List Int), iotF f (m :: l) = upd f 0 (ixor .u64 (f 0) (l.foldl (ixor .u64) m)) 
 | m, [] => rfl
 | m, k :: l => by
  have := iotF_eq (upd f 0 (ixor .u64 (f 0) m)) k l
  show iotF (upd f 0 (ixor .u64 (f 0) m)) (k :: l) = _
  rw [this]
  funext j
  unfold upd
  by_cases h : j = 0
  ·rw [if_pos h, if_pos h, if_pos rfl, ixor_as]
   congr 1
   show ixor .u64 m (List.foldl (ixor .u64) k l) = List.foldl (ixor .u64) (ixor .u64 m k) l
   have g : ∀ (l : List Int) (k : Int), ixor .u64 m (List.foldl (ixor .u64) k l) = List.foldl (ixor .u64) (ixor .u64 m k) l := by
    intro l
    induction l with
    | nil => intro k; rfl
    | cons x l ih => intro k; show ixor .u64 m (List.foldl (ixor .u64) (ixor .u64 k x) l) = List.foldl (ixor .u64) (ixor .u64 (ixor .u64 m k) x) l; rw [ih, ixor_as]
   exact g l k
  ·rw [if_neg h, if_neg h, if_neg h]
def lfs (x : Int) : Int := if (ishr .u8 x 7) = 1 then ixor .u8 (ishl .u8 x 1) 113 else ishl .u8 x 1
def lfm (x : Int) (j : Nat) : List Int := if (iand .u8 x 1) = 1 then [ishl .u64 1 (isub .u64 (ishl .u64 1 (j : Int)) 1)] else []
def lfN (x : Int) : Nat → Int
 | 0 => x
 | j + 1 => lfs (lfN x j)
def lfM (x : Int) : Nat → List Int
 | 0 => []
 | j + 1 => lfM x j ++ lfm (lfN x j) j
def LFR : Nat → Int
 | 0 => 1
 | i + 1 => lfN (LFR i) 7
theorem iotF_app (f : Nat → Int) : ∀ (l m : List Int), iotF f (l ++ m) = iotF (iotF f l) m := by
 intro l
 induction l generalizing f with
 | nil => intro m; rfl
 | cons x l ih => intro m; exact ih _ m
theorem l8_at (a : Nat → Int) (x4 : Nat) (x3 : Int) (f : Nat → Int) : ∀ j, rperm_l8 a x4 x3 f j = (lfN x3 j, iotF (kst f 3) (lfM x3 j))
 | 0 => by show (x3, rperm_l6 a x4 x3 f 5) = _; rw [l6_kst]; rfl
 | j + 1 => by
  show rperm_l8_s a x4 x3 f j (rperm_l8 a x4 x3 f j) = _
  rw [l8_at a x4 x3 f j]
  show _ = (lfs (lfN x3 j), iotF (kst f 3) (lfM x3 j ++ lfm (lfN x3 j) j))
  rw [iotF_app]
  generalize iotF (kst f 3) (lfM x3 j) = g
  generalize lfN x3 j = x
  unfold rperm_l8_s lfs lfm
  simp only
  by_cases h1 : iand .u8 x 1 = 1
  ·rw [if_pos h1, if_pos h1]
   by_cases h2 : ishr .u8 x 7 = 1
   ·rw [if_pos h2, if_pos h2]; rfl
   ·rw [if_neg h2, if_neg h2]; rfl
  ·rw [if_neg h1, if_neg h1]
   by_cases h2 : ishr .u8 x 7 = 1
   ·rw [if_pos h2, if_pos h2]; rfl
   ·rw [if_neg h2, if_neg h2]; rfl
theorem lf_rc (i : Nat) (hi : i < 24) : ∃ m l, lfM (LFR i) 7 = m :: l ∧ l.foldl (ixor .u64) m = RC i := by
 have key : ((List.range 24).all fun i => match lfM (LFR i) 7 with | [] => false | m :: l => decide (l.foldl (ixor .u64) m = RC i)) = true := by kernel_rfl
 have := List.all_eq_true.1 key i (List.mem_range.2 hi)
 cases h : lfM (LFR i) 7 with
 | nil => rw [h] at this; cases this
 | cons m l =>
  rw [h] at this
  simp only [decide_eq_true_iff] at this
  exact ⟨m, l, rfl, this⟩
theorem l1_at (a : Nat → Int) : ∀ i, i ≤ 24 → rperm_l1 a i = (LFR i, perA a i)
 | 0, _ => rfl
 | i + 1, hi => by
  show rperm_l1_s a i (rperm_l1 a i) = _
  rw [l1_at a i omm]
  show ((rperm_l8 a i (LFR i) (perA a i) 7).1, (rperm_l8 a i (LFR i) (perA a i) 7).2) = _
  rw [l8_at]
  obtain ⟨m, l, h1, h2⟩ := lf_rc i omm
  show (lfN (LFR i) 7, iotF (kst (perA a i) 3) (lfM (LFR i) 7)) = _
  rw [h1, iotF_eq, h2]
  rfl
theorem rperm_eq (a : Nat → Int) : rperm_m a = perm a := by
 rw [rperm_e]
 show (rperm_l1 a 24).2 = perA a 24
 rw [l1_at a 24 (Nat.le_refl _)]

def c_rpermp (a : Nat → Int) : Con := ⟨[.ar .u64 25 a], [], .ar .u64 25 (perm a), []⟩
theorem rpermp_ok (a : Nat → Int) : ConOk Try.prog 96 (c_rpermp a) := by
 have := rperm_ok a
 unfold c_rperm at this
 rwa [rperm_eq] at this
end
end Go.Sx.Try
namespace Go.Sx.Try
open Go.Mi Go.RowKit Go.Sx Go.Proofs
noncomputable section
theorem pj_n {L r j : Nat} (hr : 0 < r) (hj : j ≤ (r - L % r) % r) (h : ¬ (L + j) % r = 0) : j + 1 ≤ (r - L % r) % r := by
 rcases Nat.lt_or_ge j ((r - L % r) % r) with h1 | h1
 ·exact h1
 ·exfalso
  have e : j = (r - L % r) % r := by omega
  apply h
  rw [e, Nat.add_mod_mod]
  have h2 := Nat.mod_lt L hr
  have h3 := Nat.div_add_mod L r
  rw [show L + (r - L % r) = r * (L / r) + r by omega, ← Nat.mul_succ, Nat.mul_mod_right]
theorem pj_e {L r j : Nat} (hr : 0 < r) (hj : j ≤ (r - L % r) % r) (h : (L + j) % r = 0) : j = (r - L % r) % r := by
 have h2 := Nat.mod_lt L hr
 have h3 := Nat.div_add_mod L r
 by_cases h4 : L % r = 0
 ·rw [h4, Nat.sub_zero, Nat.mod_self] at hj ⊢; omega
 ·rw [Nat.mod_eq_of_lt (a := r - L % r) omm] at hj ⊢
  have h5 : (L % r + j) % r = 0 := by rw [Nat.mod_add_mod]; exact h
  rcases Nat.lt_or_ge (L % r + j) r with h6 | h6
  ·rw [Nat.mod_eq_of_lt h6] at h5; omega
  ·omega
theorem pm_n {xs m : List Int} {e : Int} {r : Nat} (hr : 0 < r) (hm : ∃ j, j ≤ (r - (xs ++ [e]).length % r) % r ∧ m = (xs ++ [e]) ++ List.replicate j 0) (h : ¬ ((m.length % r : Nat) : Int) = 0) : ∃ j, j ≤ (r - (xs ++ [e]).length % r) % r ∧ m ++ [0] = (xs ++ [e]) ++ List.replicate j 0 := by
 obtain ⟨j, h1, h2⟩ := hm
 refine ⟨j + 1, pj_n hr h1 fun h3 => h ?_, ?_⟩
 ·rw [h2, List.length_append, List.length_replicate]; omega
 ·rw [h2, List.append_assoc (xs ++ [e]), ← List.replicate_succ']
theorem pm_e {xs m : List Int} {e : Int} {r : Nat} (hr : 0 < r) (hm : ∃ j, j ≤ (r - (xs ++ [e]).length % r) % r ∧ m = (xs ++ [e]) ++ List.replicate j 0) (h : ((m.length % r : Nat) : Int) = 0) : m = padZ r e [xs] := by
 obtain ⟨j, h1, h2⟩ := hm
 rw [h2, List.length_append, List.length_replicate] at h
 have h3 := pj_e hr h1 omm
 rw [h2, h3]
 unfold padZ
 rw [List.flatten_cons, List.flatten_nil, List.append_nil]
theorem pm_l {xs m : List Int} {e : Int} {r : Nat} (hm : ∃ j, j ≤ (r - (xs ++ [e]).length % r) % r ∧ m = (xs ++ [e]) ++ List.replicate j 0) : m.length ≤ xs.length + 1 + (r - (xs ++ [e]).length % r) % r := by
 obtain ⟨j, h1, h2⟩ := hm
 rw [h2]
 simp only [List.length_append, List.length_replicate, List.length_cons, List.length_nil] at h1 ⊢
 omega
def RB (r : Nat) (f0 g : Nat → Int) (i : Nat) (o : List Int) : Prop := (g, i, o) = rdA r f0 0 o.length ∨ (i = 0 ∧ ∃ g', g = perm g' ∧ (g', r, o) = rdA r f0 0 o.length)
theorem rb_0 (r : Nat) (f0 : Nat → Int) : RB r f0 f0 0 [] := .inl (rd_0 r f0 0)
theorem rb_n {r : Nat} {f0 g : Nat → Int} {i : Nat} {o : List Int} (h : RB r f0 g i o) (hi : i < r) : RB r f0 g (i + 1) (o ++ [IntKind.wrap .u8 (ishr .u64 (g (i / 8)) ((8 * (i % 8) : Nat) : Int))]) := by
 rcases h with h | ⟨h0, g', h1, h2⟩
 ·exact .inl (rd_next2 h omm)
 ·subst h0; subst h1
  exact .inl (rd_next1 h2 rfl)
theorem rb_t {r : Nat} {f0 g : Nat → Int} {i : Nat} {o : List Int} (h : RB r f0 g i o) (hr : 0 < r) (hi : i = r) : RB r f0 (perm g) 0 o := by
 rcases h with h | ⟨h0, _⟩
 ·subst hi; exact .inr ⟨rfl, g, rfl, h⟩
 ·omega
theorem rb_o {r : Nat} {f0 g : Nat → Int} {i : Nat} {o : List Int} (h : RB r f0 g i o) : o = (rdA r f0 0 o.length).2.2 := by
 rcases h with h | ⟨_, g', _, h2⟩
 ·rw [← h]
 ·rw [← h2]
theorem rb_x (n : Nat) {r : Nat} {f0 g : Nat → Int} {i : Nat} {o : List Int} (h : RB r f0 g i o) (hr : 0 < r) (hi : ¬ (i < r ∧ o.length < n)) (hi2 : i ≤ r) : o = (rdA r f0 0 o.length).2.2 ∧ (o.length < n → RB r f0 (perm g) 0 o) :=
 ⟨rb_o h, fun hl => rb_t h hr omm⟩
theorem xin_n {q : List Int} {f g : Nat → Int} {a i : Nat} (h : g = xin (q.drop a) f i) : upd g (i / 8) (ixor .u64 (g (i / 8)) (ishl .u64 (IntKind.wrap .u64 (q.getD (a + i) 0)) ((8 * (i % 8) : Nat) : Int))) = xin (q.drop a) f (i + 1) := by
 show _ = upd (xin (q.drop a) f i) (i / 8) (ixor .u64 (xin (q.drop a) f i (i / 8)) (ishl .u64 (IntKind.wrap .u64 ((q.drop a).getD i 0)) ((8 * (i % 8) : Nat) : Int)))
 rw [← h, show (q.drop a).getD i 0 = q.getD (a + i) 0 by rw [List.getD_eq_getElem?_getD, List.getD_eq_getElem?_getD, List.getElem?_drop]]
theorem at_lt {a r k N L : Nat} (hL : L = N * r) (ha : a = k * r) (h : a < L) : k < N ∧ a + r ≤ L := by
 have hk : k < N := by
  rcases Nat.lt_or_ge k N with h1 | h1
  ·exact h1
  ·have := Nat.mul_le_mul_right r h1; omega
 refine ⟨hk, ?_⟩
 have := Nat.mul_le_mul_right r (show k + 1 ≤ N from hk)
 rw [Nat.succ_mul] at this
 omega
theorem at_ge {a r k N L : Nat} (hr : 0 < r) (hL : L = N * r) (ha : a = k * r) (hk : k ≤ N) (h : ¬ a < L) : k = L / r := by
 rw [hL, Nat.mul_div_cancel _ hr]
 rcases Nat.lt_or_ge k N with h1 | h1
 ·have := Nat.mul_le_mul_right r (show k + 1 ≤ N from h1)
  rw [Nat.succ_mul] at this
  omega
 ·omega
def c_rspg (r : Nat) (e : Int) (xs : List Int) (n : Nat) : Con := ⟨[vi (r : Int), .v (.int .u8 e), lb xs, vi (n : Int)], [], lb ((rdA r (spg r e [xs]) 0 n).2.2), []⟩
theorem rspg_ok (r : Nat) (e : Int) (xs : List Int) (n : Nat) (hr : 0 < r) (hr2 : r ≤ 200) (h : xs.length ≤ 10000) (hn : n ≤ 65536) (hn0 : 0 < n) : ConOk Try.prog 59 (c_rspg r e xs n) := by
 refine conOk_of rfl (nb := 0) Try.func59 rfl rfl Try.ntmps59 rfl rfl rfl fun g0 w0 ac gs ws hg0 hS => ?_
 have hlen2 : xs.length ≤ 9223372036854775807 := hS.len 2 rfl
 have hS := hS.sp
 refine s0 [0, 1, 2, 3, 8] [] 0 hS fun hS => ?_
 refine sA [(0, .own)] trivial (fun _ => [([] : List (RT [.int .u8])).length + xs.length ≤ 9223372036854775807, (([] : List (RT [.int .u8])).length + xs.length) * 1 ≤ 140737488355328, ([] ++ xs).length + [e].length ≤ 9223372036854775807, (([] ++ xs).length + [e].length) * 1 ≤ 140737488355328]) [0, 3, 8, 9] [2] 3 ⟨by simp <;> omega, by simp <;> omega, by simp <;> omega, by simp <;> omega, trivial⟩ hS fun hS => ?_
 refine wp_seq (wp_block (loop_y (ι := (List Int)) hg0 hS (fun m => xs.length + 1 + ((r - (xs ++ [e]).length % r) % r) - m.length) (fun m => [(0, vi (r : Int)), (3, vi (n : Int)), (8, .v (.slice none 0 0)), (9, .sk 2)]) (fun m => [(2, .sl 5 [.int .u8] m)]) (fun m => (∃ j, j ≤ ((r - (xs ++ [e]).length % r) % r) ∧ m = (xs ++ [e]) ++ List.replicate j 0) ∧ True) 3 (([] ++ xs) ++ [e]) [(2, 2)] ⟨⟨0, Nat.zero_le _, by simp⟩, trivial⟩ ?_))
 rintro m ac gs ws ⟨hm, _⟩ hS
 refine wp_seq (sA [(3, .oi ((m.length % r : Nat) : Int))] trivial (fun _ => [irem ((m.length : Nat) : Int) (r : Int) = ((m.length % r : Nat) : Int), ((r : Int) : Int) ≠ 0]) [0, 3, 8, 9, 25] [2] 3 ⟨by rw [irem64 omm]; exact (Int.natCast_emod _ _).symm, by omega, trivial⟩ hS fun hS => ?_)
 refine if_n (((m.length % r : Nat) : Int) = 0) hS (fun h1 => ?_) (fun h1 => ?_)
 ·refine wp_skip (then_n (wp_block ?_))
  have hml := pm_l hm
  have hmj := Nat.mod_lt (r - (xs ++ [e]).length % r) hr
  refine rA [] trivial (fun _ => [m.length + ([0] : List Int).length ≤ 9223372036854775807, (m.length + ([0] : List Int).length) * 1 ≤ 140737488355328]) [0, 3, 8, 9] [3] 4 ⟨by simp <;> omega, by simp <;> omega, trivial⟩ hS fun hS => ?_
  refine block_n (then_n ?_)
  exact next_y hg0 hS (s := (m)) (m ++ ([0] : List Int)) [(2, 3)] (by have := pm_l (pm_n hr hm asm); simp only [List.length_append, List.length_cons, List.length_nil] at this ⊢; omega) ⟨(pm_n hr hm asm), trivial⟩
 ·have hScur := hS
  obtain rfl : (padZ r e [xs]) = m := Eq.symm (pm_e hr hm asm)
  have hS := hScur
  clear hScur
  refine wp_exit (then_exit (then_exit (block_exit (then_n (wp_seq ?_)))))
  obtain ⟨p, hp⟩ : ∃ p, p = padZ r e [xs] := ⟨_, rfl⟩
  have hS := (hS.rv [(0, vi (r : Int)), (3, vi (n : Int)), (8, .v (.slice none 0 0)), (9, .sk 2), (25, .v (.bool (!decide ((((padZ r e [xs]).length % r : Nat) : Int) = 0))))] [(2, some (.sl 5 [.int .u8] p))] (by subst hp; kernel_rfl) (by subst hp; kernel_rfl)).sp
  obtain ⟨N, hN0, hN⟩ := padZ_len hr e [xs]
  have hp1 : 1 ≤ (padZ r e [xs]).length := by rw [hN]; exact Nat.mul_pos hN0 hr
  have hpl := padZ_le hr e [xs]
  rw [← hp] at hN hp1 hpl
  simp only [List.flatten_cons, List.flatten_nil, List.append_nil] at hpl
  refine rA [(3, .oi ((p.length - 1 : Nat) : Int)), (7, .oi ((p.length - 1 : Nat) : Int))] trivial (fun _ => [isub .i64 ((p.length : Nat) : Int) 1 = ((p.length - 1 : Nat) : Int), isub .i64 ((p.length : Nat) : Int) 1 = ((p.length - 1 : Nat) : Int), (0 : Int) ≤ ((p.length - 1 : Nat) : Int) ∧ ((p.length - 1 : Nat) : Int) < ((p.length : Nat) : Int), (0 : Int) ≤ ((p.length - 1 : Nat) : Int) ∧ ((p.length - 1 : Nat) : Int) < ((p.length : Nat) : Int)]) [0, 3, 8, 9] [2] 3 ⟨by rw [isub64 omm omm]; omega, by rw [isub64 omm omm]; omega, by omega, by omega, trivial⟩ hS fun hS => ?_
  refine then_n (wp_seq ?_)
  obtain ⟨q, hq⟩ : ∃ q, q = pad r e [xs] := ⟨_, rfl⟩
  have hS := (hS.rv [(0, vi (r : Int)), (3, vi (n : Int)), (8, .v (.slice none 0 0)), (9, .sk 2)] [(2, some (.sl 5 [.int .u8] q))] (by subst hq; subst hp; kernel_rfl) (by subst hq; subst hp; kernel_rfl)).sp
  have hNq : q.length = N * r := by rw [hq, pad_len, ← hp, hN]
  clear hN hp1 hp
  have hql : q.length ≤ 1000000 := by have := padZ_le hr e [xs]; simp only [List.flatten_cons, List.flatten_nil, List.append_nil] at this; rw [hq, pad_len]; omega
  refine r0 [0, 3, 8, 9, 10] [2, 3] 4 hS fun hS => ?_
  refine then_n (wp_seq (s0 [0, 3, 8, 9, 10, 11] [2, 3] 4 hS fun hS => ?_))
  refine wp_block (loop_y (ι := Nat × Nat × (Nat → Int)) hg0 hS (fun z_ => match z_ with | (k, b, f) => N - k) (fun z_ => match z_ with | (k, b, f) => [(0, vi (r : Int)), (3, vi (n : Int)), (8, .v (.slice none 0 0)), (9, .sk 2), (10, .cp 3 0), (11, vi ((b : Nat) : Int))]) (fun z_ => match z_ with | (k, b, f) => [(2, .sl 5 [.int .u8] q), (3, .ob 137 (chain [.ar .u64 25 f]))]) (fun z_ => match z_ with | (k, b, f) => (k ≤ N) ∧ (b = k * r) ∧ (f = soakN q r k) ∧ True) 4 (0, 0, fun _ => 0) [(2, 2), (3, 3)] ⟨omm, omm, rfl, trivial⟩ ?_)
  rintro ⟨k, b, f⟩ ac gs ws ⟨hk, hb, hf, _⟩ hS
  refine wp_seq (s0 [0, 3, 8, 9, 10, 11, 44] [2, 3] 4 hS fun hS => ?_)
  refine if_d ((b : Int) < ((q.length : Nat) : Int)) hS (fun h2 => ?_) (fun h2 => ?_)
  ·refine wp_skip (then_n (wp_seq (wp_block (wp_seq (wp_seq ?_)))))
   have hkb := at_lt hNq hb omm
   refine r0 [0, 3, 8, 9, 10, 11, 12] [2, 3] 4 hS fun hS => ?_
   refine then_n (wp_block (loop_y (ι := Nat × (Nat → Int)) hg0 hS (fun z_ => match z_ with | (i, g) => r - i) (fun z_ => match z_ with | (i, g) => [(0, vi (r : Int)), (3, vi (n : Int)), (8, .v (.slice none 0 0)), (9, .sk 2), (10, .cp 3 0), (11, vi (b : Int)), (12, vi ((i : Nat) : Int))]) (fun z_ => match z_ with | (i, g) => [(2, .sl 5 [.int .u8] q), (3, .ob 137 (chain [.ar .u64 25 g]))]) (fun z_ => match z_ with | (i, g) => (i ≤ r) ∧ (g = xin (q.drop b) f i) ∧ True) 4 (0, f) [(2, 2), (3, 3)] ⟨omm, rfl, trivial⟩ ?_))
   rintro ⟨i, g⟩ ac gs ws ⟨hi, hg, _⟩ hS
   refine wp_seq (s0 [0, 3, 8, 9, 10, 11, 12, 50] [2, 3] 4 hS fun hS => ?_)
   refine if_d ((i : Int) < (r : Int)) hS (fun h3 => ?_) (fun h3 => ?_)
   ·refine wp_skip (then_n (wp_seq (wp_block (rA [(1, .oi ((i / 8 : Nat) : Int)), (3, .oi ((i / 8 : Nat) : Int)), (9, .oi ((b + i : Nat) : Int)), (14, .oi ((i % 8 : Nat) : Int)), (15, .oi ((8 * (i % 8) : Nat) : Int))] trivial (fun _ => [iquo .i64 (i : Int) 8 = ((i / 8 : Nat) : Int), (8 : Int) ≠ 0, iquo .i64 (i : Int) 8 = ((i / 8 : Nat) : Int), (8 : Int) ≠ 0, (0 : Int) ≤ ((i / 8 : Nat) : Int) ∧ (((i / 8 : Nat) : Int) : Int) < 25, iadd .i64 (b : Int) (i : Int) = ((b + i : Nat) : Int), (0 : Int) ≤ ((b + i : Nat) : Int) ∧ ((b + i : Nat) : Int) < ((q.length : Nat) : Int), irem (i : Int) 8 = ((i % 8 : Nat) : Int), (8 : Int) ≠ 0, imul .i64 8 ((i % 8 : Nat) : Int) = ((8 * (i % 8) : Nat) : Int), (0 : Int) ≤ ((8 * (i % 8) : Nat) : Int), (0 : Int) ≤ ((i / 8 : Nat) : Int) ∧ (((i / 8 : Nat) : Int) : Int) < 25]) [0, 3, 8, 9, 10, 11, 12] [2, 3] 4 ⟨by rw [iquo64 omm omm omm]; omega, by omega, by rw [iquo64 omm omm omm]; omega, by omega, by omega, by rw [iadd64 omm omm]; omega, by omega, by rw [irem64 omm]; omega, by omega, by rw [imul64 omm omm]; omega, by omega, by omega, trivial⟩ hS fun hS => ?_))))
    refine block_n (then_n (rA [(1, .oi ((i + 1 : Nat) : Int))] trivial (fun _ => [iadd .i64 (i : Int) 1 = ((i + 1 : Nat) : Int)]) [0, 3, 8, 9, 10, 11, 12] [2, 3] 4 ⟨by rw [iadd64 omm omm]; omega, trivial⟩ hS fun hS => ?_))
    refine then_n ?_
    exact next_y hg0 hS (s := (i, g)) (i + 1, upd g (i / 8) (ixor .u64 (g (i / 8)) (ishl .u64 (IntKind.wrap .u64 (q.getD (b + i) 0)) ((8 * (i % 8) : Nat) : Int)))) [(2, 2), (3, 3)] (show r - (i + 1) < r - i from by omega) ⟨omm, (xin_n hg), trivial⟩
   ·have hScur := hS
    obtain rfl : r = i := by omega
    have hS := hScur
    clear hScur
    refine wp_exit (then_exit (then_exit (block_exit (then_n (rA [(0, .ov (.ar .u64 25 g)), (1, .call ⟨96, (c_rpermp g), [], []⟩)] ⟨rpermp_ok _, trivial⟩ (fun C => [(.ar .u64 25 g : D) = (.ar .u64 25 g), ndC C 1]) [0, 3, 8, 9, 10, 11] [2, 3] 4 ⟨rfl, rfl, trivial⟩ hS fun hS => ?_)))))
    refine block_n (then_n (rA [(2, .oi ((b + r : Nat) : Int))] trivial (fun _ => [iadd .i64 (b : Int) (r : Int) = ((b + r : Nat) : Int)]) [0, 3, 8, 9, 10, 11] [2, 3] 4 ⟨by rw [iadd64 omm omm]; omega, trivial⟩ hS fun hS => ?_))
    refine then_n ?_
    exact next_y hg0 hS (s := (k, b, f)) (k + 1, b + r, perm g) [(2, 2), (3, 3)] (show N - (k + 1) < N - k from by omega) ⟨hkb.1, (by rw [Nat.succ_mul]; omega), (blk_soak (b := q.drop (k * r)) rfl hf (by rw [← hb]; exact hg)), trivial⟩
  ·have hScur := hS
   obtain rfl : q.length / r = k := Eq.symm (at_ge hr hNq hb hk omm)
   obtain rfl : spg r e [xs] = f := Eq.symm (by rw [hf, hq]; rfl)
   have hS := hScur
   clear hScur
   refine wp_exit (then_exit (then_exit (block_exit (then_n (s0 [0, 3, 8, 10, 13] [3] 4 hS fun hS => ?_)))))
   refine wp_seq (wp_block ?_)
   obtain ⟨gs, hS⟩ := hS.nilk 13 5 [.int .u8]
   refine loop_y (ι := (Nat → Int) × (List Int)) hg0 hS (fun z_ => match z_ with | (g, o) => n - o.length) (fun z_ => match z_ with | (g, o) => [(0, vi (r : Int)), (3, vi (n : Int)), (8, .v (.slice none 0 0)), (10, .cp 3 0), (13, .sk 4)]) (fun z_ => match z_ with | (g, o) => [(3, .ob 137 (chain [.ar .u64 25 g])), (4, .sl 5 [.int .u8] o)]) (fun z_ => match z_ with | (g, o) => (o.length ≤ n) ∧ (o = (rdA r (spg r e [xs]) 0 o.length).2.2) ∧ (o.length < n → RB r (spg r e [xs]) g 0 o) ∧ True) 5 (spg r e [xs], []) [(3, 3), (4, 4)] ⟨(by simp), (rb_o (rb_0 _ _)), (fun _ => rb_0 _ _), trivial⟩ ?_
   rintro ⟨g, o⟩ ac gs ws ⟨ho, hq1, hq3, _⟩ hS
   refine wp_seq (s0 [0, 3, 8, 10, 13, 77] [3, 4] 5 hS fun hS => ?_)
   refine if_d (((o.length : Nat) : Int) < (n : Int)) hS (fun h4 => ?_) (fun h4 => ?_)
   ·refine wp_skip (then_n (wp_block (wp_seq (s0 [0, 3, 8, 10, 13, 14] [3, 4] 5 hS fun hS => ?_))))
    refine wp_block (loop_y (ι := Nat × (List Int)) hg0 hS (fun z_ => match z_ with | (i, o2) => r - i) (fun z_ => match z_ with | (i, o2) => [(0, vi (r : Int)), (3, vi (n : Int)), (8, .v (.slice none 0 0)), (10, .cp 3 0), (13, .sk 4), (14, vi ((i : Nat) : Int))]) (fun z_ => match z_ with | (i, o2) => [(3, .ob 137 (chain [.ar .u64 25 g])), (4, .sl 5 [.int .u8] o2)]) (fun z_ => match z_ with | (i, o2) => (i ≤ r) ∧ (o2.length ≤ n) ∧ (o2.length = o.length + i) ∧ (RB r (spg r e [xs]) g i o2) ∧ True) 5 (0, o) [(3, 3), (4, 4)] ⟨omm, omm, omm, (hq3 omm), trivial⟩ ?_)
    rintro ⟨i, o2⟩ ac gs ws ⟨hi, ho2, hl, hq2, _⟩ hS
    refine wp_seq (wp_seq ?_)
    by_cases h5 : (i : Int) < (r : Int)
    ·refine rA [(2, .ob true)] trivial (fun _ => [(decide ((i : Int) < (r : Int))) = true]) [0, 3, 8, 10, 13, 14, 86] [3, 4] 5 ⟨decide_eq_true h5, trivial⟩ hS fun hS => ?_
     refine then_n ?_
     refine if_d (((o2.length : Nat) : Int) < (n : Int)) hS (fun h6 => ?_) (fun h6 => ?_)
     ·refine wp_skip (then_n (wp_seq (wp_block (rA [(2, .oi ((i / 8 : Nat) : Int)), (6, .oi ((i % 8 : Nat) : Int)), (7, .oi ((8 * (i % 8) : Nat) : Int))] trivial (fun _ => [iquo .i64 (i : Int) 8 = ((i / 8 : Nat) : Int), (8 : Int) ≠ 0, (0 : Int) ≤ ((i / 8 : Nat) : Int) ∧ (((i / 8 : Nat) : Int) : Int) < 25, irem (i : Int) 8 = ((i % 8 : Nat) : Int), (8 : Int) ≠ 0, imul .i64 8 ((i % 8 : Nat) : Int) = ((8 * (i % 8) : Nat) : Int), (0 : Int) ≤ ((8 * (i % 8) : Nat) : Int), o2.length + [(IntKind.wrap .u8 (ishr .u64 (g (i / 8)) ((8 * (i % 8) : Nat) : Int)))].length ≤ 9223372036854775807, (o2.length + [(IntKind.wrap .u8 (ishr .u64 (g (i / 8)) ((8 * (i % 8) : Nat) : Int)))].length) * 1 ≤ 140737488355328]) [0, 3, 8, 10, 13, 14] [3, 5] 6 ⟨by rw [iquo64 omm omm omm]; omega, by omega, by omega, by rw [irem64 omm]; omega, by omega, by rw [imul64 omm omm]; omega, by omega, by simp <;> omega, by simp <;> omega, trivial⟩ hS fun hS => ?_))))
      refine block_n (then_n (rA [(1, .oi ((i + 1 : Nat) : Int))] trivial (fun _ => [iadd .i64 (i : Int) 1 = ((i + 1 : Nat) : Int)]) [0, 3, 8, 10, 13, 14] [3, 5] 6 ⟨by rw [iadd64 omm omm]; omega, trivial⟩ hS fun hS => ?_))
      refine then_n ?_
      exact next_y hg0 hS (s := (i, o2)) (i + 1, o2 ++ [(IntKind.wrap .u8 (ishr .u64 (g (i / 8)) ((8 * (i % 8) : Nat) : Int)))]) [(3, 3), (4, 5)] (show r - (i + 1) < r - i from by omega) ⟨omm, (by simp only [List.length_append, List.length_cons, List.length_nil]; omega), (by simp only [List.length_append, List.length_cons, List.length_nil]; omega), (rb_n hq2 omm), trivial⟩
     ·refine wp_exit (then_exit (then_exit (block_exit (then_n (rA [(0, .ov (.ar .u64 25 g)), (1, .call ⟨96, (c_rpermp g), [], []⟩)] ⟨rpermp_ok _, trivial⟩ (fun C => [(.ar .u64 25 g : D) = (.ar .u64 25 g), ndC C 1]) [0, 3, 8, 10, 13] [3, 4] 5 ⟨rfl, rfl, trivial⟩ hS fun hS => ?_)))))
      refine block_n (then_n ?_)
      exact next_y hg0 hS (s := (g, o)) (perm g, o2) [(3, 3), (4, 4)] (by show n - o2.length < n - o.length; omega) ⟨ho2, (rb_x n hq2 hr omm hi).1, (rb_x n hq2 hr omm hi).2, trivial⟩
    ·refine rA [(2, .ob false)] trivial (fun _ => [(decide ((i : Int) < (r : Int))) = false]) [0, 3, 8, 10, 13, 14, 86] [3, 4] 5 ⟨decide_eq_false h5, trivial⟩ hS fun hS => ?_
     refine then_n (cond_f hS ?_)
     refine wp_exit (then_exit (then_exit (block_exit (then_n (rA [(0, .ov (.ar .u64 25 g)), (1, .call ⟨96, (c_rpermp g), [], []⟩)] ⟨rpermp_ok _, trivial⟩ (fun C => [(.ar .u64 25 g : D) = (.ar .u64 25 g), ndC C 1]) [0, 3, 8, 10, 13] [3, 4] 5 ⟨rfl, rfl, trivial⟩ hS fun hS => ?_)))))
     refine block_n (then_n ?_)
     exact next_y hg0 hS (s := (g, o)) (perm g, o2) [(3, 3), (4, 4)] (by show n - o2.length < n - o.length; omega) ⟨ho2, (rb_x n hq2 hr omm hi).1, (rb_x n hq2 hr omm hi).2, trivial⟩
   ·have hScur := hS
    obtain rfl : (rdA r (spg r e [xs]) 0 n).2.2 = o := Eq.symm (hq1.trans (by rw [show o.length = n by omega]))
    have hS := hScur
    clear hScur
    refine wp_exit (then_exit (then_exit (block_exit (then_n (s0 [8] [4] 5 hS fun hS => ?_)))))
    refine wp_ret ?_
    obtain ⟨gs, hS⟩ := hS.fz 4
    exact fin_y rfl (.inr rfl) hS [lb ((rdA r (spg r e [xs]) 0 n).2.2)] [] rfl trivial

end
end Go.Sx.Try
namespace Go.Sx.Try
open Go.Mi Go.RowKit Go.Sx Go.Proofs
noncomputable section
def rsha32_v (xs : List Int) : (List Int) := (rdA 136 (spg 136 6 [xs]) 0 32).2.2
def rsha32_m (xs : List Int) : (List Int) := shut (rsha32_v xs)
theorem rsha32_e (xs : List Int) : rsha32_m xs = rsha32_v xs := shut_eq _
@[simp] theorem rsha32_len (xs : List Int) : (rsha32_m xs).length = 32 := by rw [rsha32_e]; exact rd_len ..
theorem rsha32_eq (xs : List Int) : rsha32_m xs = sum256_m [xs] := by rw [rsha32_e, sum256_e]; rfl
def c_rsha32 (xs : List Int) : Con := ⟨[vi 32, lb xs], [], lb (rsha32_m xs), []⟩
theorem rsha32_ok (xs : List Int) (h : xs.length ≤ 10000) : ConOk Try.prog 25 (c_rsha32 xs) := by
 refine conOk_of rfl (nb := 0) Try.func25 rfl rfl Try.ntmps25 rfl rfl rfl fun g0 w0 ac gs ws hg0 hS => ?_
 have hlen1 : xs.length ≤ 9223372036854775807 := hS.len 1 rfl
 have hS := hS.sp
 refine s0 [0, 1, 4] [] 0 hS fun hS => ?_
 refine sA [(5, .call ⟨59, (c_rspg 136 6 xs 32), [], []⟩)] ⟨rspg_ok _ _ _ _ omm omm lnn omm omm, trivial⟩ (fun C => [ndC C 5]) [4] [] 0 ⟨rfl, trivial⟩ hS fun hS => ?_
 refine wp_ret ?_
 have hM : rsha32_m xs = (rdA 136 (spg 136 6 [xs]) 0 32).2.2 := rsha32_e xs
 exact fin_y rfl (.inr rfl) hS [lb ((rdA 136 (spg 136 6 [xs]) 0 32).2.2)] [] (by show weak _ (lb (rsha32_m xs)) = (lb (rsha32_m xs)); rw [hM]; first | (simp only []; rfl) | (simp only []; done) | rfl) trivial

def rsha64_v (xs : List Int) : (List Int) := (rdA 72 (spg 72 6 [xs]) 0 64).2.2
def rsha64_m (xs : List Int) : (List Int) := shut (rsha64_v xs)
theorem rsha64_e (xs : List Int) : rsha64_m xs = rsha64_v xs := shut_eq _
@[simp] theorem rsha64_len (xs : List Int) : (rsha64_m xs).length = 64 := by rw [rsha64_e]; exact rd_len ..
def c_rsha64 (xs : List Int) : Con := ⟨[vi 64, lb xs], [], lb (rsha64_m xs), []⟩
theorem rsha64_ok (xs : List Int) (h : xs.length ≤ 10000) : ConOk Try.prog 25 (c_rsha64 xs) := by
 refine conOk_of rfl (nb := 0) Try.func25 rfl rfl Try.ntmps25 rfl rfl rfl fun g0 w0 ac gs ws hg0 hS => ?_
 have hlen1 : xs.length ≤ 9223372036854775807 := hS.len 1 rfl
 have hS := hS.sp
 refine s0 [0, 1, 4] [] 0 hS fun hS => ?_
 refine sA [(5, .call ⟨59, (c_rspg 72 6 xs 64), [], []⟩)] ⟨rspg_ok _ _ _ _ omm omm lnn omm omm, trivial⟩ (fun C => [ndC C 5]) [4] [] 0 ⟨rfl, trivial⟩ hS fun hS => ?_
 refine wp_ret ?_
 have hM : rsha64_m xs = (rdA 72 (spg 72 6 [xs]) 0 64).2.2 := rsha64_e xs
 exact fin_y rfl (.inr rfl) hS [lb ((rdA 72 (spg 72 6 [xs]) 0 64).2.2)] [] (by show weak _ (lb (rsha64_m xs)) = (lb (rsha64_m xs)); rw [hM]; first | (simp only []; rfl) | (simp only []; done) | rfl) trivial

def rshkn_v (n : Nat) (xs : List Int) : (List Int) := (rdA 168 (spg 168 31 [xs]) 0 (min n 65536)).2.2
def rshkn_m (n : Nat) (xs : List Int) : (List Int) := shut (rshkn_v n xs)
theorem rshkn_e (n : Nat) (xs : List Int) : rshkn_m n xs = rshkn_v n xs := shut_eq _
theorem rshkn_len (n : Nat) (xs : List Int) (hn : n ≤ 65536) : (rshkn_m n xs).length = n := by rw [rshkn_e]; unfold rshkn_v; rw [rd_len]; omega
def c_rshkn (n : Nat) (xs : List Int) : Con := ⟨[vi 16, vi (n : Int), lb xs], [], lb (rshkn_m n xs), []⟩
theorem rshkn_ok (n : Nat) (xs : List Int) (h : xs.length ≤ 10000) (hn0 : 1 ≤ n) (hn : n ≤ 65536) : ConOk Try.prog 60 (c_rshkn n xs) := by
 refine conOk_of rfl (nb := 0) Try.func60 rfl rfl Try.ntmps60 rfl rfl rfl fun g0 w0 ac gs ws hg0 hS => ?_
 have hlen2 : xs.length ≤ 9223372036854775807 := hS.len 2 rfl
 have hS := hS.sp
 have hn1 : ¬ (n : Int) < 1 := omm
 refine s0 [0, 1, 2, 6] [] 0 hS fun hS => ?_
 refine wp_seq (sA [(1, .ob false)] trivial (fun _ => [(decide ((n : Int) < 1)) = false]) [0, 1, 2, 6, 8] [] 0 ⟨decide_eq_false hn1, trivial⟩ hS fun hS => ?_)
 refine cond_f hS ?_
 refine wp_skip (then_n (sA [(5, .oi ((min n 65536 : Nat) : Int)), (6, .call ⟨59, (c_rspg 168 31 xs (min n 65536)), [], []⟩)] ⟨rspg_ok _ _ _ _ omm omm lnn omm omm, trivial⟩ (fun C => [(if 65536 < (n : Int) then 65536 else (n : Int)) = ((min n 65536 : Nat) : Int), ndC C 6]) [6] [] 0 ⟨by split <;> omega, rfl, trivial⟩ hS fun hS => ?_))
 refine wp_ret ?_
 have hM : rshkn_m n xs = (rdA 168 (spg 168 31 [xs]) 0 (min n 65536)).2.2 := rshkn_e n xs
 exact fin_y rfl (.inr rfl) hS [lb ((rdA 168 (spg 168 31 [xs]) 0 (min n 65536)).2.2)] [] (by show weak _ (lb (rshkn_m n xs)) = (lb (rshkn_m n xs)); rw [hM]; first | (simp only []; rfl) | (simp only []; done) | rfl) trivial

def rshk8_v (xs : List Int) : (List Int) := (rdA 136 (spg 136 31 [xs]) 0 128).2.2
def rshk8_m (xs : List Int) : (List Int) := shut (rshk8_v xs)
theorem rshk8_e (xs : List Int) : rshk8_m xs = rshk8_v xs := shut_eq _
@[simp] theorem rshk8_len (xs : List Int) : (rshk8_m xs).length = 128 := by rw [rshk8_e]; exact rd_len ..
def c_rshk8 (xs : List Int) : Con := ⟨[vi 32, vi 128, lb xs], [], lb (rshk8_m xs), []⟩
theorem rshk8_ok (xs : List Int) (h : xs.length ≤ 10000) : ConOk Try.prog 60 (c_rshk8 xs) := by
 refine conOk_of rfl (nb := 0) Try.func60 rfl rfl Try.ntmps60 rfl rfl rfl fun g0 w0 ac gs ws hg0 hS => ?_
 have hlen2 : xs.length ≤ 9223372036854775807 := hS.len 2 rfl
 have hS := hS.sp
 refine s0 [0, 1, 2, 6] [] 0 hS fun hS => ?_
 refine wp_seq (s0 [0, 1, 2, 6, 8] [] 0 hS fun hS => ?_)
 refine cond_f hS ?_
 refine wp_skip (then_n (sA [(6, .call ⟨59, (c_rspg 136 31 xs 128), [], []⟩)] ⟨rspg_ok _ _ _ _ omm omm lnn omm omm, trivial⟩ (fun C => [ndC C 6]) [6] [] 0 ⟨rfl, trivial⟩ hS fun hS => ?_))
 refine wp_ret ?_
 have hM : rshk8_m xs = (rdA 136 (spg 136 31 [xs]) 0 128).2.2 := rshk8_e xs
 exact fin_y rfl (.inr rfl) hS [lb ((rdA 136 (spg 136 31 [xs]) 0 128).2.2)] [] (by show weak _ (lb (rshk8_m xs)) = (lb (rshk8_m xs)); rw [hM]; first | (simp only []; rfl) | (simp only []; done) | rfl) trivial

def rzeta_l1_s (n x4 : Nat) : Nat → Nat := fun x3 => (x3 * 17) % 3329
def rzeta_l1 (n : Nat) : Nat → Nat
 | 0 => 1
 | x4 + 1 => rzeta_l1_s n x4 (rzeta_l1 n x4)
def rzeta_v (n : Nat) : Nat := (rzeta_l1 n n)
def rzeta_m (n : Nat) : Nat := shut (rzeta_v n)
theorem rzeta_e (n : Nat) : rzeta_m n = rzeta_v n := shut_eq _
def c_rzeta (n : Nat) : Con := ⟨[vi (n : Int)], [], vi ((rzeta_m n : Nat) : Int), []⟩
theorem rzeta_ok (n : Nat) (hn : n ≤ 1000) : ConOk Try.prog 62 (c_rzeta n) := by
 refine conOk_of rfl (nb := 0) Try.func62 rfl rfl Try.ntmps62 rfl rfl rfl fun g0 w0 ac gs ws hg0 hS => ?_
 have hS := hS.sp
 refine s0 [0, 2] [] 0 hS fun hS => ?_
 refine s0 [0, 2, 3] [] 0 hS fun hS => ?_
 refine wp_seq (s0 [0, 2, 3, 4] [] 0 hS fun hS => ?_)
 refine wp_block (loop_y (ι := Nat × Nat) hg0 hS (fun z_ => match z_ with | (x4, x3) => n - x4) (fun z_ => match z_ with | (x4, x3) => [(0, vi (n : Int)), (2, vi 0), (3, vi ((x3 : Nat) : Int)), (4, vi ((x4 : Nat) : Int))]) (fun z_ => match z_ with | (x4, x3) => []) (fun z_ => match z_ with | (x4, x3) => (x4 ≤ n) ∧ (x3 = rzeta_l1 n x4) ∧ (x3 < 3329) ∧ True) 0 (0, 1) [] ⟨omm, rfl, omm, trivial⟩ ?_)
 rintro ⟨x4, x3⟩ ac gs ws ⟨hx4, hq1, p1, _⟩ hS
 refine wp_seq (s0 [0, 2, 3, 4, 7] [] 0 hS fun hS => ?_)
 refine if_d ((x4 : Int) < (n : Int)) hS (fun h1 => ?_) (fun h1 => ?_)
 ·refine wp_skip (then_n (wp_seq (wp_block (rA [(1, .oi ((x3 * 17 : Nat) : Int)), (2, .oi (((x3 * 17) % 3329 : Nat) : Int))] trivial (fun _ => [imul .i64 (x3 : Int) 17 = ((x3 * 17 : Nat) : Int), irem ((x3 * 17 : Nat) : Int) 3329 = (((x3 * 17) % 3329 : Nat) : Int), (3329 : Int) ≠ 0]) [0, 2, 3, 4] [] 0 ⟨by rw [imul64 omm omm]; omega, by rw [irem64 omm]; omega, by omega, trivial⟩ hS fun hS => ?_))))
  refine block_n (then_n (rA [(1, .oi ((x4 + 1 : Nat) : Int))] trivial (fun _ => [iadd .i64 (x4 : Int) 1 = ((x4 + 1 : Nat) : Int)]) [0, 2, 3, 4] [] 0 ⟨by rw [iadd64 omm omm]; omega, trivial⟩ hS fun hS => ?_))
  refine then_n ?_
  exact next_y hg0 hS (s := (x4, x3)) (x4 + 1, (x3 * 17) % 3329) [] (show n - (x4 + 1) < n - x4 from by omega) ⟨omm, (it_next (F := rzeta_l1 n) (st := rzeta_l1_s n) (fun _ => rfl) hq1 rfl), omm, trivial⟩
 ·have hScur := hS
  obtain rfl : n = x4 := by omega
  obtain rfl : rzeta_l1 n n = x3 := Eq.symm (congrArg (fun z => z) hq1)
  have hS := hScur
  clear hScur
  refine wp_exit (then_exit (then_exit (block_exit (then_n (s0 [2] [] 0 hS fun hS => ?_)))))
  refine wp_ret ?_
  have hM : rzeta_m n = (rzeta_l1 n n) := rzeta_e n
  exact fin_y rfl (.inr rfl) hS [vi ((rzeta_l1 n n : Nat) : Int)] [] (by show weak _ (vi ((rzeta_m n : Nat) : Int)) = (vi ((rzeta_m n : Nat) : Int)); rw [hM]; first | (simp only []; rfl) | (simp only []; done) | rfl) trivial

def rrev0_l1_s (k x4 : Nat) : Int → Int := fun x3 => (ior .i64 (ishl .i64 x3 1) (iand .i64 (ishr .i64 (k : Int) (x4 : Int)) 1))
def rrev0_l1 (k : Nat) : Nat → Int
 | 0 => 0
 | x4 + 1 => rrev0_l1_s k x4 (rrev0_l1 k x4)
def rrev0_v (k : Nat) : Int := (rrev0_l1 k 7)
def rrev0_m (k : Nat) : Int := shut (rrev0_v k)
theorem rrev0_e (k : Nat) : rrev0_m k = rrev0_v k := shut_eq _
def c_rrev0 (k : Nat) : Con := ⟨[vi (k : Int)], [], vi (rrev0_m k), []⟩
theorem rrev0_ok (k : Nat) : ConOk Try.prog 63 (c_rrev0 k) := by
 refine conOk_of rfl (nb := 0) Try.func63 rfl rfl Try.ntmps63 rfl rfl rfl fun g0 w0 ac gs ws hg0 hS => ?_
 have hS := hS.sp
 refine s0 [0, 2] [] 0 hS fun hS => ?_
 refine s0 [0, 2, 3] [] 0 hS fun hS => ?_
 refine wp_seq (s0 [0, 2, 3, 4] [] 0 hS fun hS => ?_)
 refine wp_block (loop_y (ι := Nat × Int) hg0 hS (fun z_ => match z_ with | (x4, x3) => 7 - x4) (fun z_ => match z_ with | (x4, x3) => [(0, vi (k : Int)), (2, vi 0), (3, vi x3), (4, vi ((x4 : Nat) : Int))]) (fun z_ => match z_ with | (x4, x3) => []) (fun z_ => match z_ with | (x4, x3) => (x4 ≤ 7) ∧ (x3 = rrev0_l1 k x4) ∧ True) 0 (0, 0) [] ⟨omm, rfl, trivial⟩ ?_)
 rintro ⟨x4, x3⟩ ac gs ws ⟨hx4, hq1, _⟩ hS
 refine wp_seq (s0 [0, 2, 3, 4, 6] [] 0 hS fun hS => ?_)
 refine if_d ((x4 : Int) < 7) hS (fun h1 => ?_) (fun h1 => ?_)
 ·refine wp_skip (then_n (wp_seq (wp_block (rA [] trivial (fun _ => [(0 : Int) ≤ 1, (0 : Int) ≤ (x4 : Int)]) [0, 2, 3, 4] [] 0 ⟨by omega, by omega, trivial⟩ hS fun hS => ?_))))
  refine block_n (then_n (rA [(1, .oi ((x4 + 1 : Nat) : Int))] trivial (fun _ => [iadd .i64 (x4 : Int) 1 = ((x4 + 1 : Nat) : Int)]) [0, 2, 3, 4] [] 0 ⟨by rw [iadd64 omm omm]; omega, trivial⟩ hS fun hS => ?_))
  refine then_n ?_
  exact next_y hg0 hS (s := (x4, x3)) (x4 + 1, (ior .i64 (ishl .i64 x3 1) (iand .i64 (ishr .i64 (k : Int) (x4 : Int)) 1))) [] (show 7 - (x4 + 1) < 7 - x4 from by omega) ⟨omm, (it_next (F := rrev0_l1 k) (st := rrev0_l1_s k) (fun _ => rfl) hq1 rfl), trivial⟩
 ·have hScur := hS
  obtain rfl : 7 = x4 := by omega
  obtain rfl : rrev0_l1 k 7 = x3 := Eq.symm (congrArg (fun z => z) hq1)
  have hS := hScur
  clear hScur
  refine wp_exit (then_exit (then_exit (block_exit (then_n (s0 [2] [] 0 hS fun hS => ?_)))))
  refine wp_ret ?_
  have hM : rrev0_m k = (rrev0_l1 k 7) := rrev0_e k
  exact fin_y rfl (.inr rfl) hS [vi (rrev0_l1 k 7)] [] (by show weak _ (vi (rrev0_m k)) = (vi (rrev0_m k)); rw [hM]; first | (simp only []; rfl) | (simp only []; done) | rfl) trivial

theorem rrev_lt (k : Nat) (h : k < 128) : 0 ≤ rrev0_m k ∧ rrev0_m k < 128 := by
 have key : ((List.range 128).all fun i => decide (0 ≤ rrev0_v i) && decide (rrev0_v i < 128)) = true := by kernel_rfl
 have := List.all_eq_true.1 key k (List.mem_range.2 h)
 rw [Bool.and_eq_true, decide_eq_true_iff, decide_eq_true_iff] at this
 rw [rrev0_e]
 exact this
def rrevN (k : Nat) : Nat := (rrev0_m k).toNat
theorem rrevN_lt (k : Nat) (h : k < 128) : rrevN k < 128 := by have := rrev_lt k h; unfold rrevN; omega
def c_rrev (k : Nat) : Con := ⟨[vi (k : Int)], [], vi ((rrevN k : Nat) : Int), []⟩
theorem rrev_ok (k : Nat) (h : k < 128) : ConOk Try.prog 63 (c_rrev k) := by
 have := rrev0_ok k
 unfold c_rrev0 at this
 rwa [show rrev0_m k = ((rrevN k : Nat) : Int) by have := rrev_lt k h; unfold rrevN; omega] at this
end
end Go.Sx.Try
namespace Go.Sx.Try
open Go.Mi Go.RowKit Go.Sx Go.Proofs
noncomputable section
def c_rcatf (l : List (List Int)) : Con := ⟨[.ls false [.sl (.int .u8)] l], [], lb (rcat_m l), []⟩
theorem rcatf_ok (l : List (List Int)) (hn : l.length ≤ 1000) (hm : ∀ j, (l.getD j (rz [.sl (.int .u8)])).length ≤ 3000) : ConOk Try.prog 26 (c_rcatf l) := ConOk.frz [] 0 5 [.int .u8] (rcat_m l) (rcat_ok l hn hm) (by kernel_rfl)
def radd_l1_s (f g : Nat → Int) (x6 : Nat) : (Nat → Int) → (Nat → Int) := fun o5_0 => upd o5_0 x6 (IntKind.wrap .u16 (irem (iadd .i64 (IntKind.wrap .i64 (f x6)) (IntKind.wrap .i64 (g x6))) 3329))
def radd_l1 (f g : Nat → Int) : Nat → (Nat → Int)
 | 0 => fun _ => 0
 | x6 + 1 => radd_l1_s f g x6 (radd_l1 f g x6)
def radd_v (f g : Nat → Int) : (Nat → Int) := radd_l1 f g 256
def radd_m (f g : Nat → Int) : (Nat → Int) := shut (radd_v f g)
theorem radd_e (f g : Nat → Int) : radd_m f g = radd_v f g := shut_eq _
def c_radd (f g : Nat → Int) : Con := ⟨[.ar .u16 256 f, .ar .u16 256 g], [], .ar .u16 256 (radd_m f g), []⟩
theorem radd_ok (f g : Nat → Int) : ConOk Try.prog 29 (c_radd f g) := by
 refine conOk_of rfl (nb := 0) Try.func29 rfl rfl Try.ntmps29 rfl rfl rfl fun g0 w0 ac gs ws hg0 hS => ?_
 have hS := hS.sp
 refine s0 [2, 3, 4] [0, 1, 2] 3 hS fun hS => ?_
 refine s0 [2, 3, 4, 5] [0, 1, 2, 3] 4 hS fun hS => ?_
 refine wp_seq (s0 [2, 3, 4, 5, 6] [0, 1, 2, 3] 4 hS fun hS => ?_)
 refine wp_block (loop_y (ι := Nat × (Nat → Int)) hg0 hS (fun z_ => match z_ with | (x6, o5_0) => 256 - x6) (fun z_ => match z_ with | (x6, o5_0) => [(2, .cp 0 0), (3, .cp 1 0), (4, .cp 2 0), (5, .cp 3 0), (6, vi ((x6 : Nat) : Int))]) (fun z_ => match z_ with | (x6, o5_0) => [(0, .ob 52 (chain [.ar .u16 256 f])), (1, .ob 52 (chain [.ar .u16 256 g])), (2, .ob 52 (chain [.ar .u16 256 (fun _ => 0)])), (3, .ob 52 (chain [.ar .u16 256 o5_0]))]) (fun z_ => match z_ with | (x6, o5_0) => (x6 ≤ 256) ∧ (o5_0 = radd_l1 f g x6) ∧ True) 4 (0, fun _ => 0) [(0, 0), (1, 1), (2, 2), (3, 3)] ⟨omm, rfl, trivial⟩ ?_)
 rintro ⟨x6, o5_0⟩ ac gs ws ⟨hx6, hq1, _⟩ hS
 refine wp_seq (s0 [2, 3, 4, 5, 6, 8] [0, 1, 2, 3] 4 hS fun hS => ?_)
 refine if_d ((x6 : Int) < 256) hS (fun h1 => ?_) (fun h1 => ?_)
 ·refine wp_skip (then_n (wp_seq (wp_block (rA [] trivial (fun _ => [(0 : Int) ≤ (x6 : Int) ∧ ((x6 : Int) : Int) < 256, (0 : Int) ≤ (x6 : Int) ∧ ((x6 : Int) : Int) < 256, (3329 : Int) ≠ 0, (0 : Int) ≤ (x6 : Int) ∧ ((x6 : Int) : Int) < 256]) [2, 3, 4, 5, 6] [0, 1, 2, 3] 4 ⟨by omega, by omega, by omega, by omega, trivial⟩ hS fun hS => ?_))))
  refine block_n (then_n (rA [(1, .oi ((x6 + 1 : Nat) : Int))] trivial (fun _ => [iadd .i64 (x6 : Int) 1 = ((x6 + 1 : Nat) : Int)]) [2, 3, 4, 5, 6] [0, 1, 2, 3] 4 ⟨by rw [iadd64 omm omm]; omega, trivial⟩ hS fun hS => ?_))
  refine then_n ?_
  exact next_y hg0 hS (s := (x6, o5_0)) (x6 + 1, upd o5_0 x6 (IntKind.wrap .u16 (irem (iadd .i64 (IntKind.wrap .i64 (f x6)) (IntKind.wrap .i64 (g x6))) 3329))) [(0, 0), (1, 1), (2, 2), (3, 3)] (show 256 - (x6 + 1) < 256 - x6 from by omega) ⟨omm, (it_next (F := radd_l1 f g) (st := radd_l1_s f g) (fun _ => rfl) hq1 rfl), trivial⟩
 ·have hScur := hS
  obtain rfl : 256 = x6 := by omega
  obtain rfl : radd_l1 f g 256 = o5_0 := Eq.symm (congrArg (fun z => z) hq1)
  have hS := hScur
  clear hScur
  refine wp_exit (then_exit (then_exit (block_exit (then_n (s0 [4] [2] 4 hS fun hS => ?_)))))
  refine wp_ret ?_
  have hM : radd_m f g = radd_l1 f g 256 := radd_e f g
  exact fin_y rfl (.inr rfl) hS [.ar .u16 256 (radd_l1 f g 256)] [] (by show weak _ (.ar .u16 256 (radd_m f g)) = (.ar .u16 256 (radd_m f g)); rw [hM]; first | (simp only []; rfl) | (simp only []; done) | rfl) trivial

theorem rtt_b {h k f : Nat} (h2 : 2 ≤ h) (hh : PW h) (hk : k * (2 * h) = 256 + f) (hf : f < 256) : f + 2 * h ≤ 256 ∧ k < 128 ∧ (k + 1) * (2 * h) = 256 + (f + 2 * h) ∧ h ≤ 128 := by
 unfold PW at hh
 rcases hh with rfl | rfl | rfl | rfl | rfl | rfl | rfl | rfl <;> omega
def rntt_l3_s (f : Nat → Int) (k1 : Nat) (x3 x4 : Nat) (o1_0 : Nat → Int) (k2 : Nat) (x3_2 x5 : Nat) (o1_0_2 : Nat → Int) (k3 : Nat) : (Nat × (Nat → Int)) → (Nat × (Nat → Int)) := fun z_ => match z_ with | (x7, o1_0_3) => (x7 + 1, upd (upd o1_0_3 (x7 + x4) (IntKind.wrap .u16 (irem (isub .i64 (iadd .i64 (irem (IntKind.wrap .i64 (o1_0_3 x7)) 3329) 3329) (irem (imul .i64 ((rzeta_m (rrevN x3_2) : Nat) : Int) (IntKind.wrap .i64 (o1_0_3 (x7 + x4)))) 3329)) 3329))) x7 (IntKind.wrap .u16 (irem (iadd .i64 (irem (IntKind.wrap .i64 (o1_0_3 x7)) 3329) (irem (imul .i64 ((rzeta_m (rrevN x3_2) : Nat) : Int) (IntKind.wrap .i64 (o1_0_3 (x7 + x4)))) 3329)) 3329)))
def rntt_l3 (f : Nat → Int) (k1 : Nat) (x3 x4 : Nat) (o1_0 : Nat → Int) (k2 : Nat) (x3_2 x5 : Nat) (o1_0_2 : Nat → Int) : Nat → Nat × (Nat → Int)
 | 0 => (x5, o1_0_2)
 | k3 + 1 => rntt_l3_s f k1 x3 x4 o1_0 k2 x3_2 x5 o1_0_2 k3 (rntt_l3 f k1 x3 x4 o1_0 k2 x3_2 x5 o1_0_2 k3)
def rntt_l3_c (f : Nat → Int) (k1 : Nat) (x3 x4 : Nat) (o1_0 : Nat → Int) (k2 : Nat) (x3_2 x5 : Nat) (o1_0_2 : Nat → Int) : (Nat × (Nat → Int)) → Prop := fun z_ => match z_ with | (x7, o1_0_3) => ((x7 : Nat) : Int) < ((x5 + x4 : Nat) : Int)
def rntt_l2_s (f : Nat → Int) (k1 : Nat) (x3 x4 : Nat) (o1_0 : Nat → Int) (k2 : Nat) : (Nat × Nat × (Nat → Int)) → (Nat × Nat × (Nat → Int)) := fun z_ => match z_ with | (x3_2, x5, o1_0_2) => (x3_2 + 1, x5 + (2 * x4), (rntt_l3 f k1 x3 x4 o1_0 k2 x3_2 x5 o1_0_2 (lst fun j => rntt_l3_c f k1 x3 x4 o1_0 k2 x3_2 x5 o1_0_2 (rntt_l3 f k1 x3 x4 o1_0 k2 x3_2 x5 o1_0_2 j))).2)
def rntt_l2 (f : Nat → Int) (k1 : Nat) (x3 x4 : Nat) (o1_0 : Nat → Int) : Nat → Nat × Nat × (Nat → Int)
 | 0 => (x3, 0, o1_0)
 | k2 + 1 => rntt_l2_s f k1 x3 x4 o1_0 k2 (rntt_l2 f k1 x3 x4 o1_0 k2)
def rntt_l2_c (f : Nat → Int) (k1 : Nat) (x3 x4 : Nat) (o1_0 : Nat → Int) : (Nat × Nat × (Nat → Int)) → Prop := fun z_ => match z_ with | (x3_2, x5, o1_0_2) => ((x5 : Nat) : Int) < 256
def rntt_l1_s (f : Nat → Int) (k1 : Nat) : (Nat × Nat × (Nat → Int)) → (Nat × Nat × (Nat → Int)) := fun z_ => match z_ with | (x3, x4, o1_0) => ((rntt_l2 f k1 x3 x4 o1_0 (lst fun j => rntt_l2_c f k1 x3 x4 o1_0 (rntt_l2 f k1 x3 x4 o1_0 j))).1, x4 / 2, (rntt_l2 f k1 x3 x4 o1_0 (lst fun j => rntt_l2_c f k1 x3 x4 o1_0 (rntt_l2 f k1 x3 x4 o1_0 j))).2.2)
def rntt_l1 (f : Nat → Int) : Nat → Nat × Nat × (Nat → Int)
 | 0 => (1, 128, f)
 | k1 + 1 => rntt_l1_s f k1 (rntt_l1 f k1)
def rntt_l1_c (f : Nat → Int) : (Nat × Nat × (Nat → Int)) → Prop := fun z_ => match z_ with | (x3, x4, o1_0) => (2 : Int) ≤ ((x4 : Nat) : Int)
def rntt_v (f : Nat → Int) : (Nat → Int) := (rntt_l1 f (lst fun j => rntt_l1_c f (rntt_l1 f j))).2.2
def rntt_m (f : Nat → Int) : (Nat → Int) := shut (rntt_v f)
theorem rntt_e (f : Nat → Int) : rntt_m f = rntt_v f := shut_eq _
def c_rntt (f : Nat → Int) : Con := ⟨[.ar .u16 256 f], [], .ar .u16 256 (rntt_m f), []⟩
theorem rntt_ok (f : Nat → Int) : ConOk Try.prog 28 (c_rntt f) := by
 refine conOk_of rfl (nb := 0) Try.func28 rfl rfl Try.ntmps28 rfl rfl rfl fun g0 w0 ac gs ws hg0 hS => ?_
 have hS := hS.sp
 refine s0 [1, 2] [0, 1] 2 hS fun hS => ?_
 refine s0 [1, 2, 3] [0, 1] 2 hS fun hS => ?_
 refine wp_seq (s0 [1, 2, 3, 4] [0, 1] 2 hS fun hS => ?_)
 refine wp_block (loop_y (ι := Nat × Nat × Nat × (Nat → Int)) hg0 hS (fun z_ => match z_ with | (k1, x3, x4, o1_0) => x4) (fun z_ => match z_ with | (k1, x3, x4, o1_0) => [(1, .cp 0 0), (2, .cp 1 0), (3, vi ((x3 : Nat) : Int)), (4, vi ((x4 : Nat) : Int))]) (fun z_ => match z_ with | (k1, x3, x4, o1_0) => [(0, .ob 52 (chain [.ar .u16 256 o1_0])), (1, .ob 52 (chain [.ar .u16 256 (fun _ => 0)]))]) (fun z_ => match z_ with | (k1, x3, x4, o1_0) => ((x3, x4, o1_0) = rntt_l1 f k1) ∧ (∀ j, j < k1 → rntt_l1_c f (rntt_l1 f j)) ∧ (PW x4) ∧ (x3 * x4 = 128) ∧ True) 2 (0, 1, 128, f) [(0, 0), (1, 1)] ⟨rfl, (fun j h => absurd h (Nat.not_lt_zero j)), (by unfold PW; omega), rfl, trivial⟩ ?_)
 rintro ⟨k1, x3, x4, o1_0⟩ ac gs ws ⟨hq1, hj1, pw, pk, _⟩ hS
 refine wp_seq (s0 [1, 2, 3, 4, 11] [0, 1] 2 hS fun hS => ?_)
 refine if_d ((2 : Int) ≤ (x4 : Int)) hS (fun h1 => ?_) (fun h1 => ?_)
 ·refine wp_skip (then_n (wp_seq (wp_block (wp_seq ?_))))
  have pa := ntt_a omm pw pk
  refine r0 [1, 2, 3, 4, 5] [0, 1] 2 hS fun hS => ?_
  refine then_n (wp_block (loop_y (ι := Nat × Nat × Nat × (Nat → Int)) hg0 hS (fun z_ => match z_ with | (k2, x3_2, x5, o1_0_2) => 256 - x5) (fun z_ => match z_ with | (k2, x3_2, x5, o1_0_2) => [(1, .cp 0 0), (2, .cp 1 0), (3, vi ((x3_2 : Nat) : Int)), (4, vi (x4 : Int)), (5, vi ((x5 : Nat) : Int))]) (fun z_ => match z_ with | (k2, x3_2, x5, o1_0_2) => [(0, .ob 52 (chain [.ar .u16 256 o1_0_2])), (1, .ob 52 (chain [.ar .u16 256 (fun _ => 0)]))]) (fun z_ => match z_ with | (k2, x3_2, x5, o1_0_2) => ((x3_2, x5, o1_0_2) = rntt_l2 f k1 x3 x4 o1_0 k2) ∧ (∀ j, j < k2 → rntt_l2_c f k1 x3 x4 o1_0 (rntt_l2 f k1 x3 x4 o1_0 j)) ∧ (x3_2 * (2 * x4) = 256 + x5) ∧ (x5 ≤ 256) ∧ True) 2 (0, x3, 0, o1_0) [(0, 0), (1, 1)] ⟨rfl, (fun j h => absurd h (Nat.not_lt_zero j)), pa.1, omm, trivial⟩ ?_))
  rintro ⟨k2, x3_2, x5, o1_0_2⟩ ac gs ws ⟨hq2, hj2, p2, p3, _⟩ hS
  refine wp_seq (s0 [1, 2, 3, 4, 5, 15] [0, 1] 2 hS fun hS => ?_)
  refine if_d ((x5 : Int) < 256) hS (fun h2 => ?_) (fun h2 => ?_)
  ·refine wp_skip (then_n (wp_seq (wp_block (wp_seq ?_))))
   have pb := rtt_b omm pw p2 omm
   have hrv := rrevN_lt x3_2 omm
   refine rA [(1, .call ⟨63, (c_rrev x3_2), [], []⟩), (2, .call ⟨62, (c_rzeta (rrevN x3_2)), [], []⟩)] ⟨rrev_ok _ omm, rzeta_ok _ omm, trivial⟩ (fun C => [ndC C 1, ndC C 2]) [1, 2, 3, 4, 5, 6] [0, 1] 2 ⟨rfl, rfl, trivial⟩ hS fun hS => ?_
   refine then_n (sA [(1, .oi ((x3_2 + 1 : Nat) : Int))] trivial (fun _ => [iadd .i64 (x3_2 : Int) 1 = ((x3_2 + 1 : Nat) : Int)]) [1, 2, 3, 4, 5, 6] [0, 1] 2 ⟨by rw [iadd64 omm omm]; omega, trivial⟩ hS fun hS => ?_)
   refine s0 [1, 2, 3, 4, 5, 6, 7] [0, 1] 2 hS fun hS => ?_
   refine wp_block (loop_y (ι := Nat × Nat × (Nat → Int)) hg0 hS (fun z_ => match z_ with | (k3, x7, o1_0_3) => x5 + x4 - x7) (fun z_ => match z_ with | (k3, x7, o1_0_3) => [(1, .cp 0 0), (2, .cp 1 0), (3, vi ((x3_2 + 1 : Nat) : Int)), (4, vi (x4 : Int)), (5, vi (x5 : Int)), (6, vi ((rzeta_m (rrevN x3_2) : Nat) : Int)), (7, vi ((x7 : Nat) : Int))]) (fun z_ => match z_ with | (k3, x7, o1_0_3) => [(0, .ob 52 (chain [.ar .u16 256 o1_0_3])), (1, .ob 52 (chain [.ar .u16 256 (fun _ => 0)]))]) (fun z_ => match z_ with | (k3, x7, o1_0_3) => ((x7, o1_0_3) = rntt_l3 f k1 x3 x4 o1_0 k2 x3_2 x5 o1_0_2 k3) ∧ (∀ j, j < k3 → rntt_l3_c f k1 x3 x4 o1_0 k2 x3_2 x5 o1_0_2 (rntt_l3 f k1 x3 x4 o1_0 k2 x3_2 x5 o1_0_2 j)) ∧ (x5 ≤ x7) ∧ (x7 ≤ x5 + x4) ∧ True) 2 (0, x5, o1_0_2) [(0, 0), (1, 1)] ⟨rfl, (fun j h => absurd h (Nat.not_lt_zero j)), omm, omm, trivial⟩ ?_)
   rintro ⟨k3, x7, o1_0_3⟩ ac gs ws ⟨hq3, hj3, p4, p5, _⟩ hS
   refine wp_seq (sA [(3, .oi ((x5 + x4 : Nat) : Int))] trivial (fun _ => [iadd .i64 (x5 : Int) (x4 : Int) = ((x5 + x4 : Nat) : Int)]) [1, 2, 3, 4, 5, 6, 7, 30] [0, 1] 2 ⟨by rw [iadd64 omm omm]; omega, trivial⟩ hS fun hS => ?_)
   refine if_d ((x7 : Int) < ((x5 + x4 : Nat) : Int)) hS (fun h3 => ?_) (fun h3 => ?_)
   ·refine wp_skip (then_n (wp_seq (wp_block (sA [(3, .oi ((x7 + x4 : Nat) : Int))] trivial (fun _ => [iadd .i64 (x7 : Int) (x4 : Int) = ((x7 + x4 : Nat) : Int), (0 : Int) ≤ ((x7 + x4 : Nat) : Int) ∧ (((x7 + x4 : Nat) : Int) : Int) < 256, (3329 : Int) ≠ 0]) [1, 2, 3, 4, 5, 6, 7, 8] [0, 1] 2 ⟨by rw [iadd64 omm omm]; omega, by omega, by omega, trivial⟩ hS fun hS => ?_))))
    refine sA [] trivial (fun _ => [(0 : Int) ≤ (x7 : Int) ∧ ((x7 : Int) : Int) < 256, (3329 : Int) ≠ 0]) [1, 2, 3, 4, 5, 6, 7, 8, 9] [0, 1] 2 ⟨by omega, by omega, trivial⟩ hS fun hS => ?_
    refine sA [(2, .oi ((x7 + x4 : Nat) : Int))] trivial (fun _ => [iadd .i64 (x7 : Int) (x4 : Int) = ((x7 + x4 : Nat) : Int), (3329 : Int) ≠ 0, (0 : Int) ≤ ((x7 + x4 : Nat) : Int) ∧ (((x7 + x4 : Nat) : Int) : Int) < 256]) [1, 2, 3, 4, 5, 6, 7, 8, 9] [0, 1] 2 ⟨by rw [iadd64 omm omm]; omega, by omega, by omega, trivial⟩ hS fun hS => ?_
    refine rA [] trivial (fun _ => [(3329 : Int) ≠ 0, (0 : Int) ≤ (x7 : Int) ∧ ((x7 : Int) : Int) < 256]) [1, 2, 3, 4, 5, 6, 7] [0, 1] 2 ⟨by omega, by omega, trivial⟩ hS fun hS => ?_
    refine block_n (then_n (rA [(1, .oi ((x7 + 1 : Nat) : Int))] trivial (fun _ => [iadd .i64 (x7 : Int) 1 = ((x7 + 1 : Nat) : Int)]) [1, 2, 3, 4, 5, 6, 7] [0, 1] 2 ⟨by rw [iadd64 omm omm]; omega, trivial⟩ hS fun hS => ?_))
    refine then_n ?_
    exact next_y hg0 hS (s := (k3, x7, o1_0_3)) (k3 + 1, x7 + 1, upd (upd o1_0_3 (x7 + x4) (IntKind.wrap .u16 (irem (isub .i64 (iadd .i64 (irem (IntKind.wrap .i64 (o1_0_3 x7)) 3329) 3329) (irem (imul .i64 ((rzeta_m (rrevN x3_2) : Nat) : Int) (IntKind.wrap .i64 (o1_0_3 (x7 + x4)))) 3329)) 3329))) x7 (IntKind.wrap .u16 (irem (iadd .i64 (irem (IntKind.wrap .i64 (o1_0_3 x7)) 3329) (irem (imul .i64 ((rzeta_m (rrevN x3_2) : Nat) : Int) (IntKind.wrap .i64 (o1_0_3 (x7 + x4)))) 3329)) 3329))) [(0, 0), (1, 1)] (show x5 + x4 - (x7 + 1) < x5 + x4 - x7 from by omega) ⟨(it_next (F := rntt_l3 f k1 x3 x4 o1_0 k2 x3_2 x5 o1_0_2) (st := rntt_l3_s f k1 x3 x4 o1_0 k2 x3_2 x5 o1_0_2) (fun _ => rfl) hq3 rfl), (lst_next hj3 (by rw [← hq3]; exact h3)), omm, omm, trivial⟩
   ·have hScur := hS
    obtain rfl := lst_eq (P := fun j => rntt_l3_c f k1 x3 x4 o1_0 k2 x3_2 x5 o1_0_2 (rntt_l3 f k1 x3 x4 o1_0 k2 x3_2 x5 o1_0_2 j)) (by rw [← hq3]; first | exact h3 | exact not_not_intro h3) hj3
    obtain rfl : (rntt_l3 f k1 x3 x4 o1_0 k2 x3_2 x5 o1_0_2 (lst fun j => rntt_l3_c f k1 x3 x4 o1_0 k2 x3_2 x5 o1_0_2 (rntt_l3 f k1 x3 x4 o1_0 k2 x3_2 x5 o1_0_2 j))).1 = x7 := Eq.symm (congrArg (fun z => z.1) hq3)
    obtain rfl : (rntt_l3 f k1 x3 x4 o1_0 k2 x3_2 x5 o1_0_2 (lst fun j => rntt_l3_c f k1 x3 x4 o1_0 k2 x3_2 x5 o1_0_2 (rntt_l3 f k1 x3 x4 o1_0 k2 x3_2 x5 o1_0_2 j))).2 = o1_0_3 := Eq.symm (congrArg (fun z => z.2) hq3)
    have hS := hScur
    clear hScur
    refine wp_exit (then_exit (then_exit (block_exit (block_n (then_n (rA [(2, .oi ((2 * x4 : Nat) : Int)), (3, .oi ((x5 + (2 * x4) : Nat) : Int))] trivial (fun _ => [imul .i64 2 (x4 : Int) = ((2 * x4 : Nat) : Int), iadd .i64 (x5 : Int) ((2 * x4 : Nat) : Int) = ((x5 + (2 * x4) : Nat) : Int)]) [1, 2, 3, 4, 5] [0, 1] 2 ⟨by rw [imul64 omm omm]; omega, by rw [iadd64 omm omm]; omega, trivial⟩ hS fun hS => ?_))))))
    refine then_n ?_
    exact next_y hg0 hS (s := (k2, x3_2, x5, o1_0_2)) (k2 + 1, x3_2 + 1, x5 + (2 * x4), (rntt_l3 f k1 x3 x4 o1_0 k2 x3_2 x5 o1_0_2 (lst fun j => rntt_l3_c f k1 x3 x4 o1_0 k2 x3_2 x5 o1_0_2 (rntt_l3 f k1 x3 x4 o1_0 k2 x3_2 x5 o1_0_2 j))).2) [(0, 0), (1, 1)] (show 256 - (x5 + (2 * x4)) < 256 - x5 from by omega) ⟨(it_next (F := rntt_l2 f k1 x3 x4 o1_0) (st := rntt_l2_s f k1 x3 x4 o1_0) (fun _ => rfl) hq2 rfl), (lst_next hj2 (by rw [← hq2]; exact h2)), pb.2.2.1, pb.1, trivial⟩
  ·have hScur := hS
   have pe := ntt_c omm pw p2 omm
   have pn := pa.2.1
   obtain rfl := lst_eq (P := fun j => rntt_l2_c f k1 x3 x4 o1_0 (rntt_l2 f k1 x3 x4 o1_0 j)) (by rw [← hq2]; first | exact h2 | exact not_not_intro h2) hj2
   obtain rfl : (rntt_l2 f k1 x3 x4 o1_0 (lst fun j => rntt_l2_c f k1 x3 x4 o1_0 (rntt_l2 f k1 x3 x4 o1_0 j))).1 = x3_2 := Eq.symm (congrArg (fun z => z.1) hq2)
   obtain rfl : (rntt_l2 f k1 x3 x4 o1_0 (lst fun j => rntt_l2_c f k1 x3 x4 o1_0 (rntt_l2 f k1 x3 x4 o1_0 j))).2.1 = x5 := Eq.symm (congrArg (fun z => z.2.1) hq2)
   obtain rfl : (rntt_l2 f k1 x3 x4 o1_0 (lst fun j => rntt_l2_c f k1 x3 x4 o1_0 (rntt_l2 f k1 x3 x4 o1_0 j))).2.2 = o1_0_2 := Eq.symm (congrArg (fun z => z.2.2) hq2)
   have hS := hScur
   clear hScur
   refine wp_exit (then_exit (then_exit (block_exit (block_n (then_n (rA [(1, .oi ((x4 / 2 : Nat) : Int))] trivial (fun _ => [iquo .i64 (x4 : Int) 2 = ((x4 / 2 : Nat) : Int), (2 : Int) ≠ 0]) [1, 2, 3, 4] [0, 1] 2 ⟨by rw [iquo64 omm omm omm]; omega, by omega, trivial⟩ hS fun hS => ?_))))))
   refine then_n ?_
   exact next_y hg0 hS (s := (k1, x3, x4, o1_0)) (k1 + 1, (rntt_l2 f k1 x3 x4 o1_0 (lst fun j => rntt_l2_c f k1 x3 x4 o1_0 (rntt_l2 f k1 x3 x4 o1_0 j))).1, x4 / 2, (rntt_l2 f k1 x3 x4 o1_0 (lst fun j => rntt_l2_c f k1 x3 x4 o1_0 (rntt_l2 f k1 x3 x4 o1_0 j))).2.2) [(0, 0), (1, 1)] (show (x4 / 2) < x4 from by omega) ⟨(it_next (F := rntt_l1 f) (st := rntt_l1_s f) (fun _ => rfl) hq1 rfl), (lst_next hj1 (by rw [← hq1]; exact h1)), pn, pe, trivial⟩
 ·have hScur := hS
  obtain rfl := lst_eq (P := fun j => rntt_l1_c f (rntt_l1 f j)) (by rw [← hq1]; first | exact h1 | exact not_not_intro h1) hj1
  obtain rfl : (rntt_l1 f (lst fun j => rntt_l1_c f (rntt_l1 f j))).1 = x3 := Eq.symm (congrArg (fun z => z.1) hq1)
  obtain rfl : (rntt_l1 f (lst fun j => rntt_l1_c f (rntt_l1 f j))).2.1 = x4 := Eq.symm (congrArg (fun z => z.2.1) hq1)
  obtain rfl : (rntt_l1 f (lst fun j => rntt_l1_c f (rntt_l1 f j))).2.2 = o1_0 := Eq.symm (congrArg (fun z => z.2.2) hq1)
  have hS := hScur
  clear hScur
  refine wp_exit (then_exit (then_exit (block_exit (then_n (s0 [2] [1] 2 hS fun hS => ?_)))))
  refine wp_ret ?_
  have hM : rntt_m f = (rntt_l1 f (lst fun j => rntt_l1_c f (rntt_l1 f j))).2.2 := rntt_e f
  exact fin_y rfl (.inr rfl) hS [.ar .u16 256 ((rntt_l1 f (lst fun j => rntt_l1_c f (rntt_l1 f j))).2.2)] [] (by show weak _ (.ar .u16 256 (rntt_m f)) = (.ar .u16 256 (rntt_m f)); rw [hM]; first | (simp only []; rfl) | (simp only []; done) | rfl) trivial

def rmul_l1_s (f g : Nat → Int) (x6 : Nat) : (Nat → Int) → (Nat → Int) := fun o5_0 => upd (upd o5_0 (2 * x6) (IntKind.wrap .u16 (irem (iadd .i64 (imul .i64 (irem (IntKind.wrap .i64 (f (2 * x6))) 3329) (irem (IntKind.wrap .i64 (g (2 * x6))) 3329)) (imul .i64 (irem (imul .i64 (irem (IntKind.wrap .i64 (f ((2 * x6) + 1))) 3329) (irem (IntKind.wrap .i64 (g ((2 * x6) + 1))) 3329)) 3329) ((rzeta_m ((2 * (rrevN x6)) + 1) : Nat) : Int))) 3329))) ((2 * x6) + 1) (IntKind.wrap .u16 (irem (iadd .i64 (imul .i64 (irem (IntKind.wrap .i64 (f (2 * x6))) 3329) (irem (IntKind.wrap .i64 (g ((2 * x6) + 1))) 3329)) (imul .i64 (irem (IntKind.wrap .i64 (f ((2 * x6) + 1))) 3329) (irem (IntKind.wrap .i64 (g (2 * x6))) 3329))) 3329))
def rmul_l1 (f g : Nat → Int) : Nat → (Nat → Int)
 | 0 => fun _ => 0
 | x6 + 1 => rmul_l1_s f g x6 (rmul_l1 f g x6)
def rmul_v (f g : Nat → Int) : (Nat → Int) := rmul_l1 f g 128
def rmul_m (f g : Nat → Int) : (Nat → Int) := shut (rmul_v f g)
theorem rmul_e (f g : Nat → Int) : rmul_m f g = rmul_v f g := shut_eq _
def c_rmul (f g : Nat → Int) : Con := ⟨[.ar .u16 256 f, .ar .u16 256 g], [], .ar .u16 256 (rmul_m f g), []⟩
theorem rmul_ok (f g : Nat → Int) : ConOk Try.prog 31 (c_rmul f g) := by
 refine conOk_of rfl (nb := 0) Try.func31 rfl rfl Try.ntmps31 rfl rfl rfl fun g0 w0 ac gs ws hg0 hS => ?_
 have hS := hS.sp
 refine s0 [2, 3, 4] [0, 1, 2] 3 hS fun hS => ?_
 refine s0 [2, 3, 4, 5] [0, 1, 2, 3] 4 hS fun hS => ?_
 refine wp_seq (s0 [2, 3, 4, 5, 6] [0, 1, 2, 3] 4 hS fun hS => ?_)
 refine wp_block (loop_y (ι := Nat × (Nat → Int)) hg0 hS (fun z_ => match z_ with | (x6, o5_0) => 128 - x6) (fun z_ => match z_ with | (x6, o5_0) => [(2, .cp 0 0), (3, .cp 1 0), (4, .cp 2 0), (5, .cp 3 0), (6, vi ((x6 : Nat) : Int))]) (fun z_ => match z_ with | (x6, o5_0) => [(0, .ob 52 (chain [.ar .u16 256 f])), (1, .ob 52 (chain [.ar .u16 256 g])), (2, .ob 52 (chain [.ar .u16 256 (fun _ => 0)])), (3, .ob 52 (chain [.ar .u16 256 o5_0]))]) (fun z_ => match z_ with | (x6, o5_0) => (x6 ≤ 128) ∧ (o5_0 = rmul_l1 f g x6) ∧ True) 4 (0, fun _ => 0) [(0, 0), (1, 1), (2, 2), (3, 3)] ⟨omm, rfl, trivial⟩ ?_)
 rintro ⟨x6, o5_0⟩ ac gs ws ⟨hx6, hq1, _⟩ hS
 refine wp_seq (s0 [2, 3, 4, 5, 6, 13] [0, 1, 2, 3] 4 hS fun hS => ?_)
 refine if_d ((x6 : Int) < 128) hS (fun h1 => ?_) (fun h1 => ?_)
 ·refine wp_skip (then_n (wp_seq (wp_block (wp_seq ?_))))
  have hrv := rrevN_lt x6 omm
  refine rA [(1, .call ⟨63, (c_rrev x6), [], []⟩), (2, .oi ((2 * (rrevN x6) : Nat) : Int)), (3, .oi (((2 * (rrevN x6)) + 1 : Nat) : Int)), (4, .call ⟨62, (c_rzeta ((2 * (rrevN x6)) + 1)), [], []⟩)] ⟨rrev_ok _ omm, rzeta_ok _ omm, trivial⟩ (fun C => [ndC C 1, imul .i64 2 ((rrevN x6 : Nat) : Int) = ((2 * (rrevN x6) : Nat) : Int), iadd .i64 ((2 * (rrevN x6) : Nat) : Int) 1 = (((2 * (rrevN x6)) + 1 : Nat) : Int), ndC C 4]) [2, 3, 4, 5, 6, 7] [0, 1, 2, 3] 4 ⟨rfl, by rw [imul64 omm omm]; omega, by rw [iadd64 omm omm]; omega, rfl, trivial⟩ hS fun hS => ?_
  refine then_n (sA [(1, .oi ((2 * x6 : Nat) : Int)), (7, .oi ((2 * x6 : Nat) : Int)), (8, .oi (((2 * x6) + 1 : Nat) : Int))] trivial (fun _ => [imul .i64 2 (x6 : Int) = ((2 * x6 : Nat) : Int), (0 : Int) ≤ ((2 * x6 : Nat) : Int) ∧ (((2 * x6 : Nat) : Int) : Int) < 256, (3329 : Int) ≠ 0, imul .i64 2 (x6 : Int) = ((2 * x6 : Nat) : Int), iadd .i64 ((2 * x6 : Nat) : Int) 1 = (((2 * x6) + 1 : Nat) : Int), (0 : Int) ≤ (((2 * x6) + 1 : Nat) : Int) ∧ ((((2 * x6) + 1 : Nat) : Int) : Int) < 256, (3329 : Int) ≠ 0]) [2, 3, 4, 5, 6, 7, 8, 9] [0, 1, 2, 3] 4 ⟨by rw [imul64 omm omm]; omega, by omega, by omega, by rw [imul64 omm omm]; omega, by rw [iadd64 omm omm]; omega, by omega, by omega, trivial⟩ hS fun hS => ?_)
  refine sA [(1, .oi ((2 * x6 : Nat) : Int)), (7, .oi ((2 * x6 : Nat) : Int)), (8, .oi (((2 * x6) + 1 : Nat) : Int))] trivial (fun _ => [imul .i64 2 (x6 : Int) = ((2 * x6 : Nat) : Int), (0 : Int) ≤ ((2 * x6 : Nat) : Int) ∧ (((2 * x6 : Nat) : Int) : Int) < 256, (3329 : Int) ≠ 0, imul .i64 2 (x6 : Int) = ((2 * x6 : Nat) : Int), iadd .i64 ((2 * x6 : Nat) : Int) 1 = (((2 * x6) + 1 : Nat) : Int), (0 : Int) ≤ (((2 * x6) + 1 : Nat) : Int) ∧ ((((2 * x6) + 1 : Nat) : Int) : Int) < 256, (3329 : Int) ≠ 0]) [2, 3, 4, 5, 6, 7, 8, 9, 10, 11] [0, 1, 2, 3] 4 ⟨by rw [imul64 omm omm]; omega, by omega, by omega, by rw [imul64 omm omm]; omega, by rw [iadd64 omm omm]; omega, by omega, by omega, trivial⟩ hS fun hS => ?_
  refine sA [(1, .oi ((2 * x6 : Nat) : Int))] trivial (fun _ => [imul .i64 2 (x6 : Int) = ((2 * x6 : Nat) : Int), (3329 : Int) ≠ 0, (3329 : Int) ≠ 0, (0 : Int) ≤ ((2 * x6 : Nat) : Int) ∧ (((2 * x6 : Nat) : Int) : Int) < 256]) [2, 3, 4, 5, 6, 8, 9, 10, 11] [0, 1, 2, 3] 4 ⟨by rw [imul64 omm omm]; omega, by omega, by omega, by omega, trivial⟩ hS fun hS => ?_
  refine rA [(1, .oi ((2 * x6 : Nat) : Int)), (2, .oi (((2 * x6) + 1 : Nat) : Int))] trivial (fun _ => [imul .i64 2 (x6 : Int) = ((2 * x6 : Nat) : Int), iadd .i64 ((2 * x6 : Nat) : Int) 1 = (((2 * x6) + 1 : Nat) : Int), (3329 : Int) ≠ 0, (0 : Int) ≤ (((2 * x6) + 1 : Nat) : Int) ∧ ((((2 * x6) + 1 : Nat) : Int) : Int) < 256]) [2, 3, 4, 5, 6] [0, 1, 2, 3] 4 ⟨by rw [imul64 omm omm]; omega, by rw [iadd64 omm omm]; omega, by omega, by omega, trivial⟩ hS fun hS => ?_
  refine block_n (then_n (rA [(1, .oi ((x6 + 1 : Nat) : Int))] trivial (fun _ => [iadd .i64 (x6 : Int) 1 = ((x6 + 1 : Nat) : Int)]) [2, 3, 4, 5, 6] [0, 1, 2, 3] 4 ⟨by rw [iadd64 omm omm]; omega, trivial⟩ hS fun hS => ?_))
  refine then_n ?_
  exact next_y hg0 hS (s := (x6, o5_0)) (x6 + 1, upd (upd o5_0 (2 * x6) (IntKind.wrap .u16 (irem (iadd .i64 (imul .i64 (irem (IntKind.wrap .i64 (f (2 * x6))) 3329) (irem (IntKind.wrap .i64 (g (2 * x6))) 3329)) (imul .i64 (irem (imul .i64 (irem (IntKind.wrap .i64 (f ((2 * x6) + 1))) 3329) (irem (IntKind.wrap .i64 (g ((2 * x6) + 1))) 3329)) 3329) ((rzeta_m ((2 * (rrevN x6)) + 1) : Nat) : Int))) 3329))) ((2 * x6) + 1) (IntKind.wrap .u16 (irem (iadd .i64 (imul .i64 (irem (IntKind.wrap .i64 (f (2 * x6))) 3329) (irem (IntKind.wrap .i64 (g ((2 * x6) + 1))) 3329)) (imul .i64 (irem (IntKind.wrap .i64 (f ((2 * x6) + 1))) 3329) (irem (IntKind.wrap .i64 (g (2 * x6))) 3329))) 3329))) [(0, 0), (1, 1), (2, 2), (3, 3)] (show 128 - (x6 + 1) < 128 - x6 from by omega) ⟨omm, (it_next (F := rmul_l1 f g) (st := rmul_l1_s f g) (fun _ => rfl) hq1 rfl), trivial⟩
 ·have hScur := hS
  obtain rfl : 128 = x6 := by omega
  obtain rfl : rmul_l1 f g 128 = o5_0 := Eq.symm (congrArg (fun z => z) hq1)
  have hS := hScur
  clear hScur
  refine wp_exit (then_exit (then_exit (block_exit (then_n (s0 [4] [2] 4 hS fun hS => ?_)))))
  refine wp_ret ?_
  have hM : rmul_m f g = rmul_l1 f g 128 := rmul_e f g
  exact fin_y rfl (.inr rfl) hS [.ar .u16 256 (rmul_l1 f g 128)] [] (by show weak _ (.ar .u16 256 (rmul_m f g)) = (.ar .u16 256 (rmul_m f g)); rw [hM]; first | (simp only []; rfl) | (simp only []; done) | rfl) trivial

def renc_l2_s (f : Nat → Int) (x7 : Nat) (x6 : List Int) (x9 : Nat) : (List Int) → (List Int) := fun x6_2 => x6_2.set (((x7 * 12) + x9) / 8) (ior .u8 (x6_2.getD (((x7 * 12) + x9) / 8) 0) (ishl .u8 (IntKind.wrap .u8 (iand .i64 (ishr .i64 (irem (IntKind.wrap .i64 (f x7)) 3329) (x9 : Int)) 1)) ((((x7 * 12) + x9) % 8 : Nat) : Int)))
def renc_l2 (f : Nat → Int) (x7 : Nat) (x6 : List Int) : Nat → (List Int)
 | 0 => x6
 | x9 + 1 => renc_l2_s f x7 x6 x9 (renc_l2 f x7 x6 x9)
def renc_l1_s (f : Nat → Int) (x7 : Nat) : (List Int) → (List Int) := fun x6 => renc_l2 f x7 x6 12
def renc_l1 (f : Nat → Int) : Nat → (List Int)
 | 0 => List.replicate 384 (0 : Int)
 | x7 + 1 => renc_l1_s f x7 (renc_l1 f x7)
def renc_v (f : Nat → Int) : (List Int) := renc_l1 f 256
def renc_m (f : Nat → Int) : (List Int) := shut (renc_v f)
theorem renc_e (f : Nat → Int) : renc_m f = renc_v f := shut_eq _
def c_renc (f : Nat → Int) : Con := ⟨[.ar .u16 256 f, vi 12], [], .tu (chain [.sk 0, vi 0]), [(0, .sl 5 [.int .u8] (renc_m f))]⟩
theorem renc_ok (f : Nat → Int) : ConOk Try.prog 32 (c_renc f) := by
 refine conOk_of rfl (nb := 0) Try.func32 rfl rfl Try.ntmps32 rfl rfl rfl fun g0 w0 ac gs ws hg0 hS => ?_
 have hS := hS.sp
 refine s0 [1, 2, 4, 5] [0] 1 hS fun hS => ?_
 refine wp_seq (s0 [1, 2, 4, 5, 16] [0] 1 hS fun hS => ?_)
 refine cond_f hS ?_
 refine wp_skip (then_n (sA [] trivial (fun _ => [(384 : Int) = 384, (0 : Int) ≤ 384, 1 * 384 ≤ 281474976710656, (384 : Int) ≤ 9223372036854775807]) [1, 2, 4, 5, 6] [0, 1] 2 ⟨rfl, by omega, by omega, by omega, trivial⟩ hS fun hS => ?_))
 refine wp_seq (s0 [1, 2, 4, 5, 6, 7] [0, 1] 2 hS fun hS => ?_)
 refine wp_block (loop_y (ι := Nat × (List Int)) hg0 hS (fun z_ => match z_ with | (x7, x6) => 256 - x7) (fun z_ => match z_ with | (x7, x6) => [(1, vi 12), (2, .cp 0 0), (4, .v (.slice none 0 0)), (5, vi 0), (6, .sk 1), (7, vi ((x7 : Nat) : Int))]) (fun z_ => match z_ with | (x7, x6) => [(0, .ob 52 (chain [.ar .u16 256 f])), (1, .sl 5 [.int .u8] x6)]) (fun z_ => match z_ with | (x7, x6) => (x7 ≤ 256) ∧ (x6 = renc_l1 f x7) ∧ (x6.length = 384) ∧ True) 2 (0, List.replicate 384 (0 : Int)) [(0, 0), (1, 1)] ⟨omm, rfl, (by simp), trivial⟩ ?_)
 rintro ⟨x7, x6⟩ ac gs ws ⟨hx7, hq1, p1, _⟩ hS
 refine wp_seq (s0 [1, 2, 4, 5, 6, 7, 21] [0, 1] 2 hS fun hS => ?_)
 refine if_d ((x7 : Int) < 256) hS (fun h1 => ?_) (fun h1 => ?_)
 ·refine wp_skip (then_n (wp_seq (wp_block (sA [] trivial (fun _ => [(0 : Int) ≤ (x7 : Int) ∧ ((x7 : Int) : Int) < 256, (0 : Int) ≤ 12, (4096 : Int) ≠ 0]) [1, 2, 4, 5, 6, 7, 8] [0, 1] 2 ⟨by omega, by omega, by omega, trivial⟩ hS fun hS => ?_))))
  refine wp_seq (s0 [1, 2, 4, 5, 6, 7, 8, 32] [0, 1] 2 hS fun hS => ?_)
  refine cond_t hS ?_
  refine rA [] trivial (fun _ => [(0 : Int) ≤ (x7 : Int) ∧ ((x7 : Int) : Int) < 256, (3329 : Int) ≠ 0]) [1, 2, 4, 5, 6, 7, 8] [0, 1] 2 ⟨by omega, by omega, trivial⟩ hS fun hS => ?_
  refine then_n (s0 [1, 2, 4, 5, 6, 7, 8, 9] [0, 1] 2 hS fun hS => ?_)
  refine wp_block (loop_y (ι := Nat × (List Int)) hg0 hS (fun z_ => match z_ with | (x9, x6_2) => 12 - x9) (fun z_ => match z_ with | (x9, x6_2) => [(1, vi 12), (2, .cp 0 0), (4, .v (.slice none 0 0)), (5, vi 0), (6, .sk 1), (7, vi (x7 : Int)), (8, vi (irem (IntKind.wrap .i64 (f x7)) 3329)), (9, vi ((x9 : Nat) : Int))]) (fun z_ => match z_ with | (x9, x6_2) => [(0, .ob 52 (chain [.ar .u16 256 f])), (1, .sl 5 [.int .u8] x6_2)]) (fun z_ => match z_ with | (x9, x6_2) => (x9 ≤ 12) ∧ (x6_2 = renc_l2 f x7 x6 x9) ∧ (x6_2.length = 384) ∧ True) 2 (0, x6) [(0, 0), (1, 1)] ⟨omm, rfl, p1, trivial⟩ ?_)
  rintro ⟨x9, x6_2⟩ ac gs ws ⟨hx9, hq2, p2, _⟩ hS
  refine wp_seq (s0 [1, 2, 4, 5, 6, 7, 8, 9, 40] [0, 1] 2 hS fun hS => ?_)
  refine if_d ((x9 : Int) < 12) hS (fun h2 => ?_) (fun h2 => ?_)
  ·refine wp_skip (then_n (wp_seq (wp_block (sA [(2, .oi ((x7 * 12 : Nat) : Int)), (4, .oi (((x7 * 12) + x9 : Nat) : Int))] trivial (fun _ => [imul .i64 (x7 : Int) 12 = ((x7 * 12 : Nat) : Int), iadd .i64 ((x7 * 12 : Nat) : Int) (x9 : Int) = (((x7 * 12) + x9 : Nat) : Int)]) [1, 2, 4, 5, 6, 7, 8, 9, 10] [0, 1] 2 ⟨by rw [imul64 omm omm]; omega, by rw [iadd64 omm omm]; omega, trivial⟩ hS fun hS => ?_))))
   refine rA [(2, .oi ((((x7 * 12) + x9) / 8 : Nat) : Int)), (5, .oi ((((x7 * 12) + x9) / 8 : Nat) : Int)), (14, .oi ((((x7 * 12) + x9) % 8 : Nat) : Int))] trivial (fun _ => [iquo .i64 (((x7 * 12) + x9 : Nat) : Int) 8 = ((((x7 * 12) + x9) / 8 : Nat) : Int), (8 : Int) ≠ 0, iquo .i64 (((x7 * 12) + x9 : Nat) : Int) 8 = ((((x7 * 12) + x9) / 8 : Nat) : Int), (8 : Int) ≠ 0, (0 : Int) ≤ ((((x7 * 12) + x9) / 8 : Nat) : Int) ∧ ((((x7 * 12) + x9) / 8 : Nat) : Int) < ((x6_2.length : Nat) : Int), (0 : Int) ≤ (x9 : Int), irem (((x7 * 12) + x9 : Nat) : Int) 8 = ((((x7 * 12) + x9) % 8 : Nat) : Int), (8 : Int) ≠ 0, (0 : Int) ≤ ((((x7 * 12) + x9) % 8 : Nat) : Int), (0 : Int) ≤ ((((x7 * 12) + x9) / 8 : Nat) : Int) ∧ ((((x7 * 12) + x9) / 8 : Nat) : Int) < ((x6_2.length : Nat) : Int)]) [1, 2, 4, 5, 6, 7, 8, 9] [0, 1] 2 ⟨by rw [iquo64 omm omm omm]; omega, by omega, by rw [iquo64 omm omm omm]; omega, by omega, by omega, by omega, by rw [irem64 omm]; omega, by omega, by omega, by omega, trivial⟩ hS fun hS => ?_
   refine block_n (then_n (rA [(1, .oi ((x9 + 1 : Nat) : Int))] trivial (fun _ => [iadd .i64 (x9 : Int) 1 = ((x9 + 1 : Nat) : Int)]) [1, 2, 4, 5, 6, 7, 8, 9] [0, 1] 2 ⟨by rw [iadd64 omm omm]; omega, trivial⟩ hS fun hS => ?_))
   refine then_n ?_
   exact next_y hg0 hS (s := (x9, x6_2)) (x9 + 1, x6_2.set (((x7 * 12) + x9) / 8) (ior .u8 (x6_2.getD (((x7 * 12) + x9) / 8) 0) (ishl .u8 (IntKind.wrap .u8 (iand .i64 (ishr .i64 (irem (IntKind.wrap .i64 (f x7)) 3329) (x9 : Int)) 1)) ((((x7 * 12) + x9) % 8 : Nat) : Int)))) [(0, 0), (1, 1)] (show 12 - (x9 + 1) < 12 - x9 from by omega) ⟨omm, (it_next (F := renc_l2 f x7 x6) (st := renc_l2_s f x7 x6) (fun _ => rfl) hq2 rfl), (by simpa using p2), trivial⟩
  ·have hScur := hS
   obtain rfl : 12 = x9 := by omega
   obtain rfl : renc_l2 f x7 x6 12 = x6_2 := Eq.symm (congrArg (fun z => z) hq2)
   have hS := hScur
   clear hScur
   refine wp_exit (then_exit (then_exit (block_exit (block_n (then_n (rA [(1, .oi ((x7 + 1 : Nat) : Int))] trivial (fun _ => [iadd .i64 (x7 : Int) 1 = ((x7 + 1 : Nat) : Int)]) [1, 2, 4, 5, 6, 7] [0, 1] 2 ⟨by rw [iadd64 omm omm]; omega, trivial⟩ hS fun hS => ?_))))))
   refine then_n ?_
   exact next_y hg0 hS (s := (x7, x6)) (x7 + 1, renc_l2 f x7 x6 12) [(0, 0), (1, 1)] (show 256 - (x7 + 1) < 256 - x7 from by omega) ⟨omm, (it_next (F := renc_l1 f) (st := renc_l1_s f) (fun _ => rfl) hq1 rfl), p2, trivial⟩
 ·have hScur := hS
  obtain rfl : 256 = x7 := by omega
  obtain rfl : renc_l1 f 256 = x6 := Eq.symm (congrArg (fun z => z) hq1)
  have hS := hScur
  clear hScur
  refine wp_exit (then_exit (then_exit (block_exit (then_n (s0 [4, 5] [1] 2 hS fun hS => ?_)))))
  refine wp_ret ?_
  have hM : renc_m f = renc_l1 f 256 := renc_e f
  obtain ⟨gs, hS⟩ := hS.rn [(0, 1)] [(4, .sk 0), (5, vi 0)] [(0, .sl 5 [.int .u8] (renc_l1 f 256))] 1 hg0
  exact fin_y rfl (.inr rfl) hS [.sk 0, vi 0] [(0, some (.sl 5 [.int .u8] (renc_l1 f 256)))] rfl (by show H1Ok _ [(0, .sl 5 [.int .u8] (renc_m f))] true; rw [hM]; first | (simp only []; exact ⟨rfl, trivial⟩) | exact ⟨rfl, trivial⟩)

def rbit_v (xs : List Int) (n : Nat) : Int := (IntKind.wrap .i64 (iand .u8 (ishr .u8 (xs.getD (n / 8) 0) ((n % 8 : Nat) : Int)) 1))
def rbit_m (xs : List Int) (n : Nat) : Int := shut (rbit_v xs n)
theorem rbit_e (xs : List Int) (n : Nat) : rbit_m xs n = rbit_v xs n := shut_eq _
def c_rbit (xs : List Int) (n : Nat) : Con := ⟨[lb xs, vi (n : Int)], [], vi (rbit_m xs n), []⟩
theorem rbit_ok (xs : List Int) (n : Nat) (h : n < 8 * xs.length) (hn : n ≤ 100000) : ConOk Try.prog 61 (c_rbit xs n) := by
 refine conOk_of rfl (nb := 0) Try.func61 rfl rfl Try.ntmps61 rfl rfl rfl fun g0 w0 ac gs ws hg0 hS => ?_
 have hlen0 : xs.length ≤ 9223372036854775807 := hS.len 0 rfl
 have hS := hS.sp
 refine s0 [0, 1, 4] [] 0 hS fun hS => ?_
 refine sA [(2, .oi ((n / 8 : Nat) : Int)), (6, .oi ((n % 8 : Nat) : Int))] trivial (fun _ => [iquo .i64 (n : Int) 8 = ((n / 8 : Nat) : Int), (8 : Int) ≠ 0, (0 : Int) ≤ ((n / 8 : Nat) : Int) ∧ ((n / 8 : Nat) : Int) < ((xs.length : Nat) : Int), irem (n : Int) 8 = ((n % 8 : Nat) : Int), (8 : Int) ≠ 0, (0 : Int) ≤ ((n % 8 : Nat) : Int)]) [4] [] 0 ⟨by rw [iquo64 omm omm omm]; omega, by omega, by omega, by rw [irem64 omm]; omega, by omega, by omega, trivial⟩ hS fun hS => ?_
 refine wp_ret ?_
 have hM : rbit_m xs n = (IntKind.wrap .i64 (iand .u8 (ishr .u8 (xs.getD (n / 8) 0) ((n % 8 : Nat) : Int)) 1)) := rbit_e xs n
 exact fin_y rfl (.inr rfl) hS [vi (IntKind.wrap .i64 (iand .u8 (ishr .u8 (xs.getD (n / 8) 0) ((n % 8 : Nat) : Int)) 1))] [] (by show weak _ (vi (rbit_m xs n)) = (vi (rbit_m xs n)); rw [hM]; first | (simp only []; rfl) | (simp only []; done) | rfl) trivial

def rnoise_l1_s (xs : List Int) (k : Int) (x7 : Nat) : (Nat → Int) → (Nat → Int) := fun o6_0 => upd o6_0 x7 (IntKind.wrap .u16 (irem (isub .i64 (isub .i64 (iadd .i64 (iadd .i64 (rbit_m (rshk8_m (rcat_m [xs, [k]])) (4 * x7)) (rbit_m (rshk8_m (rcat_m [xs, [k]])) ((4 * x7) + 1))) 3329) (rbit_m (rshk8_m (rcat_m [xs, [k]])) ((4 * x7) + 2))) (rbit_m (rshk8_m (rcat_m [xs, [k]])) ((4 * x7) + 3))) 3329))
def rnoise_l1 (xs : List Int) (k : Int) : Nat → (Nat → Int)
 | 0 => fun _ => 0
 | x7 + 1 => rnoise_l1_s xs k x7 (rnoise_l1 xs k x7)
def rnoise_v (xs : List Int) (k : Int) : (Nat → Int) := rnoise_l1 xs k 256
def rnoise_m (xs : List Int) (k : Int) : (Nat → Int) := shut (rnoise_v xs k)
theorem rnoise_e (xs : List Int) (k : Int) : rnoise_m xs k = rnoise_v xs k := shut_eq _
def c_rnoise (xs : List Int) (k : Int) : Con := ⟨[lb xs, .v (.int .u8 k)], [], .ar .u16 256 (rnoise_m xs k), []⟩
theorem rnoise_ok (xs : List Int) (k : Int) (h : xs.length ≤ 1000) : ConOk Try.prog 27 (c_rnoise xs k) := by
 refine conOk_of rfl (nb := 0) Try.func27 rfl rfl Try.ntmps27 rfl rfl rfl fun g0 w0 ac gs ws hg0 hS => ?_
 have hlen0 : xs.length ≤ 9223372036854775807 := hS.len 0 rfl
 have hS := hS.sp
 refine s0 [0, 1, 4] [0] 1 hS fun hS => ?_
 refine sA [(4, .call ⟨26, (c_rcatf [xs, [k]]), [], []⟩), (5, .call ⟨60, (c_rshk8 (rcat_m [xs, [k]])), [], []⟩)] ⟨rcatf_ok _ lnn (fm_getD (by repeat (first | exact fm_nil | (apply fm_cons; focus (first | omega | (simp <;> omega)))))), rshk8_ok _ lnn, trivial⟩ (fun C => [ndC C 4, ndC C 5]) [4, 5] [0] 1 ⟨rfl, rfl, trivial⟩ hS fun hS => ?_
 refine s0 [4, 5, 6] [0, 1] 2 hS fun hS => ?_
 refine wp_seq (s0 [4, 5, 6, 7] [0, 1] 2 hS fun hS => ?_)
 refine wp_block (loop_y (ι := Nat × (Nat → Int)) hg0 hS (fun z_ => match z_ with | (x7, o6_0) => 256 - x7) (fun z_ => match z_ with | (x7, o6_0) => [(4, .cp 0 0), (5, lb (rshk8_m (rcat_m [xs, [k]]))), (6, .cp 1 0), (7, vi ((x7 : Nat) : Int))]) (fun z_ => match z_ with | (x7, o6_0) => [(0, .ob 52 (chain [.ar .u16 256 (fun _ => 0)])), (1, .ob 52 (chain [.ar .u16 256 o6_0]))]) (fun z_ => match z_ with | (x7, o6_0) => (x7 ≤ 256) ∧ (o6_0 = rnoise_l1 xs k x7) ∧ True) 2 (0, fun _ => 0) [(0, 0), (1, 1)] ⟨omm, rfl, trivial⟩ ?_)
 rintro ⟨x7, o6_0⟩ ac gs ws ⟨hx7, hq1, _⟩ hS
 refine wp_seq (s0 [4, 5, 6, 7, 15] [0, 1] 2 hS fun hS => ?_)
 refine if_d ((x7 : Int) < 256) hS (fun h1 => ?_) (fun h1 => ?_)
 ·refine wp_skip (then_n (wp_seq (wp_block (rA [(3, .oi ((4 * x7 : Nat) : Int)), (4, .call ⟨61, (c_rbit (rshk8_m (rcat_m [xs, [k]])) (4 * x7)), [], []⟩), (7, .oi ((4 * x7 : Nat) : Int)), (8, .oi (((4 * x7) + 1 : Nat) : Int)), (9, .call ⟨61, (c_rbit (rshk8_m (rcat_m [xs, [k]])) ((4 * x7) + 1)), [], []⟩), (14, .oi ((4 * x7 : Nat) : Int)), (15, .oi (((4 * x7) + 2 : Nat) : Int)), (16, .call ⟨61, (c_rbit (rshk8_m (rcat_m [xs, [k]])) ((4 * x7) + 2)), [], []⟩), (20, .oi ((4 * x7 : Nat) : Int)), (21, .oi (((4 * x7) + 3 : Nat) : Int)), (22, .call ⟨61, (c_rbit (rshk8_m (rcat_m [xs, [k]])) ((4 * x7) + 3)), [], []⟩)] ⟨rbit_ok _ _ lnn omm, rbit_ok _ _ lnn omm, rbit_ok _ _ lnn omm, rbit_ok _ _ lnn omm, trivial⟩ (fun C => [imul .i64 4 (x7 : Int) = ((4 * x7 : Nat) : Int), ndC C 4, imul .i64 4 (x7 : Int) = ((4 * x7 : Nat) : Int), iadd .i64 ((4 * x7 : Nat) : Int) 1 = (((4 * x7) + 1 : Nat) : Int), ndC C 9, imul .i64 4 (x7 : Int) = ((4 * x7 : Nat) : Int), iadd .i64 ((4 * x7 : Nat) : Int) 2 = (((4 * x7) + 2 : Nat) : Int), ndC C 16, imul .i64 4 (x7 : Int) = ((4 * x7 : Nat) : Int), iadd .i64 ((4 * x7 : Nat) : Int) 3 = (((4 * x7) + 3 : Nat) : Int), ndC C 22, (3329 : Int) ≠ 0, (0 : Int) ≤ (x7 : Int) ∧ ((x7 : Int) : Int) < 256]) [4, 5, 6, 7] [0, 1] 2 ⟨by rw [imul64 omm omm]; omega, rfl, by rw [imul64 omm omm]; omega, by rw [iadd64 omm omm]; omega, rfl, by rw [imul64 omm omm]; omega, by rw [iadd64 omm omm]; omega, rfl, by rw [imul64 omm omm]; omega, by rw [iadd64 omm omm]; omega, rfl, by omega, by omega, trivial⟩ hS fun hS => ?_))))
  refine block_n (then_n (rA [(1, .oi ((x7 + 1 : Nat) : Int))] trivial (fun _ => [iadd .i64 (x7 : Int) 1 = ((x7 + 1 : Nat) : Int)]) [4, 5, 6, 7] [0, 1] 2 ⟨by rw [iadd64 omm omm]; omega, trivial⟩ hS fun hS => ?_))
  refine then_n ?_
  exact next_y hg0 hS (s := (x7, o6_0)) (x7 + 1, upd o6_0 x7 (IntKind.wrap .u16 (irem (isub .i64 (isub .i64 (iadd .i64 (iadd .i64 (rbit_m (rshk8_m (rcat_m [xs, [k]])) (4 * x7)) (rbit_m (rshk8_m (rcat_m [xs, [k]])) ((4 * x7) + 1))) 3329) (rbit_m (rshk8_m (rcat_m [xs, [k]])) ((4 * x7) + 2))) (rbit_m (rshk8_m (rcat_m [xs, [k]])) ((4 * x7) + 3))) 3329))) [(0, 0), (1, 1)] (show 256 - (x7 + 1) < 256 - x7 from by omega) ⟨omm, (it_next (F := rnoise_l1 xs k) (st := rnoise_l1_s xs k) (fun _ => rfl) hq1 rfl), trivial⟩
 ·have hScur := hS
  obtain rfl : 256 = x7 := by omega
  obtain rfl : rnoise_l1 xs k 256 = o6_0 := Eq.symm (congrArg (fun z => z) hq1)
  have hS := hScur
  clear hScur
  refine wp_exit (then_exit (then_exit (block_exit (then_n (s0 [4] [0] 2 hS fun hS => ?_)))))
  refine wp_ret ?_
  have hM : rnoise_m xs k = rnoise_l1 xs k 256 := rnoise_e xs k
  exact fin_y rfl (.inr rfl) hS [.ar .u16 256 (rnoise_l1 xs k 256)] [] (by show weak _ (.ar .u16 256 (rnoise_m xs k)) = (.ar .u16 256 (rnoise_m xs k)); rw [hM]; first | (simp only []; rfl) | (simp only []; done) | rfl) trivial

end
end Go.Sx.Try
namespace Go.Sx.Try
open Go.Mi Go.RowKit Go.Sx Go.Proofs
noncomputable section
def uK (c : List Int) (a k : Nat) (f : Nat → Int) : Nat × (Nat → Int) :=
 if (iadd .i64 (IntKind.wrap .i64 (c.getD a 0)) (imul .i64 256 (irem (IntKind.wrap .i64 (c.getD (a + 1) 0)) 16))) < 3329 then (if (iadd .i64 (iquo .i64 (IntKind.wrap .i64 (c.getD (a + 1) 0)) 16) (imul .i64 16 (IntKind.wrap .i64 (c.getD (a + 2) 0)))) < 3329 then (if ((k + 1 : Nat) : Int) < 256 then (k + 2, upd (upd f k (IntKind.wrap .u16 (iadd .i64 (IntKind.wrap .i64 (c.getD a 0)) (imul .i64 256 (irem (IntKind.wrap .i64 (c.getD (a + 1) 0)) 16))))) (k + 1) (IntKind.wrap .u16 (iadd .i64 (iquo .i64 (IntKind.wrap .i64 (c.getD (a + 1) 0)) 16) (imul .i64 16 (IntKind.wrap .i64 (c.getD (a + 2) 0)))))) else (k + 1, upd f k (IntKind.wrap .u16 (iadd .i64 (IntKind.wrap .i64 (c.getD a 0)) (imul .i64 256 (irem (IntKind.wrap .i64 (c.getD (a + 1) 0)) 16)))))) else (k + 1, upd f k (IntKind.wrap .u16 (iadd .i64 (IntKind.wrap .i64 (c.getD a 0)) (imul .i64 256 (irem (IntKind.wrap .i64 (c.getD (a + 1) 0)) 16))))))
 else (if (iadd .i64 (iquo .i64 (IntKind.wrap .i64 (c.getD (a + 1) 0)) 16) (imul .i64 16 (IntKind.wrap .i64 (c.getD (a + 2) 0)))) < 3329 then (if (k : Int) < 256 then (k + 1, upd f k (IntKind.wrap .u16 (iadd .i64 (iquo .i64 (IntKind.wrap .i64 (c.getD (a + 1) 0)) 16) (imul .i64 16 (IntKind.wrap .i64 (c.getD (a + 2) 0)))))) else (k, f)) else (k, f))
def uR (c : List Int) : Nat → Nat → Nat → (Nat → Int) → Nat × (Nat → Int)
 | 0, _, k, f => (k, f)
 | q + 1, a, k, f => if a + 3 ≤ c.length ∧ k < 256 then uR c q (a + 3) (uK c a k f).1 (uK c a k f).2 else (k, f)
theorem uR_n {c : List Int} {q a k k' : Nat} {f f' : Nat → Int} {r : Nat × (Nat → Int)} (hu : uR c q a k f = r) (hq : c.length ≤ q + a) (h1 : a + 3 ≤ c.length) (h2 : k < 256) (he : uK c a k f = (k', f')) : uR c (q - 1) (a + 3) k' f' = r := by
 cases q with
 | zero => omega
 | succ q =>
  rw [← hu]
  show _ = if a + 3 ≤ c.length ∧ k < 256 then uR c q (a + 3) (uK c a k f).1 (uK c a k f).2 else (k, f)
  rw [if_pos ⟨h1, h2⟩, he]
  rfl
theorem uR_e {c : List Int} {q a k : Nat} {f : Nat → Int} {r : Nat × (Nat → Int)} (hu : uR c q a k f = r) (h : ¬ (a + 3 ≤ c.length ∧ k < 256)) : (k, f) = r := by
 cases q with
 | zero => exact hu
 | succ q =>
  rw [← hu]
  show _ = if a + 3 ≤ c.length ∧ k < 256 then uR c q (a + 3) (uK c a k f).1 (uK c a k f).2 else (k, f)
  rw [if_neg h]
def vR (x : List Int) : Nat → Nat → (Nat → Int) → (Nat → Int)
 | 0, _, f => f
 | q + 1, n, f => if (uR (rshkn_m n x) n 0 0 f).1 = 256 ∨ 65536 ≤ n then (uR (rshkn_m n x) n 0 0 f).2 else vR x q (2 * n) (uR (rshkn_m n x) n 0 0 f).2
theorem vR_n {x : List Int} {q n k : Nat} {f g : Nat → Int} {r : Nat → Int} (hq : 0 < q) (h : vR x q n f = r) (hu : (k, g) = uR (rshkn_m n x) n 0 0 f) (h1 : ¬ k = 256) (h2 : n < 65536) : vR x (q - 1) (2 * n) g = r := by
 cases q with
 | zero => omega
 | succ q =>
  rw [← h]
  show _ = if (uR (rshkn_m n x) n 0 0 f).1 = 256 ∨ 65536 ≤ n then (uR (rshkn_m n x) n 0 0 f).2 else vR x q (2 * n) (uR (rshkn_m n x) n 0 0 f).2
  rw [← hu, if_neg (by simp only []; omega)]
  rfl
theorem vR_e {x : List Int} {q n k : Nat} {f g : Nat → Int} {r : Nat → Int} (hq : 0 < q) (h : vR x q n f = r) (hu : (k, g) = uR (rshkn_m n x) n 0 0 f) (h1 : k = 256 ∨ 65536 ≤ n) : r = g := by
 cases q with
 | zero => omega
 | succ q =>
  rw [← h]
  show (if (uR (rshkn_m n x) n 0 0 f).1 = 256 ∨ 65536 ≤ n then (uR (rshkn_m n x) n 0 0 f).2 else vR x q (2 * n) (uR (rshkn_m n x) n 0 0 f).2) = g
  rw [← hu, if_pos h1]
def PN (n q : Nat) : Prop := n = 1024 ∧ q = 7 ∨ n = 2048 ∧ q = 6 ∨ n = 4096 ∧ q = 5 ∨ n = 8192 ∧ q = 4 ∨ n = 16384 ∧ q = 3 ∨ n = 32768 ∧ q = 2 ∨ n = 65536 ∧ q = 1
theorem PN_b {n q : Nat} (h : PN n q) : 1024 ≤ n ∧ n ≤ 65536 ∧ 1 ≤ q ∧ (n < 65536 → PN (2 * n) (q - 1)) := by
 unfold PN at h ⊢
 rcases h with ⟨rfl, rfl⟩ | ⟨rfl, rfl⟩ | ⟨rfl, rfl⟩ | ⟨rfl, rfl⟩ | ⟨rfl, rfl⟩ | ⟨rfl, rfl⟩ | ⟨rfl, rfl⟩ <;> refine ⟨by decide, by decide, by decide, fun h => ?_⟩ <;> first | exact absurd h (by decide) | simp
def c_runi (xs : List Int) (bi bj : Int) : Con := ⟨[lb xs, .v (.int .u8 bi), .v (.int .u8 bj)], [], .ar .u16 256 (vR (rcat_m [xs, [bi, bj]]) 7 1024 (fun _ => 0)), []⟩
theorem runi_ok (xs : List Int) (bi bj : Int) (h : xs.length = 32) : ConOk Try.prog 30 (c_runi xs bi bj) := by
 refine conOk_of rfl (nb := 0) Try.func30 rfl rfl Try.ntmps30 rfl rfl rfl fun g0 w0 ac gs ws hg0 hS => ?_
 have hlen0 : xs.length ≤ 9223372036854775807 := hS.len 0 rfl
 have hS := hS.sp
 refine s0 [0, 1, 2, 6] [0] 1 hS fun hS => ?_
 refine sA [(5, .call ⟨26, (c_rcatf [xs, [bi, bj]]), [], []⟩)] ⟨rcatf_ok _ lnn (fm_getD (by repeat (first | exact fm_nil | (apply fm_cons; focus (first | omega | (simp <;> omega)))))), trivial⟩ (fun C => [ndC C 5]) [6, 7] [0] 1 ⟨rfl, trivial⟩ hS fun hS => ?_
 refine s0 [6, 7, 8] [0, 1] 2 hS fun hS => ?_
 refine s0 [6, 7, 8, 9] [0, 1] 2 hS fun hS => ?_
 refine wp_block (loop_y (ι := Nat × Nat × (Nat → Int)) hg0 hS (fun z_ => match z_ with | (q, n, f) => 65536 - n) (fun z_ => match z_ with | (q, n, f) => [(6, .cp 0 0), (7, lb (rcat_m [xs, [bi, bj]])), (8, .cp 1 0), (9, vi ((n : Nat) : Int))]) (fun z_ => match z_ with | (q, n, f) => [(0, .ob 52 (chain [.ar .u16 256 (fun _ => 0)])), (1, .ob 52 (chain [.ar .u16 256 f]))]) (fun z_ => match z_ with | (q, n, f) => (PN n q) ∧ (vR (rcat_m [xs, [bi, bj]]) q n f = vR (rcat_m [xs, [bi, bj]]) 7 1024 (fun _ => 0)) ∧ True) 2 (7, 1024, fun _ => 0) [(0, 0), (1, 1)] ⟨(by unfold PN; omega), rfl, trivial⟩ ?_)
 rintro ⟨q, n, f⟩ ac gs ws ⟨hn, hv, _⟩ hS
 refine wp_seq (wp_block (wp_seq ?_))
 have hnb := PN_b hn
 have hcl := rshkn_len n (rcat_m [xs, [bi, bj]]) omm
 refine rA [(2, .call ⟨60, (c_rshkn n (rcat_m [xs, [bi, bj]])), [], []⟩)] ⟨rshkn_ok _ _ lnn omm omm, trivial⟩ (fun C => [ndC C 2]) [6, 7, 8, 9, 10] [0, 1] 2 ⟨rfl, trivial⟩ hS fun hS => ?_
 refine then_n (s0 [6, 7, 8, 9, 10, 11] [0, 1] 2 hS fun hS => ?_)
 refine wp_seq (s0 [6, 7, 8, 9, 10, 11, 12] [0, 1] 2 hS fun hS => ?_)
 refine wp_block (loop_y (ι := Nat × Nat × Nat × (Nat → Int)) hg0 hS (fun z_ => match z_ with | (q2, k, a, g) => n - a) (fun z_ => match z_ with | (q2, k, a, g) => [(6, .cp 0 0), (7, lb (rcat_m [xs, [bi, bj]])), (8, .cp 1 0), (9, vi (n : Int)), (10, lb (rshkn_m n (rcat_m [xs, [bi, bj]]))), (11, vi ((k : Nat) : Int)), (12, vi ((a : Nat) : Int))]) (fun z_ => match z_ with | (q2, k, a, g) => [(0, .ob 52 (chain [.ar .u16 256 (fun _ => 0)])), (1, .ob 52 (chain [.ar .u16 256 g]))]) (fun z_ => match z_ with | (q2, k, a, g) => (a ≤ n) ∧ ((rshkn_m n (rcat_m [xs, [bi, bj]])).length ≤ q2 + a) ∧ (uR (rshkn_m n (rcat_m [xs, [bi, bj]])) q2 a k g = uR (rshkn_m n (rcat_m [xs, [bi, bj]])) n 0 0 f) ∧ True) 2 (n, 0, 0, f) [(0, 0), (1, 1)] ⟨omm, omm, rfl, trivial⟩ ?_)
 rintro ⟨q2, k, a, g⟩ ac gs ws ⟨ha, hq2, hu, _⟩ hS
 refine wp_seq (wp_seq ?_)
 by_cases h1 : ((a + 3 : Nat) : Int) ≤ (((rshkn_m n (rcat_m [xs, [bi, bj]])).length : Nat) : Int)
 ·refine rA [(1, .oi ((a + 3 : Nat) : Int)), (4, .ob true)] trivial (fun _ => [iadd .i64 (a : Int) 3 = ((a + 3 : Nat) : Int), (decide (((a + 3 : Nat) : Int) ≤ (((rshkn_m n (rcat_m [xs, [bi, bj]])).length : Nat) : Int))) = true]) [6, 7, 8, 9, 10, 11, 12, 34] [0, 1] 2 ⟨by rw [iadd64 omm omm]; omega, decide_eq_true h1, trivial⟩ hS fun hS => ?_
  refine then_n ?_
  refine if_d ((k : Int) < 256) hS (fun h2 => ?_) (fun h2 => ?_)
  ·refine wp_skip (then_n (wp_seq (wp_block (sA [(7, .oi ((a + 1 : Nat) : Int))] trivial (fun _ => [(0 : Int) ≤ (a : Int) ∧ (a : Int) < (((rshkn_m n (rcat_m [xs, [bi, bj]])).length : Nat) : Int), iadd .i64 (a : Int) 1 = ((a + 1 : Nat) : Int), (0 : Int) ≤ ((a + 1 : Nat) : Int) ∧ ((a + 1 : Nat) : Int) < (((rshkn_m n (rcat_m [xs, [bi, bj]])).length : Nat) : Int), (16 : Int) ≠ 0]) [6, 7, 8, 9, 10, 11, 12, 13] [0, 1] 2 ⟨by omega, by rw [iadd64 omm omm]; omega, by omega, by omega, trivial⟩ hS fun hS => ?_))))
   refine sA [(2, .oi ((a + 1 : Nat) : Int)), (9, .oi ((a + 2 : Nat) : Int))] trivial (fun _ => [iadd .i64 (a : Int) 1 = ((a + 1 : Nat) : Int), (0 : Int) ≤ ((a + 1 : Nat) : Int) ∧ ((a + 1 : Nat) : Int) < (((rshkn_m n (rcat_m [xs, [bi, bj]])).length : Nat) : Int), (16 : Int) ≠ 0, iadd .i64 (a : Int) 2 = ((a + 2 : Nat) : Int), (0 : Int) ≤ ((a + 2 : Nat) : Int) ∧ ((a + 2 : Nat) : Int) < (((rshkn_m n (rcat_m [xs, [bi, bj]])).length : Nat) : Int)]) [6, 7, 8, 9, 10, 11, 12, 13, 14] [0, 1] 2 ⟨by rw [iadd64 omm omm]; omega, by omega, by omega, by rw [iadd64 omm omm]; omega, by omega, trivial⟩ hS fun hS => ?_
   refine wp_seq (s0 [6, 7, 8, 9, 10, 11, 12, 13, 14, 67] [0, 1] 2 hS fun hS => ?_)
   refine if_d ((iadd .i64 (IntKind.wrap .i64 ((rshkn_m n (rcat_m [xs, [bi, bj]])).getD a 0)) (imul .i64 256 (irem (IntKind.wrap .i64 ((rshkn_m n (rcat_m [xs, [bi, bj]])).getD (a + 1) 0)) 16))) < 3329) hS (fun h3 => ?_) (fun h3 => ?_)
   ·refine sA [] trivial (fun _ => [(0 : Int) ≤ (k : Int) ∧ ((k : Int) : Int) < 256]) [6, 7, 8, 9, 10, 11, 12, 14] [0, 1] 2 ⟨by omega, trivial⟩ hS fun hS => ?_
    refine rA [(1, .oi ((k + 1 : Nat) : Int))] trivial (fun _ => [iadd .i64 (k : Int) 1 = ((k + 1 : Nat) : Int)]) [6, 7, 8, 9, 10, 11, 12, 14] [0, 1] 2 ⟨by rw [iadd64 omm omm]; omega, trivial⟩ hS fun hS => ?_
    refine then_n (wp_seq ?_)
    by_cases h4 : (iadd .i64 (iquo .i64 (IntKind.wrap .i64 ((rshkn_m n (rcat_m [xs, [bi, bj]])).getD (a + 1) 0)) 16) (imul .i64 16 (IntKind.wrap .i64 ((rshkn_m n (rcat_m [xs, [bi, bj]])).getD (a + 2) 0)))) < 3329
    ·refine rA [(1, .ob true)] trivial (fun _ => [(decide ((iadd .i64 (iquo .i64 (IntKind.wrap .i64 ((rshkn_m n (rcat_m [xs, [bi, bj]])).getD (a + 1) 0)) 16) (imul .i64 16 (IntKind.wrap .i64 ((rshkn_m n (rcat_m [xs, [bi, bj]])).getD (a + 2) 0)))) < 3329)) = true]) [6, 7, 8, 9, 10, 11, 12, 14, 79] [0, 1] 2 ⟨decide_eq_true h4, trivial⟩ hS fun hS => ?_
     refine then_n ?_
     refine if_d (((k + 1 : Nat) : Int) < 256) hS (fun h5 => ?_) (fun h5 => ?_)
     ·refine sA [] trivial (fun _ => [(0 : Int) ≤ ((k + 1 : Nat) : Int) ∧ (((k + 1 : Nat) : Int) : Int) < 256]) [6, 7, 8, 9, 10, 11, 12] [0, 1] 2 ⟨by omega, trivial⟩ hS fun hS => ?_
      refine rA [(1, .oi ((k + 2 : Nat) : Int))] trivial (fun _ => [iadd .i64 ((k + 1 : Nat) : Int) 1 = ((k + 2 : Nat) : Int)]) [6, 7, 8, 9, 10, 11, 12] [0, 1] 2 ⟨by rw [iadd64 omm omm]; omega, trivial⟩ hS fun hS => ?_
      refine block_n (then_n (rA [(1, .oi ((a + 3 : Nat) : Int))] trivial (fun _ => [iadd .i64 (a : Int) 3 = ((a + 3 : Nat) : Int)]) [6, 7, 8, 9, 10, 11, 12] [0, 1] 2 ⟨by rw [iadd64 omm omm]; omega, trivial⟩ hS fun hS => ?_))
      refine then_n ?_
      exact next_y hg0 hS (s := (q2, k, a, g)) (q2 - 1, k + 2, a + 3, upd (upd g k (IntKind.wrap .u16 (iadd .i64 (IntKind.wrap .i64 ((rshkn_m n (rcat_m [xs, [bi, bj]])).getD a 0)) (imul .i64 256 (irem (IntKind.wrap .i64 ((rshkn_m n (rcat_m [xs, [bi, bj]])).getD (a + 1) 0)) 16))))) (k + 1) (IntKind.wrap .u16 (iadd .i64 (iquo .i64 (IntKind.wrap .i64 ((rshkn_m n (rcat_m [xs, [bi, bj]])).getD (a + 1) 0)) 16) (imul .i64 16 (IntKind.wrap .i64 ((rshkn_m n (rcat_m [xs, [bi, bj]])).getD (a + 2) 0)))))) [(0, 0), (1, 1)] (show n - (a + 3) < n - a from by omega) ⟨omm, omm, (uR_n hu hq2 omm omm ((if_pos h3).trans ((if_pos h4).trans (if_pos h5)))), trivial⟩
     ·refine wp_skip (block_n (then_n (rA [(1, .oi ((a + 3 : Nat) : Int))] trivial (fun _ => [iadd .i64 (a : Int) 3 = ((a + 3 : Nat) : Int)]) [6, 7, 8, 9, 10, 11, 12] [0, 1] 2 ⟨by rw [iadd64 omm omm]; omega, trivial⟩ hS fun hS => ?_)))
      refine then_n ?_
      exact next_y hg0 hS (s := (q2, k, a, g)) (q2 - 1, k + 1, a + 3, upd g k (IntKind.wrap .u16 (iadd .i64 (IntKind.wrap .i64 ((rshkn_m n (rcat_m [xs, [bi, bj]])).getD a 0)) (imul .i64 256 (irem (IntKind.wrap .i64 ((rshkn_m n (rcat_m [xs, [bi, bj]])).getD (a + 1) 0)) 16))))) [(0, 0), (1, 1)] (show n - (a + 3) < n - a from by omega) ⟨omm, omm, (uR_n hu hq2 omm omm ((if_pos h3).trans ((if_pos h4).trans (if_neg h5)))), trivial⟩
    ·refine rA [(1, .ob false)] trivial (fun _ => [(decide ((iadd .i64 (iquo .i64 (IntKind.wrap .i64 ((rshkn_m n (rcat_m [xs, [bi, bj]])).getD (a + 1) 0)) 16) (imul .i64 16 (IntKind.wrap .i64 ((rshkn_m n (rcat_m [xs, [bi, bj]])).getD (a + 2) 0)))) < 3329)) = false]) [6, 7, 8, 9, 10, 11, 12, 14, 79] [0, 1] 2 ⟨decide_eq_false h4, trivial⟩ hS fun hS => ?_
     refine then_n (cond_f hS ?_)
     refine wp_skip (block_n (then_n (rA [(1, .oi ((a + 3 : Nat) : Int))] trivial (fun _ => [iadd .i64 (a : Int) 3 = ((a + 3 : Nat) : Int)]) [6, 7, 8, 9, 10, 11, 12] [0, 1] 2 ⟨by rw [iadd64 omm omm]; omega, trivial⟩ hS fun hS => ?_)))
     refine then_n ?_
     exact next_y hg0 hS (s := (q2, k, a, g)) (q2 - 1, k + 1, a + 3, upd g k (IntKind.wrap .u16 (iadd .i64 (IntKind.wrap .i64 ((rshkn_m n (rcat_m [xs, [bi, bj]])).getD a 0)) (imul .i64 256 (irem (IntKind.wrap .i64 ((rshkn_m n (rcat_m [xs, [bi, bj]])).getD (a + 1) 0)) 16))))) [(0, 0), (1, 1)] (show n - (a + 3) < n - a from by omega) ⟨omm, omm, (uR_n hu hq2 omm omm ((if_pos h3).trans ((if_neg h4)))), trivial⟩
   ·refine wp_skip (then_n (wp_seq ?_))
    by_cases h6 : (iadd .i64 (iquo .i64 (IntKind.wrap .i64 ((rshkn_m n (rcat_m [xs, [bi, bj]])).getD (a + 1) 0)) 16) (imul .i64 16 (IntKind.wrap .i64 ((rshkn_m n (rcat_m [xs, [bi, bj]])).getD (a + 2) 0)))) < 3329
    ·refine rA [(1, .ob true), (4, .ob true)] trivial (fun _ => [(decide ((iadd .i64 (iquo .i64 (IntKind.wrap .i64 ((rshkn_m n (rcat_m [xs, [bi, bj]])).getD (a + 1) 0)) 16) (imul .i64 16 (IntKind.wrap .i64 ((rshkn_m n (rcat_m [xs, [bi, bj]])).getD (a + 2) 0)))) < 3329)) = true, (decide ((k : Int) < 256)) = true]) [6, 7, 8, 9, 10, 11, 12, 14, 79] [0, 1] 2 ⟨decide_eq_true h6, decide_eq_true h2, trivial⟩ hS fun hS => ?_
     refine then_n (cond_t hS ?_)
     refine sA [] trivial (fun _ => [(0 : Int) ≤ (k : Int) ∧ ((k : Int) : Int) < 256]) [6, 7, 8, 9, 10, 11, 12] [0, 1] 2 ⟨by omega, trivial⟩ hS fun hS => ?_
     refine rA [(1, .oi ((k + 1 : Nat) : Int))] trivial (fun _ => [iadd .i64 (k : Int) 1 = ((k + 1 : Nat) : Int)]) [6, 7, 8, 9, 10, 11, 12] [0, 1] 2 ⟨by rw [iadd64 omm omm]; omega, trivial⟩ hS fun hS => ?_
     refine block_n (then_n (rA [(1, .oi ((a + 3 : Nat) : Int))] trivial (fun _ => [iadd .i64 (a : Int) 3 = ((a + 3 : Nat) : Int)]) [6, 7, 8, 9, 10, 11, 12] [0, 1] 2 ⟨by rw [iadd64 omm omm]; omega, trivial⟩ hS fun hS => ?_))
     refine then_n ?_
     exact next_y hg0 hS (s := (q2, k, a, g)) (q2 - 1, k + 1, a + 3, upd g k (IntKind.wrap .u16 (iadd .i64 (iquo .i64 (IntKind.wrap .i64 ((rshkn_m n (rcat_m [xs, [bi, bj]])).getD (a + 1) 0)) 16) (imul .i64 16 (IntKind.wrap .i64 ((rshkn_m n (rcat_m [xs, [bi, bj]])).getD (a + 2) 0)))))) [(0, 0), (1, 1)] (show n - (a + 3) < n - a from by omega) ⟨omm, omm, (uR_n hu hq2 omm omm ((if_neg h3).trans ((if_pos h6).trans (if_pos h2)))), trivial⟩
    ·refine rA [(1, .ob false)] trivial (fun _ => [(decide ((iadd .i64 (iquo .i64 (IntKind.wrap .i64 ((rshkn_m n (rcat_m [xs, [bi, bj]])).getD (a + 1) 0)) 16) (imul .i64 16 (IntKind.wrap .i64 ((rshkn_m n (rcat_m [xs, [bi, bj]])).getD (a + 2) 0)))) < 3329)) = false]) [6, 7, 8, 9, 10, 11, 12, 14, 79] [0, 1] 2 ⟨decide_eq_false h6, trivial⟩ hS fun hS => ?_
     refine then_n (cond_f hS ?_)
     refine wp_skip (block_n (then_n (rA [(1, .oi ((a + 3 : Nat) : Int))] trivial (fun _ => [iadd .i64 (a : Int) 3 = ((a + 3 : Nat) : Int)]) [6, 7, 8, 9, 10, 11, 12] [0, 1] 2 ⟨by rw [iadd64 omm omm]; omega, trivial⟩ hS fun hS => ?_)))
     refine then_n ?_
     exact next_y hg0 hS (s := (q2, k, a, g)) (q2 - 1, k, a + 3, g) [(0, 0), (1, 1)] (show n - (a + 3) < n - a from by omega) ⟨omm, omm, (uR_n hu hq2 omm omm ((if_neg h3).trans ((if_neg h6)))), trivial⟩
  ·refine wp_exit (then_exit (then_exit (block_exit (then_n (wp_seq ?_)))))
   have hu2 := uR_e hu omm
   by_cases h7 : (k : Int) = 256
   ·have hu2 := uR_e hu omm
    refine rA [(1, .ob true)] trivial (fun _ => [(decide ((k : Int) = 256)) = true]) [6, 7, 8, 9, 91] [0, 1] 2 ⟨decide_eq_true h7, trivial⟩ hS fun hS => ?_
    refine then_n (cond_t hS ?_)
    refine s0 [6, 7, 8, 9] [0, 1] 2 hS fun hS => ?_
    refine wp_ret (block_ret (then_ret (then_ret (block_ret ?_))))
    exact fin_y rfl (.inr rfl) hS [.ar .u16 256 g] [] (by show weak _ (.ar .u16 256 (vR (rcat_m [xs, [bi, bj]]) 7 1024 (fun _ => 0))) = .ar .u16 256 (vR (rcat_m [xs, [bi, bj]]) 7 1024 (fun _ => 0)); rw [vR_e omm hv hu2 omm]; rfl) trivial
   ·have hu2 := uR_e hu omm
    refine rA [(1, .ob false)] trivial (fun _ => [(decide ((k : Int) = 256)) = false]) [6, 7, 8, 9, 91] [0, 1] 2 ⟨decide_eq_false h7, trivial⟩ hS fun hS => ?_
    refine then_n ?_
    refine if_d ((65536 : Int) ≤ (n : Int)) hS (fun h8 => ?_) (fun h8 => ?_)
    ·refine s0 [6, 7, 8, 9] [0, 1] 2 hS fun hS => ?_
     refine wp_ret (block_ret (then_ret (then_ret (block_ret ?_))))
     exact fin_y rfl (.inr rfl) hS [.ar .u16 256 g] [] (by show weak _ (.ar .u16 256 (vR (rcat_m [xs, [bi, bj]]) 7 1024 (fun _ => 0))) = .ar .u16 256 (vR (rcat_m [xs, [bi, bj]]) 7 1024 (fun _ => 0)); rw [vR_e omm hv hu2 omm]; rfl) trivial
    ·refine wp_skip (block_n (then_n (rA [(1, .oi ((2 * n : Nat) : Int))] trivial (fun _ => [imul .i64 2 (n : Int) = ((2 * n : Nat) : Int)]) [6, 7, 8, 9] [0, 1] 2 ⟨by rw [imul64 omm omm]; omega, trivial⟩ hS fun hS => ?_)))
     refine then_n ?_
     exact next_y hg0 hS (s := (q, n, f)) (q - 1, 2 * n, g) [(0, 0), (1, 1)] (show 65536 - 2 * n < 65536 - n from by omega) ⟨(hnb.2.2.2 omm), (vR_n omm hv hu2 omm omm), trivial⟩
 ·refine rA [(1, .oi ((a + 3 : Nat) : Int)), (4, .ob false)] trivial (fun _ => [iadd .i64 (a : Int) 3 = ((a + 3 : Nat) : Int), (decide (((a + 3 : Nat) : Int) ≤ (((rshkn_m n (rcat_m [xs, [bi, bj]])).length : Nat) : Int))) = false]) [6, 7, 8, 9, 10, 11, 12, 34] [0, 1] 2 ⟨by rw [iadd64 omm omm]; omega, decide_eq_false h1, trivial⟩ hS fun hS => ?_
  refine then_n (cond_f hS ?_)
  refine wp_exit (then_exit (then_exit (block_exit (then_n (wp_seq ?_)))))
  have hu2 := uR_e hu omm
  by_cases h9 : (k : Int) = 256
  ·have hu2 := uR_e hu omm
   refine rA [(1, .ob true)] trivial (fun _ => [(decide ((k : Int) = 256)) = true]) [6, 7, 8, 9, 91] [0, 1] 2 ⟨decide_eq_true h9, trivial⟩ hS fun hS => ?_
   refine then_n (cond_t hS ?_)
   refine s0 [6, 7, 8, 9] [0, 1] 2 hS fun hS => ?_
   refine wp_ret (block_ret (then_ret (then_ret (block_ret ?_))))
   exact fin_y rfl (.inr rfl) hS [.ar .u16 256 g] [] (by show weak _ (.ar .u16 256 (vR (rcat_m [xs, [bi, bj]]) 7 1024 (fun _ => 0))) = .ar .u16 256 (vR (rcat_m [xs, [bi, bj]]) 7 1024 (fun _ => 0)); rw [vR_e omm hv hu2 omm]; rfl) trivial
  ·have hu2 := uR_e hu omm
   refine rA [(1, .ob false)] trivial (fun _ => [(decide ((k : Int) = 256)) = false]) [6, 7, 8, 9, 91] [0, 1] 2 ⟨decide_eq_false h9, trivial⟩ hS fun hS => ?_
   refine then_n ?_
   refine if_d ((65536 : Int) ≤ (n : Int)) hS (fun h10 => ?_) (fun h10 => ?_)
   ·refine s0 [6, 7, 8, 9] [0, 1] 2 hS fun hS => ?_
    refine wp_ret (block_ret (then_ret (then_ret (block_ret ?_))))
    exact fin_y rfl (.inr rfl) hS [.ar .u16 256 g] [] (by show weak _ (.ar .u16 256 (vR (rcat_m [xs, [bi, bj]]) 7 1024 (fun _ => 0))) = .ar .u16 256 (vR (rcat_m [xs, [bi, bj]]) 7 1024 (fun _ => 0)); rw [vR_e omm hv hu2 omm]; rfl) trivial
   ·refine wp_skip (block_n (then_n (rA [(1, .oi ((2 * n : Nat) : Int))] trivial (fun _ => [imul .i64 2 (n : Int) = ((2 * n : Nat) : Int)]) [6, 7, 8, 9] [0, 1] 2 ⟨by rw [imul64 omm omm]; omega, trivial⟩ hS fun hS => ?_)))
    refine then_n ?_
    exact next_y hg0 hS (s := (q, n, f)) (q - 1, 2 * n, g) [(0, 0), (1, 1)] (show 65536 - 2 * n < 65536 - n from by omega) ⟨(hnb.2.2.2 omm), (vR_n omm hv hu2 omm omm), trivial⟩

end
end Go.Sx.Try
namespace Go.Sx.Try
open Go.Mi Go.RowKit Go.Sx Go.Proofs
noncomputable section
theorem renc_l2_len (f : Nat → Int) (x7 : Nat) (o : List Int) : ∀ k, (renc_l2 f x7 o k).length = o.length
 | 0 => rfl
 | k + 1 => by
  show (renc_l2_s f x7 o k (renc_l2 f x7 o k)).length = o.length
  unfold renc_l2_s
  rw [List.length_set, renc_l2_len f x7 o k]
@[simp] theorem renc_len (f : Nat → Int) : (renc_m f).length = 384 := by
 have key : ∀ i, (renc_l1 f i).length = 384 := by
  intro i
  induction i with
  | zero => exact List.length_replicate
  | succ i ih => exact (renc_l2_len f i _ 12).trans ih
 rw [renc_e]
 exact key 256
def fkeys_l1_s (d z : List Int) (x12 : Nat) : ((Nat → Int) × (Nat → Int)) → ((Nat → Int) × (Nat → Int)) := fun z_ => match z_ with | (o10_0, o11_0) => (updW o10_0 (x12 * 256) 256 (rntt_m (rnoise_m ((rsha64_m (rcat_m [d, [3]])).drop 32) (IntKind.wrap .u8 (x12 : Int)))), updW o11_0 (x12 * 256) 256 (rntt_m (rnoise_m ((rsha64_m (rcat_m [d, [3]])).drop 32) (IntKind.wrap .u8 ((x12 + 3 : Nat) : Int)))))
def fkeys_l1 (d z : List Int) : Nat → (Nat → Int) × (Nat → Int)
 | 0 => (fun _ => 0, fun _ => 0)
 | x12 + 1 => fkeys_l1_s d z x12 (fkeys_l1 d z x12)
def fkeys_l3_s (d z : List Int) (x15 : Nat) (x13 x14 : List Int) (x17 : Nat) : (Nat → Int) → (Nat → Int) := fun o16_0 => radd_m o16_0 (rmul_m (vR (rcat_m [((rsha64_m (rcat_m [d, [3]])).take 32), [(IntKind.wrap .u8 (x17 : Int)), (IntKind.wrap .u8 (x15 : Int))]]) 7 1024 (fun _ => 0)) (fun j => ((fkeys_l1 d z 3).1) (x17 * 256 + j)))
def fkeys_l3 (d z : List Int) (x15 : Nat) (x13 x14 : List Int) : Nat → (Nat → Int)
 | 0 => fun j => ((fkeys_l1 d z 3).2) (x15 * 256 + j)
 | x17 + 1 => fkeys_l3_s d z x15 x13 x14 x17 (fkeys_l3 d z x15 x13 x14 x17)
def fkeys_l2_s (d z : List Int) (x15 : Nat) : ((List Int) × (List Int)) → ((List Int) × (List Int)) := fun z_ => match z_ with | (x13, x14) => (x13 ++ (renc_m (fkeys_l3 d z x15 x13 x14 3)), x14 ++ (renc_m (fun j => ((fkeys_l1 d z 3).1) (x15 * 256 + j))))
def fkeys_l2 (d z : List Int) : Nat → (List Int) × (List Int)
 | 0 => ([], [])
 | x15 + 1 => fkeys_l2_s d z x15 (fkeys_l2 d z x15)
def fkeys_v (d z : List Int) : (List Int) × (List Int) := (((fkeys_l2 d z 3).1) ++ ((rsha64_m (rcat_m [d, [3]])).take 32), rcat_m [(fkeys_l2 d z 3).2, ((fkeys_l2 d z 3).1) ++ ((rsha64_m (rcat_m [d, [3]])).take 32), rsha32_m (((fkeys_l2 d z 3).1) ++ ((rsha64_m (rcat_m [d, [3]])).take 32)), z])
def fkeys_m (d z : List Int) : (List Int) × (List Int) := shut (fkeys_v d z)
theorem fkeys_e (d z : List Int) : fkeys_m d z = fkeys_v d z := shut_eq _
theorem fkeys_l2_len (d z : List Int) : ∀ i, (fkeys_l2 d z i).1.length = 384 * i ∧ (fkeys_l2 d z i).2.length = 384 * i
 | 0 => ⟨rfl, rfl⟩
 | i + 1 => by
  have ih := fkeys_l2_len d z i
  show ((fkeys_l2 d z i).1 ++ renc_m _).length = _ ∧ ((fkeys_l2 d z i).2 ++ renc_m _).length = _
  rw [List.length_append, List.length_append, renc_len, renc_len, ih.1, ih.2]
  omega
theorem fkeys_len (d z : List Int) (hz : z.length = 32) : (fkeys_m d z).1.length = 1184 ∧ (fkeys_m d z).2.length = 2400 := by
 have h1 := rsha64_len (rcat_m [d, [3]])
 have h2 := fkeys_l2_len d z 3
 rw [fkeys_e]
 unfold fkeys_v
 simp only [rcat_flat, List.flatten_cons, List.flatten_nil, List.length_append, List.length_nil, rsha32_len, List.length_take, h2.1, h2.2, hz] at h1 ⊢
 rw [h1]
 exact ⟨rfl, rfl⟩
def c_fkeys (d z : List Int) : Con := ⟨[lb d, lb z], [], .tu (chain [lb ((fkeys_m d z).1), lb ((fkeys_m d z).2), vi 0]), []⟩
theorem fkeys_ok (d z : List Int) (hd : d.length = 32) (hz : z.length = 32) : ConOk Try.prog 8 (c_fkeys d z) := by
 refine conOk_of rfl (nb := 0) Try.func8 rfl rfl Try.ntmps8 rfl rfl rfl fun g0 w0 ac gs ws hg0 hS => ?_
 have hlen0 : d.length ≤ 9223372036854775807 := hS.len 0 rfl
 have hlen1 : z.length ≤ 9223372036854775807 := hS.len 1 rfl
 have hS := hS.sp
 have hd1 : ((d.length : Nat) : Int) = 32 := omm
 have hz1 : ((z.length : Nat) : Int) = 32 := omm
 refine s0 [0, 1, 4, 5, 6] [] 0 hS fun hS => ?_
 refine wp_seq (sA [(2, .ob false), (6, .ob false)] trivial (fun _ => [(!decide (((d.length : Nat) : Int) = 32)) = false, (!decide (((z.length : Nat) : Int) = 32)) = false]) [0, 1, 4, 5, 6, 29] [] 0 ⟨by rw [decide_eq_true hd1]; rfl, by rw [decide_eq_true hz1]; rfl, trivial⟩ hS fun hS => ?_)
 refine cond_f hS ?_
 refine wp_skip (then_n (sA [(3, .call ⟨26, (c_rcatf [d, [3]]), [], []⟩), (4, .call ⟨25, (c_rsha64 (rcat_m [d, [3]])), [], []⟩)] ⟨rcatf_ok _ lnn (fm_getD (by repeat (first | exact fm_nil | (apply fm_cons; focus (first | omega | (simp <;> omega)))))), rsha64_ok _ lnn, trivial⟩ (fun C => [ndC C 3, ndC C 4]) [1, 4, 5, 6, 7] [] 0 ⟨rfl, rfl, trivial⟩ hS fun hS => ?_))
 refine wp_seq ?_
 have hl := rsha64_len (rcat_m [d, [3]])
 refine rA [] trivial (fun _ => [bndP none (some 32) none (rsha64_m (rcat_m [d, [3]])).length (rsha64_m (rcat_m [d, [3]])).length]) [1, 4, 5, 6, 7, 8] [] 0 ⟨⟨by simp only [nnI] <;> omega, by simp only [nnI] <;> omega, by simp only [nnI] <;> omega, by simp, by simp only [bl] <;> omega, by simp only [bl] <;> omega, by simp only [bl] <;> omega⟩, trivial⟩ hS fun hS => ?_
 refine then_n (sA [] trivial (fun _ => [bndP (some 32) none none (rsha64_m (rcat_m [d, [3]])).length (rsha64_m (rcat_m [d, [3]])).length]) [1, 4, 5, 6, 8, 9] [] 0 ⟨⟨by simp only [nnI] <;> omega, by simp only [nnI] <;> omega, by simp only [nnI] <;> omega, by simp, by simp only [bl] <;> omega, by simp only [bl] <;> omega, by simp only [bl] <;> omega⟩, trivial⟩ hS fun hS => ?_)
 refine s0 [1, 4, 5, 6, 8, 9, 10, 11] [0, 1] 2 hS fun hS => ?_
 refine wp_seq (s0 [1, 4, 5, 6, 8, 9, 10, 11, 12] [0, 1] 2 hS fun hS => ?_)
 refine wp_block (loop_y (ι := Nat × (Nat → Int) × (Nat → Int)) hg0 hS (fun z_ => match z_ with | (x12, o10_0, o11_0) => 3 - x12) (fun z_ => match z_ with | (x12, o10_0, o11_0) => [(1, lb z), (4, .v (.slice none 0 0)), (5, .v (.slice none 0 0)), (6, vi 0), (8, lb ((rsha64_m (rcat_m [d, [3]])).take 32)), (9, lb ((rsha64_m (rcat_m [d, [3]])).drop 32)), (10, .cp 0 0), (11, .cp 1 0), (12, vi ((x12 : Nat) : Int))]) (fun z_ => match z_ with | (x12, o10_0, o11_0) => [(0, .ob 53 (chain [.ar .u16 768 o10_0])), (1, .ob 53 (chain [.ar .u16 768 o11_0]))]) (fun z_ => match z_ with | (x12, o10_0, o11_0) => (x12 ≤ 3) ∧ ((o10_0, o11_0) = fkeys_l1 d z x12) ∧ True) 2 (0, fun _ => 0, fun _ => 0) [(0, 0), (1, 1)] ⟨omm, rfl, trivial⟩ ?_)
 rintro ⟨x12, o10_0, o11_0⟩ ac gs ws ⟨hx12, hq1, _⟩ hS
 refine wp_seq (s0 [1, 4, 5, 6, 8, 9, 10, 11, 12, 40] [0, 1] 2 hS fun hS => ?_)
 refine if_d ((x12 : Int) < 3) hS (fun h1 => ?_) (fun h1 => ?_)
 ·refine wp_skip (then_n (wp_seq (wp_block (sA [(4, .call ⟨27, (c_rnoise ((rsha64_m (rcat_m [d, [3]])).drop 32) (IntKind.wrap .u8 (x12 : Int))), [], []⟩), (5, .call ⟨28, (c_rntt (rnoise_m ((rsha64_m (rcat_m [d, [3]])).drop 32) (IntKind.wrap .u8 (x12 : Int)))), [], []⟩)] ⟨rnoise_ok _ _ lnn, rntt_ok _, trivial⟩ (fun C => [ndC C 4, ndC C 5, (0 : Int) ≤ (x12 : Int) ∧ ((x12 : Int) : Int) < 3]) [1, 4, 5, 6, 8, 9, 10, 11, 12] [0, 1] 2 ⟨rfl, rfl, by omega, trivial⟩ hS fun hS => ?_))))
  refine rA [(3, .oi ((x12 + 3 : Nat) : Int)), (5, .call ⟨27, (c_rnoise ((rsha64_m (rcat_m [d, [3]])).drop 32) (IntKind.wrap .u8 ((x12 + 3 : Nat) : Int))), [], []⟩), (6, .call ⟨28, (c_rntt (rnoise_m ((rsha64_m (rcat_m [d, [3]])).drop 32) (IntKind.wrap .u8 ((x12 + 3 : Nat) : Int)))), [], []⟩)] ⟨rnoise_ok _ _ lnn, rntt_ok _, trivial⟩ (fun C => [iadd .i64 (x12 : Int) 3 = ((x12 + 3 : Nat) : Int), ndC C 5, ndC C 6, (0 : Int) ≤ (x12 : Int) ∧ ((x12 : Int) : Int) < 3]) [1, 4, 5, 6, 8, 9, 10, 11, 12] [0, 1] 2 ⟨by rw [iadd64 omm omm]; omega, rfl, rfl, by omega, trivial⟩ hS fun hS => ?_
  refine block_n (then_n (rA [(1, .oi ((x12 + 1 : Nat) : Int))] trivial (fun _ => [iadd .i64 (x12 : Int) 1 = ((x12 + 1 : Nat) : Int)]) [1, 4, 5, 6, 8, 9, 10, 11, 12] [0, 1] 2 ⟨by rw [iadd64 omm omm]; omega, trivial⟩ hS fun hS => ?_))
  refine then_n ?_
  exact next_y hg0 hS (s := (x12, o10_0, o11_0)) (x12 + 1, updW o10_0 (x12 * 256) 256 (rntt_m (rnoise_m ((rsha64_m (rcat_m [d, [3]])).drop 32) (IntKind.wrap .u8 (x12 : Int)))), updW o11_0 (x12 * 256) 256 (rntt_m (rnoise_m ((rsha64_m (rcat_m [d, [3]])).drop 32) (IntKind.wrap .u8 ((x12 + 3 : Nat) : Int))))) [(0, 0), (1, 1)] (show 3 - (x12 + 1) < 3 - x12 from by omega) ⟨omm, (it_next (F := fkeys_l1 d z) (st := fkeys_l1_s d z) (fun _ => rfl) hq1 rfl), trivial⟩
 ·have hScur := hS
  obtain rfl : 3 = x12 := by omega
  obtain rfl : (fkeys_l1 d z 3).1 = o10_0 := Eq.symm (congrArg (fun z => z.1) hq1)
  obtain rfl : (fkeys_l1 d z 3).2 = o11_0 := Eq.symm (congrArg (fun z => z.2) hq1)
  have hS := hScur
  clear hScur
  refine wp_exit (then_exit (then_exit (block_exit (then_n (s0 [1, 4, 5, 6, 8, 10, 11, 13, 14] [0, 1] 2 hS fun hS => ?_)))))
  refine wp_seq (s0 [1, 4, 5, 6, 8, 10, 11, 13, 14, 15] [0, 1] 2 hS fun hS => ?_)
  refine wp_block ?_
  obtain ⟨gs, hS⟩ := hS.nilk 13 5 [.int .u8]
  obtain ⟨gs, hS⟩ := hS.nilk 14 5 [.int .u8]
  refine loop_y (ι := Nat × (List Int) × (List Int)) hg0 hS (fun z_ => match z_ with | (x15, x13, x14) => 3 - x15) (fun z_ => match z_ with | (x15, x13, x14) => [(1, lb z), (4, .v (.slice none 0 0)), (5, .v (.slice none 0 0)), (6, vi 0), (8, lb ((rsha64_m (rcat_m [d, [3]])).take 32)), (10, .cp 0 0), (11, .cp 1 0), (13, .sk 2), (14, .sk 3), (15, vi ((x15 : Nat) : Int))]) (fun z_ => match z_ with | (x15, x13, x14) => [(0, .ob 53 (chain [.ar .u16 768 ((fkeys_l1 d z 3).1)])), (1, .ob 53 (chain [.ar .u16 768 ((fkeys_l1 d z 3).2)])), (2, .sl 5 [.int .u8] x13), (3, .sl 5 [.int .u8] x14)]) (fun z_ => match z_ with | (x15, x13, x14) => (x15 ≤ 3) ∧ ((x13, x14) = fkeys_l2 d z x15) ∧ (x13.length = 384 * x15 ∧ x14.length = 384 * x15) ∧ True) 4 (0, [], []) [(0, 0), (1, 1), (2, 2), (3, 3)] ⟨omm, rfl, (by simp), trivial⟩ ?_
  rintro ⟨x15, x13, x14⟩ ac gs ws ⟨hx15, hq2, p1, _⟩ hS
  refine wp_seq (s0 [1, 4, 5, 6, 8, 10, 11, 13, 14, 15, 59] [0, 1, 2, 3] 4 hS fun hS => ?_)
  refine if_d ((x15 : Int) < 3) hS (fun h2 => ?_) (fun h2 => ?_)
  ·refine wp_skip (then_n (wp_seq (wp_block (sA [] trivial (fun _ => [(0 : Int) ≤ (x15 : Int) ∧ ((x15 : Int) : Int) < 3]) [1, 4, 5, 6, 8, 10, 11, 13, 14, 15, 16] [0, 1, 2, 3, 4] 5 ⟨by omega, trivial⟩ hS fun hS => ?_))))
   refine wp_seq (s0 [1, 4, 5, 6, 8, 10, 11, 13, 14, 15, 16, 17] [0, 1, 2, 3, 4] 5 hS fun hS => ?_)
   refine wp_block (loop_y (ι := Nat × (Nat → Int)) hg0 hS (fun z_ => match z_ with | (x17, o16_0) => 3 - x17) (fun z_ => match z_ with | (x17, o16_0) => [(1, lb z), (4, .v (.slice none 0 0)), (5, .v (.slice none 0 0)), (6, vi 0), (8, lb ((rsha64_m (rcat_m [d, [3]])).take 32)), (10, .cp 0 0), (11, .cp 1 0), (13, .sk 2), (14, .sk 3), (15, vi (x15 : Int)), (16, .cp 4 0), (17, vi ((x17 : Nat) : Int))]) (fun z_ => match z_ with | (x17, o16_0) => [(0, .ob 53 (chain [.ar .u16 768 ((fkeys_l1 d z 3).1)])), (1, .ob 53 (chain [.ar .u16 768 ((fkeys_l1 d z 3).2)])), (2, .sl 5 [.int .u8] x13), (3, .sl 5 [.int .u8] x14), (4, .ob 52 (chain [.ar .u16 256 o16_0]))]) (fun z_ => match z_ with | (x17, o16_0) => (x17 ≤ 3) ∧ (o16_0 = fkeys_l3 d z x15 x13 x14 x17) ∧ True) 5 (0, fun j => ((fkeys_l1 d z 3).2) (x15 * 256 + j)) [(0, 0), (1, 1), (2, 2), (3, 3), (4, 4)] ⟨omm, rfl, trivial⟩ ?_)
   rintro ⟨x17, o16_0⟩ ac gs ws ⟨hx17, hq3, _⟩ hS
   refine wp_seq (s0 [1, 4, 5, 6, 8, 10, 11, 13, 14, 15, 16, 17, 66] [0, 1, 2, 3, 4] 5 hS fun hS => ?_)
   refine if_d ((x17 : Int) < 3) hS (fun h3 => ?_) (fun h3 => ?_)
   ·refine wp_skip (then_n (wp_seq (wp_block (rA [(0, .ov (.ar .u16 256 o16_0)), (6, .call ⟨30, (c_runi ((rsha64_m (rcat_m [d, [3]])).take 32) (IntKind.wrap .u8 (x17 : Int)) (IntKind.wrap .u8 (x15 : Int))), [], []⟩), (9, .ov (.ar .u16 256 (fun j => ((fkeys_l1 d z 3).1) (x17 * 256 + j)))), (10, .call ⟨31, (c_rmul (vR (rcat_m [((rsha64_m (rcat_m [d, [3]])).take 32), [(IntKind.wrap .u8 (x17 : Int)), (IntKind.wrap .u8 (x15 : Int))]]) 7 1024 (fun _ => 0)) (fun j => ((fkeys_l1 d z 3).1) (x17 * 256 + j))), [], []⟩), (11, .call ⟨29, (c_radd o16_0 (rmul_m (vR (rcat_m [((rsha64_m (rcat_m [d, [3]])).take 32), [(IntKind.wrap .u8 (x17 : Int)), (IntKind.wrap .u8 (x15 : Int))]]) 7 1024 (fun _ => 0)) (fun j => ((fkeys_l1 d z 3).1) (x17 * 256 + j)))), [], []⟩)] ⟨runi_ok _ _ _ lnn, rmul_ok _ _, radd_ok _ _, trivial⟩ (fun C => [(.ar .u16 256 o16_0 : D) = (.ar .u16 256 o16_0), ndC C 6, (0 : Int) ≤ (x17 : Int) ∧ ((x17 : Int) : Int) < 3, (.ar .u16 256 (fun j => ((fkeys_l1 d z 3).1) (x17 * 256 + j)) : D) = (.ar .u16 256 (fun j => ((fkeys_l1 d z 3).1) (x17 * 256 + j))), nd [.ar .u16 256 (vR (rcat_m [((rsha64_m (rcat_m [d, [3]])).take 32), [(IntKind.wrap .u8 (x17 : Int)), (IntKind.wrap .u8 (x15 : Int))]]) 7 1024 (fun _ => 0)), .ar .u16 256 (fun j => ((fkeys_l1 d z 3).1) (x17 * 256 + j))] [], nd [.ar .u16 256 o16_0, .ar .u16 256 (rmul_m (vR (rcat_m [((rsha64_m (rcat_m [d, [3]])).take 32), [(IntKind.wrap .u8 (x17 : Int)), (IntKind.wrap .u8 (x15 : Int))]]) 7 1024 (fun _ => 0)) (fun j => ((fkeys_l1 d z 3).1) (x17 * 256 + j)))] []]) [1, 4, 5, 6, 8, 10, 11, 13, 14, 15, 16, 17] [0, 1, 2, 3, 4] 5 ⟨rfl, rfl, by omega, rfl, rfl, rfl, trivial⟩ hS fun hS => ?_))))
    refine block_n (then_n (rA [(1, .oi ((x17 + 1 : Nat) : Int))] trivial (fun _ => [iadd .i64 (x17 : Int) 1 = ((x17 + 1 : Nat) : Int)]) [1, 4, 5, 6, 8, 10, 11, 13, 14, 15, 16, 17] [0, 1, 2, 3, 4] 5 ⟨by rw [iadd64 omm omm]; omega, trivial⟩ hS fun hS => ?_))
    refine then_n ?_
    exact next_y hg0 hS (s := (x17, o16_0)) (x17 + 1, radd_m o16_0 (rmul_m (vR (rcat_m [((rsha64_m (rcat_m [d, [3]])).take 32), [(IntKind.wrap .u8 (x17 : Int)), (IntKind.wrap .u8 (x15 : Int))]]) 7 1024 (fun _ => 0)) (fun j => ((fkeys_l1 d z 3).1) (x17 * 256 + j)))) [(0, 0), (1, 1), (2, 2), (3, 3), (4, 4)] (show 3 - (x17 + 1) < 3 - x17 from by omega) ⟨omm, (it_next (F := fkeys_l3 d z x15 x13 x14) (st := fkeys_l3_s d z x15 x13 x14) (fun _ => rfl) hq3 rfl), trivial⟩
   ·have hScur := hS
    obtain rfl : 3 = x17 := by omega
    obtain rfl : fkeys_l3 d z x15 x13 x14 3 = o16_0 := Eq.symm (congrArg (fun z => z) hq3)
    have hS := hScur
    clear hScur
    refine wp_exit (then_exit (then_exit (block_exit (then_n (sA [(0, .ov (.ar .u16 256 (fkeys_l3 d z x15 x13 x14 3))), (1, .call ⟨32, (c_renc (fkeys_l3 d z x15 x13 x14 3)), [], [(0, 5)]⟩)] ⟨renc_ok _, trivial⟩ (fun _ => [(.ar .u16 256 (fkeys_l3 d z x15 x13 x14 3) : D) = (.ar .u16 256 (fkeys_l3 d z x15 x13 x14 3)), nd [.ar .u16 256 (fkeys_l3 d z x15 x13 x14 3), vi 12] []]) [1, 4, 5, 6, 8, 10, 11, 13, 14, 15, 18] [0, 1, 2, 3, 5] 6 ⟨rfl, rfl, trivial⟩ hS fun hS => ?_)))))
    refine sA [(2, .ov (.ar .u16 256 (fun j => ((fkeys_l1 d z 3).1) (x15 * 256 + j)))), (3, .call ⟨32, (c_renc (fun j => ((fkeys_l1 d z 3).1) (x15 * 256 + j))), [], [(0, 6)]⟩)] ⟨renc_ok _, trivial⟩ (fun _ => [(0 : Int) ≤ (x15 : Int) ∧ ((x15 : Int) : Int) < 3, (.ar .u16 256 (fun j => ((fkeys_l1 d z 3).1) (x15 * 256 + j)) : D) = (.ar .u16 256 (fun j => ((fkeys_l1 d z 3).1) (x15 * 256 + j))), nd [.ar .u16 256 (fun j => ((fkeys_l1 d z 3).1) (x15 * 256 + j)), vi 12] []]) [1, 4, 5, 6, 8, 10, 11, 13, 14, 15, 18, 20] [0, 1, 2, 3, 5, 6] 7 ⟨by omega, rfl, rfl, trivial⟩ hS fun hS => ?_
    refine sA [] trivial (fun _ => [x13.length + (renc_m (fkeys_l3 d z x15 x13 x14 3)).length ≤ 9223372036854775807, (x13.length + (renc_m (fkeys_l3 d z x15 x13 x14 3)).length) * 1 ≤ 140737488355328]) [1, 4, 5, 6, 8, 10, 11, 13, 14, 15, 20] [0, 1, 3, 6, 7] 8 ⟨by simp <;> omega, by simp <;> omega, trivial⟩ hS fun hS => ?_
    refine rA [] trivial (fun _ => [x14.length + (renc_m (fun j => ((fkeys_l1 d z 3).1) (x15 * 256 + j))).length ≤ 9223372036854775807, (x14.length + (renc_m (fun j => ((fkeys_l1 d z 3).1) (x15 * 256 + j))).length) * 1 ≤ 140737488355328]) [1, 4, 5, 6, 8, 10, 11, 13, 14, 15] [0, 1, 7, 8] 9 ⟨by simp <;> omega, by simp <;> omega, trivial⟩ hS fun hS => ?_
    refine block_n (then_n (rA [(1, .oi ((x15 + 1 : Nat) : Int))] trivial (fun _ => [iadd .i64 (x15 : Int) 1 = ((x15 + 1 : Nat) : Int)]) [1, 4, 5, 6, 8, 10, 11, 13, 14, 15] [0, 1, 7, 8] 9 ⟨by rw [iadd64 omm omm]; omega, trivial⟩ hS fun hS => ?_))
    refine then_n ?_
    exact next_y hg0 hS (s := (x15, x13, x14)) (x15 + 1, x13 ++ (renc_m (fkeys_l3 d z x15 x13 x14 3)), x14 ++ (renc_m (fun j => ((fkeys_l1 d z 3).1) (x15 * 256 + j)))) [(0, 0), (1, 1), (2, 7), (3, 8)] (show 3 - (x15 + 1) < 3 - x15 from by omega) ⟨omm, (it_next (F := fkeys_l2 d z) (st := fkeys_l2_s d z) (fun _ => rfl) hq2 rfl), (by rw [List.length_append, List.length_append, renc_len, renc_len]; omega), trivial⟩
  ·have hScur := hS
   obtain rfl : 3 = x15 := by omega
   obtain rfl : (fkeys_l2 d z 3).1 = x13 := Eq.symm (congrArg (fun z => z.1) hq2)
   obtain rfl : (fkeys_l2 d z 3).2 = x14 := Eq.symm (congrArg (fun z => z.2) hq2)
   have hS := hScur
   clear hScur
   refine wp_exit (then_exit (then_exit (block_exit (then_n (wp_seq ?_)))))
   have hl2 := fkeys_l2_len d z 3
   refine rA [] trivial (fun _ => [((fkeys_l2 d z 3).1).length + ((rsha64_m (rcat_m [d, [3]])).take 32).length ≤ 9223372036854775807, (((fkeys_l2 d z 3).1).length + ((rsha64_m (rcat_m [d, [3]])).take 32).length) * 1 ≤ 140737488355328]) [1, 4, 5, 6, 13, 14] [3, 4] 5 ⟨by simp <;> omega, by simp <;> omega, trivial⟩ hS fun hS => ?_
   refine then_n (wp_seq ?_)
   have hl2 := fkeys_l2_len d z 3
   obtain ⟨gs, hS⟩ := hS.fz 4
   obtain ⟨gs, hS⟩ := hS.fz 3
   refine rA [(4, .call ⟨25, (c_rsha32 (((fkeys_l2 d z 3).1) ++ ((rsha64_m (rcat_m [d, [3]])).take 32))), [], []⟩), (7, .call ⟨26, (c_rcatf [(fkeys_l2 d z 3).2, ((fkeys_l2 d z 3).1) ++ ((rsha64_m (rcat_m [d, [3]])).take 32), rsha32_m (((fkeys_l2 d z 3).1) ++ ((rsha64_m (rcat_m [d, [3]])).take 32)), z]), [], []⟩)] ⟨rsha32_ok _ lnn, rcatf_ok _ lnn (fm_getD (by repeat (first | exact fm_nil | (apply fm_cons; focus (first | omega | (simp <;> omega)))))), trivial⟩ (fun C => [ndC C 4, ndC C 7]) [4, 5, 6] [] 5 ⟨rfl, rfl, trivial⟩ hS fun hS => ?_
   refine then_n (wp_ret ?_)
   have hM : fkeys_m d z = (((fkeys_l2 d z 3).1) ++ ((rsha64_m (rcat_m [d, [3]])).take 32), rcat_m [(fkeys_l2 d z 3).2, ((fkeys_l2 d z 3).1) ++ ((rsha64_m (rcat_m [d, [3]])).take 32), rsha32_m (((fkeys_l2 d z 3).1) ++ ((rsha64_m (rcat_m [d, [3]])).take 32)), z]) := fkeys_e d z
   exact fin_y rfl (.inr rfl) hS [lb (((fkeys_l2 d z 3).1) ++ ((rsha64_m (rcat_m [d, [3]])).take 32)), lb (rcat_m [(fkeys_l2 d z 3).2, ((fkeys_l2 d z 3).1) ++ ((rsha64_m (rcat_m [d, [3]])).take 32), rsha32_m (((fkeys_l2 d z 3).1) ++ ((rsha64_m (rcat_m [d, [3]])).take 32)), z]), vi 0] [] (by show weak _ (.tu (chain [lb ((fkeys_m d z).1), lb ((fkeys_m d z).2), vi 0])) = (.tu (chain [lb ((fkeys_m d z).1), lb ((fkeys_m d z).2), vi 0])); rw [hM]; first | (simp only []; rfl) | (simp only []; done) | rfl) trivial

end
end Go.Sx.Try
