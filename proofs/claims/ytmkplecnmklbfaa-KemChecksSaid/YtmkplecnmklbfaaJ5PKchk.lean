/- General lemmas, walks. -/
import Derived.Test.YtmkplecnmklbfaaJ4PKchk
set_option maxRecDepth 100000
set_option maxHeartbeats 1000000
set_option linter.unusedSimpArgs false
set_option linter.unusedVariables false
set_option linter.unnecessarySimpa false
set_option linter.unusedSectionVars false
namespace Go.Sx.Try
open Go.Mi Go.RowKit Go.Sx Go.Proofs
noncomputable section
def dV (xs : List Int) (i : Nat) : Nat → Int
 | 0 => 0
 | k + 1 => ior .i64 (dV xs i k) (ishl .i64 (IntKind.wrap .i64 (iand .u8 (ishr .u8 (xs.getD (((i * 12) + k) / 8) 0) ((((i * 12) + k) % 8 : Nat) : Int)) 1)) ((k : Nat) : Int))
def dF (xs : List Int) : Nat → (Nat → Int)
 | 0 => fun _ => 0
 | i + 1 => upd (dF xs i) i (IntKind.wrap .u16 (dV xs i 12))
def decB (xs : List Int) : Bool := (List.range 256).all fun i => decide (dV xs i 12 < 3329)
def decP (xs : List Int) : Nat → Int := if decB xs = true then dF xs 256 else fun _ => 0
def decE (xs : List Int) : Nat := if decB xs = true then 0 else 2
theorem dec_y {xs : List Int} (h : ∀ j, j < 256 → ¬ (3329 : Int) ≤ dV xs j 12) : decP xs = dF xs 256 ∧ decE xs = 0 := by
 have e : decB xs = true := by
  unfold decB
  rw [List.all_eq_true]
  intro i hi
  rw [decide_eq_true_iff]
  have := h i (List.mem_range.1 hi)
  omega
 unfold decP decE
 rw [if_pos e, if_pos e]
 exact ⟨rfl, rfl⟩
theorem dec_n {xs : List Int} {i : Nat} (hi : i < 256) (h : (3329 : Int) ≤ dV xs i 12) : decP xs = (fun _ => 0) ∧ decE xs = 2 := by
 have e : ¬ decB xs = true := fun hb => by
  have := List.all_eq_true.1 hb i (List.mem_range.2 hi)
  rw [decide_eq_true_iff] at this
  omega
 unfold decP decE
 rw [if_neg e, if_neg e]
 exact ⟨rfl, rfl⟩
def c_rdec (xs : List Int) : Con := ⟨[vi 12, lb xs], [], .tu (chain [.ar .u16 256 (decP xs), vi ((decE xs : Nat) : Int)]), []⟩
theorem rdec_ok (xs : List Int) (h : xs.length = 384) : ConOk Try.prog 65 (c_rdec xs) := by
 refine conOk_of rfl (nb := 0) Try.func65 rfl rfl Try.ntmps65 rfl rfl rfl fun g0 w0 ac gs ws hg0 hS => ?_
 have hlen1 : xs.length ≤ 9223372036854775807 := hS.len 1 rfl
 have hS := hS.sp
 have hx1 : ((xs.length : Nat) : Int) = 384 := omm
 refine s0 [0, 1, 4, 5] [0] 1 hS fun hS => ?_
 refine wp_seq (s0 [0, 1, 4, 5, 16] [0] 1 hS fun hS => ?_)
 refine cond_f hS ?_
 refine wp_skip (then_n (wp_seq (sA [(4, .ob false)] trivial (fun _ => [(!decide (((xs.length : Nat) : Int) = 384)) = false]) [0, 1, 4, 5, 22] [0] 1 ⟨by rw [decide_eq_true hx1]; rfl, trivial⟩ hS fun hS => ?_)))
 refine cond_f hS ?_
 refine wp_skip (then_n (s0 [0, 1, 4, 5, 6] [0, 1] 2 hS fun hS => ?_))
 refine wp_seq (s0 [0, 1, 4, 5, 6, 7] [0, 1] 2 hS fun hS => ?_)
 refine wp_block (loop_y (ι := Nat × (Nat → Int)) hg0 hS (fun z_ => match z_ with | (i, f) => 256 - i) (fun z_ => match z_ with | (i, f) => [(0, vi 12), (1, lb xs), (4, .cp 0 0), (6, .cp 1 0), (7, vi ((i : Nat) : Int))]) (fun z_ => match z_ with | (i, f) => [(0, .ob 52 (chain [.ar .u16 256 (fun _ => 0)])), (1, .ob 52 (chain [.ar .u16 256 f]))]) (fun z_ => match z_ with | (i, f) => (i ≤ 256) ∧ (f = dF xs i) ∧ (∀ j, j < i → ¬ (3329 : Int) ≤ dV xs j 12) ∧ True) 2 (0, fun _ => 0) [(0, 0), (1, 1)] ⟨omm, rfl, (fun j h => absurd h (Nat.not_lt_zero j)), trivial⟩ ?_)
 rintro ⟨i, f⟩ ac gs ws ⟨hi, hf, pm, _⟩ hS
 refine wp_seq (s0 [0, 1, 4, 6, 7, 25] [0, 1] 2 hS fun hS => ?_)
 refine if_d ((i : Int) < 256) hS (fun h1 => ?_) (fun h1 => ?_)
 ·refine wp_skip (then_n (wp_seq (wp_block (s0 [0, 1, 4, 6, 7, 8] [0, 1] 2 hS fun hS => ?_))))
  refine wp_seq (s0 [0, 1, 4, 6, 7, 8, 9] [0, 1] 2 hS fun hS => ?_)
  refine wp_block (loop_y (ι := Nat × Int) hg0 hS (fun z_ => match z_ with | (k, uu) => 12 - k) (fun z_ => match z_ with | (k, uu) => [(0, vi 12), (1, lb xs), (4, .cp 0 0), (6, .cp 1 0), (7, vi (i : Int)), (8, vi uu), (9, vi ((k : Nat) : Int))]) (fun z_ => match z_ with | (k, uu) => [(0, .ob 52 (chain [.ar .u16 256 (fun _ => 0)])), (1, .ob 52 (chain [.ar .u16 256 f]))]) (fun z_ => match z_ with | (k, uu) => (k ≤ 12) ∧ (uu = dV xs i k) ∧ True) 2 (0, 0) [(0, 0), (1, 1)] ⟨omm, rfl, trivial⟩ ?_)
  rintro ⟨k, uu⟩ ac gs ws ⟨hk, hv, _⟩ hS
  refine wp_seq (s0 [0, 1, 4, 6, 7, 8, 9, 30] [0, 1] 2 hS fun hS => ?_)
  refine if_d ((k : Int) < 12) hS (fun h2 => ?_) (fun h2 => ?_)
  ·refine wp_skip (then_n (wp_seq (wp_block (sA [(2, .oi ((i * 12 : Nat) : Int)), (4, .oi (((i * 12) + k : Nat) : Int))] trivial (fun _ => [imul .i64 (i : Int) 12 = ((i * 12 : Nat) : Int), iadd .i64 ((i * 12 : Nat) : Int) (k : Int) = (((i * 12) + k : Nat) : Int)]) [0, 1, 4, 6, 7, 8, 9, 10] [0, 1] 2 ⟨by rw [imul64 omm omm]; omega, by rw [iadd64 omm omm]; omega, trivial⟩ hS fun hS => ?_))))
   refine rA [(3, .oi ((((i * 12) + k) / 8 : Nat) : Int)), (7, .oi ((((i * 12) + k) % 8 : Nat) : Int))] trivial (fun _ => [iquo .i64 (((i * 12) + k : Nat) : Int) 8 = ((((i * 12) + k) / 8 : Nat) : Int), (8 : Int) ≠ 0, (0 : Int) ≤ ((((i * 12) + k) / 8 : Nat) : Int) ∧ ((((i * 12) + k) / 8 : Nat) : Int) < ((xs.length : Nat) : Int), irem (((i * 12) + k : Nat) : Int) 8 = ((((i * 12) + k) % 8 : Nat) : Int), (8 : Int) ≠ 0, (0 : Int) ≤ ((((i * 12) + k) % 8 : Nat) : Int), (0 : Int) ≤ (k : Int)]) [0, 1, 4, 6, 7, 8, 9] [0, 1] 2 ⟨by rw [iquo64 omm omm omm]; omega, by omega, by omega, by rw [irem64 omm]; omega, by omega, by omega, by omega, trivial⟩ hS fun hS => ?_
   refine block_n (then_n (rA [(1, .oi ((k + 1 : Nat) : Int))] trivial (fun _ => [iadd .i64 (k : Int) 1 = ((k + 1 : Nat) : Int)]) [0, 1, 4, 6, 7, 8, 9] [0, 1] 2 ⟨by rw [iadd64 omm omm]; omega, trivial⟩ hS fun hS => ?_))
   refine then_n ?_
   exact next_y hg0 hS (s := (k, uu)) (k + 1, (ior .i64 uu (ishl .i64 (IntKind.wrap .i64 (iand .u8 (ishr .u8 (xs.getD (((i * 12) + k) / 8) 0) ((((i * 12) + k) % 8 : Nat) : Int)) 1)) (k : Int)))) [(0, 0), (1, 1)] (show 12 - (k + 1) < 12 - k from by omega) ⟨omm, (by rw [hv]; rfl), trivial⟩
  ·have hScur := hS
   obtain rfl : 12 = k := by omega
   obtain rfl : (dV xs i 12) = uu := Eq.symm hv
   have hS := hScur
   clear hScur
   refine wp_exit (then_exit (then_exit (block_exit (then_n (wp_seq (s0 [0, 1, 4, 6, 7, 8, 57] [0, 1] 2 hS fun hS => ?_))))))
   refine if_d ((3329 : Int) ≤ (dV xs i 12)) hS (fun h3 => ?_) (fun h3 => ?_)
   ·refine s0 [0, 1, 4, 5, 6, 7, 8] [0, 1] 2 hS fun hS => ?_
    refine wp_ret (then_ret (block_ret (then_ret (then_ret (block_ret (then_ret ?_))))))
    exact fin_y rfl (.inr rfl) hS [.ar .u16 256 (fun _ => 0), vi 2] [] (by show weak _ (.tu (chain [.ar .u16 256 (decP xs), vi ((decE xs : Nat) : Int)])) = .tu (chain [.ar .u16 256 (decP xs), vi ((decE xs : Nat) : Int)]); rw [(dec_n (i := i) omm h3).1, (dec_n (i := i) omm h3).2]; rfl) trivial
   ·refine wp_skip (then_n (rA [] trivial (fun _ => [(0 : Int) ≤ (i : Int) ∧ ((i : Int) : Int) < 256]) [0, 1, 4, 6, 7] [0, 1] 2 ⟨by omega, trivial⟩ hS fun hS => ?_))
    refine block_n (then_n (rA [(1, .oi ((i + 1 : Nat) : Int))] trivial (fun _ => [iadd .i64 (i : Int) 1 = ((i + 1 : Nat) : Int)]) [0, 1, 4, 6, 7] [0, 1] 2 ⟨by rw [iadd64 omm omm]; omega, trivial⟩ hS fun hS => ?_))
    refine then_n ?_
    exact next_y hg0 hS (s := (i, f)) (i + 1, upd f i (IntKind.wrap .u16 (dV xs i 12))) [(0, 0), (1, 1)] (show 256 - (i + 1) < 256 - i from by omega) ⟨omm, (by rw [hf]; rfl), (lst_next pm asm), trivial⟩
 ·have hScur := hS
  obtain rfl : 256 = i := by omega
  obtain rfl : dF xs 256 = f := Eq.symm hf
  have hS := hScur
  clear hScur
  refine wp_exit (then_exit (then_exit (block_exit (then_n (s0 [4, 5] [0] 2 hS fun hS => ?_)))))
  refine wp_ret ?_
  exact fin_y rfl (.inr rfl) hS [.ar .u16 256 (dF xs 256), vi 0] [] (by show weak _ (.tu (chain [.ar .u16 256 (decP xs), vi ((decE xs : Nat) : Int)])) = .tu (chain [.ar .u16 256 (decP xs), vi ((decE xs : Nat) : Int)]); rw [(dec_y pm).1, (dec_y pm).2]; rfl) trivial

def rpolys_v (xs : List Int) : (Nat → Int) × Bool := if ((decE ((xs.take 384).drop 0) : Nat) : Int) = 0 then (if ((decE ((xs.take 768).drop 384) : Nat) : Int) = 0 then (if ((decE ((xs.take 1152).drop 768) : Nat) : Int) = 0 then (updW (updW (updW (fun _ => 0) (0 * 256) 256 (decP ((xs.take 384).drop 0))) (1 * 256) 256 (decP ((xs.take 768).drop 384))) (2 * 256) 256 (decP ((xs.take 1152).drop 768)), true) else (updW (updW (fun _ => 0) (0 * 256) 256 (decP ((xs.take 384).drop 0))) (1 * 256) 256 (decP ((xs.take 768).drop 384)), false)) else (updW (fun _ => 0) (0 * 256) 256 (decP ((xs.take 384).drop 0)), false)) else (fun _ => 0, false)
def rpolys_m (xs : List Int) : (Nat → Int) × Bool := shut (rpolys_v xs)
theorem rpolys_e (xs : List Int) : rpolys_m xs = rpolys_v xs := shut_eq _
def c_rpolys (xs : List Int) : Con := ⟨[lb xs], [], .tu (chain [.ar .u16 768 ((rpolys_m xs).1), .v (.bool ((rpolys_m xs).2))]), []⟩
theorem rpolys_ok (xs : List Int) (h : 1152 ≤ xs.length) : ConOk Try.prog 35 (c_rpolys xs) := by
 refine conOk_of rfl (nb := 0) Try.func35 rfl rfl Try.ntmps35 rfl rfl rfl fun g0 w0 ac gs ws hg0 hS => ?_
 have hlen0 : xs.length ≤ 9223372036854775807 := hS.len 0 rfl
 have hS := hS.sp
 refine s0 [0, 2, 3] [0] 1 hS fun hS => ?_
 refine s0 [0, 2, 3, 4] [0, 1] 2 hS fun hS => ?_
 refine wp_seq (s0 [0, 2, 3, 4, 5] [0, 1] 2 hS fun hS => ?_)
 refine wp_block (wp_loop_rounds 4 ?_)
 refine rounds_s (n := 3) ?_
 refine wp_seq (s0 [0, 2, 3, 4, 5, 8, 9] [0, 1] 2 hS fun hS => ?_)
 refine cond_t hS ?_
 refine wp_skip (then_n (wp_seq (wp_block (sA [(7, .call ⟨65, (c_rdec ((xs.take 384).drop 0)), [], []⟩)] ⟨rdec_ok _ lnn, trivial⟩ (fun C => [bndP (some 0) (some 384) none xs.length xs.length, ndC C 7]) [0, 2, 3, 4, 5, 6, 7, 8, 9, 12, 13, 14, 15, 16, 17, 18, 19, 20, 21, 22] [0, 1, 2] 3 ⟨⟨by simp only [nnI] <;> omega, by simp only [nnI] <;> omega, by simp only [nnI] <;> omega, by simp, by simp only [bl] <;> omega, by simp only [bl] <;> omega, by simp only [bl] <;> omega⟩, rfl, trivial⟩ hS fun hS => ?_))))
 refine wp_seq (s0 [0, 2, 3, 4, 5, 6, 7, 8, 9, 12, 13, 14, 15, 16, 17, 18, 19, 20, 21, 22, 23, 24] [0, 1, 2] 3 hS fun hS => ?_)
 refine if_n (((decE ((xs.take 384).drop 0) : Nat) : Int) = 0) hS (fun h1 => ?_) (fun h1 => ?_)
 ·refine s0 [0, 2, 3, 4, 5, 6, 7, 8, 9, 12, 13, 14, 15, 16, 17, 18, 19, 20, 21, 22, 23, 24, 25] [0, 1, 2] 3 hS fun hS => ?_
  refine wp_ret (then_ret (block_ret (then_ret (then_ret (block_ret (then_ret ?_))))))
  have hM : rpolys_m xs = (fun _ => 0, false) := (rpolys_e xs).trans (if_neg h1)
  exact fin_y rfl (.inr rfl) hS [.ar .u16 768 (fun _ => 0), .v (.bool false)] [] (by show weak _ (.tu (chain [.ar .u16 768 ((rpolys_m xs).1), .v (.bool ((rpolys_m xs).2))])) = (.tu (chain [.ar .u16 768 ((rpolys_m xs).1), .v (.bool ((rpolys_m xs).2))])); rw [hM]; first | (simp only []; rfl) | (simp only []; done) | rfl) trivial
 ·refine wp_skip (then_n (rA [] trivial (fun _ => [(0 : Int) ≤ 0 ∧ (0 : Int) < 3]) [0, 2, 3, 4, 5, 6, 7, 8, 9, 12, 13, 14, 15, 16, 17, 18, 19, 20, 21, 22, 23, 24, 26, 27, 28] [0, 1, 2] 3 ⟨by omega, trivial⟩ hS fun hS => ?_))
  refine block_n (then_n (r0 [0, 2, 3, 4, 5, 6, 7, 8, 9, 10, 11, 12, 13, 14, 15, 16, 17, 18, 19, 20, 21, 22, 23, 24, 26, 27, 28] [0, 1, 2] 3 hS fun hS => ?_))
  refine then_n (rounds_s (n := 2) ?_)
  refine wp_seq (s0 [0, 2, 3, 4, 5, 6, 7, 8, 9, 10, 11, 12, 13, 14, 15, 16, 17, 18, 19, 20, 21, 22, 23, 24, 26, 27, 28] [0, 1, 2] 3 hS fun hS => ?_)
  refine cond_t hS ?_
  refine wp_skip (then_n (wp_seq (wp_block (sA [(7, .call ⟨65, (c_rdec ((xs.take 768).drop 384)), [], []⟩)] ⟨rdec_ok _ lnn, trivial⟩ (fun C => [bndP (some 384) (some 768) none xs.length xs.length, ndC C 7]) [0, 2, 3, 4, 5, 6, 7, 8, 9, 10, 11, 12, 13, 14, 15, 16, 17, 18, 19, 20, 21, 22, 23, 24, 26, 27, 28] [0, 1, 3] 4 ⟨⟨by simp only [nnI] <;> omega, by simp only [nnI] <;> omega, by simp only [nnI] <;> omega, by simp, by simp only [bl] <;> omega, by simp only [bl] <;> omega, by simp only [bl] <;> omega⟩, rfl, trivial⟩ hS fun hS => ?_))))
  refine wp_seq (s0 [0, 2, 3, 4, 5, 6, 7, 8, 9, 10, 11, 12, 13, 14, 15, 16, 17, 18, 19, 20, 21, 22, 23, 24, 26, 27, 28] [0, 1, 3] 4 hS fun hS => ?_)
  refine if_n (((decE ((xs.take 768).drop 384) : Nat) : Int) = 0) hS (fun h2 => ?_) (fun h2 => ?_)
  ·refine s0 [0, 2, 3, 4, 5, 6, 7, 8, 9, 10, 11, 12, 13, 14, 15, 16, 17, 18, 19, 20, 21, 22, 23, 24, 25, 26, 27, 28] [0, 1, 3] 4 hS fun hS => ?_
   refine wp_ret (then_ret (block_ret (then_ret (then_ret (block_ret (then_ret ?_))))))
   have hM : rpolys_m xs = (updW (fun _ => 0) (0 * 256) 256 (decP ((xs.take 384).drop 0)), false) := (rpolys_e xs).trans ((if_pos h1).trans (if_neg h2))
   exact fin_y rfl (.inr rfl) hS [.ar .u16 768 (updW (fun _ => 0) (0 * 256) 256 (decP ((xs.take 384).drop 0))), .v (.bool false)] [] (by show weak _ (.tu (chain [.ar .u16 768 ((rpolys_m xs).1), .v (.bool ((rpolys_m xs).2))])) = (.tu (chain [.ar .u16 768 ((rpolys_m xs).1), .v (.bool ((rpolys_m xs).2))])); rw [hM]; first | (simp only []; rfl) | (simp only []; done) | rfl) trivial
  ·refine wp_skip (then_n (rA [] trivial (fun _ => [(0 : Int) ≤ 1 ∧ (1 : Int) < 3]) [0, 2, 3, 4, 5, 6, 7, 8, 9, 10, 11, 12, 13, 14, 15, 16, 17, 18, 19, 20, 21, 22, 23, 24, 26, 27, 28] [0, 1, 3] 4 ⟨by omega, trivial⟩ hS fun hS => ?_))
   refine block_n (then_n (r0 [0, 2, 3, 4, 5, 6, 7, 8, 9, 10, 11, 12, 13, 14, 15, 16, 17, 18, 19, 20, 21, 22, 23, 24, 26, 27, 28] [0, 1, 3] 4 hS fun hS => ?_))
   refine then_n (rounds_s (n := 1) ?_)
   refine wp_seq (s0 [0, 2, 3, 4, 5, 6, 7, 8, 9, 10, 11, 12, 13, 14, 15, 16, 17, 18, 19, 20, 21, 22, 23, 24, 26, 27, 28] [0, 1, 3] 4 hS fun hS => ?_)
   refine cond_t hS ?_
   refine wp_skip (then_n (wp_seq (wp_block (sA [(7, .call ⟨65, (c_rdec ((xs.take 1152).drop 768)), [], []⟩)] ⟨rdec_ok _ lnn, trivial⟩ (fun C => [bndP (some 768) (some 1152) none xs.length xs.length, ndC C 7]) [0, 2, 3, 4, 5, 6, 7, 8, 9, 10, 11, 12, 13, 14, 15, 16, 17, 18, 19, 20, 21, 22, 23, 24, 26, 27, 28] [0, 1, 4] 5 ⟨⟨by simp only [nnI] <;> omega, by simp only [nnI] <;> omega, by simp only [nnI] <;> omega, by simp, by simp only [bl] <;> omega, by simp only [bl] <;> omega, by simp only [bl] <;> omega⟩, rfl, trivial⟩ hS fun hS => ?_))))
   refine wp_seq (s0 [0, 2, 3, 4, 5, 6, 7, 8, 9, 10, 11, 12, 13, 14, 15, 16, 17, 18, 19, 20, 21, 22, 23, 24, 26, 27, 28] [0, 1, 4] 5 hS fun hS => ?_)
   refine if_n (((decE ((xs.take 1152).drop 768) : Nat) : Int) = 0) hS (fun h3 => ?_) (fun h3 => ?_)
   ·refine s0 [0, 2, 3, 4, 5, 6, 7, 8, 9, 10, 11, 12, 13, 14, 15, 16, 17, 18, 19, 20, 21, 22, 23, 24, 25, 26, 27, 28] [0, 1, 4] 5 hS fun hS => ?_
    refine wp_ret (then_ret (block_ret (then_ret (then_ret (block_ret (then_ret ?_))))))
    have hM : rpolys_m xs = (updW (updW (fun _ => 0) (0 * 256) 256 (decP ((xs.take 384).drop 0))) (1 * 256) 256 (decP ((xs.take 768).drop 384)), false) := (rpolys_e xs).trans ((if_pos h1).trans ((if_pos h2).trans (if_neg h3)))
    exact fin_y rfl (.inr rfl) hS [.ar .u16 768 (updW (updW (fun _ => 0) (0 * 256) 256 (decP ((xs.take 384).drop 0))) (1 * 256) 256 (decP ((xs.take 768).drop 384))), .v (.bool false)] [] (by show weak _ (.tu (chain [.ar .u16 768 ((rpolys_m xs).1), .v (.bool ((rpolys_m xs).2))])) = (.tu (chain [.ar .u16 768 ((rpolys_m xs).1), .v (.bool ((rpolys_m xs).2))])); rw [hM]; first | (simp only []; rfl) | (simp only []; done) | rfl) trivial
   ·refine wp_skip (then_n (rA [] trivial (fun _ => [(0 : Int) ≤ 2 ∧ (2 : Int) < 3]) [0, 2, 3, 4, 5, 6, 7, 8, 9, 10, 11, 12, 13, 14, 15, 16, 17, 18, 19, 20, 21, 22, 23, 24, 26, 27, 28] [0, 1, 4] 5 ⟨by omega, trivial⟩ hS fun hS => ?_))
    refine block_n (then_n (r0 [0, 2, 3, 4, 5, 6, 7, 8, 9, 10, 11, 12, 13, 14, 15, 16, 17, 18, 19, 20, 21, 22, 23, 24, 26, 27, 28] [0, 1, 4] 5 hS fun hS => ?_))
    refine then_n (rounds_s (n := 0) ?_)
    refine wp_seq (s0 [0, 2, 3, 4, 5, 6, 7, 9, 10, 11, 12, 13, 14, 15, 16, 17, 18, 19, 20, 21, 22, 23, 24, 26, 27, 28] [0, 1, 4] 5 hS fun hS => ?_)
    refine cond_f hS ?_
    refine wp_exit (then_exit (then_exit (block_exit (then_n (s0 [2, 3] [0] 5 hS fun hS => ?_)))))
    refine wp_ret ?_
    have hM : rpolys_m xs = (updW (updW (updW (fun _ => 0) (0 * 256) 256 (decP ((xs.take 384).drop 0))) (1 * 256) 256 (decP ((xs.take 768).drop 384))) (2 * 256) 256 (decP ((xs.take 1152).drop 768)), true) := (rpolys_e xs).trans ((if_pos h1).trans ((if_pos h2).trans (if_pos h3)))
    exact fin_y rfl (.inr rfl) hS [.ar .u16 768 (updW (updW (updW (fun _ => 0) (0 * 256) 256 (decP ((xs.take 384).drop 0))) (1 * 256) 256 (decP ((xs.take 768).drop 384))) (2 * 256) 256 (decP ((xs.take 1152).drop 768))), .v (.bool true)] [] (by show weak _ (.tu (chain [.ar .u16 768 ((rpolys_m xs).1), .v (.bool ((rpolys_m xs).2))])) = (.tu (chain [.ar .u16 768 ((rpolys_m xs).1), .v (.bool ((rpolys_m xs).2))])); rw [hM]; first | (simp only []; rfl) | (simp only []; done) | rfl) trivial

end
end Go.Sx.Try
namespace Go.Sx.Try
open Go.Mi Go.RowKit Go.Sx Go.Proofs
noncomputable section
def fchk_v (xs : List Int) : Nat := if ((xs.length : Nat) : Int) = 1184 then (if (!((rpolys_m xs).2)) = true then 2 else 0) else 1
def fchk_m (xs : List Int) : Nat := shut (fchk_v xs)
theorem fchk_e (xs : List Int) : fchk_m xs = fchk_v xs := shut_eq _
def c_fchk (xs : List Int) : Con := ⟨[lb xs], [], vi ((fchk_m xs : Nat) : Int), []⟩
theorem fchk_ok (xs : List Int) (h : xs.length ≤ 5000) : ConOk Try.prog 11 (c_fchk xs) := by
 refine conOk_of rfl (nb := 0) Try.func11 rfl rfl Try.ntmps11 rfl rfl rfl fun g0 w0 ac gs ws hg0 hS => ?_
 have hlen0 : xs.length ≤ 9223372036854775807 := hS.len 0 rfl
 have hS := hS.sp
 refine s0 [0, 2] [] 0 hS fun hS => ?_
 refine wp_seq (s0 [0, 2, 7] [] 0 hS fun hS => ?_)
 refine if_n (((xs.length : Nat) : Int) = 1184) hS (fun h1 => ?_) (fun h1 => ?_)
 ·refine s0 [0, 2] [] 0 hS fun hS => ?_
  refine wp_ret (then_ret ?_)
  have hM : fchk_m xs = 1 := (fchk_e xs).trans (if_neg h1)
  exact fin_y rfl (.inr rfl) hS [vi 1] [] (by show weak _ (vi ((fchk_m xs : Nat) : Int)) = (vi ((fchk_m xs : Nat) : Int)); rw [hM]; first | (simp only []; rfl) | (simp only []; done) | rfl) trivial
 ·refine wp_skip (then_n (sA [(1, .call ⟨35, (c_rpolys xs), [], []⟩)] ⟨rpolys_ok _ lnn, trivial⟩ (fun C => [ndC C 1]) [2, 4] [] 1 ⟨rfl, trivial⟩ hS fun hS => ?_))
  refine wp_seq (s0 [2, 14] [] 1 hS fun hS => ?_)
  refine if_y (!((rpolys_m xs).2)) hS (fun h2 => ?_) (fun h2 => ?_)
  ·refine s0 [2] [] 1 hS fun hS => ?_
   refine wp_ret (then_ret ?_)
   have hM : fchk_m xs = 2 := (fchk_e xs).trans ((if_pos h1).trans (if_pos h2))
   exact fin_y rfl (.inr rfl) hS [vi 2] [] (by show weak _ (vi ((fchk_m xs : Nat) : Int)) = (vi ((fchk_m xs : Nat) : Int)); rw [hM]; first | (simp only []; rfl) | (simp only []; done) | rfl) trivial
  ·refine wp_skip (then_n (s0 [2] [] 1 hS fun hS => ?_))
   refine wp_ret ?_
   have hM : fchk_m xs = 0 := (fchk_e xs).trans ((if_pos h1).trans (if_neg (bne_t h2)))
   exact fin_y rfl (.inr rfl) hS [vi 0] [] (by show weak _ (vi ((fchk_m xs : Nat) : Int)) = (vi ((fchk_m xs : Nat) : Int)); rw [hM]; first | (simp only []; rfl) | (simp only []; done) | rfl) trivial

def fchkdk_v (xs : List Int) : Nat := if ((xs.length : Nat) : Int) = 2400 then (if ((rpolys_m xs).2) = true then (if ((fchk_m ((xs.take 2336).drop 1152) : Nat) : Int) = 0 then (if (!((mkStr (rsha32_m ((xs.take 2336).drop 1152))).toList == (mkStr ((xs.take 2368).drop 2336)).toList)) = true then 2 else 0) else 2) else 2) else 1
def fchkdk_m (xs : List Int) : Nat := shut (fchkdk_v xs)
theorem fchkdk_e (xs : List Int) : fchkdk_m xs = fchkdk_v xs := shut_eq _
def c_fchkdk (xs : List Int) : Con := ⟨[lb xs], [], vi ((fchkdk_m xs : Nat) : Int), []⟩
theorem fchkdk_ok (xs : List Int) (h : xs.length ≤ 5000) : ConOk Try.prog 13 (c_fchkdk xs) := by
 refine conOk_of rfl (nb := 0) Try.func13 rfl rfl Try.ntmps13 rfl rfl rfl fun g0 w0 ac gs ws hg0 hS => ?_
 have hlen0 : xs.length ≤ 9223372036854775807 := hS.len 0 rfl
 have hS := hS.sp
 refine s0 [0, 2] [] 0 hS fun hS => ?_
 refine wp_seq (s0 [0, 2, 7] [] 0 hS fun hS => ?_)
 refine if_n (((xs.length : Nat) : Int) = 2400) hS (fun h1 => ?_) (fun h1 => ?_)
 ·refine s0 [0, 2] [] 0 hS fun hS => ?_
  refine wp_ret (then_ret ?_)
  have hM : fchkdk_m xs = 1 := (fchkdk_e xs).trans (if_neg h1)
  exact fin_y rfl (.inr rfl) hS [vi 1] [] (by show weak _ (vi ((fchkdk_m xs : Nat) : Int)) = (vi ((fchkdk_m xs : Nat) : Int)); rw [hM]; first | (simp only []; rfl) | (simp only []; done) | rfl) trivial
 ·refine wp_skip (then_n (sA [(1, .call ⟨35, (c_rpolys xs), [], []⟩)] ⟨rpolys_ok _ lnn, trivial⟩ (fun C => [ndC C 1]) [0, 2, 4] [] 1 ⟨rfl, trivial⟩ hS fun hS => ?_))
  refine wp_seq (wp_seq ?_)
  by_cases h2 : ((rpolys_m xs).2) = true
  ·by_cases h3 : ((fchk_m ((xs.take 2336).drop 1152) : Nat) : Int) = 0
   ·refine rA [(1, .ob false), (5, .call ⟨11, (c_fchk ((xs.take 2336).drop 1152)), [], []⟩), (6, .ob false), (11, .call ⟨25, (c_rsha32 ((xs.take 2336).drop 1152)), [], []⟩)] ⟨fchk_ok _ lnn, rsha32_ok _ lnn, trivial⟩ (fun C => [(!((rpolys_m xs).2)) = false, bndP (some 1152) (some 2336) none xs.length xs.length, ndC C 5, (!decide (((fchk_m ((xs.take 2336).drop 1152) : Nat) : Int) = 0)) = false, bndP (some 1152) (some 2336) none xs.length xs.length, ndC C 11, bndP (some 2336) (some 2368) none xs.length xs.length]) [2, 30] [] 1 ⟨by rw [h2]; rfl, ⟨by simp only [nnI] <;> omega, by simp only [nnI] <;> omega, by simp only [nnI] <;> omega, by simp, by simp only [bl] <;> omega, by simp only [bl] <;> omega, by simp only [bl] <;> omega⟩, rfl, by rw [decide_eq_true h3]; rfl, ⟨by simp only [nnI] <;> omega, by simp only [nnI] <;> omega, by simp only [nnI] <;> omega, by simp, by simp only [bl] <;> omega, by simp only [bl] <;> omega, by simp only [bl] <;> omega⟩, rfl, ⟨by simp only [nnI] <;> omega, by simp only [nnI] <;> omega, by simp only [nnI] <;> omega, by simp, by simp only [bl] <;> omega, by simp only [bl] <;> omega, by simp only [bl] <;> omega⟩, trivial⟩ hS fun hS => ?_
    refine then_n ?_
    refine if_y (!((mkStr (rsha32_m ((xs.take 2336).drop 1152))).toList == (mkStr ((xs.take 2368).drop 2336)).toList)) hS (fun h4 => ?_) (fun h4 => ?_)
    ·refine s0 [2] [] 1 hS fun hS => ?_
     refine wp_ret (then_ret ?_)
     have hM : fchkdk_m xs = 2 := (fchkdk_e xs).trans ((if_pos h1).trans ((if_pos h2).trans ((if_pos h3).trans (if_pos h4))))
     exact fin_y rfl (.inr rfl) hS [vi 2] [] (by show weak _ (vi ((fchkdk_m xs : Nat) : Int)) = (vi ((fchkdk_m xs : Nat) : Int)); rw [hM]; first | (simp only []; rfl) | (simp only []; done) | rfl) trivial
    ·refine wp_skip (then_n (s0 [2] [] 1 hS fun hS => ?_))
     refine wp_ret ?_
     have hM : fchkdk_m xs = 0 := (fchkdk_e xs).trans ((if_pos h1).trans ((if_pos h2).trans ((if_pos h3).trans (if_neg (bne_t h4)))))
     exact fin_y rfl (.inr rfl) hS [vi 0] [] (by show weak _ (vi ((fchkdk_m xs : Nat) : Int)) = (vi ((fchkdk_m xs : Nat) : Int)); rw [hM]; first | (simp only []; rfl) | (simp only []; done) | rfl) trivial
   ·refine rA [(1, .ob false), (5, .call ⟨11, (c_fchk ((xs.take 2336).drop 1152)), [], []⟩), (6, .ob true)] ⟨fchk_ok _ lnn, trivial⟩ (fun C => [(!((rpolys_m xs).2)) = false, bndP (some 1152) (some 2336) none xs.length xs.length, ndC C 5, (!decide (((fchk_m ((xs.take 2336).drop 1152) : Nat) : Int) = 0)) = true]) [2, 30] [] 1 ⟨by rw [h2]; rfl, ⟨by simp only [nnI] <;> omega, by simp only [nnI] <;> omega, by simp only [nnI] <;> omega, by simp, by simp only [bl] <;> omega, by simp only [bl] <;> omega, by simp only [bl] <;> omega⟩, rfl, by rw [decide_eq_false h3]; rfl, trivial⟩ hS fun hS => ?_
    refine then_n (cond_t hS ?_)
    refine s0 [2] [] 1 hS fun hS => ?_
    refine wp_ret (then_ret ?_)
    have hM : fchkdk_m xs = 2 := (fchkdk_e xs).trans ((if_pos h1).trans ((if_pos h2).trans (if_neg h3)))
    exact fin_y rfl (.inr rfl) hS [vi 2] [] (by show weak _ (vi ((fchkdk_m xs : Nat) : Int)) = (vi ((fchkdk_m xs : Nat) : Int)); rw [hM]; first | (simp only []; rfl) | (simp only []; done) | rfl) trivial
  ·have h2 := bne_k h2
   refine rA [(1, .ob true)] trivial (fun _ => [(!((rpolys_m xs).2)) = true]) [2, 30] [] 1 ⟨by rw [h2]; rfl, trivial⟩ hS fun hS => ?_
   refine then_n (cond_t hS ?_)
   refine s0 [2] [] 1 hS fun hS => ?_
   refine wp_ret (then_ret ?_)
   have hM : fchkdk_m xs = 2 := (fchkdk_e xs).trans ((if_pos h1).trans (if_neg (bne_t h2)))
   exact fin_y rfl (.inr rfl) hS [vi 2] [] (by show weak _ (vi ((fchkdk_m xs : Nat) : Int)) = (vi ((fchkdk_m xs : Nat) : Int)); rw [hM]; first | (simp only []; rfl) | (simp only []; done) | rfl) trivial

end
end Go.Sx.Try
namespace Go.Sx.Try
open Go.Mi Go.RowKit Go.Sx Go.Proofs
noncomputable section
theorem getD_td (xs : List Int) (a : Nat) {n : Nat} (hn : n < 384) (hl : a + 384 ≤ xs.length) : ((xs.take (a + 384)).drop a).getD n 0 = (xs.drop a).getD n 0 := by
 rw [List.getD_eq_getElem?_getD, List.getD_eq_getElem?_getD, List.getElem?_drop, List.getElem?_drop, List.getElem?_take, if_pos omm]
theorem dig1 (x : Int) (k : Nat) : ∃ b : Bool, iand .u8 (ishr .u8 x (k : Int)) 1 = (b.toNat : Int) := by
 refine ⟨(BitVec.ofInt 8 (ishr .u8 x (k : Int))).toNat.testBit 0, ?_⟩
 unfold iand
 rw [wrap_u8m]
 show (((BitVec.ofInt 8 (ishr .u8 x (k : Int)) &&& BitVec.ofInt 8 1).toNat : Nat) : Int) % 256 = _
 rw [BitVec.toNat_and, show (BitVec.ofInt 8 1).toNat = 1 from rfl, Nat.and_one_is_mod, Nat.testBit_zero]
 rcases Nat.mod_two_eq_zero_or_one (BitVec.ofInt 8 (ishr .u8 x (k : Int))).toNat with h | h <;> rw [h] <;> rfl
theorem wrap_i64m {x : Int} (h : 0 ≤ x ∧ x < 9223372036854775808) : IntKind.wrap .i64 x = x := wrap_i64 omm omm
theorem ofI64 {a : Int} (ha : 0 ≤ a ∧ a < 65536) : (BitVec.ofInt 64 a).toNat = a.toNat := by rw [BitVec.toNat_ofInt]; omega
theorem bor64 {a b : Int} (ha : 0 ≤ a ∧ a < 65536) (hb : 0 ≤ b ∧ b < 65536) : ior .i64 a b = ((a.toNat ||| b.toNat : Nat) : Int) := by
 have h : a.toNat ||| b.toNat < 2 ^ 16 := Nat.or_lt_two_pow omm omm
 unfold ior
 rw [wrap_i64m]
 ·show (((BitVec.ofInt 64 a ||| BitVec.ofInt 64 b).toNat : Nat) : Int) = _
  rw [BitVec.toNat_or, ofI64 ha, ofI64 hb]
 ·show 0 ≤ (((BitVec.ofInt 64 a ||| BitVec.ofInt 64 b).toNat : Nat) : Int) ∧ (((BitVec.ofInt 64 a ||| BitVec.ofInt 64 b).toNat : Nat) : Int) < _
  rw [BitVec.toNat_or, ofI64 ha, ofI64 hb]
  omega
theorem shl64 (b : Bool) {s : Nat} (hs : s < 16) : ishl .i64 (IntKind.wrap .i64 ((b.toNat : Nat) : Int)) (s : Int) = ((b.toNat * 2 ^ s : Nat) : Int) := by
 have h2 := two_le hs
 have e0 : IntKind.wrap .i64 ((b.toNat : Nat) : Int) = ((b.toNat : Nat) : Int) := wrap_i64m (by cases b <;> decide)
 rw [e0]
 unfold ishl
 rw [show min (s : Int).toNat (IntKind.bits .i64) = s by simp [IntKind.bits]; omega]
 have e : ((2 ^ s : Nat) : Int) = (2 : Int) ^ s := by simp
 cases b
 ·rw [wrap_i64m] <;> simp
 ·simp only [Bool.toNat_true, Nat.one_mul]
  rw [e]
  have : (2 : Int) ^ s < 65536 := by rw [← e]; omega
  have : (0 : Int) ≤ 2 ^ s := by rw [← e]; omega
  rw [wrap_i64m] <;> omega
theorem dV_rdb (ys xs : List Int) (i : Nat) (h : ∀ n, n < 384 → ys.getD n 0 = xs.getD n 0) (hi : i < 256) : ∀ k, k ≤ 12 → dV ys i k = rdb xs (i * 12) k 0 ∧ 0 ≤ dV ys i k ∧ dV ys i k < 65536
 | 0, _ => ⟨rfl, Int.le_refl _, by show (0 : Int) < 65536; decide⟩
 | k + 1, hk => by
  obtain ⟨h1, h2, h3⟩ := dV_rdb ys xs i h hi k omm
  obtain ⟨b, hb⟩ := dig1 (xs.getD ((i * 12 + k) / 8) 0) ((i * 12 + k) % 8)
  have hv : b.toNat * 2 ^ k < 65536 := by have := two_le (show k < 16 by omega); cases b <;> simp <;> omega
  have e1 : dV ys i (k + 1) = ((dV ys i k).toNat ||| b.toNat * 2 ^ k : Nat) := by
   show ior .i64 (dV ys i k) (ishl .i64 (IntKind.wrap .i64 (iand .u8 (ishr .u8 (ys.getD (((i * 12) + k) / 8) 0) ((((i * 12) + k) % 8 : Nat) : Int)) 1)) (k : Int)) = _
   rw [h _ omm, hb, shl64 b omm, bor64 ⟨h2, h3⟩ ⟨by omega, by omega⟩, Int.toNat_natCast]
  have e2 : rdb xs (i * 12) (k + 1) 0 = ((dV ys i k).toNat ||| b.toNat * 2 ^ k : Nat) := by
   show ior .u16 (rdb xs (i * 12) k 0) (ishl .u16 (IntKind.wrap .u16 (iand .u8 (ishr .u8 (xs.getD ((i * 12 + k) / 8) 0) (((i * 12 + k) % 8 : Nat) : Int)) 1)) (k : Int)) = _
   rw [hb, shl16 b omm, ← h1, bor16 ⟨h2, h3⟩ ⟨by omega, by omega⟩, Int.toNat_natCast]
  have hr : (dV ys i k).toNat ||| b.toNat * 2 ^ k < 2 ^ 16 := Nat.or_lt_two_pow omm omm
  rw [e1, e2]
  exact ⟨rfl, by omega, by omega⟩
theorem decB_may (xs : List Int) (i : Nat) (hi : i < 3) (hl : 1152 ≤ xs.length) : decB ((xs.take (384 * i + 384)).drop (384 * i)) = mayB fun j => rowof_m xs (i * 256 + j) := by
 unfold decB mayB
 refine congrArg (List.all · _) rfl |>.trans ?_
 have key : ∀ j, j < 256 → dV ((xs.take (384 * i + 384)).drop (384 * i)) j 12 = rowof_m xs (i * 256 + j) := fun j hj => by
  rw [rowof_at xs hi hj, unpack12_e]
  show _ = unpack12_l1 (xs.drop (384 * i)) 256 j
  rw [unp_1, if_pos hj]
  exact (dV_rdb _ _ j (fun n hn => getD_td xs (384 * i) hn omm) hj 12 (Nat.le_refl _)).1
 have e : ∀ l : List Nat, (∀ j ∈ l, j < 256) → (l.all fun j => decide (dV ((xs.take (384 * i + 384)).drop (384 * i)) j 12 < 3329)) = l.all fun j => decide (rowof_m xs (i * 256 + j) < 3329) := by
  intro l
  induction l with
  | nil => intro _; rfl
  | cons x l ih =>
   intro h
   rw [List.all_cons, List.all_cons, ih (fun j hj => h j (List.mem_cons_of_mem _ hj)), key x (h x List.mem_cons_self)]
 exact e _ fun j hj => List.mem_range.1 hj
theorem polys_may {xs : List Int} (hl : 1152 ≤ xs.length) : (rpolys_m xs).2 = rmay xs := by
 have h0 := decB_may xs 0 omm hl
 have h1 := decB_may xs 1 omm hl
 have h2 := decB_may xs 2 omm hl
 have er : rmay xs = (decB ((xs.take 384).drop 0) && (decB ((xs.take 768).drop 384) && (decB ((xs.take 1152).drop 768) && true))) := by
  rw [show (xs.take 384).drop 0 = (xs.take (384 * 0 + 384)).drop (384 * 0) from rfl, show (xs.take 768).drop 384 = (xs.take (384 * 1 + 384)).drop (384 * 1) from rfl, show (xs.take 1152).drop 768 = (xs.take (384 * 2 + 384)).drop (384 * 2) from rfl, h0, h1, h2]
  rfl
 rw [er, rpolys_e]
 unfold rpolys_v decE
 cases decB ((xs.take 384).drop 0) <;> cases decB ((xs.take 768).drop 384) <;> cases decB ((xs.take 1152).drop 768) <;> rfl
theorem fchk_eq (xs : List Int) : fchk_m xs = chk xs := by
 rw [fchk_e]
 unfold fchk_v chk
 by_cases h : xs.length = 1184
 ·rw [if_pos omm, if_pos h, polys_may omm]
  cases rmay xs <;> rfl
 ·rw [if_neg omm, if_neg h]
theorem mkStr_go (xs : List Int) : ∀ r : ByteArray, (xs.foldl (fun r n => r.push (UInt8.ofNat n.toNat)) r).data.toList = r.data.toList ++ xs.map fun n => UInt8.ofNat n.toNat := by
 induction xs with
 | nil => intro r; simp
 | cons x xs ih => intro r; rw [List.foldl_cons, ih]; simp [ByteArray.push]
theorem mkStr_in {xs ys : List Int} (hx : By xs) (hy : By ys) (h : (mkStr xs).toList = (mkStr ys).toList) : xs = ys := by
 rw [ByteArray.toList_eq, ByteArray.toList_eq] at h
 unfold mkStr at h
 rw [mkStr_go, mkStr_go] at h
 have h2 : xs.map (fun n => UInt8.ofNat n.toNat) = ys.map fun n => UInt8.ofNat n.toNat := by simpa using h
 have key : ∀ xs : List Int, By xs → (xs.map fun n => UInt8.ofNat n.toNat).map (fun u => (u.toNat : Int)) = xs := by
  intro xs hx
  rw [List.map_map]
  refine (List.map_congr_left fun x h => ?_).trans (List.map_id _)
  have := hx x h
  show ((UInt8.ofNat x.toNat).toNat : Int) = x
  rw [UInt8.toNat_ofNat']
  omega
 rw [← key xs hx, ← key ys hy, h2]
theorem fchkdk_eq {xs : List Int} (h1 : By ((xs.take 2368).drop 2336)) : fchkdk_m xs = chkdk xs := by
 rw [fchkdk_e]
 unfold fchkdk_v chkdk
 by_cases h : xs.length = 2400
 ·rw [if_pos omm, if_pos h, polys_may omm, fchk_eq]
  by_cases h2 : rmay xs = true
  ·rw [if_pos h2, if_pos h2]
   by_cases h3 : chk ((xs.take 2336).drop 1152) = 0
   ·rw [if_pos omm, if_pos h3, rsha32_eq]
    by_cases h4 : sum256_m [(xs.take 2336).drop 1152] = (xs.take 2368).drop 2336
    ·rw [if_pos h4, h4, if_neg (by simp)]
    ·rw [if_neg h4, if_pos]
     rw [Bool.not_eq_true', beq_eq_false_iff_ne]
     exact fun e => h4 (mkStr_in (sum256_by _) h1 e)
   ·rw [if_neg omm, if_neg h3]
  ·rw [if_neg h2, if_neg h2]
 ·rw [if_neg omm, if_neg h]
theorem mid3 {A E H z : List Int} (hA : A.length = 1152) (hE : E.length = 1184) (hH : H.length = 32) : (([A, E, H, z].flatten).take 2368).drop 2336 = H := by
 simp only [List.flatten_cons, List.flatten_nil, List.append_nil]
 rw [← List.append_assoc A E, List.drop_take, List.drop_append, List.drop_eq_nil_of_le (by rw [List.length_append]; omega), List.nil_append, List.length_append, hA, hE]
 show List.take 32 (List.drop 0 (H ++ z)) = H
 rw [List.drop_zero, List.take_append_of_le_length omm, List.take_of_length_le omm]
theorem dk_by (d : List Int) {x : Int} (hx : 0 ≤ x ∧ x ≤ 255) (r : Nat) : By ((((fkeys_m d d).2.set r x).take 2368).drop 2336) := by
 have hh : ∃ t, ((fkeys_m d d).2.take 2368).drop 2336 = rsha32_m t := by
  have h1 := rsha64_len (rcat_m [d, [3]])
  have h2 := fkeys_l2_len d d 3
  rw [fkeys_e]
  unfold fkeys_v
  simp only []
  rw [rcat_flat [_, _, _, _]]
  exact ⟨_, mid3 h2.2 (by rw [List.length_append, h2.1, List.length_take]; omega) (rsha32_len _)⟩
 obtain ⟨t, ht⟩ := hh
 have hb : By (rsha32_m t) := by rw [rsha32_eq]; exact sum256_by _
 rw [← ht] at hb
 intro y hy
 rw [List.mem_iff_getElem?] at hy
 obtain ⟨i, hi⟩ := hy
 rw [List.getElem?_drop, List.getElem?_take, ] at hi
 split at hi
 ·rename_i h3
  rw [List.getElem?_set] at hi
  split at hi
  ·split at hi
   ·simp only [Option.some.injEq] at hi; omega
   ·cases hi
  ·exact hb y (List.mem_iff_getElem?.2 ⟨i, by rw [List.getElem?_drop, List.getElem?_take, if_pos h3]; exact hi⟩)
 ·cases hi

theorem irem_bnd (k : Int) {n : Nat} (h : 0 < n) : -(n : Int) < irem k n ∧ irem k n < n := by
 have h1 := Int.tmod_lt_of_pos k (b := (n : Int)) omm
 have h2 := Int.lt_tmod_of_pos k (b := (n : Int)) omm
 exact ⟨h2, h1⟩
def rnd (k : Int) (n : Nat) : Nat := (k % (n : Int)).toNat
theorem rnd_lt (k : Int) {n : Nat} (h : 0 < n) : rnd k n < n := by
 have h1 := Int.emod_lt_of_pos k (b := (n : Int)) omm
 have h2 := Int.emod_nonneg k (b := (n : Int)) omm
 unfold rnd; omega
def round_v (k : Int) (n : Nat) : Int := if (irem k (n : Int)) < 0 then ((irem k (n : Int)) + (n : Int)) else (irem k (n : Int))
def round_m (k : Int) (n : Nat) : Int := shut (round_v k n)
theorem round_e (k : Int) (n : Nat) : round_m k n = round_v k n := shut_eq _
def c_round (k : Int) (n : Nat) : Con := ⟨[vi k, vi (n : Int)], [], vi (round_m k n), []⟩
theorem round_ok (k : Int) (n : Nat) (hn : 0 < n ∧ n ≤ 2000000) : ConOk Try.prog 9 (c_round k n) := by
 refine conOk_of rfl (nb := 0) Try.func9 rfl rfl Try.ntmps9 rfl rfl rfl fun g0 w0 ac gs ws hg0 hS => ?_
 have hS := hS.sp
 refine s0 [0, 1, 4] [] 0 hS fun hS => ?_
 refine wp_seq ?_
 have hib := irem_bnd k hn.1
 refine rA [] trivial (fun _ => [((n : Int) : Int) ≠ 0]) [0, 1, 4] [] 0 ⟨by omega, trivial⟩ hS fun hS => ?_
 refine then_n (wp_seq (wp_seq ?_))
 have hib := irem_bnd k hn.1
 refine r0 [0, 1, 4, 9] [] 0 hS fun hS => ?_
 refine then_n ?_
 refine if_d ((irem k (n : Int)) < 0) hS (fun h1 => ?_) (fun h1 => ?_)
 ·have hib := irem_bnd k hn.1
  refine rA [(2, .oi ((irem k (n : Int)) + (n : Int)))] trivial (fun _ => [iadd .i64 (irem k (n : Int)) (n : Int) = ((irem k (n : Int)) + (n : Int))]) [0, 4] [] 0 ⟨iadd64 omm omm, trivial⟩ hS fun hS => ?_
  refine then_n (wp_seq ?_)
  have hib := irem_bnd k hn.1
  refine r0 [4] [] 0 hS fun hS => ?_
  refine then_n (wp_ret ?_)
  have hM : round_m k n = ((irem k (n : Int)) + (n : Int)) := (round_e k n).trans (if_pos h1)
  exact fin_y rfl (.inr rfl) hS [vi ((irem k (n : Int)) + (n : Int))] [] (by show weak _ (vi (round_m k n)) = (vi (round_m k n)); rw [hM]; first | (simp only []; rfl) | (simp only []; done) | rfl) trivial
 ·refine wp_skip (then_n (wp_seq ?_))
  have hib := irem_bnd k hn.1
  refine r0 [4] [] 0 hS fun hS => ?_
  refine then_n (wp_ret ?_)
  have hM : round_m k n = (irem k (n : Int)) := (round_e k n).trans (if_neg h1)
  exact fin_y rfl (.inr rfl) hS [vi (irem k (n : Int))] [] (by show weak _ (vi (round_m k n)) = (vi (round_m k n)); rw [hM]; first | (simp only []; rfl) | (simp only []; done) | rfl) trivial

theorem round_n (k : Int) (n : Nat) (hn : 0 < n) : round_m k n = ((rnd k n : Nat) : Int) := by
 have h2 := Int.emod_nonneg k (b := (n : Int)) omm
 have h3 : irem k n = k.tmod n := rfl
 have h4 := Int.tmod_eq_emod (a := k) (b := (n : Int))
 have hb := irem_bnd k hn
 have h5 := Int.emod_lt_of_pos k (b := (n : Int)) omm
 rw [round_e]; unfold round_v rnd
 rw [Int.toNat_of_nonneg h2]
 have ha : ((n : Int).natAbs : Int) = n := by omega
 rw [h3] at hb ⊢
 by_cases hc : 0 ≤ k ∨ (n : Int) ∣ k
 ·rw [if_pos hc] at h4
  rw [if_neg omm]; omega
 ·rw [if_neg hc] at h4
  by_cases hq : k.tmod n < 0
  ·rw [if_pos hq]; omega
  ·exfalso
   have : k.tmod n ≤ 0 := by omega
   have hz : k.tmod n = 0 := by omega
   exact hc (.inr (Int.dvd_of_tmod_eq_zero hz))
def c_roundn (k : Int) (n : Nat) : Con := ⟨[vi k, vi (n : Int)], [], vi ((rnd k n : Nat) : Int), []⟩
theorem roundn_ok (k : Int) (n : Nat) (hn : 0 < n ∧ n ≤ 2000000) : ConOk Try.prog 9 (c_roundn k n) := by
 have h := round_ok k n hn
 unfold c_round at h
 rw [round_n k n hn.1] at h
 exact h
theorem chk_tk {xs : List Int} {c : Nat} (h : xs.length = 1184) (hc : c < 1184) : chk (xs.take c) = 1 := chk_1 (by rw [List.length_take]; omega)
theorem chkdk_tk {xs : List Int} {c : Nat} (h : xs.length = 2400) (hc : c < 2400) : chkdk (xs.take c) = 1 := by
 unfold chkdk
 rw [if_neg (by rw [List.length_take]; omega)]
def c_kchk (d : List Int) (at_ : Int) (x cut : Int) : Con := ⟨[lb d, vi at_, .v (.int .u8 x), vi cut], [], .v (.bool true), []⟩
theorem kchk_ok (d : List Int) (at_ : Int) (x cut : Int) (hx : 0 ≤ x ∧ x ≤ 255) : ConOk Try.prog 3 (c_kchk d at_ x cut) := by
 refine conOk_of rfl (nb := 0) Try.func3 rfl rfl Try.ntmps3 rfl rfl rfl fun g0 w0 ac gs ws hg0 hS => ?_
 have hlen0 : d.length ≤ 9223372036854775807 := hS.len 0 rfl
 have hS := hS.sp
 refine s0 [0, 1, 2, 3, 8] [] 0 hS fun hS => ?_
 refine wp_seq (s0 [0, 1, 2, 3, 8, 17] [] 0 hS fun hS => ?_)
 refine if_n (((d.length : Nat) : Int) = 32) hS (fun h1 => ?_) (fun h1 => ?_)
 ·refine sA [(0, .call ⟨7, (c_awake11), [], []⟩)] ⟨awake11_ok, trivial⟩ (fun C => [ndC C 0]) [0, 1, 2, 3, 8] [] 0 ⟨rfl, trivial⟩ hS fun hS => ?_
  refine wp_ret (then_ret ?_)
  exact fin_y rfl (.inr rfl) hS [.v (.bool true)] [] rfl trivial
 ·refine wp_skip (then_n (sA [(2, .call ⟨8, (c_fkeys d d), [], []⟩)] ⟨fkeys_ok _ _ lnn lnn, trivial⟩ (fun C => [ndC C 2]) [1, 2, 3, 8, 9, 10] [] 0 ⟨rfl, trivial⟩ hS fun hS => ?_))
  refine wp_seq ?_
  have hk := fkeys_len d d omm
  refine rA [(0, .own)] trivial (fun _ => [([] : List (RT [.int .u8])).length + ((fkeys_m d d).1).length ≤ 9223372036854775807, (([] : List (RT [.int .u8])).length + ((fkeys_m d d).1).length) * 1 ≤ 140737488355328]) [1, 2, 3, 8, 10, 12] [1] 2 ⟨by simp <;> omega, by simp <;> omega, trivial⟩ hS fun hS => ?_
  refine then_n (sA [(0, .own)] trivial (fun _ => [([] : List (RT [.int .u8])).length + ((fkeys_m d d).2).length ≤ 9223372036854775807, (([] : List (RT [.int .u8])).length + ((fkeys_m d d).2).length) * 1 ≤ 140737488355328]) [1, 2, 3, 8, 12, 13] [1, 3] 4 ⟨by simp <;> omega, by simp <;> omega, trivial⟩ hS fun hS => ?_)
  refine wp_seq ?_
  have hz1 : (([] : List Int) ++ (fkeys_m d d).1).length = 1184 := hk.1
  have hr1 := rnd_lt at_ (n := (([] : List Int) ++ (fkeys_m d d).1).length) omm
  refine rA [(4, .call ⟨9, (c_roundn at_ (([] ++ ((fkeys_m d d).1)).length)), [], []⟩)] ⟨roundn_ok _ _ omm, trivial⟩ (fun C => [ndC C 4, (0 : Int) ≤ ((rnd at_ (([] ++ ((fkeys_m d d).1)).length) : Nat) : Int) ∧ ((rnd at_ (([] ++ ((fkeys_m d d).1)).length) : Nat) : Int) < ((([] ++ ((fkeys_m d d).1)).length : Nat) : Int)]) [1, 2, 3, 8, 12, 13] [1, 3] 4 ⟨rfl, by omega, trivial⟩ hS fun hS => ?_
  refine then_n (wp_seq ?_)
  have hz2 : (([] : List Int) ++ (fkeys_m d d).2).length = 2400 := hk.2
  have hr2 := rnd_lt at_ (n := (([] : List Int) ++ (fkeys_m d d).2).length) omm
  refine rA [(4, .call ⟨9, (c_roundn at_ (([] ++ ((fkeys_m d d).2)).length)), [], []⟩)] ⟨roundn_ok _ _ omm, trivial⟩ (fun C => [ndC C 4, (0 : Int) ≤ ((rnd at_ (([] ++ ((fkeys_m d d).2)).length) : Nat) : Int) ∧ ((rnd at_ (([] ++ ((fkeys_m d d).2)).length) : Nat) : Int) < ((([] ++ ((fkeys_m d d).2)).length : Nat) : Int)]) [3, 8, 12, 13] [1, 3] 4 ⟨rfl, by omega, trivial⟩ hS fun hS => ?_
  refine then_n (sA [(1, .call ⟨9, (c_roundn cut 3000), [], []⟩)] ⟨roundn_ok _ _ omm, trivial⟩ (fun C => [ndC C 1]) [8, 12, 13, 14] [1, 3] 4 ⟨rfl, trivial⟩ hS fun hS => ?_)
  refine wp_seq ?_
  obtain ⟨gs, hS⟩ := hS.fz 1
  obtain ⟨gs, hS⟩ := hS.fz 3
  have hk := fkeys_len d d omm
  have hla : (([] ++ ((fkeys_m d d).1)).set (rnd at_ (([] ++ ((fkeys_m d d).1)).length)) x).length = 1184 := by rw [List.length_set]; simpa using hk.1
  have hlb : (([] ++ ((fkeys_m d d).2)).set (rnd at_ (([] ++ ((fkeys_m d d).2)).length)) x).length = 2400 := by rw [List.length_set]; simpa using hk.2
  have hrc := rnd_lt cut (n := 3000) omm
  have hf1 : ((chk (([] ++ ((fkeys_m d d).1)).set (rnd at_ (([] ++ ((fkeys_m d d).1)).length)) x) : Nat) : Int) = ((fchk_m (([] ++ ((fkeys_m d d).1)).set (rnd at_ (([] ++ ((fkeys_m d d).1)).length)) x) : Nat) : Int) := by rw [fchk_eq]
  have hf2 : ((chkdk (([] ++ ((fkeys_m d d).2)).set (rnd at_ (([] ++ ((fkeys_m d d).2)).length)) x) : Nat) : Int) = ((fchkdk_m (([] ++ ((fkeys_m d d).2)).set (rnd at_ (([] ++ ((fkeys_m d d).2)).length)) x) : Nat) : Int) := by rw [fchkdk_eq (by simpa using dk_by d hx _)]
  by_cases h2 : (((([] ++ ((fkeys_m d d).1)).set (rnd at_ (([] ++ ((fkeys_m d d).1)).length)) x).length : Nat) : Int) ≤ ((rnd cut 3000 : Nat) : Int)
  ·have hk := fkeys_len d d omm
   have hla : (([] ++ ((fkeys_m d d).1)).set (rnd at_ (([] ++ ((fkeys_m d d).1)).length)) x).length = 1184 := by rw [List.length_set]; simpa using hk.1
   have hlb : (([] ++ ((fkeys_m d d).2)).set (rnd at_ (([] ++ ((fkeys_m d d).2)).length)) x).length = 2400 := by rw [List.length_set]; simpa using hk.2
   have hrc := rnd_lt cut (n := 3000) omm
   have hf1 : ((chk (([] ++ ((fkeys_m d d).1)).set (rnd at_ (([] ++ ((fkeys_m d d).1)).length)) x) : Nat) : Int) = ((fchk_m (([] ++ ((fkeys_m d d).1)).set (rnd at_ (([] ++ ((fkeys_m d d).1)).length)) x) : Nat) : Int) := by rw [fchk_eq]
   have hf2 : ((chkdk (([] ++ ((fkeys_m d d).2)).set (rnd at_ (([] ++ ((fkeys_m d d).2)).length)) x) : Nat) : Int) = ((fchkdk_m (([] ++ ((fkeys_m d d).2)).set (rnd at_ (([] ++ ((fkeys_m d d).2)).length)) x) : Nat) : Int) := by rw [fchkdk_eq (by simpa using dk_by d hx _)]
   by_cases h3 : (((([] ++ ((fkeys_m d d).2)).set (rnd at_ (([] ++ ((fkeys_m d d).2)).length)) x).length : Nat) : Int) ≤ ((rnd cut 3000 : Nat) : Int)
   ·have hk := fkeys_len d d omm
    have hla : (([] ++ ((fkeys_m d d).1)).set (rnd at_ (([] ++ ((fkeys_m d d).1)).length)) x).length = 1184 := by rw [List.length_set]; simpa using hk.1
    have hlb : (([] ++ ((fkeys_m d d).2)).set (rnd at_ (([] ++ ((fkeys_m d d).2)).length)) x).length = 2400 := by rw [List.length_set]; simpa using hk.2
    have hrc := rnd_lt cut (n := 3000) omm
    have hf1 : ((chk (([] ++ ((fkeys_m d d).1)).set (rnd at_ (([] ++ ((fkeys_m d d).1)).length)) x) : Nat) : Int) = ((fchk_m (([] ++ ((fkeys_m d d).1)).set (rnd at_ (([] ++ ((fkeys_m d d).1)).length)) x) : Nat) : Int) := by rw [fchk_eq]
    have hf2 : ((chkdk (([] ++ ((fkeys_m d d).2)).set (rnd at_ (([] ++ ((fkeys_m d d).2)).length)) x) : Nat) : Int) = ((fchkdk_m (([] ++ ((fkeys_m d d).2)).set (rnd at_ (([] ++ ((fkeys_m d d).2)).length)) x) : Nat) : Int) := by rw [fchkdk_eq (by simpa using dk_by d hx _)]
    refine rA [(1, .call ⟨10, (c_check (([] ++ ((fkeys_m d d).1)).set (rnd at_ (([] ++ ((fkeys_m d d).1)).length)) x)), [], []⟩), (3, .call ⟨11, (c_fchk (([] ++ ((fkeys_m d d).1)).set (rnd at_ (([] ++ ((fkeys_m d d).1)).length)) x)), [], []⟩), (4, .ob true), (7, .call ⟨12, (c_checkdk (([] ++ ((fkeys_m d d).2)).set (rnd at_ (([] ++ ((fkeys_m d d).2)).length)) x)), [], []⟩), (9, .call ⟨13, (c_fchkdk (([] ++ ((fkeys_m d d).2)).set (rnd at_ (([] ++ ((fkeys_m d d).2)).length)) x)), [], []⟩), (10, .ob true), (16, .ob true), (29, .ob true), (39, .call ⟨7, (c_awake11), [], []⟩)] ⟨check_ok _, fchk_ok _ lnn, checkdk_ok _, fchkdk_ok _ lnn, awake11_ok, trivial⟩ (fun C => [ndC C 1, ndC C 3, (decide (((chk (([] ++ ((fkeys_m d d).1)).set (rnd at_ (([] ++ ((fkeys_m d d).1)).length)) x) : Nat) : Int) = ((fchk_m (([] ++ ((fkeys_m d d).1)).set (rnd at_ (([] ++ ((fkeys_m d d).1)).length)) x) : Nat) : Int))) = true, ndC C 7, ndC C 9, (decide (((chkdk (([] ++ ((fkeys_m d d).2)).set (rnd at_ (([] ++ ((fkeys_m d d).2)).length)) x) : Nat) : Int) = ((fchkdk_m (([] ++ ((fkeys_m d d).2)).set (rnd at_ (([] ++ ((fkeys_m d d).2)).length)) x) : Nat) : Int))) = true, (decide ((((([] ++ ((fkeys_m d d).1)).set (rnd at_ (([] ++ ((fkeys_m d d).1)).length)) x).length : Nat) : Int) ≤ ((rnd cut 3000 : Nat) : Int))) = true, (decide ((((([] ++ ((fkeys_m d d).2)).set (rnd at_ (([] ++ ((fkeys_m d d).2)).length)) x).length : Nat) : Int) ≤ ((rnd cut 3000 : Nat) : Int))) = true, ndC C 39]) [8] [] 4 ⟨rfl, rfl, decide_eq_true hf1, rfl, rfl, decide_eq_true hf2, decide_eq_true h2, decide_eq_true h3, rfl, trivial⟩ hS fun hS => ?_
    refine then_n (wp_ret ?_)
    exact fin_y rfl (.inr rfl) hS [.v (.bool true)] [] rfl trivial
   ·have hk := fkeys_len d d omm
    have hla : (([] ++ ((fkeys_m d d).1)).set (rnd at_ (([] ++ ((fkeys_m d d).1)).length)) x).length = 1184 := by rw [List.length_set]; simpa using hk.1
    have hlb : (([] ++ ((fkeys_m d d).2)).set (rnd at_ (([] ++ ((fkeys_m d d).2)).length)) x).length = 2400 := by rw [List.length_set]; simpa using hk.2
    have hrc := rnd_lt cut (n := 3000) omm
    have hf1 : ((chk (([] ++ ((fkeys_m d d).1)).set (rnd at_ (([] ++ ((fkeys_m d d).1)).length)) x) : Nat) : Int) = ((fchk_m (([] ++ ((fkeys_m d d).1)).set (rnd at_ (([] ++ ((fkeys_m d d).1)).length)) x) : Nat) : Int) := by rw [fchk_eq]
    have hf2 : ((chkdk (([] ++ ((fkeys_m d d).2)).set (rnd at_ (([] ++ ((fkeys_m d d).2)).length)) x) : Nat) : Int) = ((fchkdk_m (([] ++ ((fkeys_m d d).2)).set (rnd at_ (([] ++ ((fkeys_m d d).2)).length)) x) : Nat) : Int) := by rw [fchkdk_eq (by simpa using dk_by d hx _)]
    have hg2 : ((chkdk ((([] ++ ((fkeys_m d d).2)).set (rnd at_ (([] ++ ((fkeys_m d d).2)).length)) x).take (rnd cut 3000)) : Nat) : Int) = 1 := by rw [chkdk_tk hlb omm]; rfl
    refine rA [(1, .call ⟨10, (c_check (([] ++ ((fkeys_m d d).1)).set (rnd at_ (([] ++ ((fkeys_m d d).1)).length)) x)), [], []⟩), (3, .call ⟨11, (c_fchk (([] ++ ((fkeys_m d d).1)).set (rnd at_ (([] ++ ((fkeys_m d d).1)).length)) x)), [], []⟩), (4, .ob true), (7, .call ⟨12, (c_checkdk (([] ++ ((fkeys_m d d).2)).set (rnd at_ (([] ++ ((fkeys_m d d).2)).length)) x)), [], []⟩), (9, .call ⟨13, (c_fchkdk (([] ++ ((fkeys_m d d).2)).set (rnd at_ (([] ++ ((fkeys_m d d).2)).length)) x)), [], []⟩), (10, .ob true), (16, .ob true), (29, .ob false), (34, .call ⟨12, (c_checkdk ((([] ++ ((fkeys_m d d).2)).set (rnd at_ (([] ++ ((fkeys_m d d).2)).length)) x).take (rnd cut 3000))), [], []⟩), (35, .ob true), (39, .call ⟨7, (c_awake11), [], []⟩)] ⟨check_ok _, fchk_ok _ lnn, checkdk_ok _, fchkdk_ok _ lnn, checkdk_ok _, awake11_ok, trivial⟩ (fun C => [ndC C 1, ndC C 3, (decide (((chk (([] ++ ((fkeys_m d d).1)).set (rnd at_ (([] ++ ((fkeys_m d d).1)).length)) x) : Nat) : Int) = ((fchk_m (([] ++ ((fkeys_m d d).1)).set (rnd at_ (([] ++ ((fkeys_m d d).1)).length)) x) : Nat) : Int))) = true, ndC C 7, ndC C 9, (decide (((chkdk (([] ++ ((fkeys_m d d).2)).set (rnd at_ (([] ++ ((fkeys_m d d).2)).length)) x) : Nat) : Int) = ((fchkdk_m (([] ++ ((fkeys_m d d).2)).set (rnd at_ (([] ++ ((fkeys_m d d).2)).length)) x) : Nat) : Int))) = true, (decide ((((([] ++ ((fkeys_m d d).1)).set (rnd at_ (([] ++ ((fkeys_m d d).1)).length)) x).length : Nat) : Int) ≤ ((rnd cut 3000 : Nat) : Int))) = true, (decide ((((([] ++ ((fkeys_m d d).2)).set (rnd at_ (([] ++ ((fkeys_m d d).2)).length)) x).length : Nat) : Int) ≤ ((rnd cut 3000 : Nat) : Int))) = false, bndP none (some ((rnd cut 3000 : Nat) : Int)) none (([] ++ ((fkeys_m d d).2)).set (rnd at_ (([] ++ ((fkeys_m d d).2)).length)) x).length (([] ++ ((fkeys_m d d).2)).set (rnd at_ (([] ++ ((fkeys_m d d).2)).length)) x).length, ndC C 34, (decide (((chkdk ((([] ++ ((fkeys_m d d).2)).set (rnd at_ (([] ++ ((fkeys_m d d).2)).length)) x).take (rnd cut 3000)) : Nat) : Int) = 1)) = true, ndC C 39]) [8] [] 4 ⟨rfl, rfl, decide_eq_true hf1, rfl, rfl, decide_eq_true hf2, decide_eq_true h2, decide_eq_false h3, ⟨by simp only [nnI] <;> omega, by simp only [nnI] <;> omega, by simp only [nnI] <;> omega, by simp, by simp only [bl] <;> omega, by simp only [bl] <;> omega, by simp only [bl] <;> omega⟩, rfl, decide_eq_true hg2, rfl, trivial⟩ hS fun hS => ?_
    refine then_n (wp_ret ?_)
    exact fin_y rfl (.inr rfl) hS [.v (.bool true)] [] rfl trivial
  ·have hk := fkeys_len d d omm
   have hla : (([] ++ ((fkeys_m d d).1)).set (rnd at_ (([] ++ ((fkeys_m d d).1)).length)) x).length = 1184 := by rw [List.length_set]; simpa using hk.1
   have hlb : (([] ++ ((fkeys_m d d).2)).set (rnd at_ (([] ++ ((fkeys_m d d).2)).length)) x).length = 2400 := by rw [List.length_set]; simpa using hk.2
   have hrc := rnd_lt cut (n := 3000) omm
   have hf1 : ((chk (([] ++ ((fkeys_m d d).1)).set (rnd at_ (([] ++ ((fkeys_m d d).1)).length)) x) : Nat) : Int) = ((fchk_m (([] ++ ((fkeys_m d d).1)).set (rnd at_ (([] ++ ((fkeys_m d d).1)).length)) x) : Nat) : Int) := by rw [fchk_eq]
   have hf2 : ((chkdk (([] ++ ((fkeys_m d d).2)).set (rnd at_ (([] ++ ((fkeys_m d d).2)).length)) x) : Nat) : Int) = ((fchkdk_m (([] ++ ((fkeys_m d d).2)).set (rnd at_ (([] ++ ((fkeys_m d d).2)).length)) x) : Nat) : Int) := by rw [fchkdk_eq (by simpa using dk_by d hx _)]
   have hg1 : ((chk ((([] ++ ((fkeys_m d d).1)).set (rnd at_ (([] ++ ((fkeys_m d d).1)).length)) x).take (rnd cut 3000)) : Nat) : Int) = 1 := by rw [chk_tk hla omm]; rfl
   by_cases h4 : (((([] ++ ((fkeys_m d d).2)).set (rnd at_ (([] ++ ((fkeys_m d d).2)).length)) x).length : Nat) : Int) ≤ ((rnd cut 3000 : Nat) : Int)
   ·have hk := fkeys_len d d omm
    have hla : (([] ++ ((fkeys_m d d).1)).set (rnd at_ (([] ++ ((fkeys_m d d).1)).length)) x).length = 1184 := by rw [List.length_set]; simpa using hk.1
    have hlb : (([] ++ ((fkeys_m d d).2)).set (rnd at_ (([] ++ ((fkeys_m d d).2)).length)) x).length = 2400 := by rw [List.length_set]; simpa using hk.2
    have hrc := rnd_lt cut (n := 3000) omm
    have hf1 : ((chk (([] ++ ((fkeys_m d d).1)).set (rnd at_ (([] ++ ((fkeys_m d d).1)).length)) x) : Nat) : Int) = ((fchk_m (([] ++ ((fkeys_m d d).1)).set (rnd at_ (([] ++ ((fkeys_m d d).1)).length)) x) : Nat) : Int) := by rw [fchk_eq]
    have hf2 : ((chkdk (([] ++ ((fkeys_m d d).2)).set (rnd at_ (([] ++ ((fkeys_m d d).2)).length)) x) : Nat) : Int) = ((fchkdk_m (([] ++ ((fkeys_m d d).2)).set (rnd at_ (([] ++ ((fkeys_m d d).2)).length)) x) : Nat) : Int) := by rw [fchkdk_eq (by simpa using dk_by d hx _)]
    have hg1 : ((chk ((([] ++ ((fkeys_m d d).1)).set (rnd at_ (([] ++ ((fkeys_m d d).1)).length)) x).take (rnd cut 3000)) : Nat) : Int) = 1 := by rw [chk_tk hla omm]; rfl
    refine rA [(1, .call ⟨10, (c_check (([] ++ ((fkeys_m d d).1)).set (rnd at_ (([] ++ ((fkeys_m d d).1)).length)) x)), [], []⟩), (3, .call ⟨11, (c_fchk (([] ++ ((fkeys_m d d).1)).set (rnd at_ (([] ++ ((fkeys_m d d).1)).length)) x)), [], []⟩), (4, .ob true), (7, .call ⟨12, (c_checkdk (([] ++ ((fkeys_m d d).2)).set (rnd at_ (([] ++ ((fkeys_m d d).2)).length)) x)), [], []⟩), (9, .call ⟨13, (c_fchkdk (([] ++ ((fkeys_m d d).2)).set (rnd at_ (([] ++ ((fkeys_m d d).2)).length)) x)), [], []⟩), (10, .ob true), (16, .ob false), (21, .call ⟨10, (c_check ((([] ++ ((fkeys_m d d).1)).set (rnd at_ (([] ++ ((fkeys_m d d).1)).length)) x).take (rnd cut 3000))), [], []⟩), (22, .ob true), (29, .ob true), (39, .call ⟨7, (c_awake11), [], []⟩)] ⟨check_ok _, fchk_ok _ lnn, checkdk_ok _, fchkdk_ok _ lnn, check_ok _, awake11_ok, trivial⟩ (fun C => [ndC C 1, ndC C 3, (decide (((chk (([] ++ ((fkeys_m d d).1)).set (rnd at_ (([] ++ ((fkeys_m d d).1)).length)) x) : Nat) : Int) = ((fchk_m (([] ++ ((fkeys_m d d).1)).set (rnd at_ (([] ++ ((fkeys_m d d).1)).length)) x) : Nat) : Int))) = true, ndC C 7, ndC C 9, (decide (((chkdk (([] ++ ((fkeys_m d d).2)).set (rnd at_ (([] ++ ((fkeys_m d d).2)).length)) x) : Nat) : Int) = ((fchkdk_m (([] ++ ((fkeys_m d d).2)).set (rnd at_ (([] ++ ((fkeys_m d d).2)).length)) x) : Nat) : Int))) = true, (decide ((((([] ++ ((fkeys_m d d).1)).set (rnd at_ (([] ++ ((fkeys_m d d).1)).length)) x).length : Nat) : Int) ≤ ((rnd cut 3000 : Nat) : Int))) = false, bndP none (some ((rnd cut 3000 : Nat) : Int)) none (([] ++ ((fkeys_m d d).1)).set (rnd at_ (([] ++ ((fkeys_m d d).1)).length)) x).length (([] ++ ((fkeys_m d d).1)).set (rnd at_ (([] ++ ((fkeys_m d d).1)).length)) x).length, ndC C 21, (decide (((chk ((([] ++ ((fkeys_m d d).1)).set (rnd at_ (([] ++ ((fkeys_m d d).1)).length)) x).take (rnd cut 3000)) : Nat) : Int) = 1)) = true, (decide ((((([] ++ ((fkeys_m d d).2)).set (rnd at_ (([] ++ ((fkeys_m d d).2)).length)) x).length : Nat) : Int) ≤ ((rnd cut 3000 : Nat) : Int))) = true, ndC C 39]) [8] [] 4 ⟨rfl, rfl, decide_eq_true hf1, rfl, rfl, decide_eq_true hf2, decide_eq_false h2, ⟨by simp only [nnI] <;> omega, by simp only [nnI] <;> omega, by simp only [nnI] <;> omega, by simp, by simp only [bl] <;> omega, by simp only [bl] <;> omega, by simp only [bl] <;> omega⟩, rfl, decide_eq_true hg1, decide_eq_true h4, rfl, trivial⟩ hS fun hS => ?_
    refine then_n (wp_ret ?_)
    exact fin_y rfl (.inr rfl) hS [.v (.bool true)] [] rfl trivial
   ·have hk := fkeys_len d d omm
    have hla : (([] ++ ((fkeys_m d d).1)).set (rnd at_ (([] ++ ((fkeys_m d d).1)).length)) x).length = 1184 := by rw [List.length_set]; simpa using hk.1
    have hlb : (([] ++ ((fkeys_m d d).2)).set (rnd at_ (([] ++ ((fkeys_m d d).2)).length)) x).length = 2400 := by rw [List.length_set]; simpa using hk.2
    have hrc := rnd_lt cut (n := 3000) omm
    have hf1 : ((chk (([] ++ ((fkeys_m d d).1)).set (rnd at_ (([] ++ ((fkeys_m d d).1)).length)) x) : Nat) : Int) = ((fchk_m (([] ++ ((fkeys_m d d).1)).set (rnd at_ (([] ++ ((fkeys_m d d).1)).length)) x) : Nat) : Int) := by rw [fchk_eq]
    have hf2 : ((chkdk (([] ++ ((fkeys_m d d).2)).set (rnd at_ (([] ++ ((fkeys_m d d).2)).length)) x) : Nat) : Int) = ((fchkdk_m (([] ++ ((fkeys_m d d).2)).set (rnd at_ (([] ++ ((fkeys_m d d).2)).length)) x) : Nat) : Int) := by rw [fchkdk_eq (by simpa using dk_by d hx _)]
    have hg1 : ((chk ((([] ++ ((fkeys_m d d).1)).set (rnd at_ (([] ++ ((fkeys_m d d).1)).length)) x).take (rnd cut 3000)) : Nat) : Int) = 1 := by rw [chk_tk hla omm]; rfl
    have hg2 : ((chkdk ((([] ++ ((fkeys_m d d).2)).set (rnd at_ (([] ++ ((fkeys_m d d).2)).length)) x).take (rnd cut 3000)) : Nat) : Int) = 1 := by rw [chkdk_tk hlb omm]; rfl
    refine rA [(1, .call ⟨10, (c_check (([] ++ ((fkeys_m d d).1)).set (rnd at_ (([] ++ ((fkeys_m d d).1)).length)) x)), [], []⟩), (3, .call ⟨11, (c_fchk (([] ++ ((fkeys_m d d).1)).set (rnd at_ (([] ++ ((fkeys_m d d).1)).length)) x)), [], []⟩), (4, .ob true), (7, .call ⟨12, (c_checkdk (([] ++ ((fkeys_m d d).2)).set (rnd at_ (([] ++ ((fkeys_m d d).2)).length)) x)), [], []⟩), (9, .call ⟨13, (c_fchkdk (([] ++ ((fkeys_m d d).2)).set (rnd at_ (([] ++ ((fkeys_m d d).2)).length)) x)), [], []⟩), (10, .ob true), (16, .ob false), (21, .call ⟨10, (c_check ((([] ++ ((fkeys_m d d).1)).set (rnd at_ (([] ++ ((fkeys_m d d).1)).length)) x).take (rnd cut 3000))), [], []⟩), (22, .ob true), (29, .ob false), (34, .call ⟨12, (c_checkdk ((([] ++ ((fkeys_m d d).2)).set (rnd at_ (([] ++ ((fkeys_m d d).2)).length)) x).take (rnd cut 3000))), [], []⟩), (35, .ob true), (39, .call ⟨7, (c_awake11), [], []⟩)] ⟨check_ok _, fchk_ok _ lnn, checkdk_ok _, fchkdk_ok _ lnn, check_ok _, checkdk_ok _, awake11_ok, trivial⟩ (fun C => [ndC C 1, ndC C 3, (decide (((chk (([] ++ ((fkeys_m d d).1)).set (rnd at_ (([] ++ ((fkeys_m d d).1)).length)) x) : Nat) : Int) = ((fchk_m (([] ++ ((fkeys_m d d).1)).set (rnd at_ (([] ++ ((fkeys_m d d).1)).length)) x) : Nat) : Int))) = true, ndC C 7, ndC C 9, (decide (((chkdk (([] ++ ((fkeys_m d d).2)).set (rnd at_ (([] ++ ((fkeys_m d d).2)).length)) x) : Nat) : Int) = ((fchkdk_m (([] ++ ((fkeys_m d d).2)).set (rnd at_ (([] ++ ((fkeys_m d d).2)).length)) x) : Nat) : Int))) = true, (decide ((((([] ++ ((fkeys_m d d).1)).set (rnd at_ (([] ++ ((fkeys_m d d).1)).length)) x).length : Nat) : Int) ≤ ((rnd cut 3000 : Nat) : Int))) = false, bndP none (some ((rnd cut 3000 : Nat) : Int)) none (([] ++ ((fkeys_m d d).1)).set (rnd at_ (([] ++ ((fkeys_m d d).1)).length)) x).length (([] ++ ((fkeys_m d d).1)).set (rnd at_ (([] ++ ((fkeys_m d d).1)).length)) x).length, ndC C 21, (decide (((chk ((([] ++ ((fkeys_m d d).1)).set (rnd at_ (([] ++ ((fkeys_m d d).1)).length)) x).take (rnd cut 3000)) : Nat) : Int) = 1)) = true, (decide ((((([] ++ ((fkeys_m d d).2)).set (rnd at_ (([] ++ ((fkeys_m d d).2)).length)) x).length : Nat) : Int) ≤ ((rnd cut 3000 : Nat) : Int))) = false, bndP none (some ((rnd cut 3000 : Nat) : Int)) none (([] ++ ((fkeys_m d d).2)).set (rnd at_ (([] ++ ((fkeys_m d d).2)).length)) x).length (([] ++ ((fkeys_m d d).2)).set (rnd at_ (([] ++ ((fkeys_m d d).2)).length)) x).length, ndC C 34, (decide (((chkdk ((([] ++ ((fkeys_m d d).2)).set (rnd at_ (([] ++ ((fkeys_m d d).2)).length)) x).take (rnd cut 3000)) : Nat) : Int) = 1)) = true, ndC C 39]) [8] [] 4 ⟨rfl, rfl, decide_eq_true hf1, rfl, rfl, decide_eq_true hf2, decide_eq_false h2, ⟨by simp only [nnI] <;> omega, by simp only [nnI] <;> omega, by simp only [nnI] <;> omega, by simp, by simp only [bl] <;> omega, by simp only [bl] <;> omega, by simp only [bl] <;> omega⟩, rfl, decide_eq_true hg1, decide_eq_false h4, ⟨by simp only [nnI] <;> omega, by simp only [nnI] <;> omega, by simp only [nnI] <;> omega, by simp, by simp only [bl] <;> omega, by simp only [bl] <;> omega, by simp only [bl] <;> omega⟩, rfl, decide_eq_true hg2, rfl, trivial⟩ hS fun hS => ?_
    refine then_n (wp_ret ?_)
    exact fin_y rfl (.inr rfl) hS [.v (.bool true)] [] rfl trivial

end
end Go.Sx.Try
