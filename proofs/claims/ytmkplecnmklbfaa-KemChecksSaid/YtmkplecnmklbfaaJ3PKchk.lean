/- General lemmas, walks. -/
import Derived.RangeFuncFrom
import Derived.RangeFuncLeaves
import Derived.TacticsIn
import Derived.OrdersIn
import Derived.Test.YtmkplecnmklbfaaProg
import Derived.Test.YtmkplecnmklbfaaJ2PKchk
set_option maxRecDepth 100000
set_option maxHeartbeats 1000000
set_option linter.unusedSimpArgs false
set_option linter.unusedVariables false
set_option linter.unnecessarySimpa false
set_option linter.unusedSectionVars false
namespace Go.Sx
open Go.Mi Go.RowKit
variable [Dfr]
structure Kc (B : Nat) (w w' : World) : Prop where
 os : w'.os = w.os
 tape : w'.tape = w.tape
 output : w'.output = w.output
 size : w.heap.size ≤ w'.heap.size
 cells : ∀ (b : Nat) (o : Obj), w.heap[b]? = some o → o.isCells = true → w'.heap[b]? = some o
 old : ∀ b, b < B → w'.heap[b]? = w.heap[b]?
theorem Kc.cell {B : Nat} {w w' : World} (h : Kc B w w') {a : Addr} {v : Value} (hc : w.cell? a = some v) : w'.cell? a = some v := by
 obtain ⟨o, h1, h2⟩ := cells_of_cell hc
 rw [← hc]
 exact World.cell?_of_block ((h.cells _ _ h1 h2).trans h1.symm)
end Go.Sx
namespace Go.Sx.Try
open Go.Mi Go.RowKit Go.Sx Go.Proofs
def Z0 : Zt := [(3, [.v (.int .i64 0)]),
 (5, [.v (.int .u8 0)]),
 (22, [.v (.slice none 0 0)]),
 (27, [.v (.int .i64 0)]),
 (50, [.v (.int .u16 0)]),
 (52, [.ar .u16 256 (fun _ => 0)]),
 (53, [.ar .u16 768 (fun _ => 0)]),
 (60, [.ar .u16 256 (fun _ => 0)]),
 (62, [.ar .u16 768 (fun _ => 0)]),
 (77, [.v (.int .i64 0), .v (.int .i64 0), .v (.int .i64 0), .v (.int .i64 0), .v (.slice none 0 0), .v (.slice none 0 0), .v (.pointer none), .v (.slice none 0 0)]),
 (80, [.v (.slice none 0 0)]),
 (84, [.v (.int .i64 0), .v (.int .i64 0), .v (.int .i64 0), .v (.slice none 0 0)]),
 (106, [.ar .u32 128 (fun _ => 0)]),
 (122, [.v (.slice none 0 0)]),
 (129, [.v (.pointer none)]),
 (135, [.v (.int .i64 0), .v (.int .i64 0), .v (.int .i64 0), .v (.slice none 0 0)]),
 (137, [.ar .u64 25 (fun _ => 0)]),
 (141, [.ar .u64 25 (fun _ => 0), .v (.int .i64 0), .v (.int .i64 0)]),
 (154, [.ar .u64 5 (fun _ => 0)]),
 (155, [.ar .u64 25 (fun _ => 0)]),
 (158, [.v .nilFunc, .v .nilFunc, .v .nilFunc]),
 (159, [.ar .u64 24 (fun _ => 0)]),
 (162, [.v (.pointer none)]),
 (163, [.ar .u64 80 (fun _ => 0)]),
 (165, [.ar .u64 8 (fun _ => 0)]),
 (167, [.ar .u32 8 (fun _ => 0)]),
 (168, [.ar .u32 64 (fun _ => 0)]),
 (171, [.v (.slice none 0 0)])]
def K0 : Kt := [(3, [.int .i64]), (5, [.int .u8]), (22, [.sl (.int .u8)]), (50, [.int .u16]), (84, [.int .i64, .int .i64, .int .i64, .sl (.int .u8)]), (129, [.ref])]
def K1 : Kt := (22, [.os (.int .u8)]) :: K0
noncomputable def E0 : Env := ⟨Try.prog, Z0, K0⟩
noncomputable def E1 : Env := ⟨Try.prog, Z0, K1⟩
set_option maxRecDepth 100000 in
theorem hZ : ZOk Try.prog Z0 := ⟨⟨by kernel_rfl, by kernel_rfl⟩, ⟨by kernel_rfl, by kernel_rfl⟩, ⟨by kernel_rfl, by kernel_rfl⟩, ⟨by kernel_rfl, by kernel_rfl⟩, ⟨by kernel_rfl, by kernel_rfl⟩, ⟨by kernel_rfl, by kernel_rfl⟩, ⟨by kernel_rfl, by kernel_rfl⟩, ⟨by kernel_rfl, by kernel_rfl⟩, ⟨by kernel_rfl, by kernel_rfl⟩, ⟨by kernel_rfl, by kernel_rfl⟩, ⟨by kernel_rfl, by kernel_rfl⟩, ⟨by kernel_rfl, by kernel_rfl⟩, ⟨by kernel_rfl, by kernel_rfl⟩, ⟨by kernel_rfl, by kernel_rfl⟩, ⟨by kernel_rfl, by kernel_rfl⟩, ⟨by kernel_rfl, by kernel_rfl⟩, ⟨by kernel_rfl, by kernel_rfl⟩, ⟨by kernel_rfl, by kernel_rfl⟩, ⟨by kernel_rfl, by kernel_rfl⟩, ⟨by kernel_rfl, by kernel_rfl⟩, ⟨by kernel_rfl, by kernel_rfl⟩, ⟨by kernel_rfl, by kernel_rfl⟩, ⟨by kernel_rfl, by kernel_rfl⟩, ⟨by kernel_rfl, by kernel_rfl⟩, ⟨by kernel_rfl, by kernel_rfl⟩, ⟨by kernel_rfl, by kernel_rfl⟩, ⟨by kernel_rfl, by kernel_rfl⟩, ⟨by kernel_rfl, by kernel_rfl⟩, trivial⟩
theorem mo : Try.prog.follows .mixedOrders = true := by kernel_rfl
section
variable [Dfr]
theorem r0 {n : Nat} {σ : Sg} {S0 : Nat → Prop} {g0 g : G} {w0 w : World} {nb : Nat} {a : Act} {Q : Exit → Act → World → Prop} (kL kH : List Nat) (nb' : Nat) {id : Nat} {dr : Bool} {ops : List Oper} (hS : Sp n S0 g0 w0 σ nb a g w) (hend : ∀ {a g w}, Sp n S0 g0 w0 (xS (plS n ops (exA E0 []) σ nb kL kH)) nb' a g w → Q .normal a w) (h : xP (plS n ops (exA E0 []) σ nb kL kH) = some ([], nb') := by kernel_rfl) (hle : Nat.ble nb nb' = true := by kernel_rfl) : (Code.region id ops.toArray dr).wp Try.prog Q a w := reg_y mo (exA_ok (C := []) hZ (show CsOk Try.prog [] from trivial)) [] kL kH nb' trivial hS (fun _ _ _ h => hend h) h hle
theorem rA {n : Nat} {σ : Sg} {S0 : Nat → Prop} {g0 g : G} {w0 w : World} {nb : Nat} {a : Act} {Q : Exit → Act → World → Prop} (C : List (Nat × Rx)) (hC : CsOk Try.prog C) (ps : List (Nat × Rx) → List Prop) (kL kH : List Nat) (nb' : Nat) {id : Nat} {dr : Bool} {ops : List Oper} (hp : AllP (ps C)) (hS : Sp n S0 g0 w0 σ nb a g w) (hend : ∀ {a g w}, Sp n S0 g0 w0 (xS (plS n ops (exA E0 C) σ nb kL kH)) nb' a g w → Q .normal a w) (h : xP (plS n ops (exA E0 C) σ nb kL kH) = some ((ps C), nb') := by kernel_rfl) (hle : Nat.ble nb nb' = true := by kernel_rfl) : (Code.region id ops.toArray dr).wp Try.prog Q a w := reg_y mo (exA_ok hZ hC) (ps C) kL kH nb' hp hS (fun _ _ _ h => hend h) h hle
theorem s0 {n : Nat} {σ : Sg} {S0 : Nat → Prop} {g0 g : G} {w0 w : World} {nb : Nat} {a : Act} {Q : Exit → Act → World → Prop} (kL kH : List Nat) (nb' : Nat) {id : Nat} {dr : Bool} {ops : List Oper} {y : Code} (hS : Sp n S0 g0 w0 σ nb a g w) (hend : ∀ {a g w}, Sp n S0 g0 w0 (xS (plS n ops (exA E0 []) σ nb kL kH)) nb' a g w → y.wp Try.prog Q a w) (h : xP (plS n ops (exA E0 []) σ nb kL kH) = some ([], nb') := by kernel_rfl) (hle : Nat.ble nb nb' = true := by kernel_rfl) : (Code.seq (Code.region id ops.toArray dr) y).wp Try.prog Q a w := wp_seq (reg_y mo (exA_ok (C := []) hZ (show CsOk Try.prog [] from trivial)) [] kL kH nb' trivial hS (fun _ _ _ h => then_n (hend h)) h hle)
theorem sA {n : Nat} {σ : Sg} {S0 : Nat → Prop} {g0 g : G} {w0 w : World} {nb : Nat} {a : Act} {Q : Exit → Act → World → Prop} (C : List (Nat × Rx)) (hC : CsOk Try.prog C) (ps : List (Nat × Rx) → List Prop) (kL kH : List Nat) (nb' : Nat) {id : Nat} {dr : Bool} {ops : List Oper} {y : Code} (hp : AllP (ps C)) (hS : Sp n S0 g0 w0 σ nb a g w) (hend : ∀ {a g w}, Sp n S0 g0 w0 (xS (plS n ops (exA E0 C) σ nb kL kH)) nb' a g w → y.wp Try.prog Q a w) (h : xP (plS n ops (exA E0 C) σ nb kL kH) = some ((ps C), nb') := by kernel_rfl) (hle : Nat.ble nb nb' = true := by kernel_rfl) : (Code.seq (Code.region id ops.toArray dr) y).wp Try.prog Q a w := wp_seq (reg_y mo (exA_ok hZ hC) (ps C) kL kH nb' hp hS (fun _ _ _ h => then_n (hend h)) h hle)
theorem v0 {n : Nat} {σ : Sg} {S0 : Nat → Prop} {g0 g : G} {w0 w : World} {nb : Nat} {a : Act} {Q : Exit → Act → World → Prop} (kL kH : List Nat) (nb' : Nat) {id : Nat} {dr : Bool} {ops : List Oper} {y : Code} (hS : Sp n S0 g0 w0 σ nb a g w) (hend : ∀ {a g w}, Sp n S0 g0 w0 (xS (plS n ops (exA E1 []) σ nb kL kH)) nb' a g w → y.wp Try.prog Q a w) (h : xP (plS n ops (exA E1 []) σ nb kL kH) = some ([], nb') := by kernel_rfl) (hle : Nat.ble nb nb' = true := by kernel_rfl) : (Code.seq (Code.region id ops.toArray dr) y).wp Try.prog Q a w := wp_seq (reg_y mo (exA_ok (C := []) hZ (show CsOk Try.prog [] from trivial)) [] kL kH nb' trivial hS (fun _ _ _ h => then_n (hend h)) h hle)
end
end Go.Sx.Try
namespace Go.Mi.Ke
abbrev Ln := BitVec 64
abbrev St := Nat → Ln
def rot (a : Ln) (n : Nat) : Ln := a.rotateLeft n
def Eq25 (a b : St) : Prop := ∀ i, i < 25 → a i = b i
theorem bit_rot (a : Ln) (n i : Nat) (hi : i < 64) : (rot a n).getLsbD i = a.getLsbD ((i + (64 - n % 64)) % 64) := by
 unfold rot
 simp only [BitVec.getLsbD_rotateLeft]
 have hn : n % 64 < 64 := Nat.mod_lt _ (by decide)
 by_cases h : i < n % 64
 ·rw [decide_eq_true h, cond_true]
  congr 1
  omega
 ·rw [decide_eq_false h, cond_false, decide_eq_true hi, Bool.true_and]
  congr 1
  omega
theorem rot_inj {a b : Ln} {n : Nat} (h : rot a n = rot b n) : a = b := by
 apply BitVec.eq_of_getLsbD_eq
 intro i hi
 have hn : n % 64 < 64 := Nat.mod_lt _ (by decide)
 have h1 := bit_rot a n ((i + n % 64) % 64) (Nat.mod_lt _ (by decide))
 have h2 := bit_rot b n ((i + n % 64) % 64) (Nat.mod_lt _ (by decide))
 rw [h, h2] at h1
 rw [show ((i + n % 64) % 64 + (64 - n % 64)) % 64 = i by omega] at h1
 exact h1.symm
def par (a : St) (x : Nat) : Ln := a (x % 5) ^^^ a (x % 5 + 5) ^^^ a (x % 5 + 10) ^^^ a (x % 5 + 15) ^^^ a (x % 5 + 20)
def dif (a : St) (x : Nat) : Ln := par a (x + 4) ^^^ rot (par a (x + 1)) 1
def theta (a : St) : St := fun i => a i ^^^ dif a i
theorem par_mod (a : St) (x : Nat) : par a (x % 5) = par a x := by unfold par; rw [Nat.mod_mod]
theorem dif_mod (a : St) (x k : Nat) : dif a (x + 5 * k) = dif a x := by
 unfold dif par
 rw [show (x + 5 * k + 4) % 5 = (x + 4) % 5 by omega, show (x + 5 * k + 1) % 5 = (x + 1) % 5 by omega]
theorem xor5 (a b c d e u : Ln) : (a ^^^ u) ^^^ (b ^^^ u) ^^^ (c ^^^ u) ^^^ (d ^^^ u) ^^^ (e ^^^ u) = (a ^^^ b ^^^ c ^^^ d ^^^ e) ^^^ u := by
 apply BitVec.eq_of_getLsbD_eq
 intro i _
 simp only [BitVec.getLsbD_xor]
 generalize a.getLsbD i = a
 generalize b.getLsbD i = b
 generalize c.getLsbD i = c
 generalize d.getLsbD i = d
 generalize e.getLsbD i = e
 generalize u.getLsbD i = u
 revert a b c d e u
 decide
theorem par_theta (a : St) (x : Nat) : par (theta a) x = par a x ^^^ dif a x := by
 have h : ∀ k, theta a (x % 5 + 5 * k) = a (x % 5 + 5 * k) ^^^ dif a x := fun k => by
  unfold theta
  rw [dif_mod, ← dif_mod a (x % 5) (x / 5), show x % 5 + 5 * (x / 5) = x by omega]
 have h0 := h 0
 have h1 := h 1
 have h2 := h 2
 have h3 := h 3
 have h4 := h 4
 simp only [Nat.mul_zero, Nat.add_zero, Nat.reduceMul] at h0 h1 h2 h3 h4
 unfold par
 rw [h0, h1, h2, h3, h4]
 exact xor5 ..
theorem none_of {r : Nat → Nat → Bool} (p5 : ∀ x z, r (x + 5) z = r x z) (p64 : ∀ x z, r x (z + 64) = r x z) (h : ∀ x z, r x z = (r (x + 4) z ^^ r (x + 1) (z + 63))) (x z : Nat) : r x z = false := by
 have q5 : ∀ k x z, r (x + 5 * k) z = r x z := by
  intro k
  induction k with
  | zero => intro x z; rfl
  | succ k ih => intro x z; rw [show x + 5 * (k + 1) = (x + 5 * k) + 5 by omega, p5, ih]
 have q64 : ∀ k x z, r x (z + 64 * k) = r x z := by
  intro k
  induction k with
  | zero => intro x z; rfl
  | succ k ih => intro x z; rw [show z + 64 * (k + 1) = (z + 64 * k) + 64 by omega, p64, ih]
 have dbl : ∀ m, (∀ x z, r x z = (r (x + 4 * m) z ^^ r (x + m) (z + 63 * m))) → ∀ x z, r x z = (r (x + 4 * (2 * m)) z ^^ r (x + 2 * m) (z + 63 * (2 * m))) := by
  intro m hm x z
  have e1 := hm (x + 4 * m) z
  have e2 := hm (x + m) (z + 63 * m)
  rw [hm x z, e1, e2]
  rw [show x + 4 * m + 4 * m = x + 4 * (2 * m) by omega, show x + 4 * m + m = x + 5 * m by omega, show x + m + 4 * m = x + 5 * m by omega, show x + m + m = x + 2 * m by omega, show z + 63 * m + 63 * m = z + 63 * (2 * m) by omega]
  cases r (x + 4 * (2 * m)) z <;> cases r (x + 5 * m) (z + 63 * m) <;> cases r (x + 2 * m) (z + 63 * (2 * m)) <;> rfl
 have h64 := dbl 32 (dbl 16 (dbl 8 (dbl 4 (dbl 2 (dbl 1 (by simpa using h))))))
 have key : ∀ x, r x z = (r (x + 1) z ^^ r (x + 4) z) := by
  intro x
  have := h64 x z
  rw [show x + 4 * (2 * 32) = (x + 1) + 5 * 51 by omega, show x + 2 * 32 = (x + 4) + 5 * 12 by omega, show z + 63 * (2 * 32) = z + 64 * 63 by omega, q5, q5, q64] at this
  exact this
 have k0 := key x
 have k1 := key (x + 1)
 have k2 := key (x + 2)
 have k3 := key (x + 3)
 have k4 := key (x + 4)
 rw [show x + 1 + 4 = x + 5 by omega, p5] at k1
 rw [show x + 2 + 4 = (x + 1) + 5 by omega, p5] at k2
 rw [show x + 3 + 4 = (x + 2) + 5 by omega, p5] at k3
 rw [show x + 4 + 1 = x + 5 by omega, show x + 4 + 4 = (x + 3) + 5 by omega, p5, p5] at k4
 simp only [Nat.add_assoc, Nat.reduceAdd] at k0 k1 k2 k3 k4
 revert k0 k1 k2 k3 k4
 cases r x z <;> cases r (x + 1) z <;> cases r (x + 2) z <;> cases r (x + 3) z <;> cases r (x + 4) z <;> simp
theorem theta_inj {a b : St} (h : Eq25 (theta a) (theta b)) : Eq25 a b := by
 have hp : ∀ x, par (theta a) x = par (theta b) x := fun x => by
  have hx : x % 5 < 5 := Nat.mod_lt _ (by decide)
  unfold par
  rw [h _ (by omega), h _ (by omega), h _ (by omega), h _ (by omega), h _ (by omega)]
 let r : Nat → Nat → Bool := fun x z => (par a x).getLsbD (z % 64) ^^ (par b x).getLsbD (z % 64)
 have hr : ∀ x z, r x z = false := by
  refine none_of (fun x z => ?_) (fun x z => ?_) (fun x z => ?_)
  ·show (_ ^^ _) = (_ ^^ _)
   rw [← par_mod a (x + 5), ← par_mod b (x + 5), show (x + 5) % 5 = x % 5 by omega, par_mod, par_mod]
  ·show (_ ^^ _) = (_ ^^ _)
   rw [show (z + 64) % 64 = z % 64 by omega]
  ·have e := hp x
   rw [par_theta, par_theta] at e
   have e2 := congrArg (fun u : Ln => u.getLsbD (z % 64)) e
   have hz : z % 64 < 64 := Nat.mod_lt _ (by decide)
   simp only [dif, BitVec.getLsbD_xor, bit_rot _ _ _ hz] at e2
   rw [show (z % 64 + (64 - 1 % 64)) % 64 = (z + 63) % 64 by omega] at e2
   show (_ ^^ _) = ((_ ^^ _) ^^ (_ ^^ _))
   revert e2
   generalize (par a x).getLsbD (z % 64) = q1
   generalize (par b x).getLsbD (z % 64) = q2
   generalize (par a (x + 4)).getLsbD (z % 64) = q3
   generalize (par b (x + 4)).getLsbD (z % 64) = q4
   generalize (par a (x + 1)).getLsbD ((z + 63) % 64) = q5
   generalize (par b (x + 1)).getLsbD ((z + 63) % 64) = q6
   revert q1 q2 q3 q4 q5 q6
   decide
 have hab : ∀ x, par a x = par b x := fun x => by
  apply BitVec.eq_of_getLsbD_eq
  intro i hi
  have := hr x i
  simp only [r] at this
  rw [Nat.mod_eq_of_lt hi] at this
  revert this
  cases (par a x).getLsbD i <;> cases (par b x).getLsbD i <;> simp
 intro i hi
 have e := h i hi
 have ed : dif a i = dif b i := by unfold dif; rw [hab, hab]
 unfold theta at e
 rw [ed] at e
 have := congrArg (· ^^^ dif b i) e
 simpa [BitVec.xor_assoc] using this
def chi (a : St) : St := fun i => a i ^^^ (~~~ a (i - i % 5 + (i + 1) % 5) &&& a (i - i % 5 + (i + 2) % 5))
theorem chi5 : ∀ a0 a1 a2 a3 a4 b0 b1 b2 b3 b4 : Bool, (a0 ^^ (!a1 && a2)) = (b0 ^^ (!b1 && b2)) → (a1 ^^ (!a2 && a3)) = (b1 ^^ (!b2 && b3)) → (a2 ^^ (!a3 && a4)) = (b2 ^^ (!b3 && b4)) → (a3 ^^ (!a4 && a0)) = (b3 ^^ (!b4 && b0)) → (a4 ^^ (!a0 && a1)) = (b4 ^^ (!b0 && b1)) → a0 = b0 ∧ a1 = b1 ∧ a2 = b2 ∧ a3 = b3 ∧ a4 = b4 := by decide
theorem chi_inj {a b : St} (h : Eq25 (chi a) (chi b)) : Eq25 a b := by
 intro i hi
 apply BitVec.eq_of_getLsbD_eq
 intro z hz
 have hy : i = 5 * (i / 5) + i % 5 := by omega
 have row : ∀ k, k < 5 → chi a (5 * (i / 5) + k) = chi b (5 * (i / 5) + k) := fun k hk => h _ (by omega)
 have at_ : ∀ (a : St) (k : Nat), k < 5 → (chi a (5 * (i / 5) + k)).getLsbD z = ((a (5 * (i / 5) + k)).getLsbD z ^^ (!(a (5 * (i / 5) + (k + 1) % 5)).getLsbD z && (a (5 * (i / 5) + (k + 2) % 5)).getLsbD z)) := by
  intro a k hk
  unfold chi
  rw [show 5 * (i / 5) + k - (5 * (i / 5) + k) % 5 = 5 * (i / 5) by omega, show (5 * (i / 5) + k + 1) % 5 = (k + 1) % 5 by omega, show (5 * (i / 5) + k + 2) % 5 = (k + 2) % 5 by omega]
  simp only [BitVec.getLsbD_xor, BitVec.getLsbD_and, BitVec.getLsbD_not, hz, decide_true, Bool.true_and]
 have e : ∀ k, k < 5 → _ := fun k hk => congrArg (fun u : Ln => u.getLsbD z) (row k hk)
 have e0 := e 0 (by omega)
 have e1 := e 1 (by omega)
 have e2 := e 2 (by omega)
 have e3 := e 3 (by omega)
 have e4 := e 4 (by omega)
 simp only [at_ _ 0 (by omega), at_ _ 1 (by omega), at_ _ 2 (by omega), at_ _ 3 (by omega), at_ _ 4 (by omega), Nat.reduceAdd, Nat.reduceMod] at e0 e1 e2 e3 e4
 obtain ⟨k0, k1, k2, k3, k4⟩ := chi5 _ _ _ _ _ _ _ _ _ _ e0 e1 e2 e3 e4
 have h5 : i % 5 < 5 := Nat.mod_lt _ (by decide)
 rw [hy]
 generalize i % 5 = m at h5
 match m, h5 with
 | 0, _ => exact k0
 | 1, _ => exact k1
 | 2, _ => exact k2
 | 3, _ => exact k3
 | 4, _ => exact k4
theorem pigeon : ∀ (N : Nat) (f : Nat → Nat), (∀ i, i ≤ N → f i < N) → ∃ i j, i < j ∧ j ≤ N ∧ f i = f j
 | 0, f, h => absurd (h 0 (Nat.le_refl _)) (by omega)
 | N + 1, f, h => by
  -- is the last value met ahead?
  by_cases hm : ∃ i, i < N + 1 ∧ f i = f (N + 1)
  ·obtain ⟨i, h1, h2⟩ := hm
   exact ⟨i, N + 1, h1, Nat.le_refl _, h2⟩
  ·-- else swap it with the greatest
   let g : Nat → Nat := fun i => if f i = N then f (N + 1) else f i
   have hg : ∀ i, i ≤ N → g i < N := by
    intro i hi
    have h1 := h i (by omega)
    have h2 := h (N + 1) (by omega)
    have h3 : f i ≠ f (N + 1) := fun e => hm ⟨i, by omega, e⟩
    show (if f i = N then f (N + 1) else f i) < N
    split <;> omega
   obtain ⟨i, j, h1, h2, h3⟩ := pigeon N g hg
   refine ⟨i, j, h1, by omega, ?_⟩
   have h4 : f i ≠ f (N + 1) := fun e => hm ⟨i, by omega, e⟩
   have h5 : f j ≠ f (N + 1) := fun e => hm ⟨j, by omega, e⟩
   change (if f i = N then f (N + 1) else f i) = (if f j = N then f (N + 1) else f j) at h3
   split at h3 <;> split at h3 <;> omega
def px : Nat → Nat × Nat
 | 0 => (1, 0)
 | t + 1 => ((px t).2, (2 * (px t).1 + 3 * (px t).2) % 5)
def ps (t : Nat) : Nat := (px t).1 + 5 * (px t).2
def rhoN (a : St) : Nat → St
 | 0 => a
 | t + 1 => fun i => if i = ps (t + 1) then rot (a (ps t)) ((t + 1) * (t + 2) / 2) else rhoN a t i
def rho (a : St) : St := rhoN a 24
theorem ps_lt (t : Nat) (h : t ≤ 24) : ps t < 25 := by
 have : ∀ t : Fin 25, ps t.1 < 25 := by decide
 exact this ⟨t, by omega⟩
theorem ps_ne (t u : Nat) (ht : t ≤ 24) (hu : u ≤ 24) (h0 : 0 < t) (h1 : 0 < u) (h : ps t = ps u) : t = u := by
 have : ∀ t u : Fin 25, 0 < t.1 → 0 < u.1 → ps t.1 = ps u.1 → t.1 = u.1 := by decide
 exact this ⟨t, by omega⟩ ⟨u, by omega⟩ h0 h1 h
theorem ps_all (i : Nat) (h : i < 25) : i = 0 ∨ ∃ t, t < 24 ∧ ps t = i := by
 have : ∀ i : Fin 25, i.1 = 0 ∨ ∃ t : Fin 24, ps t.1 = i.1 := by decide
 rcases this ⟨i, h⟩ with h | ⟨t, h⟩
 ·exact .inl h
 ·exact .inr ⟨t.1, t.2, h⟩
theorem rhoN_at (a : St) : ∀ n, n ≤ 24 → ∀ t, t < n → rhoN a n (ps (t + 1)) = rot (a (ps t)) ((t + 1) * (t + 2) / 2)
 | 0, _, t, h => absurd h (by omega)
 | n + 1, hn, t, h => by
  simp only [rhoN]
  by_cases e : t = n
  ·subst e; rw [if_pos rfl]
  ·rw [if_neg (fun h' => e (by have := ps_ne _ _ (by omega) (by omega) (by omega) (by omega) h'; omega))]
   exact rhoN_at a n (by omega) t (by omega)
theorem ps_zero (t : Nat) (h : t ≤ 24) : ps t ≠ 0 := by
 have : ∀ t : Fin 25, ps t.1 ≠ 0 := by decide
 exact this ⟨t, by omega⟩
theorem rhoN_zero (a : St) : ∀ n, n ≤ 24 → rhoN a n 0 = a 0
 | 0, _ => rfl
 | n + 1, hn => by
  simp only [rhoN]
  rw [if_neg (fun h => ps_zero (n + 1) hn h.symm)]
  exact rhoN_zero a n (by omega)
theorem rho_inj {a b : St} (h : Eq25 (rho a) (rho b)) : Eq25 a b := by
 intro i hi
 rcases ps_all i hi with rfl | ⟨t, ht, rfl⟩
 ·have := h 0 (by omega)
  unfold rho at this
  rwa [rhoN_zero a 24 (Nat.le_refl _), rhoN_zero b 24 (Nat.le_refl _)] at this
 ·have := h _ (ps_lt (t + 1) (by omega))
  unfold rho at this
  rw [rhoN_at a 24 (Nat.le_refl _) t ht, rhoN_at b 24 (Nat.le_refl _) t ht] at this
  exact rot_inj this
theorem rhoN_congr {a b : St} (h : Eq25 a b) : ∀ n, n ≤ 24 → Eq25 (rhoN a n) (rhoN b n)
 | 0, _ => h
 | n + 1, hn => fun i hi => by
  simp only [rhoN]
  split
  ·rw [h _ (ps_lt n (by omega))]
  ·exact rhoN_congr h n (by omega) i hi
def iota (c : Ln) (a : St) : St := fun i => if i = 0 then a 0 ^^^ c else a i
def round (c : Ln) (a : St) : St := iota c (chi (rho (theta a)))
def rounds : List Ln → St → St
 | [], a => a
 | c :: l, a => rounds l (round c a)
theorem iota_inj {c : Ln} {a b : St} (h : Eq25 (iota c a) (iota c b)) : Eq25 a b := by
 intro i hi
 have := h i hi
 unfold iota at this
 by_cases e : i = 0
 ·subst e
  rw [if_pos rfl, if_pos rfl] at this
  have := congrArg (· ^^^ c) this
  simpa [BitVec.xor_assoc] using this
 ·rwa [if_neg e, if_neg e] at this
theorem theta_congr {a b : St} (h : Eq25 a b) : Eq25 (theta a) (theta b) := by
 have hp : ∀ x, par a x = par b x := fun x => by
  have hx : x % 5 < 5 := Nat.mod_lt _ (by decide)
  unfold par
  rw [h _ (by omega), h _ (by omega), h _ (by omega), h _ (by omega), h _ (by omega)]
 intro i hi
 unfold theta dif
 rw [h i hi, hp, hp]
theorem chi_congr {a b : St} (h : Eq25 a b) : Eq25 (chi a) (chi b) := by
 intro i hi
 unfold chi
 rw [h i hi, h _ (by omega), h _ (by omega)]
theorem round_inj {c : Ln} {a b : St} (h : Eq25 (round c a) (round c b)) : Eq25 a b := theta_inj (rho_inj (chi_inj (iota_inj h)))
theorem round_congr {c : Ln} {a b : St} (h : Eq25 a b) : Eq25 (round c a) (round c b) := by
 have h1 := chi_congr (rhoN_congr (theta_congr h) 24 (Nat.le_refl _))
 intro i hi
 show (if i = 0 then chi (rhoN (theta a) 24) 0 ^^^ c else chi (rhoN (theta a) 24) i) = (if i = 0 then chi (rhoN (theta b) 24) 0 ^^^ c else chi (rhoN (theta b) 24) i)
 split
 ·rw [h1 0 (by omega)]
 ·exact h1 i hi
theorem rounds_inj : ∀ (l : List Ln) {a b : St}, Eq25 (rounds l a) (rounds l b) → Eq25 a b
 | [], _, _, h => h
 | _ :: l, _, _, h => round_inj (rounds_inj l h)
theorem rounds_congr : ∀ (l : List Ln) {a b : St}, Eq25 a b → Eq25 (rounds l a) (rounds l b)
 | [], _, _, h => h
 | _ :: l, _, _, h => rounds_congr l (round_congr h)
def enc (a : St) : Nat → Nat
 | 0 => 0
 | n + 1 => enc a n * 2 ^ 64 + (a n).toNat
theorem enc_lt (a : St) : ∀ n, enc a n < (2 ^ 64) ^ n
 | 0 => by simp [enc]
 | n + 1 => by
  have h1 := enc_lt a n
  have h2 := (a n).isLt
  have e : (2 ^ 64) ^ (n + 1) = (2 ^ 64) ^ n * 2 ^ 64 := Nat.pow_succ ..
  simp only [enc]
  rw [e]
  generalize (2 ^ 64) ^ n = M at h1 ⊢
  omega
theorem enc_inj {a b : St} : ∀ n, enc a n = enc b n → ∀ i, i < n → a i = b i
 | 0, _, i, h => absurd h (by omega)
 | n + 1, h, i, hi => by
  simp only [enc] at h
  have h1 := (a n).isLt
  have h2 := (b n).isLt
  have h3 : enc a n = enc b n := by omega
  by_cases e : i = n
  ·subst e
   exact BitVec.eq_of_toNat_eq (by omega)
  ·exact enc_inj n h3 i (by omega)
def iter (f : St → St) : Nat → St → St
 | 0, a => a
 | n + 1, a => f (iter f n a)
theorem iter_inj {f : St → St} (hf : ∀ {a b}, Eq25 (f a) (f b) → Eq25 a b) : ∀ n {a b}, Eq25 (iter f n a) (iter f n b) → Eq25 a b
 | 0, _, _, h => h
 | n + 1, _, _, h => iter_inj hf n (hf h)
theorem iter_add (f : St → St) (m : Nat) (a : St) : ∀ n, iter f (m + n) a = iter f n (iter f m a)
 | 0 => rfl
 | n + 1 => by show f (iter f (m + n) a) = f (iter f n (iter f m a)); rw [iter_add f m a n]
theorem again {f : St → St} (hf : ∀ {a b}, Eq25 (f a) (f b) → Eq25 a b) (s : St) : ∃ n, 0 < n ∧ Eq25 (iter f n s) s := by
 obtain ⟨i, j, h1, _, h3⟩ := pigeon ((2 ^ 64) ^ 25) (fun i => enc (iter f i s) 25) (fun i _ => enc_lt _ _)
 have h4 : Eq25 (iter f i s) (iter f j s) := enc_inj 25 h3
 refine ⟨j - i, by omega, ?_⟩
 have e : iter f j s = iter f i (iter f (j - i) s) := by rw [← iter_add, show j - i + i = j by omega]
 rw [e] at h4
 have := iter_inj hf i h4
 exact fun k hk => (this k hk).symm
theorem iter_congr {f : St → St} (hc : ∀ {a b}, Eq25 a b → Eq25 (f a) (f b)) : ∀ n {a b}, Eq25 a b → Eq25 (iter f n a) (iter f n b)
 | 0, _, _, h => h
 | n + 1, _, _, h => hc (iter_congr hc n h)
theorem again_late {f : St → St} (hf : ∀ {a b}, Eq25 (f a) (f b) → Eq25 a b) (hc : ∀ {a b}, Eq25 a b → Eq25 (f a) (f b)) (s : St) : ∀ m : Nat, ∃ n, m < n ∧ Eq25 (iter f n s) s
 | 0 => again hf s
 | m + 1 => by
  obtain ⟨n, h1, h2⟩ := again_late hf hc s m
  obtain ⟨k, h3, h4⟩ := again hf s
  refine ⟨n + k, by omega, fun i hi => ?_⟩
  rw [iter_add, iter_congr hc k h2 i hi, h4 i hi]
end Go.Mi.Ke
namespace Go.Sx
open Go.Mi Go.RowKit
def thC (a : Nat → Int) : Nat → Nat → Int
 | 0 => fun _ => 0
 | i + 1 => upd (thC a i) (i % 5) (ixor .u64 (thC a i (i % 5)) (a i))
def rotl (x k : Int) : Int := ior .u64 (ishl .u64 x (iand .u64 (IntKind.wrap .u64 k) 63)) (ishr .u64 x (isub .u64 64 (iand .u64 (IntKind.wrap .u64 k) 63)))
def thA (a c : Nat → Int) : Nat → Nat → Int
 | 0 => a
 | i + 1 => upd (thA a c i) i (ixor .u64 (thA a c i i) (ixor .u64 (c ((i % 5 + 4) % 5)) (rotl (c ((i % 5 + 1) % 5)) 1)))
def theta (a : Nat → Int) : Nat → Int := thA a (thC a 25) 25
def rhoA (a : Nat → Int) : Nat → Nat → Int
 | 0 => a
 | t + 1 => upd (rhoA a t) ((Ke.px (t + 1)).1 + 5 * (Ke.px (t + 1)).2) (rotl (a ((Ke.px t).1 + 5 * (Ke.px t).2)) (iquo .i64 (imul .i64 ((t + 1 : Nat) : Int) ((t + 2 : Nat) : Int)) 2))
def rho (a : Nat → Int) : Nat → Int := rhoA a 24
def chiA (a : Nat → Int) : Nat → Nat → Int
 | 0 => a
 | i + 1 => upd (chiA a i) i (ixor .u64 (chiA a i i) (iand .u64 (inot .u64 (a (i - i % 5 + (i + 1) % 5))) (a (i - i % 5 + (i + 2) % 5))))
def chi (a : Nat → Int) : Nat → Int := chiA a 25
def RC : Nat → Int := upd (upd (upd (upd (upd (upd (upd (upd (upd (upd (upd (upd (upd (upd (upd (upd (upd (upd (upd (upd (upd (upd (upd (upd (fun _ => 0) 0 1) 1 32898) 2 9223372036854808714) 3 9223372039002292224) 4 32907) 5 2147483649) 6 9223372039002292353) 7 9223372036854808585) 8 138) 9 136) 10 2147516425) 11 2147483658) 12 2147516555) 13 9223372036854775947) 14 9223372036854808713) 15 9223372036854808579) 16 9223372036854808578) 17 9223372036854775936) 18 32778) 19 9223372039002259466) 20 9223372039002292353) 21 9223372036854808704) 22 2147483649) 23 9223372039002292232
def kstp : Nat → (Nat → Int) → Nat → Int
 | 0 => theta
 | 1 => rho
 | _ => chi
def kst (b : Nat → Int) : Nat → Nat → Int
 | 0 => b
 | j + 1 => kstp j (kst b j)
def perA (a : Nat → Int) : Nat → Nat → Int
 | 0 => a
 | i + 1 => upd (kst (perA a i) 3) 0 (ixor .u64 (kst (perA a i) 3 0) (RC i))
def perm (a : Nat → Int) : Nat → Int := perA a 24
theorem kst_s (b f : Nat → Int) (j : Nat) (h : f = kst b j) : kstp j f = kst b (j + 1) := by rw [h]; rfl
theorem per_s (a b f : Nat → Int) (i : Nat) (hb : b = perA a i) (h : f = kst b 3) : upd f 0 (ixor .u64 (f 0) (RC i)) = perA a (i + 1) := by rw [h, hb]; rfl
end Go.Sx
namespace Go.Sx.Try
open Go.Mi Go.RowKit Go.Sx Go.Proofs
noncomputable section
def c_rot64 (x k : Int) : Con := ⟨[.v (.int .u64 x), vi k], [], .v (.int .u64 (rotl x k)), []⟩
theorem rot64_ok (x k : Int) : ConOk Try.prog 126 (c_rot64 x k) := by
 refine conOk_of rfl (nb := 0) Try.func126 rfl rfl Try.ntmps126 rfl rfl rfl fun g0 w0 ac gs ws hg0 hS => ?_
 have hS := hS.sp
 refine s0 [0, 1, 4] [] 0 hS fun hS => ?_
 refine s0 [0, 4, 5] [] 0 hS fun hS => ?_
 refine sA [] trivial (fun _ => [(0 : Int) ≤ (iand .u64 (IntKind.wrap .u64 k) 63), (0 : Int) ≤ (isub .u64 64 (iand .u64 (IntKind.wrap .u64 k) 63))]) [4] [] 0 ⟨wrap_nn rfl, wrap_nn rfl, trivial⟩ hS fun hS => ?_
 refine wp_ret ?_
 exact fin_y rfl (.inr rfl) hS [.v (.int .u64 (ior .u64 (ishl .u64 x (iand .u64 (IntKind.wrap .u64 k) 63)) (ishr .u64 x (isub .u64 64 (iand .u64 (IntKind.wrap .u64 k) 63)))))] [] rfl trivial

def c_theta (a : Nat → Int) : Con := ⟨[.ar .u64 25 a], [], .ar .u64 25 (theta a), []⟩
theorem theta_ok (a : Nat → Int) : ConOk Try.prog 116 (c_theta a) := by
 refine conOk_of rfl (nb := 0) Try.func116 rfl rfl Try.ntmps116 rfl rfl rfl fun g0 w0 ac gs ws hg0 hS => ?_
 have hS := hS.sp
 refine s0 [1, 2] [0, 1] 2 hS fun hS => ?_
 refine s0 [1, 2, 3] [0, 1, 2] 3 hS fun hS => ?_
 refine wp_seq (s0 [1, 2, 3, 8, 9] [0, 1, 2] 3 hS fun hS => ?_)
 refine wp_block (loop_y (ι := Nat) hg0 hS (fun i => 25 - i) (fun i => [(1, .cp 0 0), (2, .cp 1 0), (3, .cp 2 0), (8, .ar .u64 25 a), (9, vi ((i : Nat) : Int))]) (fun i => [(0, .ob 155 (chain [.ar .u64 25 a])), (1, .ob 155 (chain [.ar .u64 25 (fun _ => 0)])), (2, .ob 154 (chain [.ar .u64 5 (thC a i)]))]) (fun i => (i ≤ 25) ∧ True) 3 0 [(0, 0), (1, 1), (2, 2)] ⟨omm, trivial⟩ ?_)
 rintro i ac gs ws ⟨hi, _⟩ hS
 refine s0 [1, 2, 3, 8, 9, 10] [0, 1, 2] 3 hS fun hS => ?_
 refine wp_seq ?_
 refine if_d ((i : Int) < 25) hS (fun h1 => ?_) (fun h1 => ?_)
 ·refine wp_skip (then_n (wp_seq (wp_block (sA [] trivial (fun _ => [(0 : Int) ≤ (i : Int) ∧ ((i : Int) : Int) < 25]) [1, 2, 3, 4, 5, 8, 9] [0, 1, 2] 3 ⟨by omega, trivial⟩ hS fun hS => ?_))))
  refine rA [(1, .oi ((i % 5 : Nat) : Int))] trivial (fun _ => [irem (i : Int) 5 = ((i % 5 : Nat) : Int), (5 : Int) ≠ 0, (0 : Int) ≤ ((i % 5 : Nat) : Int) ∧ (((i % 5 : Nat) : Int) : Int) < 5, (0 : Int) ≤ ((i % 5 : Nat) : Int) ∧ (((i % 5 : Nat) : Int) : Int) < 5]) [1, 2, 3, 8, 9] [0, 1, 2] 3 ⟨by rw [irem64 omm]; omega, by omega, by omega, by omega, trivial⟩ hS fun hS => ?_
  refine block_n (then_n (rA [(0, .oi ((i + 1 : Nat) : Int))] trivial (fun _ => [iadd .i64 (i : Int) 1 = ((i + 1 : Nat) : Int)]) [1, 2, 3, 8, 9] [0, 1, 2] 3 ⟨by rw [iadd64 omm omm]; omega, trivial⟩ hS fun hS => ?_))
  refine then_n ?_
  exact next_y hg0 hS (s := (i)) (i + 1) [(0, 0), (1, 1), (2, 2)] (show 25 - (i + 1) < 25 - i from by omega) ⟨omm, trivial⟩
 ·have hScur := hS
  obtain rfl : 25 = i := by omega
  have hS := hScur
  clear hScur
  refine wp_exit (then_exit (then_exit (block_exit (then_n (wp_seq (s0 [1, 2, 3, 21] [0, 1, 2] 3 hS fun hS => ?_))))))
  refine wp_block (loop_y (ι := Nat) hg0 hS (fun i => 25 - i) (fun i => [(1, .cp 0 0), (2, .cp 1 0), (3, .cp 2 0), (21, vi ((i : Nat) : Int))]) (fun i => [(0, .ob 155 (chain [.ar .u64 25 (thA a (thC a 25) i)])), (1, .ob 155 (chain [.ar .u64 25 (fun _ => 0)])), (2, .ob 154 (chain [.ar .u64 5 (thC a 25)]))]) (fun i => (i ≤ 25) ∧ True) 3 0 [(0, 0), (1, 1), (2, 2)] ⟨omm, trivial⟩ ?_)
  rintro i ac gs ws ⟨hi, _⟩ hS
  refine s0 [1, 2, 3, 21, 22] [0, 1, 2] 3 hS fun hS => ?_
  refine wp_seq ?_
  refine if_d ((i : Int) < 25) hS (fun h2 => ?_) (fun h2 => ?_)
  ·refine wp_skip (then_n (wp_seq (wp_block (s0 [1, 2, 3, 6, 21] [0, 1, 2] 3 hS fun hS => ?_))))
   refine sA [(1, .oi ((i % 5 : Nat) : Int))] trivial (fun _ => [irem (i : Int) 5 = ((i % 5 : Nat) : Int), (5 : Int) ≠ 0]) [1, 2, 3, 6, 7, 21] [0, 1, 2] 3 ⟨by rw [irem64 omm]; omega, by omega, trivial⟩ hS fun hS => ?_
   refine rA [(4, .oi (((i % 5) + 5 : Nat) : Int)), (5, .oi (((i % 5) + 4 : Nat) : Int)), (6, .oi ((((i % 5) + 4) % 5 : Nat) : Int)), (10, .oi (((i % 5) + 1 : Nat) : Int)), (11, .oi ((((i % 5) + 1) % 5 : Nat) : Int)), (14, .call ⟨126, (c_rot64 ((thC a 25) (((i % 5) + 1) % 5)) 1), [], []⟩)] ⟨rot64_ok _ _, trivial⟩ (fun C => [(0 : Int) ≤ (i : Int) ∧ ((i : Int) : Int) < 25, iadd .i64 ((i % 5 : Nat) : Int) 5 = (((i % 5) + 5 : Nat) : Int), isub .i64 (((i % 5) + 5 : Nat) : Int) 1 = (((i % 5) + 4 : Nat) : Int), irem (((i % 5) + 4 : Nat) : Int) 5 = ((((i % 5) + 4) % 5 : Nat) : Int), (5 : Int) ≠ 0, (0 : Int) ≤ ((((i % 5) + 4) % 5 : Nat) : Int) ∧ (((((i % 5) + 4) % 5 : Nat) : Int) : Int) < 5, iadd .i64 ((i % 5 : Nat) : Int) 1 = (((i % 5) + 1 : Nat) : Int), irem (((i % 5) + 1 : Nat) : Int) 5 = ((((i % 5) + 1) % 5 : Nat) : Int), (5 : Int) ≠ 0, (0 : Int) ≤ ((((i % 5) + 1) % 5 : Nat) : Int) ∧ (((((i % 5) + 1) % 5 : Nat) : Int) : Int) < 5, ndC C 14, (0 : Int) ≤ (i : Int) ∧ ((i : Int) : Int) < 25]) [1, 2, 3, 21] [0, 1, 2] 3 ⟨by omega, by rw [iadd64 omm omm]; omega, by rw [isub64 omm omm]; omega, by rw [irem64 omm]; omega, by omega, by omega, by rw [iadd64 omm omm]; omega, by rw [irem64 omm]; omega, by omega, by omega, rfl, by omega, trivial⟩ hS fun hS => ?_
   refine block_n (then_n (rA [(0, .oi ((i + 1 : Nat) : Int))] trivial (fun _ => [iadd .i64 (i : Int) 1 = ((i + 1 : Nat) : Int)]) [1, 2, 3, 21] [0, 1, 2] 3 ⟨by rw [iadd64 omm omm]; omega, trivial⟩ hS fun hS => ?_))
   refine then_n ?_
   exact next_y hg0 hS (s := (i)) (i + 1) [(0, 0), (1, 1), (2, 2)] (show 25 - (i + 1) < 25 - i from by omega) ⟨omm, trivial⟩
  ·have hScur := hS
   obtain rfl : 25 = i := by omega
   have hS := hScur
   clear hScur
   refine wp_exit (then_exit (then_exit (block_exit (then_n (s0 [2] [1] 3 hS fun hS => ?_)))))
   refine wp_ret ?_
   exact fin_y rfl (.inr rfl) hS [.ar .u64 25 (thA a (thC a 25) 25)] [] rfl trivial

def c_rho (a : Nat → Int) : Con := ⟨[.ar .u64 25 a], [], .ar .u64 25 (rho a), []⟩
theorem rho_ok (a : Nat → Int) : ConOk Try.prog 117 (c_rho a) := by
 refine conOk_of rfl (nb := 0) Try.func117 rfl rfl Try.ntmps117 rfl rfl rfl fun g0 w0 ac gs ws hg0 hS => ?_
 have hS := hS.sp
 refine s0 [1, 2] [0, 1] 2 hS fun hS => ?_
 refine s0 [1, 2, 3] [0, 1, 2] 3 hS fun hS => ?_
 refine s0 [1, 2, 3, 4, 5] [0, 1, 2] 3 hS fun hS => ?_
 refine wp_seq (s0 [1, 2, 3, 4, 5, 9] [0, 1, 2] 3 hS fun hS => ?_)
 refine wp_block (loop_y (ι := Nat × Nat × Nat × (Nat → Int)) hg0 hS (fun z_ => match z_ with | (t, x, y, f) => 24 - t) (fun z_ => match z_ with | (t, x, y, f) => [(1, .cp 0 0), (2, .cp 1 0), (3, .cp 2 0), (4, vi ((x : Nat) : Int)), (5, vi ((y : Nat) : Int)), (9, vi ((t : Nat) : Int))]) (fun z_ => match z_ with | (t, x, y, f) => [(0, .ob 155 (chain [.ar .u64 25 a])), (1, .ob 155 (chain [.ar .u64 25 (fun _ => 0)])), (2, .ob 155 (chain [.ar .u64 25 f]))]) (fun z_ => match z_ with | (t, x, y, f) => (t ≤ 24) ∧ (x < 5) ∧ (y < 5) ∧ (x = (Ke.px t).1) ∧ (y = (Ke.px t).2) ∧ (f = rhoA a t) ∧ True) 3 (0, 1, 0, a) [(0, 0), (1, 1), (2, 2)] ⟨omm, omm, omm, rfl, rfl, rfl, trivial⟩ ?_)
 rintro ⟨t, x, y, f⟩ ac gs ws ⟨ht, hx5, hy5, hx, hy, hf, _⟩ hS
 refine s0 [1, 2, 3, 4, 5, 9, 10] [0, 1, 2] 3 hS fun hS => ?_
 refine wp_seq ?_
 refine if_d ((t : Int) < 24) hS (fun h1 => ?_) (fun h1 => ?_)
 ·refine wp_skip (then_n (wp_seq (wp_block (s0 [1, 2, 3, 4, 5, 6, 9] [0, 1, 2] 3 hS fun hS => ?_))))
  refine sA [(2, .oi ((5 * y : Nat) : Int)), (3, .oi ((x + (5 * y) : Nat) : Int)), (7, .oi ((t + 1 : Nat) : Int)), (9, .oi ((t + 2 : Nat) : Int)), (12, .call ⟨126, (c_rot64 (a (x + (5 * y))) (iquo .i64 (imul .i64 ((t + 1 : Nat) : Int) ((t + 2 : Nat) : Int)) 2)), [], []⟩)] ⟨rot64_ok _ _, trivial⟩ (fun C => [imul .i64 5 (y : Int) = ((5 * y : Nat) : Int), iadd .i64 (x : Int) ((5 * y : Nat) : Int) = ((x + (5 * y) : Nat) : Int), (0 : Int) ≤ ((x + (5 * y) : Nat) : Int) ∧ (((x + (5 * y) : Nat) : Int) : Int) < 25, iadd .i64 (t : Int) 1 = ((t + 1 : Nat) : Int), iadd .i64 (t : Int) 2 = ((t + 2 : Nat) : Int), (2 : Int) ≠ 0, ndC C 12]) [1, 2, 3, 4, 5, 7, 9] [0, 1, 2] 3 ⟨by rw [imul64 omm omm]; omega, by rw [iadd64 omm omm]; omega, by omega, by rw [iadd64 omm omm]; omega, by rw [iadd64 omm omm]; omega, by omega, rfl, trivial⟩ hS fun hS => ?_
  refine sA [(2, .oi ((2 * x : Nat) : Int)), (4, .oi ((3 * y : Nat) : Int)), (5, .oi (((2 * x) + (3 * y) : Nat) : Int)), (6, .oi ((((2 * x) + (3 * y)) % 5 : Nat) : Int))] trivial (fun _ => [imul .i64 2 (x : Int) = ((2 * x : Nat) : Int), imul .i64 3 (y : Int) = ((3 * y : Nat) : Int), iadd .i64 ((2 * x : Nat) : Int) ((3 * y : Nat) : Int) = (((2 * x) + (3 * y) : Nat) : Int), irem (((2 * x) + (3 * y) : Nat) : Int) 5 = ((((2 * x) + (3 * y)) % 5 : Nat) : Int), (5 : Int) ≠ 0]) [1, 2, 3, 4, 5, 7, 9] [0, 1, 2] 3 ⟨by rw [imul64 omm omm]; omega, by rw [imul64 omm omm]; omega, by rw [iadd64 omm omm]; omega, by rw [irem64 omm]; omega, by omega, trivial⟩ hS fun hS => ?_
  refine rA [(2, .oi ((5 * (((2 * x) + (3 * y)) % 5) : Nat) : Int)), (3, .oi ((y + (5 * (((2 * x) + (3 * y)) % 5)) : Nat) : Int))] trivial (fun _ => [imul .i64 5 ((((2 * x) + (3 * y)) % 5 : Nat) : Int) = ((5 * (((2 * x) + (3 * y)) % 5) : Nat) : Int), iadd .i64 (y : Int) ((5 * (((2 * x) + (3 * y)) % 5) : Nat) : Int) = ((y + (5 * (((2 * x) + (3 * y)) % 5)) : Nat) : Int), (0 : Int) ≤ ((y + (5 * (((2 * x) + (3 * y)) % 5)) : Nat) : Int) ∧ (((y + (5 * (((2 * x) + (3 * y)) % 5)) : Nat) : Int) : Int) < 25]) [1, 2, 3, 4, 5, 9] [0, 1, 2] 3 ⟨by rw [imul64 omm omm]; omega, by rw [iadd64 omm omm]; omega, by omega, trivial⟩ hS fun hS => ?_
  refine block_n (then_n (rA [(0, .oi ((t + 1 : Nat) : Int))] trivial (fun _ => [iadd .i64 (t : Int) 1 = ((t + 1 : Nat) : Int)]) [1, 2, 3, 4, 5, 9] [0, 1, 2] 3 ⟨by rw [iadd64 omm omm]; omega, trivial⟩ hS fun hS => ?_))
  refine then_n ?_
  exact next_y hg0 hS (s := (t, x, y, f)) (t + 1, y, ((2 * x) + (3 * y)) % 5, upd f (y + (5 * (((2 * x) + (3 * y)) % 5))) (rotl (a (x + (5 * y))) (iquo .i64 (imul .i64 ((t + 1 : Nat) : Int) ((t + 2 : Nat) : Int)) 2))) [(0, 0), (1, 1), (2, 2)] (show 24 - (t + 1) < 24 - t from by omega) ⟨omm, omm, omm, hy, (by rw [hx, hy]; rfl), (by rw [hf, hx, hy]; rfl), trivial⟩
 ·have hScur := hS
  obtain rfl : 24 = t := by omega
  obtain rfl : rho a = f := Eq.symm hf
  have hS := hScur
  clear hScur
  refine wp_exit (then_exit (then_exit (block_exit (then_n (s0 [2] [1] 3 hS fun hS => ?_)))))
  refine wp_ret ?_
  exact fin_y rfl (.inr rfl) hS [.ar .u64 25 (rho a)] [] rfl trivial

def c_chi (a : Nat → Int) : Con := ⟨[.ar .u64 25 a], [], .ar .u64 25 (chi a), []⟩
theorem chi_ok (a : Nat → Int) : ConOk Try.prog 118 (c_chi a) := by
 refine conOk_of rfl (nb := 0) Try.func118 rfl rfl Try.ntmps118 rfl rfl rfl fun g0 w0 ac gs ws hg0 hS => ?_
 have hS := hS.sp
 refine s0 [1, 2] [0, 1] 2 hS fun hS => ?_
 refine s0 [1, 2, 3] [0, 1, 2] 3 hS fun hS => ?_
 refine wp_seq (s0 [1, 2, 3, 7] [0, 1, 2] 3 hS fun hS => ?_)
 refine wp_block (loop_y (ι := Nat) hg0 hS (fun i => 25 - i) (fun i => [(1, .cp 0 0), (2, .cp 1 0), (3, .cp 2 0), (7, vi ((i : Nat) : Int))]) (fun i => [(0, .ob 155 (chain [.ar .u64 25 a])), (1, .ob 155 (chain [.ar .u64 25 (fun _ => 0)])), (2, .ob 155 (chain [.ar .u64 25 (chiA a i)]))]) (fun i => (i ≤ 25) ∧ True) 3 0 [(0, 0), (1, 1), (2, 2)] ⟨omm, trivial⟩ ?_)
 rintro i ac gs ws ⟨hi, _⟩ hS
 refine s0 [1, 2, 3, 7, 8] [0, 1, 2] 3 hS fun hS => ?_
 refine wp_seq ?_
 refine if_d ((i : Int) < 25) hS (fun h1 => ?_) (fun h1 => ?_)
 ·refine wp_skip (then_n (wp_seq (wp_block (s0 [1, 2, 3, 4, 7] [0, 1, 2] 3 hS fun hS => ?_))))
  refine sA [(2, .oi ((i % 5 : Nat) : Int)), (3, .oi ((i - (i % 5) : Nat) : Int))] trivial (fun _ => [irem (i : Int) 5 = ((i % 5 : Nat) : Int), (5 : Int) ≠ 0, isub .i64 (i : Int) ((i % 5 : Nat) : Int) = ((i - (i % 5) : Nat) : Int)]) [1, 2, 3, 4, 5, 7] [0, 1, 2] 3 ⟨by rw [irem64 omm]; omega, by omega, by rw [isub64 omm omm]; omega, trivial⟩ hS fun hS => ?_
  refine rA [(5, .oi ((i + 1 : Nat) : Int)), (6, .oi (((i + 1) % 5 : Nat) : Int)), (7, .oi (((i - (i % 5)) + ((i + 1) % 5) : Nat) : Int)), (13, .oi ((i + 2 : Nat) : Int)), (14, .oi (((i + 2) % 5 : Nat) : Int)), (15, .oi (((i - (i % 5)) + ((i + 2) % 5) : Nat) : Int))] trivial (fun _ => [(0 : Int) ≤ (i : Int) ∧ ((i : Int) : Int) < 25, iadd .i64 (i : Int) 1 = ((i + 1 : Nat) : Int), irem ((i + 1 : Nat) : Int) 5 = (((i + 1) % 5 : Nat) : Int), (5 : Int) ≠ 0, iadd .i64 ((i - (i % 5) : Nat) : Int) (((i + 1) % 5 : Nat) : Int) = (((i - (i % 5)) + ((i + 1) % 5) : Nat) : Int), (0 : Int) ≤ (((i - (i % 5)) + ((i + 1) % 5) : Nat) : Int) ∧ ((((i - (i % 5)) + ((i + 1) % 5) : Nat) : Int) : Int) < 25, iadd .i64 (i : Int) 2 = ((i + 2 : Nat) : Int), irem ((i + 2 : Nat) : Int) 5 = (((i + 2) % 5 : Nat) : Int), (5 : Int) ≠ 0, iadd .i64 ((i - (i % 5) : Nat) : Int) (((i + 2) % 5 : Nat) : Int) = (((i - (i % 5)) + ((i + 2) % 5) : Nat) : Int), (0 : Int) ≤ (((i - (i % 5)) + ((i + 2) % 5) : Nat) : Int) ∧ ((((i - (i % 5)) + ((i + 2) % 5) : Nat) : Int) : Int) < 25, (0 : Int) ≤ (i : Int) ∧ ((i : Int) : Int) < 25]) [1, 2, 3, 7] [0, 1, 2] 3 ⟨by omega, by rw [iadd64 omm omm]; omega, by rw [irem64 omm]; omega, by omega, by rw [iadd64 omm omm]; omega, by omega, by rw [iadd64 omm omm]; omega, by rw [irem64 omm]; omega, by omega, by rw [iadd64 omm omm]; omega, by omega, by omega, trivial⟩ hS fun hS => ?_
  refine block_n (then_n (rA [(0, .oi ((i + 1 : Nat) : Int))] trivial (fun _ => [iadd .i64 (i : Int) 1 = ((i + 1 : Nat) : Int)]) [1, 2, 3, 7] [0, 1, 2] 3 ⟨by rw [iadd64 omm omm]; omega, trivial⟩ hS fun hS => ?_))
  refine then_n ?_
  exact next_y hg0 hS (s := (i)) (i + 1) [(0, 0), (1, 1), (2, 2)] (show 25 - (i + 1) < 25 - i from by omega) ⟨omm, trivial⟩
 ·have hScur := hS
  obtain rfl : 25 = i := by omega
  have hS := hScur
  clear hScur
  refine wp_exit (then_exit (then_exit (block_exit (then_n (s0 [2] [1] 3 hS fun hS => ?_)))))
  refine wp_ret ?_
  exact fin_y rfl (.inr rfl) hS [.ar .u64 25 (chiA a 25)] [] rfl trivial

def c_rounds : Con := ⟨[], [], .ar .u64 24 RC, []⟩
theorem rounds_ok : ConOk Try.prog 119 (c_rounds) := by
 refine conOk_of rfl (nb := 0) Try.func119 rfl rfl Try.ntmps119 rfl rfl rfl fun g0 w0 ac gs ws hg0 hS => ?_
 have hS := hS.sp
 refine s0 [0] [0] 1 hS fun hS => ?_
 refine s0 [0] [0] 1 hS fun hS => ?_
 refine wp_ret ?_
 exact fin_y rfl (.inr rfl) hS [.ar .u64 24 (upd (upd (upd (upd (upd (upd (upd (upd (upd (upd (upd (upd (upd (upd (upd (upd (upd (upd (upd (upd (upd (upd (upd (upd (fun _ => 0) 0 1) 1 32898) 2 9223372036854808714) 3 9223372039002292224) 4 32907) 5 2147483649) 6 9223372039002292353) 7 9223372036854808585) 8 138) 9 136) 10 2147516425) 11 2147483658) 12 2147516555) 13 9223372036854775947) 14 9223372036854808713) 15 9223372036854808579) 16 9223372036854808578) 17 9223372036854775936) 18 32778) 19 9223372039002259466) 20 9223372039002292353) 21 9223372036854808704) 22 2147483649) 23 9223372039002292232)] [] rfl trivial

def c_perm (a : Nat → Int) : Con := ⟨[.ar .u64 25 a], [], .ar .u64 25 (perm a), []⟩
theorem perm_ok (a : Nat → Int) : ConOk Try.prog 97 (c_perm a) := by
 refine conOk_of rfl (nb := 0) Try.func97 rfl rfl Try.ntmps97 rfl rfl rfl fun g0 w0 ac gs ws hg0 hS => ?_
 have hS := hS.sp
 refine s0 [1, 2] [0, 1] 2 hS fun hS => ?_
 refine s0 [2, 3] [1, 2] 3 hS fun hS => ?_
 refine s0 [2, 3, 4] [1, 2, 3] 4 hS fun hS => ?_
 refine wp_seq (sA [(0, .call ⟨119, (c_rounds), [], []⟩)] ⟨rounds_ok, trivial⟩ (fun C => [ndC C 0]) [2, 3, 4, 11, 12] [1, 2, 3] 4 ⟨rfl, trivial⟩ hS fun hS => ?_)
 refine wp_block (loop_y (ι := Nat × (Nat → Int)) hg0 hS (fun z_ => match z_ with | (i, f) => 24 - i) (fun z_ => match z_ with | (i, f) => [(2, .cp 1 0), (3, .cp 2 0), (4, .cp 3 0), (11, .ar .u64 24 RC), (12, vi ((i : Nat) : Int))]) (fun z_ => match z_ with | (i, f) => [(1, .ob 137 (chain [.ar .u64 25 (fun _ => 0)])), (2, .ob 155 (chain [.ar .u64 25 f])), (3, .ob 158 (chain [.v (.func (.func 116) #[] #[]), .v (.func (.func 117) #[] #[]), .v (.func (.func 118) #[] #[])]))]) (fun z_ => match z_ with | (i, f) => (i ≤ 24) ∧ (f = perA a i) ∧ True) 4 (0, a) [(1, 1), (2, 2), (3, 3)] ⟨omm, rfl, trivial⟩ ?_)
 rintro ⟨i, f⟩ ac gs ws ⟨hi, hf, _⟩ hS
 refine s0 [2, 3, 4, 11, 12, 13] [1, 2, 3] 4 hS fun hS => ?_
 refine wp_seq ?_
 refine if_d ((i : Int) < 24) hS (fun h1 => ?_) (fun h1 => ?_)
 ·refine wp_skip (then_n (wp_seq (wp_block (sA [] trivial (fun _ => [(0 : Int) ≤ (i : Int) ∧ ((i : Int) : Int) < 24]) [2, 3, 4, 6, 11, 12] [1, 2, 3] 4 ⟨by omega, trivial⟩ hS fun hS => ?_))))
  refine wp_seq (s0 [2, 3, 4, 6, 11, 12, 15, 16] [1, 2, 3] 4 hS fun hS => ?_)
  refine wp_block (loop_y (ι := Nat × (Nat → Int)) hg0 hS (fun z_ => match z_ with | (j, g) => 3 - j) (fun z_ => match z_ with | (j, g) => [(2, .cp 1 0), (3, .cp 2 0), (4, .cp 3 0), (6, .v (.int .u64 (RC i))), (11, .ar .u64 24 RC), (12, vi (i : Int)), (15, .ag (chain [.v (.func (.func 116) #[] #[]), .v (.func (.func 117) #[] #[]), .v (.func (.func 118) #[] #[])])), (16, vi ((j : Nat) : Int))]) (fun z_ => match z_ with | (j, g) => [(1, .ob 137 (chain [.ar .u64 25 (fun _ => 0)])), (2, .ob 155 (chain [.ar .u64 25 g])), (3, .ob 158 (chain [.v (.func (.func 116) #[] #[]), .v (.func (.func 117) #[] #[]), .v (.func (.func 118) #[] #[])]))]) (fun z_ => match z_ with | (j, g) => (j ≤ 3) ∧ (g = kst f j) ∧ True) 4 (0, f) [(1, 1), (2, 2), (3, 3)] ⟨omm, rfl, trivial⟩ ?_)
  rintro ⟨j, g⟩ ac gs ws ⟨hj, hg, _⟩ hS
  refine s0 [2, 3, 4, 6, 11, 12, 15, 16, 17] [1, 2, 3] 4 hS fun hS => ?_
  refine wp_seq ?_
  refine if_d ((j : Int) < 3) hS (fun h2 => ?_) (fun h2 => ?_)
  ·have hScur := hS
   rcases (by omega : j = 0 ∨ j = 1 ∨ j = 2) with rfl | rfl | rfl
   ·have hS := hScur
    clear hScur
    refine wp_skip (then_n (wp_seq (wp_block (sA [] trivial (fun _ => [(0 : Int) ≤ 0 ∧ (0 : Int) < 3]) [2, 3, 4, 6, 8, 11, 12, 15, 16] [1, 2, 3] 4 ⟨by omega, trivial⟩ hS fun hS => ?_))))
    refine rA [(1, .ov (.ar .u64 25 g)), (2, .call ⟨116, (c_theta g), [], []⟩)] ⟨theta_ok _, trivial⟩ (fun C => [(.ar .u64 25 g : D) = (.ar .u64 25 g), ndC C 2]) [2, 3, 4, 6, 11, 12, 15, 16] [1, 2, 3] 4 ⟨rfl, rfl, trivial⟩ hS fun hS => ?_
    refine block_n (then_n (r0 [2, 3, 4, 6, 11, 12, 15, 16] [1, 2, 3] 4 hS fun hS => ?_))
    refine then_n ?_
    exact next_y hg0 hS (s := (0, g)) (1, theta g) [(1, 1), (2, 2), (3, 3)] (show 3 - 1 < 3 - 0 from by omega) ⟨omm, (kst_s _ _ _ hg), trivial⟩
   ·have hS := hScur
    clear hScur
    refine wp_skip (then_n (wp_seq (wp_block (sA [] trivial (fun _ => [(0 : Int) ≤ 1 ∧ (1 : Int) < 3]) [2, 3, 4, 6, 8, 11, 12, 15, 16] [1, 2, 3] 4 ⟨by omega, trivial⟩ hS fun hS => ?_))))
    refine rA [(1, .ov (.ar .u64 25 g)), (2, .call ⟨117, (c_rho g), [], []⟩)] ⟨rho_ok _, trivial⟩ (fun C => [(.ar .u64 25 g : D) = (.ar .u64 25 g), ndC C 2]) [2, 3, 4, 6, 11, 12, 15, 16] [1, 2, 3] 4 ⟨rfl, rfl, trivial⟩ hS fun hS => ?_
    refine block_n (then_n (r0 [2, 3, 4, 6, 11, 12, 15, 16] [1, 2, 3] 4 hS fun hS => ?_))
    refine then_n ?_
    exact next_y hg0 hS (s := (1, g)) (2, rho g) [(1, 1), (2, 2), (3, 3)] (show 3 - 2 < 3 - 1 from by omega) ⟨omm, (kst_s _ _ _ hg), trivial⟩
   ·have hS := hScur
    clear hScur
    refine wp_skip (then_n (wp_seq (wp_block (sA [] trivial (fun _ => [(0 : Int) ≤ 2 ∧ (2 : Int) < 3]) [2, 3, 4, 6, 8, 11, 12, 15, 16] [1, 2, 3] 4 ⟨by omega, trivial⟩ hS fun hS => ?_))))
    refine rA [(1, .ov (.ar .u64 25 g)), (2, .call ⟨118, (c_chi g), [], []⟩)] ⟨chi_ok _, trivial⟩ (fun C => [(.ar .u64 25 g : D) = (.ar .u64 25 g), ndC C 2]) [2, 3, 4, 6, 11, 12, 15, 16] [1, 2, 3] 4 ⟨rfl, rfl, trivial⟩ hS fun hS => ?_
    refine block_n (then_n (r0 [2, 3, 4, 6, 11, 12, 15, 16] [1, 2, 3] 4 hS fun hS => ?_))
    refine then_n ?_
    exact next_y hg0 hS (s := (2, g)) (3, chi g) [(1, 1), (2, 2), (3, 3)] (show 3 - 3 < 3 - 2 from by omega) ⟨omm, (kst_s _ _ _ hg), trivial⟩
  ·have hScur := hS
   obtain rfl : 3 = j := by omega
   have hS := hScur
   clear hScur
   refine wp_exit (then_exit (then_exit (block_exit (then_n (rA [] trivial (fun _ => [(0 : Int) ≤ 0 ∧ (0 : Int) < 25, (0 : Int) ≤ 0 ∧ (0 : Int) < 25]) [2, 3, 4, 11, 12] [1, 2, 3] 4 ⟨by omega, by omega, trivial⟩ hS fun hS => ?_)))))
   refine block_n (then_n (rA [(0, .oi ((i + 1 : Nat) : Int))] trivial (fun _ => [iadd .i64 (i : Int) 1 = ((i + 1 : Nat) : Int)]) [2, 3, 4, 11, 12] [1, 2, 3] 4 ⟨by rw [iadd64 omm omm]; omega, trivial⟩ hS fun hS => ?_))
   refine then_n ?_
   exact next_y hg0 hS (s := (i, f)) (i + 1, upd g 0 (ixor .u64 (g 0) (RC i))) [(1, 1), (2, 2), (3, 3)] (show 24 - (i + 1) < 24 - i from by omega) ⟨omm, (per_s a _ _ i hf hg), trivial⟩
 ·have hScur := hS
  obtain rfl : 24 = i := by omega
  obtain rfl : perm a = f := Eq.symm hf
  have hS := hScur
  clear hScur
  refine wp_exit (then_exit (then_exit (block_exit (then_n (s0 [2] [1] 4 hS fun hS => ?_)))))
  refine wp_ret ?_
  exact fin_y rfl (.inr rfl) hS [.ar .u64 25 (perm a)] [] rfl trivial

end
end Go.Sx.Try
namespace Go.Sx
open Go.Mi Go.RowKit
theorem cat_step (l : List (List Int)) (j : Nat) (h : j < l.length) : (l.take (j + 1)).flatten = (l.take j).flatten ++ l.getD j (rz [.sl (.int .u8)]) := by
 rw [List.take_add_one, List.flatten_append, List.getElem?_eq_getElem h]
 simp [List.getD, List.getElem?_eq_getElem h]
 rfl
theorem cat_len (l : List (List Int)) (j : Nat) (h : j < l.length) : (l.take (j + 1)).flatten.length = (l.take j).flatten.length + (l.getD j (rz [.sl (.int .u8)])).length := by
 rw [cat_step l j h, List.length_append]
theorem flat_take_le (l : List (List Int)) (j : Nat) : (l.take j).flatten.length ≤ l.flatten.length := by
 have h : l.flatten = (l.take j).flatten ++ (l.drop j).flatten := by rw [← List.flatten_append, List.take_append_drop]
 rw [h, List.length_append]
 omega
theorem cat_le {l : List (List Int)} {j c : Nat} (h : j < l.length) (hc : l.flatten.length ≤ c) : (l.take j).flatten.length + (l.getD j (rz [.sl (.int .u8)])).length ≤ c := by
 rw [← cat_len l j h]
 exact Nat.le_trans (flat_take_le l _) hc
def xin (b : List Int) (f : Nat → Int) : Nat → Nat → Int
 | 0 => f
 | i + 1 => upd (xin b f i) (i / 8) (ixor .u64 (xin b f i (i / 8)) (ishl .u64 (IntKind.wrap .u64 (b.getD i 0)) ((8 * (i % 8) : Nat) : Int)))
def soakN (p : List Int) (r : Nat) : Nat → Nat → Int
 | 0 => fun _ => 0
 | k + 1 => perm (xin (p.drop (k * r)) (soakN p r k) r)
def padZ (r : Nat) (e : Int) (l : List (List Int)) : List Int := (l.flatten ++ [e]) ++ List.replicate ((r - (l.flatten ++ [e]).length % r) % r) (0 : Int)
def pad (r : Nat) (e : Int) (l : List (List Int)) : List Int := (padZ r e l).set ((padZ r e l).length - 1) (ior .u8 ((padZ r e l).getD ((padZ r e l).length - 1) 0) 128)
def spg (r : Nat) (e : Int) (l : List (List Int)) : Nat → Int := soakN (pad r e l) r ((pad r e l).length / r)
theorem padZ_len {r : Nat} (h : 0 < r) (e : Int) (l : List (List Int)) : ∃ N, 0 < N ∧ (padZ r e l).length = N * r := by
 unfold padZ
 generalize hb : l.flatten ++ [e] = b
 have hp : 0 < b.length := by rw [← hb]; simp
 rw [List.length_append, List.length_replicate]
 have h1 := Nat.div_add_mod b.length r
 have h2 := Nat.mod_lt b.length h
 by_cases h3 : b.length % r = 0
 ·rw [h3, Nat.sub_zero, Nat.mod_self]
  refine ⟨b.length / r, ?_, ?_⟩
  ·rcases Nat.eq_zero_or_pos (b.length / r) with h4 | h4
   ·rw [h4, h3] at h1; simp at h1; omega
   ·exact h4
  ·rw [h3] at h1; rw [Nat.mul_comm]; omega
 ·rw [Nat.mod_eq_of_lt (a := r - b.length % r) (by omega)]
  refine ⟨b.length / r + 1, Nat.succ_pos _, ?_⟩
  rw [Nat.succ_mul, Nat.mul_comm]
  omega
theorem pad_len {r : Nat} {e : Int} {l : List (List Int)} : (pad r e l).length = (padZ r e l).length := by simp [pad]
theorem padZ_le {r : Nat} (h : 0 < r) (e : Int) (l : List (List Int)) : (padZ r e l).length ≤ l.flatten.length + 1 + r := by
 unfold padZ
 rw [List.length_append, List.length_replicate, List.length_append]
 have := Nat.mod_lt (r - (l.flatten ++ [e]).length % r) h
 simp only [List.length_append, List.length_cons, List.length_nil] at this ⊢
 omega
theorem blk_at {p b : List Int} {r k N : Nat} (hr : 0 < r) (hN : p.length = N * r) (hb : b = p.drop (k * r)) (hk : k ≤ N) (h : 0 < b.length) : k < N ∧ r ≤ b.length := by
 rw [hb, List.length_drop, hN, ← Nat.sub_mul] at h ⊢
 rcases Nat.eq_zero_or_pos (N - k) with h1 | h1
 ·rw [h1] at h; simp at h
 ·exact ⟨by omega, Nat.le_mul_of_pos_left r h1⟩
theorem blk_end {p b : List Int} {r k N : Nat} (hr : 0 < r) (hN : p.length = N * r) (hb : b = p.drop (k * r)) (hk : k ≤ N) (h : ¬ 0 < b.length) : k = p.length / r := by
 rw [hb, List.length_drop, hN, ← Nat.sub_mul] at h
 rw [hN, Nat.mul_div_cancel _ hr]
 rcases Nat.eq_zero_or_pos (N - k) with h1 | h1
 ·omega
 ·exact absurd (Nat.mul_pos h1 hr) h
theorem blk_next {p b : List Int} {r k : Nat} (hb : b = p.drop (k * r)) : b.drop r = p.drop ((k + 1) * r) := by
 rw [hb, List.drop_drop, Nat.succ_mul]
theorem blk_soak {p b : List Int} {r k : Nat} {f g : Nat → Int} (hb : b = p.drop (k * r)) (hf : f = soakN p r k) (hg : g = xin b f r) : perm g = soakN p r (k + 1) := by
 rw [hg, hf, hb]; rfl
def rdA (r : Nat) (f : Nat → Int) (a : Nat) : Nat → (Nat → Int) × Nat × List Int
 | 0 => (f, a, [])
 | j + 1 => match rdA r f a j with
  | (g, b, o) => if b = r then (perm g, 1, o ++ [IntKind.wrap .u8 (ishr .u64 (perm g 0) 0)]) else (g, b + 1, o ++ [IntKind.wrap .u8 (ishr .u64 (g (b / 8)) ((8 * (b % 8) : Nat) : Int))])
theorem rd_next1 {r : Nat} {f0 : Nat → Int} {a0 : Nat} {f : Nat → Int} {a : Nat} {o : List Int} (hq : (f, a, o) = rdA r f0 a0 o.length) (ha : a = r) : (perm f, 1, o ++ [IntKind.wrap .u8 (ishr .u64 (perm f 0) 0)]) = rdA r f0 a0 (o ++ [IntKind.wrap .u8 (ishr .u64 (perm f 0) 0)]).length := by
 rw [List.length_append]
 show _ = (match rdA r f0 a0 o.length with
  | (g, b, o) => if b = r then (perm g, 1, o ++ [IntKind.wrap .u8 (ishr .u64 (perm g 0) 0)]) else (g, b + 1, o ++ [IntKind.wrap .u8 (ishr .u64 (g (b / 8)) ((8 * (b % 8) : Nat) : Int))]))
 rw [← hq]
 simp only [if_pos ha]
theorem rd_next2 {r : Nat} {f0 : Nat → Int} {a0 : Nat} {f : Nat → Int} {a : Nat} {o : List Int} (hq : (f, a, o) = rdA r f0 a0 o.length) (ha : ¬ a = r) : (f, a + 1, o ++ [IntKind.wrap .u8 (ishr .u64 (f (a / 8)) ((8 * (a % 8) : Nat) : Int))]) = rdA r f0 a0 (o ++ [IntKind.wrap .u8 (ishr .u64 (f (a / 8)) ((8 * (a % 8) : Nat) : Int))]).length := by
 rw [List.length_append]
 show _ = (match rdA r f0 a0 o.length with
  | (g, b, o) => if b = r then (perm g, 1, o ++ [IntKind.wrap .u8 (ishr .u64 (perm g 0) 0)]) else (g, b + 1, o ++ [IntKind.wrap .u8 (ishr .u64 (g (b / 8)) ((8 * (b % 8) : Nat) : Int))]))
 rw [← hq]
 simp only [if_neg ha]
theorem rd_end {r : Nat} {f0 : Nat → Int} {a0 n : Nat} {f : Nat → Int} {a : Nat} {o : List Int} (hq : (f, a, o) = rdA r f0 a0 o.length) (hn : o.length = n) : f = (rdA r f0 a0 n).1 ∧ a = (rdA r f0 a0 n).2.1 ∧ o = (rdA r f0 a0 n).2.2 := by
 rw [← hn, ← hq]; exact ⟨rfl, rfl, rfl⟩
theorem rd_len (r : Nat) (f0 : Nat → Int) (a0 : Nat) : ∀ n, (rdA r f0 a0 n).2.2.length = n
 | 0 => rfl
 | n + 1 => by
  have ih := rd_len r f0 a0 n
  show (match rdA r f0 a0 n with
   | (g, b, o) => if b = r then (perm g, 1, o ++ [IntKind.wrap .u8 (ishr .u64 (perm g 0) 0)]) else (g, b + 1, o ++ [IntKind.wrap .u8 (ishr .u64 (g (b / 8)) ((8 * (b % 8) : Nat) : Int))])).2.2.length = n + 1
  revert ih
  generalize rdA r f0 a0 n = q
  obtain ⟨g, b, o⟩ := q
  intro ih
  simp only at ih ⊢
  split <;> simp [ih]
theorem rd_0 (r : Nat) (f0 : Nat → Int) (a0 : Nat) : (f0, a0, []) = rdA r f0 a0 0 := rfl
theorem rdA_s (r : Nat) (f : Nat → Int) (a j : Nat) : rdA r f a (j + 1) = match rdA r f a j with
  | (g, b, o) => if b = r then (perm g, 1, o ++ [IntKind.wrap .u8 (ishr .u64 (perm g 0) 0)]) else (g, b + 1, o ++ [IntKind.wrap .u8 (ishr .u64 (g (b / 8)) ((8 * (b % 8) : Nat) : Int))]) := rfl
attribute [irreducible] rdA
end Go.Sx
namespace Go.Sx.Try
open Go.Mi Go.RowKit Go.Sx Go.Proofs
noncomputable section
def c_grow (n : Nat) : Con := ⟨[.v (.slice none 0 0), vi (n : Int)], [], .sk 0, [(0, .sl 5 [.int .u8] [])]⟩
theorem grow_ok (n : Nat) (h : n ≤ 140737488355328) : ConOk Try.prog 102 (c_grow n) := by
 refine conOk_of rfl (nb := 0) Try.func102 rfl rfl Try.ntmps102 rfl rfl rfl fun g0 w0 ac gs ws hg0 hS => ?_
 have hS := hS.sp
 refine s0 [0, 1, 4] [] 0 hS fun hS => ?_
 refine wp_seq (sA [(1, .ob false)] trivial (fun _ => [(decide ((n : Int) < 0)) = false]) [0, 1, 4, 6] [] 0 ⟨decide_eq_false omm, trivial⟩ hS fun hS => ?_)
 refine cond_f hS ?_
 refine wp_skip (then_n (wp_seq (sA [(6, .oi (n : Int))] trivial (fun _ => [isub .i64 (n : Int) 0 = (n : Int)]) [0, 1, 4] [] 0 ⟨by rw [isub64 omm omm]; omega, trivial⟩ hS fun hS => ?_)))
 refine s0 [0, 1, 4, 16] [] 0 hS fun hS => ?_
 refine if_d ((0 : Int) < (n : Int)) hS (fun h1 => ?_) (fun h1 => ?_)
 ·refine rA [] trivial (fun _ => [bndP none (some 0) none 0 0, (0 : Int) ≤ (n : Int), ([] : List (RT [.int .u8])).length + n ≤ 9223372036854775807, (([] : List (RT [.int .u8])).length + n) * 1 ≤ 140737488355328, (0 : Int) ≤ 0 ∧ (0 : Int) ≤ ([] ++ List.replicate n (0 : Int)).length]) [0, 4] [1] 2 ⟨⟨by simp only [nnI] <;> omega, by simp only [nnI] <;> omega, by simp only [nnI] <;> omega, by simp, by simp only [bl] <;> omega, by simp only [bl] <;> omega, by simp only [bl] <;> omega⟩, by omega, by simp <;> omega, by simp <;> omega, by simp, trivial⟩ hS fun hS => ?_
  refine then_n (s0 [4] [1] 2 hS fun hS => ?_)
  refine wp_ret ?_
  obtain ⟨gs, hS⟩ := hS.rn [(0, 1)] [(4, .sk 0)] [(0, .sl 5 [.int .u8] (([] ++ List.replicate n (0 : Int)).take 0))] 1 hg0
  exact fin_y rfl (.inr rfl) hS [.sk 0] [(0, some (.sl 5 [.int .u8] (([] ++ List.replicate n (0 : Int)).take 0)))] rfl ⟨rfl, trivial⟩
 ·refine wp_skip (then_n (s0 [4] [] 0 hS fun hS => ?_))
  refine wp_ret ?_
  obtain ⟨gs, hS⟩ := hS.nilk 4 5 [.int .u8]
  exact fin_y rfl (.inr rfl) hS [.sk 0] [(0, some (.sl 5 [.int .u8] []))] rfl ⟨rfl, trivial⟩

def c_concat (l : List (List Int)) : Con := ⟨[.ls false [.sl (.int .u8)] l], [], .sk 0, [(0, .sl 5 [.int .u8] l.flatten)]⟩
theorem concat_ok (l : List (List Int)) (h : l.flatten.length ≤ 140737488355328) : ConOk Try.prog 75 (c_concat l) := by
 refine conOk_of rfl (nb := 0) Try.func75 rfl rfl Try.ntmps75 rfl rfl rfl fun g0 w0 ac gs ws hg0 hS => ?_
 have hlen0 : l.length ≤ 9223372036854775807 := hS.len 0 rfl
 have hS := hS.sp
 refine s0 [0, 2] [] 0 hS fun hS => ?_
 refine s0 [0, 2, 3] [] 0 hS fun hS => ?_
 refine wp_seq (s0 [0, 2, 3, 9, 10, 11] [] 0 hS fun hS => ?_)
 refine wp_block (loop_y (ι := Nat × Nat) hg0 hS (fun z_ => match z_ with | (i, c) => l.length - i) (fun z_ => match z_ with | (i, c) => [(0, .ls false [.sl (.int .u8)] l), (2, .v (.slice none 0 0)), (3, vi ((c : Nat) : Int)), (9, .ls false [.sl (.int .u8)] l), (10, vi ((l.length : Nat) : Int)), (11, vi ((i : Nat) : Int))]) (fun z_ => match z_ with | (i, c) => []) (fun z_ => match z_ with | (i, c) => (i ≤ l.length) ∧ (c = (l.take i).flatten.length) ∧ True) 0 (0, 0) [] ⟨omm, rfl, trivial⟩ ?_)
 rintro ⟨i, c⟩ ac gs ws ⟨hi, hc, _⟩ hS
 refine s0 [0, 2, 3, 9, 10, 11, 12] [] 0 hS fun hS => ?_
 refine wp_seq ?_
 refine if_d ((i : Int) < ((l.length : Nat) : Int)) hS (fun h1 => ?_) (fun h1 => ?_)
 ·refine wp_skip (then_n (wp_seq (wp_block (sA [] trivial (fun _ => [(0 : Int) ≤ (i : Int) ∧ (i : Int) < ((l.length : Nat) : Int)]) [0, 2, 3, 5, 9, 10, 11] [] 0 ⟨by omega, trivial⟩ hS fun hS => ?_))))
  refine wp_seq ?_
  have hb := cat_le (l := l) (j := i) omm h
  rw [← hc] at hb
  refine rA [(3, .oi ((c + ((l.getD i (rz [.sl (.int .u8)])).length) : Nat) : Int))] trivial (fun _ => [iadd .i64 (c : Int) (((l.getD i (rz [.sl (.int .u8)])).length : Nat) : Int) = ((c + ((l.getD i (rz [.sl (.int .u8)])).length) : Nat) : Int)]) [0, 2, 3, 9, 10, 11] [] 0 ⟨by rw [iadd64 omm omm]; omega, trivial⟩ hS fun hS => ?_
  refine then_n (sA [(1, .ob false)] trivial (fun _ => [(decide (((c + ((l.getD i (rz [.sl (.int .u8)])).length) : Nat) : Int) < 0)) = false]) [0, 2, 3, 9, 10, 11, 20] [] 0 ⟨decide_eq_false omm, trivial⟩ hS fun hS => ?_)
  refine cond_f hS ?_
  refine wp_skip (block_n (then_n (rA [(0, .oi ((i + 1 : Nat) : Int))] trivial (fun _ => [iadd .i64 (i : Int) 1 = ((i + 1 : Nat) : Int)]) [0, 2, 3, 9, 10, 11] [] 0 ⟨by rw [iadd64 omm omm]; omega, trivial⟩ hS fun hS => ?_)))
  refine then_n ?_
  exact next_y hg0 hS (s := (i, c)) (i + 1, c + ((l.getD i (rz [.sl (.int .u8)])).length)) [] (show l.length - (i + 1) < l.length - i from by omega) ⟨omm, (by rw [cat_len l i omm, ← hc]), trivial⟩
 ·have hScur := hS
  obtain rfl : l.length = i := by omega
  obtain rfl : l.flatten.length = c := Eq.symm (by rw [hc, List.take_length])
  have hS := hScur
  clear hScur
  refine wp_exit (then_exit (then_exit (block_exit (then_n (sA [(1, .call ⟨102, (c_grow l.flatten.length), [], [(0, 0)]⟩)] ⟨grow_ok _ omm, trivial⟩ (fun C => [ndC C 1]) [0, 2, 6] [0] 1 ⟨rfl, trivial⟩ hS fun hS => ?_)))))
  refine wp_seq (s0 [2, 6, 25, 26, 27] [0] 1 hS fun hS => ?_)
  refine wp_block (loop_y (ι := Nat × (List Int)) hg0 hS (fun z_ => match z_ with | (j, o) => l.length - j) (fun z_ => match z_ with | (j, o) => [(2, .v (.slice none 0 0)), (6, .sk 0), (25, .ls false [.sl (.int .u8)] l), (26, vi ((l.length : Nat) : Int)), (27, vi ((j : Nat) : Int))]) (fun z_ => match z_ with | (j, o) => [(0, .sl 5 [.int .u8] o)]) (fun z_ => match z_ with | (j, o) => (j ≤ l.length) ∧ (o = (l.take j).flatten) ∧ True) 1 (0, []) [(0, 0)] ⟨omm, rfl, trivial⟩ ?_)
  rintro ⟨j, o⟩ ac gs ws ⟨hj, ho, _⟩ hS
  refine s0 [2, 6, 25, 26, 27, 28] [0] 1 hS fun hS => ?_
  refine wp_seq ?_
  refine if_d ((j : Int) < ((l.length : Nat) : Int)) hS (fun h2 => ?_) (fun h2 => ?_)
  ·refine wp_skip (then_n (wp_seq (wp_block (sA [] trivial (fun _ => [(0 : Int) ≤ (j : Int) ∧ (j : Int) < ((l.length : Nat) : Int)]) [2, 6, 8, 25, 26, 27] [0] 1 ⟨by omega, trivial⟩ hS fun hS => ?_))))
   have hb := cat_le (l := l) (j := j) omm h
   rw [← ho] at hb
   refine rA [] trivial (fun _ => [o.length + (l.getD j (rz [.sl (.int .u8)])).length ≤ 9223372036854775807, (o.length + (l.getD j (rz [.sl (.int .u8)])).length) * 1 ≤ 140737488355328]) [2, 6, 25, 26, 27] [1] 2 ⟨by omega, by omega, trivial⟩ hS fun hS => ?_
   refine block_n (then_n (rA [(0, .oi ((j + 1 : Nat) : Int))] trivial (fun _ => [iadd .i64 (j : Int) 1 = ((j + 1 : Nat) : Int)]) [2, 6, 25, 26, 27] [1] 2 ⟨by rw [iadd64 omm omm]; omega, trivial⟩ hS fun hS => ?_))
   refine then_n ?_
   exact next_y hg0 hS (s := (j, o)) (j + 1, o ++ (l.getD j (rz [.sl (.int .u8)]))) [(0, 1)] (show l.length - (j + 1) < l.length - j from by omega) ⟨omm, (by rw [cat_step l j omm, ← ho]), trivial⟩
  ·have hScur := hS
   obtain rfl : l.length = j := by omega
   obtain rfl : l.flatten = o := Eq.symm (by rw [ho, List.take_length])
   have hS := hScur
   clear hScur
   refine wp_exit (then_exit (then_exit (block_exit (then_n (s0 [2] [0] 1 hS fun hS => ?_)))))
   refine wp_ret ?_
   exact fin_y rfl (.inr rfl) hS [.sk 0] [(0, some (.sl 5 [.int .u8] l.flatten))] rfl ⟨rfl, trivial⟩

def c_cat (l : List (List Int)) : Con := ⟨[.ls false [.sl (.int .u8)] l], [], .sk 0, [(0, .sl 5 [.int .u8] l.flatten)]⟩
theorem cat_ok (l : List (List Int)) (h : l.flatten.length ≤ 140737488355328) : ConOk Try.prog 45 (c_cat l) := by
 refine conOk_of rfl (nb := 0) Try.func45 rfl rfl Try.ntmps45 rfl rfl rfl fun g0 w0 ac gs ws hg0 hS => ?_
 have hlen0 : l.length ≤ 9223372036854775807 := hS.len 0 rfl
 have hS := hS.sp
 refine s0 [0, 2] [] 0 hS fun hS => ?_
 refine sA [(1, .call ⟨75, (c_concat l), [], [(0, 0)]⟩)] ⟨concat_ok _ (by first | omega | (simp only [List.flatten_cons, List.flatten_nil, List.length_append, List.length_cons, List.length_nil, List.length_take, List.length_drop, List.length_replicate] <;> omega) | (simp <;> omega)), trivial⟩ (fun C => [ndC C 1]) [2] [0] 1 ⟨rfl, trivial⟩ hS fun hS => ?_
 refine wp_ret ?_
 exact fin_y rfl (.inr rfl) hS [.sk 0] [(0, some (.sl 5 [.int .u8] l.flatten))] rfl ⟨rfl, trivial⟩

end
end Go.Sx.Try
namespace Go.Sx.Try
open Go.Mi Go.RowKit Go.Sx Go.Proofs
noncomputable section
def c_soaked (r : Nat) (e : Int) (l : List (List Int)) : Con := ⟨[vi (r : Int), .v (.int .u8 e), .ls false [.sl (.int .u8)] l], [], .cp 0 0, [(0, .ob 141 (chain [.ar .u64 25 (spg r e l), vi (r : Int), vi 0]))]⟩
theorem soaked_ok (r : Nat) (e : Int) (l : List (List Int)) (hr : 0 < r) (hr2 : r ≤ 200) (h : l.flatten.length ≤ 140000000000000) : ConOk Try.prog 67 (c_soaked r e l) := by
 refine conOk_of rfl (nb := 0) Try.func67 rfl rfl Try.ntmps67 rfl rfl rfl fun g0 w0 ac gs ws hg0 hS => ?_
 have hlen2 : l.length ≤ 9223372036854775807 := hS.len 2 rfl
 have hS := hS.sp
 refine s0 [0, 1, 2, 6] [] 0 hS fun hS => ?_
 refine sA [(1, .call ⟨45, (c_cat l), [], [(0, 0)]⟩)] ⟨cat_ok _ (by first | omega | (simp only [List.flatten_cons, List.flatten_nil, List.length_append, List.length_cons, List.length_nil, List.length_take, List.length_drop, List.length_replicate] <;> omega) | (simp <;> omega)), trivial⟩ (fun C => [ndC C 1, l.flatten.length + [e].length ≤ 9223372036854775807, (l.flatten.length + [e].length) * 1 ≤ 140737488355328]) [0, 6, 7] [1] 2 ⟨rfl, by first | omega | (simp only [List.length_append, List.length_cons, List.length_nil]; omega), by first | omega | (simp only [List.length_append, List.length_cons, List.length_nil]; omega), trivial⟩ hS fun hS => ?_
 refine wp_seq ?_
 have hm := Nat.mod_lt (l.flatten ++ [e]).length hr
 have hm2 := Nat.mod_lt (r - (l.flatten ++ [e]).length % r) hr
 have hl1 : (l.flatten ++ [e]).length = l.flatten.length + 1 := by simp
 refine rA [(5, .oi ((((l.flatten ++ [e]).length) % r : Nat) : Int)), (6, .oi ((r - (((l.flatten ++ [e]).length) % r) : Nat) : Int)), (8, .oi (((r - (((l.flatten ++ [e]).length) % r)) % r : Nat) : Int))] trivial (fun _ => [irem (((l.flatten ++ [e]).length : Nat) : Int) (r : Int) = ((((l.flatten ++ [e]).length) % r : Nat) : Int), ((r : Int) : Int) ≠ 0, isub .i64 (r : Int) ((((l.flatten ++ [e]).length) % r : Nat) : Int) = ((r - (((l.flatten ++ [e]).length) % r) : Nat) : Int), irem ((r - (((l.flatten ++ [e]).length) % r) : Nat) : Int) (r : Int) = (((r - (((l.flatten ++ [e]).length) % r)) % r : Nat) : Int), ((r : Int) : Int) ≠ 0, (0 : Int) ≤ (((r - (((l.flatten ++ [e]).length) % r)) % r : Nat) : Int), (l.flatten ++ [e]).length + ((r - (((l.flatten ++ [e]).length) % r)) % r) ≤ 9223372036854775807, ((l.flatten ++ [e]).length + ((r - (((l.flatten ++ [e]).length) % r)) % r)) * 1 ≤ 140737488355328]) [0, 6, 7] [2] 3 ⟨by rw [irem64 omm]; exact (Int.natCast_emod _ _).symm, by omega, by rw [isub64 omm omm]; omega, by rw [irem64 omm]; exact (Int.natCast_emod _ _).symm, by omega, by omega, by first | omega | (simp only [List.length_append, List.length_cons, List.length_nil]; omega), by first | omega | (simp only [List.length_append, List.length_cons, List.length_nil]; omega), trivial⟩ hS fun hS => ?_
 obtain ⟨p, hp⟩ : ∃ p, p = padZ r e l := ⟨_, rfl⟩
 have hS := (hS.rv [(0, vi (r : Int)), (6, .v (.pointer none)), (7, .sk 2)] [(2, some (.sl 5 [.int .u8] p))] (by subst hp; kernel_rfl) (by subst hp; kernel_rfl)).sp
 obtain ⟨N, hN0, hN⟩ := padZ_len hr e l
 have hp1 : 1 ≤ (padZ r e l).length := by rw [hN]; exact Nat.mul_pos hN0 hr
 have hpl := padZ_le hr e l
 rw [← hp] at hN hp1 hpl
 refine then_n (wp_seq (rA [(3, .oi ((p.length - 1 : Nat) : Int))] trivial (fun _ => [isub .i64 ((p.length : Nat) : Int) 1 = ((p.length - 1 : Nat) : Int), (0 : Int) ≤ ((p.length - 1 : Nat) : Int) ∧ ((p.length - 1 : Nat) : Int) < ((p.length : Nat) : Int), (0 : Int) ≤ ((p.length - 1 : Nat) : Int) ∧ ((p.length - 1 : Nat) : Int) < ((p.length : Nat) : Int)]) [0, 6, 7] [2] 3 ⟨by rw [isub64 omm omm]; omega, by omega, by omega, trivial⟩ hS fun hS => ?_))
 obtain ⟨q, hq⟩ : ∃ q, q = pad r e l := ⟨_, rfl⟩
 have hS := (hS.rv [(0, vi (r : Int)), (6, .v (.pointer none)), (7, .sk 2)] [(2, some (.sl 5 [.int .u8] q))] (by subst hq; subst hp; kernel_rfl) (by subst hq; subst hp; kernel_rfl)).sp
 have hNq : q.length = N * r := by rw [hq, pad_len, ← hp, hN]
 clear hN hp1 hp
 have hql : q.length ≤ 140737488355328 := by rw [hq, pad_len]; exact Nat.le_trans (padZ_le hr e l) omm
 refine then_n (s0 [0, 6, 7, 8] [2, 3] 4 hS fun hS => ?_)
 refine wp_seq (wp_block ?_)
 obtain ⟨gs, hS⟩ := hS.fz 2
 refine loop_y (ι := Nat × (List Int) × (Nat → Int)) hg0 hS (fun z_ => match z_ with | (k, b, f) => N - k) (fun z_ => match z_ with | (k, b, f) => [(0, vi (r : Int)), (6, .v (.pointer none)), (7, lb b), (8, .cp 3 0)]) (fun z_ => match z_ with | (k, b, f) => [(3, .ob 141 (chain [.ar .u64 25 f, vi (r : Int), vi 0]))]) (fun z_ => match z_ with | (k, b, f) => (k ≤ N) ∧ (b = q.drop (k * r)) ∧ (f = soakN q r k) ∧ True) 4 (0, q, fun _ => 0) [(3, 3)] ⟨omm, (by rw [Nat.zero_mul]; rfl), rfl, trivial⟩ ?_
 rintro ⟨k, b, f⟩ ac gs ws ⟨hk, hb, hf, _⟩ hS
 refine wp_seq (s0 [0, 6, 7, 8, 38] [3] 4 hS fun hS => ?_)
 refine if_d ((0 : Int) < ((b.length : Nat) : Int)) hS (fun h1 => ?_) (fun h1 => ?_)
 ·refine wp_skip (then_n (wp_seq (wp_block (wp_seq (wp_seq ?_)))))
  obtain ⟨hkN, hrb⟩ := blk_at hr hNq hb hk omm
  refine r0 [0, 6, 7, 8, 42, 43] [3] 4 hS fun hS => ?_
  refine then_n (wp_block (loop_y (ι := Nat × (Nat → Int)) hg0 hS (fun z_ => match z_ with | (i, g) => r - i) (fun z_ => match z_ with | (i, g) => [(0, vi (r : Int)), (6, .v (.pointer none)), (7, lb b), (8, .cp 3 0), (42, vi (r : Int)), (43, vi ((i : Nat) : Int))]) (fun z_ => match z_ with | (i, g) => [(3, .ob 141 (chain [.ar .u64 25 g, vi (r : Int), vi 0]))]) (fun z_ => match z_ with | (i, g) => (i ≤ r) ∧ (g = xin b f i) ∧ True) 4 (0, f) [(3, 3)] ⟨omm, rfl, trivial⟩ ?_))
  rintro ⟨i, g⟩ ac gs ws ⟨hi, hg, _⟩ hS
  refine s0 [0, 6, 7, 8, 42, 43, 44] [3] 4 hS fun hS => ?_
  refine wp_seq ?_
  refine if_d ((i : Int) < (r : Int)) hS (fun h2 => ?_) (fun h2 => ?_)
  ·refine wp_skip (then_n (wp_seq (wp_block (s0 [0, 6, 7, 8, 9, 42, 43] [3] 4 hS fun hS => ?_))))
   refine rA [(2, .oi ((i / 8 : Nat) : Int)), (13, .oi ((i % 8 : Nat) : Int)), (14, .oi ((8 * (i % 8) : Nat) : Int))] trivial (fun _ => [iquo .i64 (i : Int) 8 = ((i / 8 : Nat) : Int), (8 : Int) ≠ 0, (0 : Int) ≤ ((i / 8 : Nat) : Int) ∧ (((i / 8 : Nat) : Int) : Int) < 25, (0 : Int) ≤ (i : Int) ∧ (i : Int) < ((b.length : Nat) : Int), irem (i : Int) 8 = ((i % 8 : Nat) : Int), (8 : Int) ≠ 0, imul .i64 8 ((i % 8 : Nat) : Int) = ((8 * (i % 8) : Nat) : Int), (0 : Int) ≤ ((8 * (i % 8) : Nat) : Int), (0 : Int) ≤ ((i / 8 : Nat) : Int) ∧ (((i / 8 : Nat) : Int) : Int) < 25]) [0, 6, 7, 8, 42, 43] [3] 4 ⟨by rw [iquo64 omm omm omm]; omega, by omega, by omega, by omega, by rw [irem64 omm]; omega, by omega, by rw [imul64 omm omm]; omega, by omega, by omega, trivial⟩ hS fun hS => ?_
   refine block_n (then_n (rA [(0, .oi ((i + 1 : Nat) : Int))] trivial (fun _ => [iadd .i64 (i : Int) 1 = ((i + 1 : Nat) : Int)]) [0, 6, 7, 8, 42, 43] [3] 4 ⟨by rw [iadd64 omm omm]; omega, trivial⟩ hS fun hS => ?_))
   refine then_n ?_
   exact next_y hg0 hS (s := (i, g)) (i + 1, upd g (i / 8) (ixor .u64 (g (i / 8)) (ishl .u64 (IntKind.wrap .u64 (b.getD i 0)) ((8 * (i % 8) : Nat) : Int)))) [(3, 3)] (show r - (i + 1) < r - i from by omega) ⟨omm, (by rw [hg]; rfl), trivial⟩
  ·have hScur := hS
   obtain rfl : r = i := by omega
   have hS := hScur
   clear hScur
   refine wp_exit (then_exit (then_exit (block_exit (then_n (rA [(4, .ov (.ar .u64 25 g)), (5, .call ⟨97, (c_perm g), [], []⟩)] ⟨perm_ok _, trivial⟩ (fun C => [(.ar .u64 25 g : D) = (.ar .u64 25 g), ndC C 5]) [0, 6, 7, 8] [3] 4 ⟨rfl, rfl, trivial⟩ hS fun hS => ?_)))))
   refine block_n (then_n (rA [] trivial (fun _ => [bndP (some (r : Int)) none none b.length b.length]) [0, 6, 7, 8] [3] 4 ⟨⟨by simp only [nnI] <;> omega, by simp only [nnI] <;> omega, by simp only [nnI] <;> omega, by simp, by simp only [bl] <;> omega, by simp only [bl] <;> omega, by simp only [bl] <;> omega⟩, trivial⟩ hS fun hS => ?_))
   refine then_n ?_
   exact next_y hg0 hS (s := (k, b, f)) (k + 1, b.drop r, perm g) [(3, 3)] (show N - (k + 1) < N - k from by omega) ⟨omm, (blk_next hb), (blk_soak hb hf hg), trivial⟩
 ·have hScur := hS
  obtain rfl : q.length / r = k := Eq.symm (blk_end hr hNq hb hk omm)
  obtain rfl : spg r e l = f := Eq.symm (by rw [hf, hq]; rfl)
  have hS := hScur
  clear hScur
  refine wp_exit (then_exit (then_exit (block_exit (then_n (s0 [6] [3] 4 hS fun hS => ?_)))))
  refine wp_ret ?_
  obtain ⟨gs, hS⟩ := hS.rn [(0, 3)] [(6, .cp 0 0)] [(0, .ob 141 (chain [.ar .u64 25 (spg r e l), vi (r : Int), vi 0]))] 1 hg0
  exact fin_y rfl (.inr rfl) hS [.cp 0 0] [(0, some (.ob 141 (chain [.ar .u64 25 (spg r e l), vi (r : Int), vi 0])))] rfl ⟨rfl, trivial⟩

def c_read (r : Nat) (f : Nat → Int) (a n : Nat) : Con := ⟨[.cp 0 0, vi (n : Int)], [(0, .ob 141 (chain [.ar .u64 25 f, vi (r : Int), vi (a : Int)]))], lb ((rdA r f a n).2.2), [(0, .ob 141 (chain [.ar .u64 25 ((rdA r f a n).1), vi (r : Int), vi (((rdA r f a n).2.1 : Nat) : Int)]))]⟩
theorem read_ok (r : Nat) (f : Nat → Int) (a n : Nat) (hr : 0 < r) (hr2 : r ≤ 200) (har : a ≤ r) (h : n ≤ 140737488355328) : ConOk Try.prog 68 (c_read r f a n) := by
 refine conOk_of rfl (nb := 1) Try.func68 rfl rfl Try.ntmps68 rfl rfl rfl fun g0 w0 ac gs ws hg0 hS => ?_
 have hS := hS.sp
 refine s0 [0, 1, 4] [0] 1 hS fun hS => ?_
 refine wp_seq (wp_block ?_)
 obtain ⟨gs, hS⟩ := hS.nilk 4 5 [.int .u8]
 refine loop_y (ι := (Nat → Int) × Nat × (List Int)) hg0 hS (fun z_ => match z_ with | (g, b, o) => n - o.length) (fun z_ => match z_ with | (g, b, o) => [(0, .cp 0 0), (1, vi (n : Int)), (4, .sk 1)]) (fun z_ => match z_ with | (g, b, o) => [(0, .ob 141 (chain [.ar .u64 25 g, vi (r : Int), vi ((b : Nat) : Int)])), (1, .sl 5 [.int .u8] o)]) (fun z_ => match z_ with | (g, b, o) => (b ≤ r) ∧ (o.length ≤ n) ∧ ((g, b, o) = rdA r f a o.length) ∧ True) 2 (f, a, []) [(0, 0), (1, 1)] ⟨omm, (by simp), (rd_0 r f a), trivial⟩ ?_
 rintro ⟨g, b, o⟩ ac gs ws ⟨hb, ho, hq, _⟩ hS
 refine wp_seq (s0 [0, 1, 4, 8] [0, 1] 2 hS fun hS => ?_)
 refine if_d (((o.length : Nat) : Int) < (n : Int)) hS (fun h1 => ?_) (fun h1 => ?_)
 ·refine wp_skip (then_n (wp_block (wp_seq (s0 [0, 1, 4, 17] [0, 1] 2 hS fun hS => ?_))))
  refine if_d ((b : Int) = (r : Int)) hS (fun h2 => ?_) (fun h2 => ?_)
  ·refine rA [(5, .ov (.ar .u64 25 g)), (6, .call ⟨97, (c_perm g), [], []⟩)] ⟨perm_ok _, trivial⟩ (fun C => [(.ar .u64 25 g : D) = (.ar .u64 25 g), ndC C 6]) [0, 1, 4] [0, 1] 2 ⟨rfl, rfl, trivial⟩ hS fun hS => ?_
   refine then_n (sA [] trivial (fun _ => [(8 : Int) ≠ 0, (0 : Int) ≤ 0 ∧ (0 : Int) < 25, (8 : Int) ≠ 0, (0 : Int) ≤ 0, o.length + [(IntKind.wrap .u8 (ishr .u64 ((perm g) 0) 0))].length ≤ 9223372036854775807, (o.length + [(IntKind.wrap .u8 (ishr .u64 ((perm g) 0) 0))].length) * 1 ≤ 140737488355328]) [0, 1, 4] [0, 2] 3 ⟨by omega, by omega, by omega, by omega, by simp <;> omega, by simp <;> omega, trivial⟩ hS fun hS => ?_)
   refine r0 [0, 1, 4] [0, 2] 3 hS fun hS => ?_
   refine block_n (then_n ?_)
   exact next_y hg0 hS (s := (g, b, o)) (perm g, 1, o ++ [(IntKind.wrap .u8 (ishr .u64 ((perm g) 0) 0))]) [(0, 0), (1, 2)] (by simp <;> omega) ⟨omm, (by simp <;> omega), (by first | exact rd_next1 hq omm | exact rd_next2 hq omm), trivial⟩
  ·refine wp_skip (then_n (sA [(6, .oi ((b / 8 : Nat) : Int)), (15, .oi ((b % 8 : Nat) : Int)), (16, .oi ((8 * (b % 8) : Nat) : Int))] trivial (fun _ => [iquo .i64 (b : Int) 8 = ((b / 8 : Nat) : Int), (8 : Int) ≠ 0, (0 : Int) ≤ ((b / 8 : Nat) : Int) ∧ (((b / 8 : Nat) : Int) : Int) < 25, irem (b : Int) 8 = ((b % 8 : Nat) : Int), (8 : Int) ≠ 0, imul .i64 8 ((b % 8 : Nat) : Int) = ((8 * (b % 8) : Nat) : Int), (0 : Int) ≤ ((8 * (b % 8) : Nat) : Int), o.length + [(IntKind.wrap .u8 (ishr .u64 (g (b / 8)) ((8 * (b % 8) : Nat) : Int)))].length ≤ 9223372036854775807, (o.length + [(IntKind.wrap .u8 (ishr .u64 (g (b / 8)) ((8 * (b % 8) : Nat) : Int)))].length) * 1 ≤ 140737488355328]) [0, 1, 4] [0, 2] 3 ⟨by rw [iquo64 omm omm omm]; omega, by omega, by omega, by rw [irem64 omm]; omega, by omega, by rw [imul64 omm omm]; omega, by omega, by simp <;> omega, by simp <;> omega, trivial⟩ hS fun hS => ?_))
   refine rA [(4, .oi ((b + 1 : Nat) : Int))] trivial (fun _ => [iadd .i64 (b : Int) 1 = ((b + 1 : Nat) : Int)]) [0, 1, 4] [0, 2] 3 ⟨by rw [iadd64 omm omm]; omega, trivial⟩ hS fun hS => ?_
   refine block_n (then_n ?_)
   exact next_y hg0 hS (s := (g, b, o)) (g, b + 1, o ++ [(IntKind.wrap .u8 (ishr .u64 (g (b / 8)) ((8 * (b % 8) : Nat) : Int)))]) [(0, 0), (1, 2)] (by simp <;> omega) ⟨omm, (by simp <;> omega), (by first | exact rd_next1 hq omm | exact rd_next2 hq omm), trivial⟩
 ·have hScur := hS
  have hn : o.length = n := by omega
  obtain ⟨e1, e2, e3⟩ := rd_end hq hn
  clear hq ho hn
  obtain rfl : (rdA r f a n).1 = g := Eq.symm e1
  obtain rfl : (rdA r f a n).2.1 = b := Eq.symm e2
  obtain rfl : (rdA r f a n).2.2 = o := Eq.symm e3
  have hS := hScur
  clear hScur
  refine wp_exit (then_exit (then_exit (block_exit (then_n (s0 [4] [0, 1] 2 hS fun hS => ?_)))))
  refine wp_ret ?_
  obtain ⟨gs, hS⟩ := hS.fz 1
  exact fin_y rfl (.inr rfl) hS [lb ((rdA r f a n).2.2)] [(0, some (.ob 141 (chain [.ar .u64 25 ((rdA r f a n).1), vi (r : Int), vi (((rdA r f a n).2.1 : Nat) : Int)])))] rfl ⟨rfl, trivial⟩

end
end Go.Sx.Try
namespace Go.Sx.Try
open Go.Mi Go.RowKit Go.Sx Go.Proofs
noncomputable section
def mod_v (x : Int) : Int := (IntKind.wrap .u16 (irem x 3329))
def mod_m (x : Int) : Int := shut (mod_v x)
theorem mod_e (x : Int) : mod_m x = mod_v x := shut_eq _
def c_mod (x : Int) : Con := ⟨[.v (.int .u32 x)], [], .v (.int .u16 (mod_m x)), []⟩
theorem mod_ok (x : Int) : ConOk Try.prog 71 (c_mod x) := by
 refine conOk_of rfl (nb := 0) Try.func71 rfl rfl Try.ntmps71 rfl rfl rfl fun g0 w0 ac gs ws hg0 hS => ?_
 have hS := hS.sp
 refine s0 [0, 2] [] 0 hS fun hS => ?_
 refine sA [] trivial (fun _ => [(3329 : Int) ≠ 0]) [2] [] 0 ⟨by omega, trivial⟩ hS fun hS => ?_
 refine wp_ret ?_
 have hM : mod_m x = (IntKind.wrap .u16 (irem x 3329)) := mod_e x
 exact fin_y rfl (.inr rfl) hS [.v (.int .u16 (IntKind.wrap .u16 (irem x 3329)))] [] (by show weak _ (.v (.int .u16 (mod_m x))) = (.v (.int .u16 (mod_m x))); rw [hM]; first | (simp only []; rfl) | (simp only []; done) | rfl) trivial

def add_l1_s (f g : Nat → Int) (x6 : Nat) : (Nat → Int) → (Nat → Int) := fun o2_0 => upd o2_0 x6 (mod_m (iadd .u32 (IntKind.wrap .u32 (o2_0 x6)) (IntKind.wrap .u32 (g x6))))
def add_l1 (f g : Nat → Int) : Nat → (Nat → Int)
 | 0 => f
 | x6 + 1 => add_l1_s f g x6 (add_l1 f g x6)
def add_v (f g : Nat → Int) : (Nat → Int) := add_l1 f g 256
def add_m (f g : Nat → Int) : (Nat → Int) := shut (add_v f g)
theorem add_e (f g : Nat → Int) : add_m f g = add_v f g := shut_eq _
def c_add (f g : Nat → Int) : Con := ⟨[.ar .u16 256 f, .ar .u16 256 g], [], .ar .u16 256 (add_m f g), []⟩
theorem add_ok (f g : Nat → Int) : ConOk Try.prog 42 (c_add f g) := by
 refine conOk_of rfl (nb := 0) Try.func42 rfl rfl Try.ntmps42 rfl rfl rfl fun g0 w0 ac gs ws hg0 hS => ?_
 have hS := hS.sp
 refine s0 [2, 3, 4] [0, 1, 2] 3 hS fun hS => ?_
 refine wp_seq (s0 [2, 3, 4, 6] [0, 1, 2] 3 hS fun hS => ?_)
 refine wp_block (loop_y (ι := Nat × (Nat → Int)) hg0 hS (fun z_ => match z_ with | (x6, o2_0) => 256 - x6) (fun z_ => match z_ with | (x6, o2_0) => [(2, .cp 0 0), (3, .cp 1 0), (4, .cp 2 0), (6, vi ((x6 : Nat) : Int))]) (fun z_ => match z_ with | (x6, o2_0) => [(0, .ob 60 (chain [.ar .u16 256 o2_0])), (1, .ob 60 (chain [.ar .u16 256 g])), (2, .ob 60 (chain [.ar .u16 256 (fun _ => 0)]))]) (fun z_ => match z_ with | (x6, o2_0) => (x6 ≤ 256) ∧ (o2_0 = add_l1 f g x6) ∧ True) 3 (0, f) [(0, 0), (1, 1), (2, 2)] ⟨omm, rfl, trivial⟩ ?_)
 rintro ⟨x6, o2_0⟩ ac gs ws ⟨hx6, hq1, _⟩ hS
 refine s0 [2, 3, 4, 6, 7] [0, 1, 2] 3 hS fun hS => ?_
 refine wp_seq ?_
 refine if_d ((x6 : Int) < 256) hS (fun h1 => ?_) (fun h1 => ?_)
 ·refine wp_skip (then_n (wp_seq (wp_block (s0 [2, 3, 4, 5, 6] [0, 1, 2] 3 hS fun hS => ?_))))
  refine rA [(10, .call ⟨71, (c_mod (iadd .u32 (IntKind.wrap .u32 (o2_0 x6)) (IntKind.wrap .u32 (g x6)))), [], []⟩)] ⟨mod_ok _, trivial⟩ (fun C => [(0 : Int) ≤ (x6 : Int) ∧ ((x6 : Int) : Int) < 256, (0 : Int) ≤ (x6 : Int) ∧ ((x6 : Int) : Int) < 256, ndC C 10, (0 : Int) ≤ (x6 : Int) ∧ ((x6 : Int) : Int) < 256]) [2, 3, 4, 6] [0, 1, 2] 3 ⟨by omega, by omega, rfl, by omega, trivial⟩ hS fun hS => ?_
  refine block_n (then_n (rA [(0, .oi ((x6 + 1 : Nat) : Int))] trivial (fun _ => [iadd .i64 (x6 : Int) 1 = ((x6 + 1 : Nat) : Int)]) [2, 3, 4, 6] [0, 1, 2] 3 ⟨by rw [iadd64 omm omm]; omega, trivial⟩ hS fun hS => ?_))
  refine then_n ?_
  exact next_y hg0 hS (s := (x6, o2_0)) (x6 + 1, upd o2_0 x6 (mod_m (iadd .u32 (IntKind.wrap .u32 (o2_0 x6)) (IntKind.wrap .u32 (g x6))))) [(0, 0), (1, 1), (2, 2)] (show 256 - (x6 + 1) < 256 - x6 from by omega) ⟨omm, (it_next (F := add_l1 f g) (st := add_l1_s f g) (fun _ => rfl) hq1 rfl), trivial⟩
 ·have hScur := hS
  obtain rfl : 256 = x6 := by omega
  obtain rfl : add_l1 f g 256 = o2_0 := Eq.symm (congrArg (fun z => z) hq1)
  have hS := hScur
  clear hScur
  refine wp_exit (then_exit (then_exit (block_exit (then_n (s0 [4] [2] 3 hS fun hS => ?_)))))
  refine wp_ret ?_
  have hM : add_m f g = add_l1 f g 256 := add_e f g
  exact fin_y rfl (.inr rfl) hS [.ar .u16 256 (add_l1 f g 256)] [] (by show weak _ (.ar .u16 256 (add_m f g)) = (.ar .u16 256 (add_m f g)); rw [hM]; first | (simp only []; rfl) | (simp only []; done) | rfl) trivial

def sub_l1_s (f g : Nat → Int) (x6 : Nat) : (Nat → Int) → (Nat → Int) := fun o2_0 => upd o2_0 x6 (mod_m (isub .u32 (iadd .u32 (IntKind.wrap .u32 (o2_0 x6)) 3329) (IntKind.wrap .u32 (irem (g x6) 3329))))
def sub_l1 (f g : Nat → Int) : Nat → (Nat → Int)
 | 0 => f
 | x6 + 1 => sub_l1_s f g x6 (sub_l1 f g x6)
def sub_v (f g : Nat → Int) : (Nat → Int) := sub_l1 f g 256
def sub_m (f g : Nat → Int) : (Nat → Int) := shut (sub_v f g)
theorem sub_e (f g : Nat → Int) : sub_m f g = sub_v f g := shut_eq _
def c_sub (f g : Nat → Int) : Con := ⟨[.ar .u16 256 f, .ar .u16 256 g], [], .ar .u16 256 (sub_m f g), []⟩
theorem sub_ok (f g : Nat → Int) : ConOk Try.prog 125 (c_sub f g) := by
 refine conOk_of rfl (nb := 0) Try.func125 rfl rfl Try.ntmps125 rfl rfl rfl fun g0 w0 ac gs ws hg0 hS => ?_
 have hS := hS.sp
 refine s0 [2, 3, 4] [0, 1, 2] 3 hS fun hS => ?_
 refine wp_seq (s0 [2, 3, 4, 6] [0, 1, 2] 3 hS fun hS => ?_)
 refine wp_block (loop_y (ι := Nat × (Nat → Int)) hg0 hS (fun z_ => match z_ with | (x6, o2_0) => 256 - x6) (fun z_ => match z_ with | (x6, o2_0) => [(2, .cp 0 0), (3, .cp 1 0), (4, .cp 2 0), (6, vi ((x6 : Nat) : Int))]) (fun z_ => match z_ with | (x6, o2_0) => [(0, .ob 60 (chain [.ar .u16 256 o2_0])), (1, .ob 60 (chain [.ar .u16 256 g])), (2, .ob 60 (chain [.ar .u16 256 (fun _ => 0)]))]) (fun z_ => match z_ with | (x6, o2_0) => (x6 ≤ 256) ∧ (o2_0 = sub_l1 f g x6) ∧ True) 3 (0, f) [(0, 0), (1, 1), (2, 2)] ⟨omm, rfl, trivial⟩ ?_)
 rintro ⟨x6, o2_0⟩ ac gs ws ⟨hx6, hq1, _⟩ hS
 refine s0 [2, 3, 4, 6, 7] [0, 1, 2] 3 hS fun hS => ?_
 refine wp_seq ?_
 refine if_d ((x6 : Int) < 256) hS (fun h1 => ?_) (fun h1 => ?_)
 ·refine wp_skip (then_n (wp_seq (wp_block (s0 [2, 3, 4, 5, 6] [0, 1, 2] 3 hS fun hS => ?_))))
  refine rA [(12, .call ⟨71, (c_mod (isub .u32 (iadd .u32 (IntKind.wrap .u32 (o2_0 x6)) 3329) (IntKind.wrap .u32 (irem (g x6) 3329)))), [], []⟩)] ⟨mod_ok _, trivial⟩ (fun C => [(0 : Int) ≤ (x6 : Int) ∧ ((x6 : Int) : Int) < 256, (0 : Int) ≤ (x6 : Int) ∧ ((x6 : Int) : Int) < 256, (3329 : Int) ≠ 0, ndC C 12, (0 : Int) ≤ (x6 : Int) ∧ ((x6 : Int) : Int) < 256]) [2, 3, 4, 6] [0, 1, 2] 3 ⟨by omega, by omega, by omega, rfl, by omega, trivial⟩ hS fun hS => ?_
  refine block_n (then_n (rA [(0, .oi ((x6 + 1 : Nat) : Int))] trivial (fun _ => [iadd .i64 (x6 : Int) 1 = ((x6 + 1 : Nat) : Int)]) [2, 3, 4, 6] [0, 1, 2] 3 ⟨by rw [iadd64 omm omm]; omega, trivial⟩ hS fun hS => ?_))
  refine then_n ?_
  exact next_y hg0 hS (s := (x6, o2_0)) (x6 + 1, upd o2_0 x6 (mod_m (isub .u32 (iadd .u32 (IntKind.wrap .u32 (o2_0 x6)) 3329) (IntKind.wrap .u32 (irem (g x6) 3329))))) [(0, 0), (1, 1), (2, 2)] (show 256 - (x6 + 1) < 256 - x6 from by omega) ⟨omm, (it_next (F := sub_l1 f g) (st := sub_l1_s f g) (fun _ => rfl) hq1 rfl), trivial⟩
 ·have hScur := hS
  obtain rfl : 256 = x6 := by omega
  obtain rfl : sub_l1 f g 256 = o2_0 := Eq.symm (congrArg (fun z => z) hq1)
  have hS := hScur
  clear hScur
  refine wp_exit (then_exit (then_exit (block_exit (then_n (s0 [4] [2] 3 hS fun hS => ?_)))))
  refine wp_ret ?_
  have hM : sub_m f g = sub_l1 f g 256 := sub_e f g
  exact fin_y rfl (.inr rfl) hS [.ar .u16 256 (sub_l1 f g 256)] [] (by show weak _ (.ar .u16 256 (sub_m f g)) = (.ar .u16 256 (sub_m f g)); rw [hM]; first | (simp only []; rfl) | (simp only []; done) | rfl) trivial

def turned_l1_s (i x3 : Nat) : (Int × Int) → (Int × Int) := fun z_ => match z_ with | (x0, x2) => ((ishr .i64 x0 1), (ior .i64 (ishl .i64 x2 1) (iand .i64 x0 1)))
def turned_l1 (i : Nat) : Nat → Int × Int
 | 0 => ((i : Int), 0)
 | x3 + 1 => turned_l1_s i x3 (turned_l1 i x3)
def turned_v (i : Nat) : Int := ((turned_l1 i 7).2)
def turned_m (i : Nat) : Int := shut (turned_v i)
theorem turned_e (i : Nat) : turned_m i = turned_v i := shut_eq _
theorem turned_lt (i : Nat) (h : i < 128) : 0 ≤ turned_m i ∧ turned_m i < 128 := by
 have key : ((List.range 128).all fun i => decide (0 ≤ turned_v i) && decide (turned_v i < 128)) = true := by kernel_rfl
 have := List.all_eq_true.1 key i (List.mem_range.2 h)
 rw [Bool.and_eq_true, decide_eq_true_iff, decide_eq_true_iff] at this
 rw [turned_e]
 exact this
def c_turned (i : Nat) : Con := ⟨[vi (i : Int)], [], vi (turned_m i), []⟩
theorem turned_ok (i : Nat) (h : i < 128) : ConOk Try.prog 99 (c_turned i) := by
 refine conOk_of rfl (nb := 0) Try.func99 rfl rfl Try.ntmps99 rfl rfl rfl fun g0 w0 ac gs ws hg0 hS => ?_
 have hS := hS.sp
 refine s0 [0, 2] [] 0 hS fun hS => ?_
 refine wp_seq (s0 [0, 2, 3] [] 0 hS fun hS => ?_)
 refine wp_block (loop_y (ι := Nat × Int × Int) hg0 hS (fun z_ => match z_ with | (x3, x0, x2) => 7 - x3) (fun z_ => match z_ with | (x3, x0, x2) => [(0, vi x0), (2, vi x2), (3, vi ((x3 : Nat) : Int))]) (fun z_ => match z_ with | (x3, x0, x2) => []) (fun z_ => match z_ with | (x3, x0, x2) => (x3 ≤ 7) ∧ ((x0, x2) = turned_l1 i x3) ∧ True) 0 (0, (i : Int), 0) [] ⟨omm, rfl, trivial⟩ ?_)
 rintro ⟨x3, x0, x2⟩ ac gs ws ⟨hx3, hq1, _⟩ hS
 refine s0 [0, 2, 3, 4] [] 0 hS fun hS => ?_
 refine wp_seq ?_
 refine if_d ((x3 : Int) < 7) hS (fun h1 => ?_) (fun h1 => ?_)
 ·refine wp_skip (then_n (wp_seq (wp_block (sA [] trivial (fun _ => [(0 : Int) ≤ 1]) [0, 2, 3] [] 0 ⟨by omega, trivial⟩ hS fun hS => ?_))))
  refine rA [] trivial (fun _ => [(0 : Int) ≤ 1]) [0, 2, 3] [] 0 ⟨by omega, trivial⟩ hS fun hS => ?_
  refine block_n (then_n (rA [(0, .oi ((x3 + 1 : Nat) : Int))] trivial (fun _ => [iadd .i64 (x3 : Int) 1 = ((x3 + 1 : Nat) : Int)]) [0, 2, 3] [] 0 ⟨by rw [iadd64 omm omm]; omega, trivial⟩ hS fun hS => ?_))
  refine then_n ?_
  exact next_y hg0 hS (s := (x3, x0, x2)) (x3 + 1, (ishr .i64 x0 1), (ior .i64 (ishl .i64 x2 1) (iand .i64 x0 1))) [] (show 7 - (x3 + 1) < 7 - x3 from by omega) ⟨omm, (it_next (F := turned_l1 i) (st := turned_l1_s i) (fun _ => rfl) hq1 rfl), trivial⟩
 ·have hScur := hS
  obtain rfl : 7 = x3 := by omega
  obtain rfl : (turned_l1 i 7).1 = x0 := Eq.symm (congrArg (fun z => z.1) hq1)
  obtain rfl : (turned_l1 i 7).2 = x2 := Eq.symm (congrArg (fun z => z.2) hq1)
  have hS := hScur
  clear hScur
  refine wp_exit (then_exit (then_exit (block_exit (then_n (s0 [2] [] 0 hS fun hS => ?_)))))
  refine wp_ret ?_
  have hM : turned_m i = ((turned_l1 i 7).2) := turned_e i
  exact fin_y rfl (.inr rfl) hS [vi ((turned_l1 i 7).2)] [] (by show weak _ (vi (turned_m i)) = (vi (turned_m i)); rw [hM]; first | (simp only []; rfl) | (simp only []; done) | rfl) trivial

def zetas_l1_s (k1 : Nat) : (Nat × (Nat → Int)) → (Nat × (Nat → Int)) := fun z_ => match z_ with | (x2, o1_0) => (x2 + 1, upd o1_0 x2 (irem (imul .u32 (o1_0 (Int.toNat (((x2 : Nat) : Int) - 1))) 17) 3329))
def zetas_l1 : Nat → Nat × (Nat → Int)
 | 0 => (1, upd (fun _ => 0) 0 1)
 | k1 + 1 => zetas_l1_s k1 (zetas_l1 k1)
def zetas_l1_c : (Nat × (Nat → Int)) → Prop := fun z_ => match z_ with | (x2, o1_0) => ((x2 : Nat) : Int) < 128
def zetas_l2_s (x17 : Nat) : (Nat → Int) → (Nat → Int) := fun o0_0 => upd o0_0 x17 (((zetas_l1 (lst fun j => zetas_l1_c (zetas_l1 j))).2) (Int.toNat (turned_m x17)))
def zetas_l2 : Nat → (Nat → Int)
 | 0 => fun _ => 0
 | x17 + 1 => zetas_l2_s x17 (zetas_l2 x17)
def zetas_v : (Nat → Int) := zetas_l2 128
def zetas_m : (Nat → Int) := shut (zetas_v)
theorem zetas_e : zetas_m = zetas_v := shut_eq _
def c_zetas : Con := ⟨[], [], .ar .u32 128 zetas_m, []⟩
theorem zetas_ok : ConOk Try.prog 70 (c_zetas) := by
 refine conOk_of rfl (nb := 0) Try.func70 rfl rfl Try.ntmps70 rfl rfl rfl fun g0 w0 ac gs ws hg0 hS => ?_
 have hS := hS.sp
 refine s0 [0] [0] 1 hS fun hS => ?_
 refine s0 [0, 1] [0, 1] 2 hS fun hS => ?_
 refine sA [] trivial (fun _ => [(0 : Int) ≤ 0 ∧ (0 : Int) < 128]) [0, 1] [0, 1] 2 ⟨by omega, trivial⟩ hS fun hS => ?_
 refine wp_seq (s0 [0, 1, 2] [0, 1] 2 hS fun hS => ?_)
 refine wp_block (loop_y (ι := Nat × Nat × (Nat → Int)) hg0 hS (fun z_ => match z_ with | (k1, x2, o1_0) => 128 - x2) (fun z_ => match z_ with | (k1, x2, o1_0) => [(0, .cp 0 0), (1, .cp 1 0), (2, vi ((x2 : Nat) : Int))]) (fun z_ => match z_ with | (k1, x2, o1_0) => [(0, .ob 106 (chain [.ar .u32 128 (fun _ => 0)])), (1, .ob 106 (chain [.ar .u32 128 o1_0]))]) (fun z_ => match z_ with | (k1, x2, o1_0) => ((x2, o1_0) = zetas_l1 k1) ∧ (∀ j, j < k1 → zetas_l1_c (zetas_l1 j)) ∧ (x2 ≤ 128) ∧ (1 ≤ x2) ∧ True) 2 (0, 1, upd (fun _ => 0) 0 1) [(0, 0), (1, 1)] ⟨rfl, (fun j h => absurd h (Nat.not_lt_zero j)), omm, omm, trivial⟩ ?_)
 rintro ⟨k1, x2, o1_0⟩ ac gs ws ⟨hq1, hj1, p1, p2, _⟩ hS
 refine wp_seq (s0 [0, 1, 2, 6] [0, 1] 2 hS fun hS => ?_)
 refine if_d ((x2 : Int) < 128) hS (fun h1 => ?_) (fun h1 => ?_)
 ·refine wp_skip (then_n (wp_seq (wp_block (rA [(2, .oi ((x2 : Int) - 1))] trivial (fun _ => [isub .i64 (x2 : Int) 1 = ((x2 : Int) - 1), (0 : Int) ≤ ((x2 : Int) - 1) ∧ (((x2 : Int) - 1) : Int) < 128, (3329 : Int) ≠ 0, (0 : Int) ≤ (x2 : Int) ∧ ((x2 : Int) : Int) < 128]) [0, 1, 2] [0, 1] 2 ⟨isub64 omm omm, by omega, by omega, by omega, trivial⟩ hS fun hS => ?_))))
  refine block_n (then_n (rA [(1, .oi ((x2 + 1 : Nat) : Int))] trivial (fun _ => [iadd .i64 (x2 : Int) 1 = ((x2 + 1 : Nat) : Int)]) [0, 1, 2] [0, 1] 2 ⟨by rw [iadd64 omm omm]; omega, trivial⟩ hS fun hS => ?_))
  refine then_n ?_
  exact next_y hg0 hS (s := (k1, x2, o1_0)) (k1 + 1, x2 + 1, upd o1_0 x2 (irem (imul .u32 (o1_0 (Int.toNat ((x2 : Int) - 1))) 17) 3329)) [(0, 0), (1, 1)] (show 128 - (x2 + 1) < 128 - x2 from by omega) ⟨(it_next (F := zetas_l1) (st := zetas_l1_s) (fun _ => rfl) hq1 rfl), (lst_next hj1 (by rw [← hq1]; exact h1)), omm, omm, trivial⟩
 ·have hScur := hS
  obtain rfl := lst_eq (P := fun j => zetas_l1_c (zetas_l1 j)) (by rw [← hq1]; first | exact h1 | exact not_not_intro h1) hj1
  obtain rfl : (zetas_l1 (lst fun j => zetas_l1_c (zetas_l1 j))).1 = x2 := Eq.symm (congrArg (fun z => z.1) hq1)
  obtain rfl : (zetas_l1 (lst fun j => zetas_l1_c (zetas_l1 j))).2 = o1_0 := Eq.symm (congrArg (fun z => z.2) hq1)
  have hS := hScur
  clear hScur
  refine wp_exit (then_exit (then_exit (block_exit (then_n (wp_seq (s0 [0, 1, 17] [0, 1] 2 hS fun hS => ?_))))))
  refine wp_block (loop_y (ι := Nat × (Nat → Int)) hg0 hS (fun z_ => match z_ with | (x17, o0_0) => 128 - x17) (fun z_ => match z_ with | (x17, o0_0) => [(0, .cp 0 0), (1, .cp 1 0), (17, vi ((x17 : Nat) : Int))]) (fun z_ => match z_ with | (x17, o0_0) => [(0, .ob 106 (chain [.ar .u32 128 o0_0])), (1, .ob 106 (chain [.ar .u32 128 ((zetas_l1 (lst fun j => zetas_l1_c (zetas_l1 j))).2)]))]) (fun z_ => match z_ with | (x17, o0_0) => (x17 ≤ 128) ∧ (o0_0 = zetas_l2 x17) ∧ True) 2 (0, fun _ => 0) [(0, 0), (1, 1)] ⟨omm, rfl, trivial⟩ ?_)
  rintro ⟨x17, o0_0⟩ ac gs ws ⟨hx17, hq2, _⟩ hS
  refine s0 [0, 1, 17, 18] [0, 1] 2 hS fun hS => ?_
  refine wp_seq ?_
  refine if_d ((x17 : Int) < 128) hS (fun h2 => ?_) (fun h2 => ?_)
  ·refine wp_skip (then_n (wp_seq (wp_block (s0 [0, 1, 3, 17] [0, 1] 2 hS fun hS => ?_))))
   have ht := turned_lt x17 omm
   refine rA [(2, .call ⟨99, (c_turned x17), [], []⟩)] ⟨turned_ok _ omm, trivial⟩ (fun C => [ndC C 2, (0 : Int) ≤ (turned_m x17) ∧ ((turned_m x17) : Int) < 128, (0 : Int) ≤ (x17 : Int) ∧ ((x17 : Int) : Int) < 128]) [0, 1, 17] [0, 1] 2 ⟨rfl, by omega, by omega, trivial⟩ hS fun hS => ?_
   refine block_n (then_n (rA [(0, .oi ((x17 + 1 : Nat) : Int))] trivial (fun _ => [iadd .i64 (x17 : Int) 1 = ((x17 + 1 : Nat) : Int)]) [0, 1, 17] [0, 1] 2 ⟨by rw [iadd64 omm omm]; omega, trivial⟩ hS fun hS => ?_))
   refine then_n ?_
   exact next_y hg0 hS (s := (x17, o0_0)) (x17 + 1, upd o0_0 x17 (((zetas_l1 (lst fun j => zetas_l1_c (zetas_l1 j))).2) (Int.toNat (turned_m x17)))) [(0, 0), (1, 1)] (show 128 - (x17 + 1) < 128 - x17 from by omega) ⟨omm, (it_next (F := zetas_l2) (st := zetas_l2_s) (fun _ => rfl) hq2 rfl), trivial⟩
  ·have hScur := hS
   obtain rfl : 128 = x17 := by omega
   obtain rfl : zetas_l2 128 = o0_0 := Eq.symm (congrArg (fun z => z) hq2)
   have hS := hScur
   clear hScur
   refine wp_exit (then_exit (then_exit (block_exit (then_n (s0 [0] [0] 2 hS fun hS => ?_)))))
   refine wp_ret ?_
   have hM : zetas_m = zetas_l2 128 := zetas_e
   exact fin_y rfl (.inr rfl) hS [.ar .u32 128 (zetas_l2 128)] [] (by show weak _ (.ar .u32 128 zetas_m) = (.ar .u32 128 zetas_m); rw [hM]; first | (simp only []; rfl) | (simp only []; done) | rfl) trivial

def PW (h : Nat) : Prop := h = 1 ∨ h = 2 ∨ h = 4 ∨ h = 8 ∨ h = 16 ∨ h = 32 ∨ h = 64 ∨ h = 128
theorem ntt_a {h k : Nat} (h2 : 2 ≤ h) (hh : PW h) (hk : k * h = 128) : k * (2 * h) = 256 + 0 ∧ PW (h / 2) ∧ h ≤ 128 := by
 unfold PW at hh ⊢
 rcases hh with rfl | rfl | rfl | rfl | rfl | rfl | rfl | rfl <;> omega
theorem ntt_b {h k f : Nat} (h2 : 2 ≤ h) (hh : PW h) (hk : k * (2 * h) = 256 + f) (hf : f < 256) : f + 2 * h ≤ 256 ∧ k < 128 ∧ (k + 1) * (2 * h) = 256 + (f + 2 * h) := by
 unfold PW at hh
 rcases hh with rfl | rfl | rfl | rfl | rfl | rfl | rfl | rfl <;> omega
theorem ntt_c {h k f : Nat} (h2 : 2 ≤ h) (hh : PW h) (hk : k * (2 * h) = 256 + f) (hf : f = 256) : k * (h / 2) = 128 := by
 unfold PW at hh
 rcases hh with rfl | rfl | rfl | rfl | rfl | rfl | rfl | rfl <;> omega
def ntt_l3_s (f : Nat → Int) (k1 : Nat) (x4 x5 : Nat) (o1_0 : Nat → Int) (k2 : Nat) (x4_2 x6 : Nat) (o1_0_2 : Nat → Int) (k3 : Nat) : (Nat × (Nat → Int)) → (Nat × (Nat → Int)) := fun z_ => match z_ with | (x7, o1_0_3) => (x7 + 1, upd (upd o1_0_3 x7 (mod_m (iadd .u32 (IntKind.wrap .u32 (o1_0_3 x7)) (irem (imul .u32 (zetas_m x4_2) (IntKind.wrap .u32 (o1_0_3 (x7 + x5)))) 3329)))) (x7 + x5) (mod_m (isub .u32 (iadd .u32 (IntKind.wrap .u32 (o1_0_3 x7)) 3329) (irem (imul .u32 (zetas_m x4_2) (IntKind.wrap .u32 (o1_0_3 (x7 + x5)))) 3329))))
def ntt_l3 (f : Nat → Int) (k1 : Nat) (x4 x5 : Nat) (o1_0 : Nat → Int) (k2 : Nat) (x4_2 x6 : Nat) (o1_0_2 : Nat → Int) : Nat → Nat × (Nat → Int)
 | 0 => (x6, o1_0_2)
 | k3 + 1 => ntt_l3_s f k1 x4 x5 o1_0 k2 x4_2 x6 o1_0_2 k3 (ntt_l3 f k1 x4 x5 o1_0 k2 x4_2 x6 o1_0_2 k3)
def ntt_l3_c (f : Nat → Int) (k1 : Nat) (x4 x5 : Nat) (o1_0 : Nat → Int) (k2 : Nat) (x4_2 x6 : Nat) (o1_0_2 : Nat → Int) : (Nat × (Nat → Int)) → Prop := fun z_ => match z_ with | (x7, o1_0_3) => ((x7 : Nat) : Int) < ((x6 + x5 : Nat) : Int)
def ntt_l2_s (f : Nat → Int) (k1 : Nat) (x4 x5 : Nat) (o1_0 : Nat → Int) (k2 : Nat) : (Nat × Nat × (Nat → Int)) → (Nat × Nat × (Nat → Int)) := fun z_ => match z_ with | (x4_2, x6, o1_0_2) => (x4_2 + 1, x6 + (2 * x5), (ntt_l3 f k1 x4 x5 o1_0 k2 x4_2 x6 o1_0_2 (lst fun j => ntt_l3_c f k1 x4 x5 o1_0 k2 x4_2 x6 o1_0_2 (ntt_l3 f k1 x4 x5 o1_0 k2 x4_2 x6 o1_0_2 j))).2)
def ntt_l2 (f : Nat → Int) (k1 : Nat) (x4 x5 : Nat) (o1_0 : Nat → Int) : Nat → Nat × Nat × (Nat → Int)
 | 0 => (x4, 0, o1_0)
 | k2 + 1 => ntt_l2_s f k1 x4 x5 o1_0 k2 (ntt_l2 f k1 x4 x5 o1_0 k2)
def ntt_l2_c (f : Nat → Int) (k1 : Nat) (x4 x5 : Nat) (o1_0 : Nat → Int) : (Nat × Nat × (Nat → Int)) → Prop := fun z_ => match z_ with | (x4_2, x6, o1_0_2) => ((x6 : Nat) : Int) < 256
def ntt_l1_s (f : Nat → Int) (k1 : Nat) : (Nat × Nat × (Nat → Int)) → (Nat × Nat × (Nat → Int)) := fun z_ => match z_ with | (x4, x5, o1_0) => ((ntt_l2 f k1 x4 x5 o1_0 (lst fun j => ntt_l2_c f k1 x4 x5 o1_0 (ntt_l2 f k1 x4 x5 o1_0 j))).1, x5 / 2, (ntt_l2 f k1 x4 x5 o1_0 (lst fun j => ntt_l2_c f k1 x4 x5 o1_0 (ntt_l2 f k1 x4 x5 o1_0 j))).2.2)
def ntt_l1 (f : Nat → Int) : Nat → Nat × Nat × (Nat → Int)
 | 0 => (1, 128, add_m f (fun _ => 0))
 | k1 + 1 => ntt_l1_s f k1 (ntt_l1 f k1)
def ntt_l1_c (f : Nat → Int) : (Nat × Nat × (Nat → Int)) → Prop := fun z_ => match z_ with | (x4, x5, o1_0) => (2 : Int) ≤ ((x5 : Nat) : Int)
def ntt_v (f : Nat → Int) : (Nat → Int) := (ntt_l1 f (lst fun j => ntt_l1_c f (ntt_l1 f j))).2.2
def ntt_m (f : Nat → Int) : (Nat → Int) := shut (ntt_v f)
theorem ntt_e (f : Nat → Int) : ntt_m f = ntt_v f := shut_eq _
def c_ntt (f : Nat → Int) : Con := ⟨[.ar .u16 256 f], [], .ar .u16 256 (ntt_m f), []⟩
theorem ntt_ok (f : Nat → Int) : ConOk Try.prog 41 (c_ntt f) := by
 refine conOk_of rfl (nb := 0) Try.func41 rfl rfl Try.ntmps41 rfl rfl rfl fun g0 w0 ac gs ws hg0 hS => ?_
 have hS := hS.sp
 refine s0 [1, 2] [0, 1] 2 hS fun hS => ?_
 refine sA [(0, .ov (.ar .u16 256 f)), (2, .call ⟨42, (c_add f (fun _ => 0)), [], []⟩)] ⟨add_ok _ _, trivial⟩ (fun _ => [(.ar .u16 256 f : D) = (.ar .u16 256 f), nd [.ar .u16 256 f, .ar .u16 256 (fun _ => 0)] []]) [1, 2] [0, 1] 2 ⟨rfl, rfl, trivial⟩ hS fun hS => ?_
 refine sA [(0, .call ⟨70, (c_zetas), [], []⟩)] ⟨zetas_ok, trivial⟩ (fun C => [ndC C 0]) [1, 2, 3, 4] [0, 1, 2] 3 ⟨rfl, trivial⟩ hS fun hS => ?_
 refine wp_seq (s0 [1, 2, 3, 4, 5] [0, 1, 2] 3 hS fun hS => ?_)
 refine wp_block (loop_y (ι := Nat × Nat × Nat × (Nat → Int)) hg0 hS (fun z_ => match z_ with | (k1, x4, x5, o1_0) => x5) (fun z_ => match z_ with | (k1, x4, x5, o1_0) => [(1, .cp 0 0), (2, .cp 1 0), (3, .cp 2 0), (4, vi ((x4 : Nat) : Int)), (5, vi ((x5 : Nat) : Int))]) (fun z_ => match z_ with | (k1, x4, x5, o1_0) => [(0, .ob 60 (chain [.ar .u16 256 o1_0])), (1, .ob 60 (chain [.ar .u16 256 (fun _ => 0)])), (2, .ob 106 (chain [.ar .u32 128 zetas_m]))]) (fun z_ => match z_ with | (k1, x4, x5, o1_0) => ((x4, x5, o1_0) = ntt_l1 f k1) ∧ (∀ j, j < k1 → ntt_l1_c f (ntt_l1 f j)) ∧ (PW x5) ∧ (x4 * x5 = 128) ∧ True) 3 (0, 1, 128, add_m f (fun _ => 0)) [(0, 0), (1, 1), (2, 2)] ⟨rfl, (fun j h => absurd h (Nat.not_lt_zero j)), (by unfold PW; omega), rfl, trivial⟩ ?_)
 rintro ⟨k1, x4, x5, o1_0⟩ ac gs ws ⟨hq1, hj1, pw, pk, _⟩ hS
 refine wp_seq (s0 [1, 2, 3, 4, 5, 14] [0, 1, 2] 3 hS fun hS => ?_)
 refine if_d ((2 : Int) ≤ (x5 : Int)) hS (fun h1 => ?_) (fun h1 => ?_)
 ·refine wp_skip (then_n (wp_seq (wp_block (wp_seq ?_))))
  have pa := ntt_a omm pw pk
  refine r0 [1, 2, 3, 4, 5, 6] [0, 1, 2] 3 hS fun hS => ?_
  refine then_n (wp_block (loop_y (ι := Nat × Nat × Nat × (Nat → Int)) hg0 hS (fun z_ => match z_ with | (k2, x4_2, x6, o1_0_2) => 256 - x6) (fun z_ => match z_ with | (k2, x4_2, x6, o1_0_2) => [(1, .cp 0 0), (2, .cp 1 0), (3, .cp 2 0), (4, vi ((x4_2 : Nat) : Int)), (5, vi (x5 : Int)), (6, vi ((x6 : Nat) : Int))]) (fun z_ => match z_ with | (k2, x4_2, x6, o1_0_2) => [(0, .ob 60 (chain [.ar .u16 256 o1_0_2])), (1, .ob 60 (chain [.ar .u16 256 (fun _ => 0)])), (2, .ob 106 (chain [.ar .u32 128 zetas_m]))]) (fun z_ => match z_ with | (k2, x4_2, x6, o1_0_2) => ((x4_2, x6, o1_0_2) = ntt_l2 f k1 x4 x5 o1_0 k2) ∧ (∀ j, j < k2 → ntt_l2_c f k1 x4 x5 o1_0 (ntt_l2 f k1 x4 x5 o1_0 j)) ∧ (x4_2 * (2 * x5) = 256 + x6) ∧ (x6 ≤ 256) ∧ True) 3 (0, x4, 0, o1_0) [(0, 0), (1, 1), (2, 2)] ⟨rfl, (fun j h => absurd h (Nat.not_lt_zero j)), pa.1, omm, trivial⟩ ?_))
  rintro ⟨k2, x4_2, x6, o1_0_2⟩ ac gs ws ⟨hq2, hj2, p2, p3, _⟩ hS
  refine wp_seq (s0 [1, 2, 3, 4, 5, 6, 18] [0, 1, 2] 3 hS fun hS => ?_)
  refine if_d ((x6 : Int) < 256) hS (fun h2 => ?_) (fun h2 => ?_)
  ·refine wp_skip (then_n (wp_seq (wp_block (wp_seq (wp_seq ?_)))))
   have pb := ntt_b omm pw p2 omm
   refine r0 [1, 2, 3, 4, 5, 6, 7] [0, 1, 2] 3 hS fun hS => ?_
   refine then_n (wp_block (loop_y (ι := Nat × Nat × (Nat → Int)) hg0 hS (fun z_ => match z_ with | (k3, x7, o1_0_3) => x6 + x5 - x7) (fun z_ => match z_ with | (k3, x7, o1_0_3) => [(1, .cp 0 0), (2, .cp 1 0), (3, .cp 2 0), (4, vi (x4_2 : Int)), (5, vi (x5 : Int)), (6, vi (x6 : Int)), (7, vi ((x7 : Nat) : Int))]) (fun z_ => match z_ with | (k3, x7, o1_0_3) => [(0, .ob 60 (chain [.ar .u16 256 o1_0_3])), (1, .ob 60 (chain [.ar .u16 256 (fun _ => 0)])), (2, .ob 106 (chain [.ar .u32 128 zetas_m]))]) (fun z_ => match z_ with | (k3, x7, o1_0_3) => ((x7, o1_0_3) = ntt_l3 f k1 x4 x5 o1_0 k2 x4_2 x6 o1_0_2 k3) ∧ (∀ j, j < k3 → ntt_l3_c f k1 x4 x5 o1_0 k2 x4_2 x6 o1_0_2 (ntt_l3 f k1 x4 x5 o1_0 k2 x4_2 x6 o1_0_2 j)) ∧ (x6 ≤ x7) ∧ (x7 ≤ x6 + x5) ∧ True) 3 (0, x6, o1_0_2) [(0, 0), (1, 1), (2, 2)] ⟨rfl, (fun j h => absurd h (Nat.not_lt_zero j)), omm, omm, trivial⟩ ?_))
   rintro ⟨k3, x7, o1_0_3⟩ ac gs ws ⟨hq3, hj3, p4, p5, _⟩ hS
   refine wp_seq (sA [(3, .oi ((x6 + x5 : Nat) : Int))] trivial (fun _ => [iadd .i64 (x6 : Int) (x5 : Int) = ((x6 + x5 : Nat) : Int)]) [1, 2, 3, 4, 5, 6, 7, 28] [0, 1, 2] 3 ⟨by rw [iadd64 omm omm]; omega, trivial⟩ hS fun hS => ?_)
   refine if_d ((x7 : Int) < ((x6 + x5 : Nat) : Int)) hS (fun h3 => ?_) (fun h3 => ?_)
   ·refine wp_skip (then_n (wp_seq (wp_block (sA [(5, .oi ((x7 + x5 : Nat) : Int))] trivial (fun _ => [(0 : Int) ≤ (x4_2 : Int) ∧ ((x4_2 : Int) : Int) < 128, iadd .i64 (x7 : Int) (x5 : Int) = ((x7 + x5 : Nat) : Int), (0 : Int) ≤ ((x7 + x5 : Nat) : Int) ∧ (((x7 + x5 : Nat) : Int) : Int) < 256, (3329 : Int) ≠ 0]) [1, 2, 3, 4, 5, 6, 7, 8] [0, 1, 2] 3 ⟨by omega, by rw [iadd64 omm omm]; omega, by omega, by omega, trivial⟩ hS fun hS => ?_))))
    refine rA [(3, .oi ((x7 + x5 : Nat) : Int)), (10, .call ⟨71, (c_mod (iadd .u32 (IntKind.wrap .u32 (o1_0_3 x7)) (irem (imul .u32 (zetas_m x4_2) (IntKind.wrap .u32 (o1_0_3 (x7 + x5)))) 3329))), [], []⟩), (18, .call ⟨71, (c_mod (isub .u32 (iadd .u32 (IntKind.wrap .u32 (o1_0_3 x7)) 3329) (irem (imul .u32 (zetas_m x4_2) (IntKind.wrap .u32 (o1_0_3 (x7 + x5)))) 3329))), [], []⟩)] ⟨mod_ok _, mod_ok _, trivial⟩ (fun C => [iadd .i64 (x7 : Int) (x5 : Int) = ((x7 + x5 : Nat) : Int), (0 : Int) ≤ (x7 : Int) ∧ ((x7 : Int) : Int) < 256, ndC C 10, (0 : Int) ≤ (x7 : Int) ∧ ((x7 : Int) : Int) < 256, ndC C 18, (0 : Int) ≤ (x7 : Int) ∧ ((x7 : Int) : Int) < 256, (0 : Int) ≤ ((x7 + x5 : Nat) : Int) ∧ (((x7 + x5 : Nat) : Int) : Int) < 256]) [1, 2, 3, 4, 5, 6, 7] [0, 1, 2] 3 ⟨by rw [iadd64 omm omm]; omega, by omega, rfl, by omega, rfl, by omega, by omega, trivial⟩ hS fun hS => ?_
    refine block_n (then_n (rA [(1, .oi ((x7 + 1 : Nat) : Int))] trivial (fun _ => [iadd .i64 (x7 : Int) 1 = ((x7 + 1 : Nat) : Int)]) [1, 2, 3, 4, 5, 6, 7] [0, 1, 2] 3 ⟨by rw [iadd64 omm omm]; omega, trivial⟩ hS fun hS => ?_))
    refine then_n ?_
    exact next_y hg0 hS (s := (k3, x7, o1_0_3)) (k3 + 1, x7 + 1, upd (upd o1_0_3 x7 (mod_m (iadd .u32 (IntKind.wrap .u32 (o1_0_3 x7)) (irem (imul .u32 (zetas_m x4_2) (IntKind.wrap .u32 (o1_0_3 (x7 + x5)))) 3329)))) (x7 + x5) (mod_m (isub .u32 (iadd .u32 (IntKind.wrap .u32 (o1_0_3 x7)) 3329) (irem (imul .u32 (zetas_m x4_2) (IntKind.wrap .u32 (o1_0_3 (x7 + x5)))) 3329)))) [(0, 0), (1, 1), (2, 2)] (show x6 + x5 - (x7 + 1) < x6 + x5 - x7 from by omega) ⟨(it_next (F := ntt_l3 f k1 x4 x5 o1_0 k2 x4_2 x6 o1_0_2) (st := ntt_l3_s f k1 x4 x5 o1_0 k2 x4_2 x6 o1_0_2) (fun _ => rfl) hq3 rfl), (lst_next hj3 (by rw [← hq3]; exact h3)), omm, omm, trivial⟩
   ·have hScur := hS
    obtain rfl := lst_eq (P := fun j => ntt_l3_c f k1 x4 x5 o1_0 k2 x4_2 x6 o1_0_2 (ntt_l3 f k1 x4 x5 o1_0 k2 x4_2 x6 o1_0_2 j)) (by rw [← hq3]; first | exact h3 | exact not_not_intro h3) hj3
    obtain rfl : (ntt_l3 f k1 x4 x5 o1_0 k2 x4_2 x6 o1_0_2 (lst fun j => ntt_l3_c f k1 x4 x5 o1_0 k2 x4_2 x6 o1_0_2 (ntt_l3 f k1 x4 x5 o1_0 k2 x4_2 x6 o1_0_2 j))).1 = x7 := Eq.symm (congrArg (fun z => z.1) hq3)
    obtain rfl : (ntt_l3 f k1 x4 x5 o1_0 k2 x4_2 x6 o1_0_2 (lst fun j => ntt_l3_c f k1 x4 x5 o1_0 k2 x4_2 x6 o1_0_2 (ntt_l3 f k1 x4 x5 o1_0 k2 x4_2 x6 o1_0_2 j))).2 = o1_0_3 := Eq.symm (congrArg (fun z => z.2) hq3)
    have hS := hScur
    clear hScur
    refine wp_exit (then_exit (then_exit (block_exit (then_n (rA [(1, .oi ((x4_2 + 1 : Nat) : Int))] trivial (fun _ => [iadd .i64 (x4_2 : Int) 1 = ((x4_2 + 1 : Nat) : Int)]) [1, 2, 3, 4, 5, 6] [0, 1, 2] 3 ⟨by rw [iadd64 omm omm]; omega, trivial⟩ hS fun hS => ?_)))))
    refine block_n (then_n (rA [(2, .oi ((2 * x5 : Nat) : Int)), (3, .oi ((x6 + (2 * x5) : Nat) : Int))] trivial (fun _ => [imul .i64 2 (x5 : Int) = ((2 * x5 : Nat) : Int), iadd .i64 (x6 : Int) ((2 * x5 : Nat) : Int) = ((x6 + (2 * x5) : Nat) : Int)]) [1, 2, 3, 4, 5, 6] [0, 1, 2] 3 ⟨by rw [imul64 omm omm]; omega, by rw [iadd64 omm omm]; omega, trivial⟩ hS fun hS => ?_))
    refine then_n ?_
    exact next_y hg0 hS (s := (k2, x4_2, x6, o1_0_2)) (k2 + 1, x4_2 + 1, x6 + (2 * x5), (ntt_l3 f k1 x4 x5 o1_0 k2 x4_2 x6 o1_0_2 (lst fun j => ntt_l3_c f k1 x4 x5 o1_0 k2 x4_2 x6 o1_0_2 (ntt_l3 f k1 x4 x5 o1_0 k2 x4_2 x6 o1_0_2 j))).2) [(0, 0), (1, 1), (2, 2)] (show 256 - (x6 + (2 * x5)) < 256 - x6 from by omega) ⟨(it_next (F := ntt_l2 f k1 x4 x5 o1_0) (st := ntt_l2_s f k1 x4 x5 o1_0) (fun _ => rfl) hq2 rfl), (lst_next hj2 (by rw [← hq2]; exact h2)), pb.2.2, pb.1, trivial⟩
  ·have hScur := hS
   have pe := ntt_c omm pw p2 omm
   have pn := pa.2.1
   obtain rfl := lst_eq (P := fun j => ntt_l2_c f k1 x4 x5 o1_0 (ntt_l2 f k1 x4 x5 o1_0 j)) (by rw [← hq2]; first | exact h2 | exact not_not_intro h2) hj2
   obtain rfl : (ntt_l2 f k1 x4 x5 o1_0 (lst fun j => ntt_l2_c f k1 x4 x5 o1_0 (ntt_l2 f k1 x4 x5 o1_0 j))).1 = x4_2 := Eq.symm (congrArg (fun z => z.1) hq2)
   obtain rfl : (ntt_l2 f k1 x4 x5 o1_0 (lst fun j => ntt_l2_c f k1 x4 x5 o1_0 (ntt_l2 f k1 x4 x5 o1_0 j))).2.1 = x6 := Eq.symm (congrArg (fun z => z.2.1) hq2)
   obtain rfl : (ntt_l2 f k1 x4 x5 o1_0 (lst fun j => ntt_l2_c f k1 x4 x5 o1_0 (ntt_l2 f k1 x4 x5 o1_0 j))).2.2 = o1_0_2 := Eq.symm (congrArg (fun z => z.2.2) hq2)
   have hS := hScur
   clear hScur
   refine wp_exit (then_exit (then_exit (block_exit (block_n (then_n (rA [(1, .oi ((x5 / 2 : Nat) : Int))] trivial (fun _ => [iquo .i64 (x5 : Int) 2 = ((x5 / 2 : Nat) : Int), (2 : Int) ≠ 0]) [1, 2, 3, 4, 5] [0, 1, 2] 3 ⟨by rw [iquo64 omm omm omm]; omega, by omega, trivial⟩ hS fun hS => ?_))))))
   refine then_n ?_
   exact next_y hg0 hS (s := (k1, x4, x5, o1_0)) (k1 + 1, (ntt_l2 f k1 x4 x5 o1_0 (lst fun j => ntt_l2_c f k1 x4 x5 o1_0 (ntt_l2 f k1 x4 x5 o1_0 j))).1, x5 / 2, (ntt_l2 f k1 x4 x5 o1_0 (lst fun j => ntt_l2_c f k1 x4 x5 o1_0 (ntt_l2 f k1 x4 x5 o1_0 j))).2.2) [(0, 0), (1, 1), (2, 2)] (show (x5 / 2) < x5 from by omega) ⟨(it_next (F := ntt_l1 f) (st := ntt_l1_s f) (fun _ => rfl) hq1 rfl), (lst_next hj1 (by rw [← hq1]; exact h1)), pn, pe, trivial⟩
 ·have hScur := hS
  obtain rfl := lst_eq (P := fun j => ntt_l1_c f (ntt_l1 f j)) (by rw [← hq1]; first | exact h1 | exact not_not_intro h1) hj1
  obtain rfl : (ntt_l1 f (lst fun j => ntt_l1_c f (ntt_l1 f j))).1 = x4 := Eq.symm (congrArg (fun z => z.1) hq1)
  obtain rfl : (ntt_l1 f (lst fun j => ntt_l1_c f (ntt_l1 f j))).2.1 = x5 := Eq.symm (congrArg (fun z => z.2.1) hq1)
  obtain rfl : (ntt_l1 f (lst fun j => ntt_l1_c f (ntt_l1 f j))).2.2 = o1_0 := Eq.symm (congrArg (fun z => z.2.2) hq1)
  have hS := hScur
  clear hScur
  refine wp_exit (then_exit (then_exit (block_exit (then_n (s0 [2] [1] 3 hS fun hS => ?_)))))
  refine wp_ret ?_
  have hM : ntt_m f = (ntt_l1 f (lst fun j => ntt_l1_c f (ntt_l1 f j))).2.2 := ntt_e f
  exact fin_y rfl (.inr rfl) hS [.ar .u16 256 ((ntt_l1 f (lst fun j => ntt_l1_c f (ntt_l1 f j))).2.2)] [] (by show weak _ (.ar .u16 256 (ntt_m f)) = (.ar .u16 256 (ntt_m f)); rw [hM]; first | (simp only []; rfl) | (simp only []; done) | rfl) trivial

end
end Go.Sx.Try
namespace Go.Sx.Try
open Go.Mi Go.RowKit Go.Sx Go.Proofs
noncomputable section
def PQ (h : Nat) : Prop := h = 2 ∨ h = 4 ∨ h = 8 ∨ h = 16 ∨ h = 32 ∨ h = 64 ∨ h = 128 ∨ h = 256
set_option maxRecDepth 10000 in
theorem inv_a {h k : Nat} (h2 : h ≤ 128) (hh : PQ h) (hk : (k + 1) * h = 256) : (k + 1) * (2 * h) + 0 = 512 ∧ PQ (h * 2) ∧ 1 ≤ h := by
 unfold PQ at hh ⊢
 rcases hh with rfl | rfl | rfl | rfl | rfl | rfl | rfl | rfl <;> omega
set_option maxRecDepth 10000 in
theorem inv_b {h k f : Nat} (h2 : h ≤ 128) (hh : PQ h) (hk : (k + 1) * (2 * h) + f = 512) (hf : f < 256) : f + 2 * h ≤ 256 ∧ k < 128 ∧ 1 ≤ k ∧ (k - 1 + 1) * (2 * h) + (f + 2 * h) = 512 ∧ 2 ≤ h := by
 unfold PQ at hh
 rcases hh with rfl | rfl | rfl | rfl | rfl | rfl | rfl | rfl <;> omega
set_option maxRecDepth 10000 in
theorem inv_c {h k f : Nat} (h2 : h ≤ 128) (hh : PQ h) (hk : (k + 1) * (2 * h) + f = 512) (hf : f = 256) : (k + 1) * (h * 2) = 256 := by
 unfold PQ at hh
 rcases hh with rfl | rfl | rfl | rfl | rfl | rfl | rfl | rfl <;> omega
def inverse_l3_s (f : Nat → Int) (k1 : Nat) (x4 x5 : Nat) (o1_0 : Nat → Int) (k2 : Nat) (x4_2 x6 : Nat) (o1_0_2 : Nat → Int) (k3 : Nat) : (Nat × (Nat → Int)) → (Nat × (Nat → Int)) := fun z_ => match z_ with | (x7, o1_0_3) => (x7 + 1, upd (upd o1_0_3 x7 (mod_m (iadd .u32 (IntKind.wrap .u32 (o1_0_3 x7)) (IntKind.wrap .u32 (o1_0_3 (x7 + x5)))))) (x7 + x5) (mod_m (imul .u32 (zetas_m x4_2) (isub .u32 (iadd .u32 (IntKind.wrap .u32 ((upd o1_0_3 x7 (mod_m (iadd .u32 (IntKind.wrap .u32 (o1_0_3 x7)) (IntKind.wrap .u32 (o1_0_3 (x7 + x5)))))) (x7 + x5))) 3329) (IntKind.wrap .u32 (o1_0_3 x7))))))
def inverse_l3 (f : Nat → Int) (k1 : Nat) (x4 x5 : Nat) (o1_0 : Nat → Int) (k2 : Nat) (x4_2 x6 : Nat) (o1_0_2 : Nat → Int) : Nat → Nat × (Nat → Int)
 | 0 => (x6, o1_0_2)
 | k3 + 1 => inverse_l3_s f k1 x4 x5 o1_0 k2 x4_2 x6 o1_0_2 k3 (inverse_l3 f k1 x4 x5 o1_0 k2 x4_2 x6 o1_0_2 k3)
def inverse_l3_c (f : Nat → Int) (k1 : Nat) (x4 x5 : Nat) (o1_0 : Nat → Int) (k2 : Nat) (x4_2 x6 : Nat) (o1_0_2 : Nat → Int) : (Nat × (Nat → Int)) → Prop := fun z_ => match z_ with | (x7, o1_0_3) => ((x7 : Nat) : Int) < ((x6 + x5 : Nat) : Int)
def inverse_l2_s (f : Nat → Int) (k1 : Nat) (x4 x5 : Nat) (o1_0 : Nat → Int) (k2 : Nat) : (Nat × Nat × (Nat → Int)) → (Nat × Nat × (Nat → Int)) := fun z_ => match z_ with | (x4_2, x6, o1_0_2) => (x4_2 - 1, x6 + (2 * x5), (inverse_l3 f k1 x4 x5 o1_0 k2 x4_2 x6 o1_0_2 (lst fun j => inverse_l3_c f k1 x4 x5 o1_0 k2 x4_2 x6 o1_0_2 (inverse_l3 f k1 x4 x5 o1_0 k2 x4_2 x6 o1_0_2 j))).2)
def inverse_l2 (f : Nat → Int) (k1 : Nat) (x4 x5 : Nat) (o1_0 : Nat → Int) : Nat → Nat × Nat × (Nat → Int)
 | 0 => (x4, 0, o1_0)
 | k2 + 1 => inverse_l2_s f k1 x4 x5 o1_0 k2 (inverse_l2 f k1 x4 x5 o1_0 k2)
def inverse_l2_c (f : Nat → Int) (k1 : Nat) (x4 x5 : Nat) (o1_0 : Nat → Int) : (Nat × Nat × (Nat → Int)) → Prop := fun z_ => match z_ with | (x4_2, x6, o1_0_2) => ((x6 : Nat) : Int) < 256
def inverse_l1_s (f : Nat → Int) (k1 : Nat) : (Nat × Nat × (Nat → Int)) → (Nat × Nat × (Nat → Int)) := fun z_ => match z_ with | (x4, x5, o1_0) => ((inverse_l2 f k1 x4 x5 o1_0 (lst fun j => inverse_l2_c f k1 x4 x5 o1_0 (inverse_l2 f k1 x4 x5 o1_0 j))).1, x5 * 2, (inverse_l2 f k1 x4 x5 o1_0 (lst fun j => inverse_l2_c f k1 x4 x5 o1_0 (inverse_l2 f k1 x4 x5 o1_0 j))).2.2)
def inverse_l1 (f : Nat → Int) : Nat → Nat × Nat × (Nat → Int)
 | 0 => (127, 2, add_m f (fun _ => 0))
 | k1 + 1 => inverse_l1_s f k1 (inverse_l1 f k1)
def inverse_l1_c (f : Nat → Int) : (Nat × Nat × (Nat → Int)) → Prop := fun z_ => match z_ with | (x4, x5, o1_0) => ((x5 : Nat) : Int) ≤ 128
def inverse_l4_s (f : Nat → Int) (x67 : Nat) : (Nat → Int) → (Nat → Int) := fun o1_0 => upd o1_0 x67 (mod_m (imul .u32 (IntKind.wrap .u32 (o1_0 x67)) 3303))
def inverse_l4 (f : Nat → Int) : Nat → (Nat → Int)
 | 0 => (inverse_l1 f (lst fun j => inverse_l1_c f (inverse_l1 f j))).2.2
 | x67 + 1 => inverse_l4_s f x67 (inverse_l4 f x67)
def inverse_v (f : Nat → Int) : (Nat → Int) := inverse_l4 f 256
def inverse_m (f : Nat → Int) : (Nat → Int) := shut (inverse_v f)
theorem inverse_e (f : Nat → Int) : inverse_m f = inverse_v f := shut_eq _
def c_inverse (f : Nat → Int) : Con := ⟨[.ar .u16 256 f], [], .ar .u16 256 (inverse_m f), []⟩
theorem inverse_ok (f : Nat → Int) : ConOk Try.prog 77 (c_inverse f) := by
 refine conOk_of rfl (nb := 0) Try.func77 rfl rfl Try.ntmps77 rfl rfl rfl fun g0 w0 ac gs ws hg0 hS => ?_
 have hS := hS.sp
 refine s0 [1, 2] [0, 1] 2 hS fun hS => ?_
 refine sA [(0, .ov (.ar .u16 256 f)), (2, .call ⟨42, (c_add f (fun _ => 0)), [], []⟩)] ⟨add_ok _ _, trivial⟩ (fun _ => [(.ar .u16 256 f : D) = (.ar .u16 256 f), nd [.ar .u16 256 f, .ar .u16 256 (fun _ => 0)] []]) [1, 2] [0, 1] 2 ⟨rfl, rfl, trivial⟩ hS fun hS => ?_
 refine sA [(0, .call ⟨70, (c_zetas), [], []⟩)] ⟨zetas_ok, trivial⟩ (fun C => [ndC C 0]) [1, 2, 3, 4] [0, 1, 2] 3 ⟨rfl, trivial⟩ hS fun hS => ?_
 refine wp_seq (s0 [1, 2, 3, 4, 5] [0, 1, 2] 3 hS fun hS => ?_)
 refine wp_block (loop_y (ι := Nat × Nat × Nat × (Nat → Int)) hg0 hS (fun z_ => match z_ with | (k1, x4, x5, o1_0) => 256 - x5) (fun z_ => match z_ with | (k1, x4, x5, o1_0) => [(1, .cp 0 0), (2, .cp 1 0), (3, .cp 2 0), (4, vi ((x4 : Nat) : Int)), (5, vi ((x5 : Nat) : Int))]) (fun z_ => match z_ with | (k1, x4, x5, o1_0) => [(0, .ob 60 (chain [.ar .u16 256 o1_0])), (1, .ob 60 (chain [.ar .u16 256 (fun _ => 0)])), (2, .ob 106 (chain [.ar .u32 128 zetas_m]))]) (fun z_ => match z_ with | (k1, x4, x5, o1_0) => ((x4, x5, o1_0) = inverse_l1 f k1) ∧ (∀ j, j < k1 → inverse_l1_c f (inverse_l1 f j)) ∧ (PQ x5) ∧ ((x4 + 1) * x5 = 256) ∧ True) 3 (0, 127, 2, add_m f (fun _ => 0)) [(0, 0), (1, 1), (2, 2)] ⟨rfl, (fun j h => absurd h (Nat.not_lt_zero j)), (by unfold PQ; omega), rfl, trivial⟩ ?_)
 rintro ⟨k1, x4, x5, o1_0⟩ ac gs ws ⟨hq1, hj1, pw, pk, _⟩ hS
 refine wp_seq (s0 [1, 2, 3, 4, 5, 15] [0, 1, 2] 3 hS fun hS => ?_)
 refine if_d ((x5 : Int) ≤ 128) hS (fun h1 => ?_) (fun h1 => ?_)
 ·refine wp_skip (then_n (wp_seq (wp_block (wp_seq ?_))))
  have pa := inv_a omm pw pk
  refine r0 [1, 2, 3, 4, 5, 6] [0, 1, 2] 3 hS fun hS => ?_
  refine then_n (wp_block (loop_y (ι := Nat × Nat × Nat × (Nat → Int)) hg0 hS (fun z_ => match z_ with | (k2, x4_2, x6, o1_0_2) => 256 - x6) (fun z_ => match z_ with | (k2, x4_2, x6, o1_0_2) => [(1, .cp 0 0), (2, .cp 1 0), (3, .cp 2 0), (4, vi ((x4_2 : Nat) : Int)), (5, vi (x5 : Int)), (6, vi ((x6 : Nat) : Int))]) (fun z_ => match z_ with | (k2, x4_2, x6, o1_0_2) => [(0, .ob 60 (chain [.ar .u16 256 o1_0_2])), (1, .ob 60 (chain [.ar .u16 256 (fun _ => 0)])), (2, .ob 106 (chain [.ar .u32 128 zetas_m]))]) (fun z_ => match z_ with | (k2, x4_2, x6, o1_0_2) => ((x4_2, x6, o1_0_2) = inverse_l2 f k1 x4 x5 o1_0 k2) ∧ (∀ j, j < k2 → inverse_l2_c f k1 x4 x5 o1_0 (inverse_l2 f k1 x4 x5 o1_0 j)) ∧ ((x4_2 + 1) * (2 * x5) + x6 = 512) ∧ (x6 ≤ 256) ∧ True) 3 (0, x4, 0, o1_0) [(0, 0), (1, 1), (2, 2)] ⟨rfl, (fun j h => absurd h (Nat.not_lt_zero j)), pa.1, omm, trivial⟩ ?_))
  rintro ⟨k2, x4_2, x6, o1_0_2⟩ ac gs ws ⟨hq2, hj2, p2, p3, _⟩ hS
  refine wp_seq (s0 [1, 2, 3, 4, 5, 6, 19] [0, 1, 2] 3 hS fun hS => ?_)
  refine if_d ((x6 : Int) < 256) hS (fun h2 => ?_) (fun h2 => ?_)
  ·refine wp_skip (then_n (wp_seq (wp_block (wp_seq (wp_seq ?_)))))
   have pb := inv_b omm pw p2 omm
   refine r0 [1, 2, 3, 4, 5, 6, 7] [0, 1, 2] 3 hS fun hS => ?_
   refine then_n (wp_block (loop_y (ι := Nat × Nat × (Nat → Int)) hg0 hS (fun z_ => match z_ with | (k3, x7, o1_0_3) => x6 + x5 - x7) (fun z_ => match z_ with | (k3, x7, o1_0_3) => [(1, .cp 0 0), (2, .cp 1 0), (3, .cp 2 0), (4, vi (x4_2 : Int)), (5, vi (x5 : Int)), (6, vi (x6 : Int)), (7, vi ((x7 : Nat) : Int))]) (fun z_ => match z_ with | (k3, x7, o1_0_3) => [(0, .ob 60 (chain [.ar .u16 256 o1_0_3])), (1, .ob 60 (chain [.ar .u16 256 (fun _ => 0)])), (2, .ob 106 (chain [.ar .u32 128 zetas_m]))]) (fun z_ => match z_ with | (k3, x7, o1_0_3) => ((x7, o1_0_3) = inverse_l3 f k1 x4 x5 o1_0 k2 x4_2 x6 o1_0_2 k3) ∧ (∀ j, j < k3 → inverse_l3_c f k1 x4 x5 o1_0 k2 x4_2 x6 o1_0_2 (inverse_l3 f k1 x4 x5 o1_0 k2 x4_2 x6 o1_0_2 j)) ∧ (x6 ≤ x7) ∧ (x7 ≤ x6 + x5) ∧ True) 3 (0, x6, o1_0_2) [(0, 0), (1, 1), (2, 2)] ⟨rfl, (fun j h => absurd h (Nat.not_lt_zero j)), omm, omm, trivial⟩ ?_))
   rintro ⟨k3, x7, o1_0_3⟩ ac gs ws ⟨hq3, hj3, p4, p5, _⟩ hS
   refine wp_seq (sA [(3, .oi ((x6 + x5 : Nat) : Int))] trivial (fun _ => [iadd .i64 (x6 : Int) (x5 : Int) = ((x6 + x5 : Nat) : Int)]) [1, 2, 3, 4, 5, 6, 7, 29] [0, 1, 2] 3 ⟨by rw [iadd64 omm omm]; omega, trivial⟩ hS fun hS => ?_)
   refine if_d ((x7 : Int) < ((x6 + x5 : Nat) : Int)) hS (fun h3 => ?_) (fun h3 => ?_)
   ·refine wp_skip (then_n (wp_seq (wp_block (sA [] trivial (fun _ => [(0 : Int) ≤ (x7 : Int) ∧ ((x7 : Int) : Int) < 256]) [1, 2, 3, 4, 5, 6, 7, 8] [0, 1, 2] 3 ⟨by omega, trivial⟩ hS fun hS => ?_))))
    refine sA [(4, .oi ((x7 + x5 : Nat) : Int)), (9, .call ⟨71, (c_mod (iadd .u32 (IntKind.wrap .u32 (o1_0_3 x7)) (IntKind.wrap .u32 (o1_0_3 (x7 + x5))))), [], []⟩)] ⟨mod_ok _, trivial⟩ (fun C => [iadd .i64 (x7 : Int) (x5 : Int) = ((x7 + x5 : Nat) : Int), (0 : Int) ≤ ((x7 + x5 : Nat) : Int) ∧ (((x7 + x5 : Nat) : Int) : Int) < 256, ndC C 9, (0 : Int) ≤ (x7 : Int) ∧ ((x7 : Int) : Int) < 256]) [1, 2, 3, 4, 5, 6, 7, 8] [0, 1, 2] 3 ⟨by rw [iadd64 omm omm]; omega, by omega, rfl, by omega, trivial⟩ hS fun hS => ?_
    refine rA [(2, .oi ((x7 + x5 : Nat) : Int)), (8, .oi ((x7 + x5 : Nat) : Int)), (16, .call ⟨71, (c_mod (imul .u32 (zetas_m x4_2) (isub .u32 (iadd .u32 (IntKind.wrap .u32 ((upd o1_0_3 x7 (mod_m (iadd .u32 (IntKind.wrap .u32 (o1_0_3 x7)) (IntKind.wrap .u32 (o1_0_3 (x7 + x5)))))) (x7 + x5))) 3329) (IntKind.wrap .u32 (o1_0_3 x7))))), [], []⟩)] ⟨mod_ok _, trivial⟩ (fun C => [iadd .i64 (x7 : Int) (x5 : Int) = ((x7 + x5 : Nat) : Int), (0 : Int) ≤ (x4_2 : Int) ∧ ((x4_2 : Int) : Int) < 128, iadd .i64 (x7 : Int) (x5 : Int) = ((x7 + x5 : Nat) : Int), (0 : Int) ≤ ((x7 + x5 : Nat) : Int) ∧ (((x7 + x5 : Nat) : Int) : Int) < 256, ndC C 16, (0 : Int) ≤ ((x7 + x5 : Nat) : Int) ∧ (((x7 + x5 : Nat) : Int) : Int) < 256]) [1, 2, 3, 4, 5, 6, 7] [0, 1, 2] 3 ⟨by rw [iadd64 omm omm]; omega, by omega, by rw [iadd64 omm omm]; omega, by omega, rfl, by omega, trivial⟩ hS fun hS => ?_
    refine block_n (then_n (rA [(1, .oi ((x7 + 1 : Nat) : Int))] trivial (fun _ => [iadd .i64 (x7 : Int) 1 = ((x7 + 1 : Nat) : Int)]) [1, 2, 3, 4, 5, 6, 7] [0, 1, 2] 3 ⟨by rw [iadd64 omm omm]; omega, trivial⟩ hS fun hS => ?_))
    refine then_n ?_
    exact next_y hg0 hS (s := (k3, x7, o1_0_3)) (k3 + 1, x7 + 1, upd (upd o1_0_3 x7 (mod_m (iadd .u32 (IntKind.wrap .u32 (o1_0_3 x7)) (IntKind.wrap .u32 (o1_0_3 (x7 + x5)))))) (x7 + x5) (mod_m (imul .u32 (zetas_m x4_2) (isub .u32 (iadd .u32 (IntKind.wrap .u32 ((upd o1_0_3 x7 (mod_m (iadd .u32 (IntKind.wrap .u32 (o1_0_3 x7)) (IntKind.wrap .u32 (o1_0_3 (x7 + x5)))))) (x7 + x5))) 3329) (IntKind.wrap .u32 (o1_0_3 x7)))))) [(0, 0), (1, 1), (2, 2)] (show x6 + x5 - (x7 + 1) < x6 + x5 - x7 from by omega) ⟨(it_next (F := inverse_l3 f k1 x4 x5 o1_0 k2 x4_2 x6 o1_0_2) (st := inverse_l3_s f k1 x4 x5 o1_0 k2 x4_2 x6 o1_0_2) (fun _ => rfl) hq3 rfl), (lst_next hj3 (by rw [← hq3]; exact h3)), omm, omm, trivial⟩
   ·have hScur := hS
    obtain rfl := lst_eq (P := fun j => inverse_l3_c f k1 x4 x5 o1_0 k2 x4_2 x6 o1_0_2 (inverse_l3 f k1 x4 x5 o1_0 k2 x4_2 x6 o1_0_2 j)) (by rw [← hq3]; first | exact h3 | exact not_not_intro h3) hj3
    obtain rfl : (inverse_l3 f k1 x4 x5 o1_0 k2 x4_2 x6 o1_0_2 (lst fun j => inverse_l3_c f k1 x4 x5 o1_0 k2 x4_2 x6 o1_0_2 (inverse_l3 f k1 x4 x5 o1_0 k2 x4_2 x6 o1_0_2 j))).1 = x7 := Eq.symm (congrArg (fun z => z.1) hq3)
    obtain rfl : (inverse_l3 f k1 x4 x5 o1_0 k2 x4_2 x6 o1_0_2 (lst fun j => inverse_l3_c f k1 x4 x5 o1_0 k2 x4_2 x6 o1_0_2 (inverse_l3 f k1 x4 x5 o1_0 k2 x4_2 x6 o1_0_2 j))).2 = o1_0_3 := Eq.symm (congrArg (fun z => z.2) hq3)
    have hS := hScur
    clear hScur
    refine wp_exit (then_exit (then_exit (block_exit (then_n (rA [(1, .oi ((x4_2 - 1 : Nat) : Int))] trivial (fun _ => [isub .i64 (x4_2 : Int) 1 = ((x4_2 - 1 : Nat) : Int)]) [1, 2, 3, 4, 5, 6] [0, 1, 2] 3 ⟨by rw [isub64 omm omm]; omega, trivial⟩ hS fun hS => ?_)))))
    refine block_n (then_n (rA [(2, .oi ((2 * x5 : Nat) : Int)), (3, .oi ((x6 + (2 * x5) : Nat) : Int))] trivial (fun _ => [imul .i64 2 (x5 : Int) = ((2 * x5 : Nat) : Int), iadd .i64 (x6 : Int) ((2 * x5 : Nat) : Int) = ((x6 + (2 * x5) : Nat) : Int)]) [1, 2, 3, 4, 5, 6] [0, 1, 2] 3 ⟨by rw [imul64 omm omm]; omega, by rw [iadd64 omm omm]; omega, trivial⟩ hS fun hS => ?_))
    refine then_n ?_
    exact next_y hg0 hS (s := (k2, x4_2, x6, o1_0_2)) (k2 + 1, x4_2 - 1, x6 + (2 * x5), (inverse_l3 f k1 x4 x5 o1_0 k2 x4_2 x6 o1_0_2 (lst fun j => inverse_l3_c f k1 x4 x5 o1_0 k2 x4_2 x6 o1_0_2 (inverse_l3 f k1 x4 x5 o1_0 k2 x4_2 x6 o1_0_2 j))).2) [(0, 0), (1, 1), (2, 2)] (show 256 - (x6 + (2 * x5)) < 256 - x6 from by omega) ⟨(it_next (F := inverse_l2 f k1 x4 x5 o1_0) (st := inverse_l2_s f k1 x4 x5 o1_0) (fun _ => rfl) hq2 rfl), (lst_next hj2 (by rw [← hq2]; exact h2)), pb.2.2.2.1, pb.1, trivial⟩
  ·have hScur := hS
   have pe := inv_c omm pw p2 omm
   have pn := pa.2.1
   have pz := pa.2.2
   obtain rfl := lst_eq (P := fun j => inverse_l2_c f k1 x4 x5 o1_0 (inverse_l2 f k1 x4 x5 o1_0 j)) (by rw [← hq2]; first | exact h2 | exact not_not_intro h2) hj2
   obtain rfl : (inverse_l2 f k1 x4 x5 o1_0 (lst fun j => inverse_l2_c f k1 x4 x5 o1_0 (inverse_l2 f k1 x4 x5 o1_0 j))).1 = x4_2 := Eq.symm (congrArg (fun z => z.1) hq2)
   obtain rfl : (inverse_l2 f k1 x4 x5 o1_0 (lst fun j => inverse_l2_c f k1 x4 x5 o1_0 (inverse_l2 f k1 x4 x5 o1_0 j))).2.1 = x6 := Eq.symm (congrArg (fun z => z.2.1) hq2)
   obtain rfl : (inverse_l2 f k1 x4 x5 o1_0 (lst fun j => inverse_l2_c f k1 x4 x5 o1_0 (inverse_l2 f k1 x4 x5 o1_0 j))).2.2 = o1_0_2 := Eq.symm (congrArg (fun z => z.2.2) hq2)
   have hS := hScur
   clear hScur
   refine wp_exit (then_exit (then_exit (block_exit (block_n (then_n (rA [(1, .oi ((x5 * 2 : Nat) : Int))] trivial (fun _ => [imul .i64 (x5 : Int) 2 = ((x5 * 2 : Nat) : Int)]) [1, 2, 3, 4, 5] [0, 1, 2] 3 ⟨by rw [imul64 omm omm]; omega, trivial⟩ hS fun hS => ?_))))))
   refine then_n ?_
   exact next_y hg0 hS (s := (k1, x4, x5, o1_0)) (k1 + 1, (inverse_l2 f k1 x4 x5 o1_0 (lst fun j => inverse_l2_c f k1 x4 x5 o1_0 (inverse_l2 f k1 x4 x5 o1_0 j))).1, x5 * 2, (inverse_l2 f k1 x4 x5 o1_0 (lst fun j => inverse_l2_c f k1 x4 x5 o1_0 (inverse_l2 f k1 x4 x5 o1_0 j))).2.2) [(0, 0), (1, 1), (2, 2)] (show 256 - (x5 * 2) < 256 - x5 from by omega) ⟨(it_next (F := inverse_l1 f) (st := inverse_l1_s f) (fun _ => rfl) hq1 rfl), (lst_next hj1 (by rw [← hq1]; exact h1)), pn, pe, trivial⟩
 ·have hScur := hS
  obtain rfl := lst_eq (P := fun j => inverse_l1_c f (inverse_l1 f j)) (by rw [← hq1]; first | exact h1 | exact not_not_intro h1) hj1
  obtain rfl : (inverse_l1 f (lst fun j => inverse_l1_c f (inverse_l1 f j))).1 = x4 := Eq.symm (congrArg (fun z => z.1) hq1)
  obtain rfl : (inverse_l1 f (lst fun j => inverse_l1_c f (inverse_l1 f j))).2.1 = x5 := Eq.symm (congrArg (fun z => z.2.1) hq1)
  obtain rfl : (inverse_l1 f (lst fun j => inverse_l1_c f (inverse_l1 f j))).2.2 = o1_0 := Eq.symm (congrArg (fun z => z.2.2) hq1)
  have hS := hScur
  clear hScur
  refine wp_exit (then_exit (then_exit (block_exit (then_n (wp_seq (s0 [1, 2, 67] [0, 1] 3 hS fun hS => ?_))))))
  refine wp_block (loop_y (ι := Nat × (Nat → Int)) hg0 hS (fun z_ => match z_ with | (x67, o1_0) => 256 - x67) (fun z_ => match z_ with | (x67, o1_0) => [(1, .cp 0 0), (2, .cp 1 0), (67, vi ((x67 : Nat) : Int))]) (fun z_ => match z_ with | (x67, o1_0) => [(0, .ob 60 (chain [.ar .u16 256 o1_0])), (1, .ob 60 (chain [.ar .u16 256 (fun _ => 0)]))]) (fun z_ => match z_ with | (x67, o1_0) => (x67 ≤ 256) ∧ (o1_0 = inverse_l4 f x67) ∧ True) 2 (0, (inverse_l1 f (lst fun j => inverse_l1_c f (inverse_l1 f j))).2.2) [(0, 0), (1, 1)] ⟨omm, rfl, trivial⟩ ?_)
  rintro ⟨x67, o1_0⟩ ac gs ws ⟨hx67, hq4, _⟩ hS
  refine s0 [1, 2, 67, 68] [0, 1] 2 hS fun hS => ?_
  refine wp_seq ?_
  refine if_d ((x67 : Int) < 256) hS (fun h4 => ?_) (fun h4 => ?_)
  ·refine wp_skip (then_n (wp_seq (wp_block (s0 [1, 2, 9, 67] [0, 1] 2 hS fun hS => ?_))))
   refine rA [(6, .call ⟨71, (c_mod (imul .u32 (IntKind.wrap .u32 (o1_0 x67)) 3303)), [], []⟩)] ⟨mod_ok _, trivial⟩ (fun C => [(0 : Int) ≤ (x67 : Int) ∧ ((x67 : Int) : Int) < 256, ndC C 6, (0 : Int) ≤ (x67 : Int) ∧ ((x67 : Int) : Int) < 256]) [1, 2, 67] [0, 1] 2 ⟨by omega, rfl, by omega, trivial⟩ hS fun hS => ?_
   refine block_n (then_n (rA [(0, .oi ((x67 + 1 : Nat) : Int))] trivial (fun _ => [iadd .i64 (x67 : Int) 1 = ((x67 + 1 : Nat) : Int)]) [1, 2, 67] [0, 1] 2 ⟨by rw [iadd64 omm omm]; omega, trivial⟩ hS fun hS => ?_))
   refine then_n ?_
   exact next_y hg0 hS (s := (x67, o1_0)) (x67 + 1, upd o1_0 x67 (mod_m (imul .u32 (IntKind.wrap .u32 (o1_0 x67)) 3303))) [(0, 0), (1, 1)] (show 256 - (x67 + 1) < 256 - x67 from by omega) ⟨omm, (it_next (F := inverse_l4 f) (st := inverse_l4_s f) (fun _ => rfl) hq4 rfl), trivial⟩
  ·have hScur := hS
   obtain rfl : 256 = x67 := by omega
   obtain rfl : inverse_l4 f 256 = o1_0 := Eq.symm (congrArg (fun z => z) hq4)
   have hS := hScur
   clear hScur
   refine wp_exit (then_exit (then_exit (block_exit (then_n (s0 [2] [1] 2 hS fun hS => ?_)))))
   refine wp_ret ?_
   have hM : inverse_m f = inverse_l4 f 256 := inverse_e f
   exact fin_y rfl (.inr rfl) hS [.ar .u16 256 (inverse_l4 f 256)] [] (by show weak _ (.ar .u16 256 (inverse_m f)) = (.ar .u16 256 (inverse_m f)); rw [hM]; first | (simp only []; rfl) | (simp only []; done) | rfl) trivial

def mul_l1_s (f g : Nat → Int) (k1 : Nat) : (Nat × (Nat → Int)) → (Nat × (Nat → Int)) := fun z_ => match z_ with | (x6, o2_0) => (x6 + 2, upd (upd o2_0 x6 (mod_m (iadd .u32 (imul .u32 (IntKind.wrap .u32 (o2_0 x6)) (IntKind.wrap .u32 ((add_m g (fun _ => 0)) x6))) (imul .u32 (irem (imul .u32 (IntKind.wrap .u32 (o2_0 (x6 + 1))) (IntKind.wrap .u32 ((add_m g (fun _ => 0)) (x6 + 1)))) 3329) (irem (imul .u32 (irem (imul .u32 (zetas_m (x6 / 2)) (zetas_m (x6 / 2))) 3329) 17) 3329))))) (x6 + 1) (mod_m (iadd .u32 (imul .u32 (IntKind.wrap .u32 (o2_0 x6)) (IntKind.wrap .u32 ((add_m g (fun _ => 0)) (x6 + 1)))) (imul .u32 (IntKind.wrap .u32 (o2_0 (x6 + 1))) (IntKind.wrap .u32 ((add_m g (fun _ => 0)) x6))))))
def mul_l1 (f g : Nat → Int) : Nat → Nat × (Nat → Int)
 | 0 => (0, add_m f (fun _ => 0))
 | k1 + 1 => mul_l1_s f g k1 (mul_l1 f g k1)
def mul_l1_c (f g : Nat → Int) : (Nat × (Nat → Int)) → Prop := fun z_ => match z_ with | (x6, o2_0) => ((x6 : Nat) : Int) < 256
def mul_v (f g : Nat → Int) : (Nat → Int) := (mul_l1 f g (lst fun j => mul_l1_c f g (mul_l1 f g j))).2
def mul_m (f g : Nat → Int) : (Nat → Int) := shut (mul_v f g)
theorem mul_e (f g : Nat → Int) : mul_m f g = mul_v f g := shut_eq _
def c_mul (f g : Nat → Int) : Con := ⟨[.ar .u16 256 f, .ar .u16 256 g], [], .ar .u16 256 (mul_m f g), []⟩
theorem mul_ok (f g : Nat → Int) : ConOk Try.prog 74 (c_mul f g) := by
 refine conOk_of rfl (nb := 0) Try.func74 rfl rfl Try.ntmps74 rfl rfl rfl fun g0 w0 ac gs ws hg0 hS => ?_
 have hS := hS.sp
 refine s0 [2, 3, 4] [0, 1, 2] 3 hS fun hS => ?_
 refine sA [(0, .ov (.ar .u16 256 f)), (2, .call ⟨42, (c_add f (fun _ => 0)), [], []⟩), (3, .ov (.ar .u16 256 g)), (5, .call ⟨42, (c_add g (fun _ => 0)), [], []⟩)] ⟨add_ok _ _, add_ok _ _, trivial⟩ (fun _ => [(.ar .u16 256 f : D) = (.ar .u16 256 f), nd [.ar .u16 256 f, .ar .u16 256 (fun _ => 0)] [], (.ar .u16 256 g : D) = (.ar .u16 256 g), nd [.ar .u16 256 g, .ar .u16 256 (fun _ => 0)] []]) [2, 3, 4] [0, 1, 2] 3 ⟨rfl, rfl, rfl, rfl, trivial⟩ hS fun hS => ?_
 refine sA [(0, .call ⟨70, (c_zetas), [], []⟩)] ⟨zetas_ok, trivial⟩ (fun C => [ndC C 0]) [2, 3, 4, 5] [0, 1, 2, 3] 4 ⟨rfl, trivial⟩ hS fun hS => ?_
 refine wp_seq (s0 [2, 3, 4, 5, 6] [0, 1, 2, 3] 4 hS fun hS => ?_)
 refine wp_block (loop_y (ι := Nat × Nat × (Nat → Int)) hg0 hS (fun z_ => match z_ with | (k1, x6, o2_0) => 256 - x6) (fun z_ => match z_ with | (k1, x6, o2_0) => [(2, .cp 0 0), (3, .cp 1 0), (4, .cp 2 0), (5, .cp 3 0), (6, vi ((x6 : Nat) : Int))]) (fun z_ => match z_ with | (k1, x6, o2_0) => [(0, .ob 60 (chain [.ar .u16 256 o2_0])), (1, .ob 60 (chain [.ar .u16 256 (add_m g (fun _ => 0))])), (2, .ob 60 (chain [.ar .u16 256 (fun _ => 0)])), (3, .ob 106 (chain [.ar .u32 128 zetas_m]))]) (fun z_ => match z_ with | (k1, x6, o2_0) => ((x6, o2_0) = mul_l1 f g k1) ∧ (∀ j, j < k1 → mul_l1_c f g (mul_l1 f g j)) ∧ (x6 ≤ 256) ∧ (x6 % 2 = 0) ∧ True) 4 (0, 0, add_m f (fun _ => 0)) [(0, 0), (1, 1), (2, 2), (3, 3)] ⟨rfl, (fun j h => absurd h (Nat.not_lt_zero j)), omm, rfl, trivial⟩ ?_)
 rintro ⟨k1, x6, o2_0⟩ ac gs ws ⟨hq1, hj1, p1, p2, _⟩ hS
 refine wp_seq (s0 [2, 3, 4, 5, 6, 20] [0, 1, 2, 3] 4 hS fun hS => ?_)
 refine if_d ((x6 : Int) < 256) hS (fun h1 => ?_) (fun h1 => ?_)
 ·refine wp_skip (then_n (wp_seq (wp_block (sA [(1, .oi ((x6 / 2 : Nat) : Int)), (5, .oi ((x6 / 2 : Nat) : Int))] trivial (fun _ => [iquo .i64 (x6 : Int) 2 = ((x6 / 2 : Nat) : Int), (2 : Int) ≠ 0, (0 : Int) ≤ ((x6 / 2 : Nat) : Int) ∧ (((x6 / 2 : Nat) : Int) : Int) < 128, iquo .i64 (x6 : Int) 2 = ((x6 / 2 : Nat) : Int), (2 : Int) ≠ 0, (0 : Int) ≤ ((x6 / 2 : Nat) : Int) ∧ (((x6 / 2 : Nat) : Int) : Int) < 128, (3329 : Int) ≠ 0, (3329 : Int) ≠ 0]) [2, 3, 4, 5, 6, 7] [0, 1, 2, 3] 4 ⟨by rw [iquo64 omm omm omm]; omega, by omega, by omega, by rw [iquo64 omm omm omm]; omega, by omega, by omega, by omega, by omega, trivial⟩ hS fun hS => ?_))))
  refine sA [(5, .oi ((x6 + 1 : Nat) : Int)), (14, .oi ((x6 + 1 : Nat) : Int))] trivial (fun _ => [(0 : Int) ≤ (x6 : Int) ∧ ((x6 : Int) : Int) < 256, iadd .i64 (x6 : Int) 1 = ((x6 + 1 : Nat) : Int), (0 : Int) ≤ ((x6 + 1 : Nat) : Int) ∧ (((x6 + 1 : Nat) : Int) : Int) < 256, (0 : Int) ≤ (x6 : Int) ∧ ((x6 : Int) : Int) < 256, iadd .i64 (x6 : Int) 1 = ((x6 + 1 : Nat) : Int), (0 : Int) ≤ ((x6 + 1 : Nat) : Int) ∧ (((x6 + 1 : Nat) : Int) : Int) < 256]) [2, 3, 4, 5, 6, 7, 8, 9, 10, 11] [0, 1, 2, 3] 4 ⟨by omega, by rw [iadd64 omm omm]; omega, by omega, by omega, by rw [iadd64 omm omm]; omega, by omega, trivial⟩ hS fun hS => ?_
  refine rA [(2, .oi ((x6 + 1 : Nat) : Int)), (13, .call ⟨71, (c_mod (iadd .u32 (imul .u32 (IntKind.wrap .u32 (o2_0 x6)) (IntKind.wrap .u32 ((add_m g (fun _ => 0)) x6))) (imul .u32 (irem (imul .u32 (IntKind.wrap .u32 (o2_0 (x6 + 1))) (IntKind.wrap .u32 ((add_m g (fun _ => 0)) (x6 + 1)))) 3329) (irem (imul .u32 (irem (imul .u32 (zetas_m (x6 / 2)) (zetas_m (x6 / 2))) 3329) 17) 3329)))), [], []⟩), (21, .call ⟨71, (c_mod (iadd .u32 (imul .u32 (IntKind.wrap .u32 (o2_0 x6)) (IntKind.wrap .u32 ((add_m g (fun _ => 0)) (x6 + 1)))) (imul .u32 (IntKind.wrap .u32 (o2_0 (x6 + 1))) (IntKind.wrap .u32 ((add_m g (fun _ => 0)) x6))))), [], []⟩)] ⟨mod_ok _, mod_ok _, trivial⟩ (fun C => [iadd .i64 (x6 : Int) 1 = ((x6 + 1 : Nat) : Int), (3329 : Int) ≠ 0, ndC C 13, ndC C 21, (0 : Int) ≤ (x6 : Int) ∧ ((x6 : Int) : Int) < 256, (0 : Int) ≤ ((x6 + 1 : Nat) : Int) ∧ (((x6 + 1 : Nat) : Int) : Int) < 256]) [2, 3, 4, 5, 6] [0, 1, 2, 3] 4 ⟨by rw [iadd64 omm omm]; omega, by omega, rfl, rfl, by omega, by omega, trivial⟩ hS fun hS => ?_
  refine block_n (then_n (rA [(1, .oi ((x6 + 2 : Nat) : Int))] trivial (fun _ => [iadd .i64 (x6 : Int) 2 = ((x6 + 2 : Nat) : Int)]) [2, 3, 4, 5, 6] [0, 1, 2, 3] 4 ⟨by rw [iadd64 omm omm]; omega, trivial⟩ hS fun hS => ?_))
  refine then_n ?_
  exact next_y hg0 hS (s := (k1, x6, o2_0)) (k1 + 1, x6 + 2, upd (upd o2_0 x6 (mod_m (iadd .u32 (imul .u32 (IntKind.wrap .u32 (o2_0 x6)) (IntKind.wrap .u32 ((add_m g (fun _ => 0)) x6))) (imul .u32 (irem (imul .u32 (IntKind.wrap .u32 (o2_0 (x6 + 1))) (IntKind.wrap .u32 ((add_m g (fun _ => 0)) (x6 + 1)))) 3329) (irem (imul .u32 (irem (imul .u32 (zetas_m (x6 / 2)) (zetas_m (x6 / 2))) 3329) 17) 3329))))) (x6 + 1) (mod_m (iadd .u32 (imul .u32 (IntKind.wrap .u32 (o2_0 x6)) (IntKind.wrap .u32 ((add_m g (fun _ => 0)) (x6 + 1)))) (imul .u32 (IntKind.wrap .u32 (o2_0 (x6 + 1))) (IntKind.wrap .u32 ((add_m g (fun _ => 0)) x6)))))) [(0, 0), (1, 1), (2, 2), (3, 3)] (show 256 - (x6 + 2) < 256 - x6 from by omega) ⟨(it_next (F := mul_l1 f g) (st := mul_l1_s f g) (fun _ => rfl) hq1 rfl), (lst_next hj1 (by rw [← hq1]; exact h1)), omm, omm, trivial⟩
 ·have hScur := hS
  obtain rfl := lst_eq (P := fun j => mul_l1_c f g (mul_l1 f g j)) (by rw [← hq1]; first | exact h1 | exact not_not_intro h1) hj1
  obtain rfl : (mul_l1 f g (lst fun j => mul_l1_c f g (mul_l1 f g j))).1 = x6 := Eq.symm (congrArg (fun z => z.1) hq1)
  obtain rfl : (mul_l1 f g (lst fun j => mul_l1_c f g (mul_l1 f g j))).2 = o2_0 := Eq.symm (congrArg (fun z => z.2) hq1)
  have hS := hScur
  clear hScur
  refine wp_exit (then_exit (then_exit (block_exit (then_n (s0 [4] [2] 4 hS fun hS => ?_)))))
  refine wp_ret ?_
  have hM : mul_m f g = (mul_l1 f g (lst fun j => mul_l1_c f g (mul_l1 f g j))).2 := mul_e f g
  exact fin_y rfl (.inr rfl) hS [.ar .u16 256 ((mul_l1 f g (lst fun j => mul_l1_c f g (mul_l1 f g j))).2)] [] (by show weak _ (.ar .u16 256 (mul_m f g)) = (.ar .u16 256 (mul_m f g)); rw [hM]; first | (simp only []; rfl) | (simp only []; done) | rfl) trivial

def compress10_l1_s (f : Nat → Int) (x16 : Nat) : (Nat → Int) → (Nat → Int) := fun o2_0 => upd o2_0 x16 (IntKind.wrap .u16 (iand .u32 (iquo .u32 (iadd .u32 (ishl .u32 (IntKind.wrap .u32 (irem (f x16) 3329)) 11) 3329) 6658) 1023))
def compress10_l1 (f : Nat → Int) : Nat → (Nat → Int)
 | 0 => f
 | x16 + 1 => compress10_l1_s f x16 (compress10_l1 f x16)
def compress10_v (f : Nat → Int) : (Nat → Int) := compress10_l1 f 256
def compress10_m (f : Nat → Int) : (Nat → Int) := shut (compress10_v f)
theorem compress10_e (f : Nat → Int) : compress10_m f = compress10_v f := shut_eq _
def c_compress10 (f : Nat → Int) : Con := ⟨[.ar .u16 256 f, vi 10], [], .tu (chain [.ar .u16 256 (compress10_m f), vi 0]), []⟩
theorem compress10_ok (f : Nat → Int) : ConOk Try.prog 78 (c_compress10 f) := by
 refine conOk_of rfl (nb := 0) Try.func78 rfl rfl Try.ntmps78 rfl rfl rfl fun g0 w0 ac gs ws hg0 hS => ?_
 have hS := hS.sp
 refine s0 [1, 2, 4, 5] [0, 1] 2 hS fun hS => ?_
 refine wp_seq (s0 [1, 2, 4, 5, 13] [0, 1] 2 hS fun hS => ?_)
 refine cond_f hS ?_
 refine wp_skip (then_n (wp_seq (s0 [1, 2, 4, 5, 15, 16] [0, 1] 2 hS fun hS => ?_)))
 refine wp_block (loop_y (ι := Nat × (Nat → Int)) hg0 hS (fun z_ => match z_ with | (x16, o2_0) => 256 - x16) (fun z_ => match z_ with | (x16, o2_0) => [(1, vi 10), (2, .cp 0 0), (4, .cp 1 0), (5, vi 0), (15, .ar .u16 256 f), (16, vi ((x16 : Nat) : Int))]) (fun z_ => match z_ with | (x16, o2_0) => [(0, .ob 60 (chain [.ar .u16 256 o2_0])), (1, .ob 60 (chain [.ar .u16 256 (fun _ => 0)]))]) (fun z_ => match z_ with | (x16, o2_0) => (x16 ≤ 256) ∧ (o2_0 = compress10_l1 f x16) ∧ True) 2 (0, f) [(0, 0), (1, 1)] ⟨omm, rfl, trivial⟩ ?_)
 rintro ⟨x16, o2_0⟩ ac gs ws ⟨hx16, hq1, _⟩ hS
 refine s0 [1, 2, 4, 5, 15, 16, 17] [0, 1] 2 hS fun hS => ?_
 refine wp_seq ?_
 refine if_d ((x16 : Int) < 256) hS (fun h1 => ?_) (fun h1 => ?_)
 ·refine wp_skip (then_n (wp_seq (wp_block (sA [] trivial (fun _ => [(0 : Int) ≤ (x16 : Int) ∧ ((x16 : Int) : Int) < 256]) [1, 2, 4, 5, 6, 7, 15, 16] [0, 1] 2 ⟨by omega, trivial⟩ hS fun hS => ?_))))
  refine rA [] trivial (fun _ => [(3329 : Int) ≠ 0, (0 : Int) ≤ 11, (6658 : Int) ≠ 0, (0 : Int) ≤ 10, (0 : Int) ≤ (x16 : Int) ∧ ((x16 : Int) : Int) < 256]) [1, 2, 4, 5, 15, 16] [0, 1] 2 ⟨by omega, by omega, by omega, by omega, by omega, trivial⟩ hS fun hS => ?_
  refine block_n (then_n (rA [(0, .oi ((x16 + 1 : Nat) : Int))] trivial (fun _ => [iadd .i64 (x16 : Int) 1 = ((x16 + 1 : Nat) : Int)]) [1, 2, 4, 5, 15, 16] [0, 1] 2 ⟨by rw [iadd64 omm omm]; omega, trivial⟩ hS fun hS => ?_))
  refine then_n ?_
  exact next_y hg0 hS (s := (x16, o2_0)) (x16 + 1, upd o2_0 x16 (IntKind.wrap .u16 (iand .u32 (iquo .u32 (iadd .u32 (ishl .u32 (IntKind.wrap .u32 (irem (f x16) 3329)) 11) 3329) 6658) 1023))) [(0, 0), (1, 1)] (show 256 - (x16 + 1) < 256 - x16 from by omega) ⟨omm, (it_next (F := compress10_l1 f) (st := compress10_l1_s f) (fun _ => rfl) hq1 rfl), trivial⟩
 ·have hScur := hS
  obtain rfl : 256 = x16 := by omega
  obtain rfl : compress10_l1 f 256 = o2_0 := Eq.symm (congrArg (fun z => z) hq1)
  have hS := hScur
  clear hScur
  refine wp_exit (then_exit (then_exit (block_exit (then_n (s0 [4, 5] [1] 2 hS fun hS => ?_)))))
  refine wp_ret ?_
  have hM : compress10_m f = compress10_l1 f 256 := compress10_e f
  exact fin_y rfl (.inr rfl) hS [.ar .u16 256 (compress10_l1 f 256), vi 0] [] (by show weak _ (.tu (chain [.ar .u16 256 (compress10_m f), vi 0])) = (.tu (chain [.ar .u16 256 (compress10_m f), vi 0])); rw [hM]; first | (simp only []; rfl) | (simp only []; done) | rfl) trivial

def encode12_l2_s (f : Nat → Int) (x21 : Nat) (x6 : List Int) (x30 : Nat) : (List Int) → (List Int) := fun x6_2 => x6_2.set (((x21 * 12) + x30) / 8) (ior .u8 (x6_2.getD (((x21 * 12) + x30) / 8) 0) (ishl .u8 (IntKind.wrap .u8 (iand .u16 (ishr .u16 (irem (f x21) 3329) (x30 : Int)) 1)) ((((x21 * 12) + x30) % 8 : Nat) : Int)))
def encode12_l2 (f : Nat → Int) (x21 : Nat) (x6 : List Int) : Nat → (List Int)
 | 0 => x6
 | x30 + 1 => encode12_l2_s f x21 x6 x30 (encode12_l2 f x21 x6 x30)
def encode12_l1_s (f : Nat → Int) (x21 : Nat) : (List Int) → (List Int) := fun x6 => encode12_l2 f x21 x6 12
def encode12_l1 (f : Nat → Int) : Nat → (List Int)
 | 0 => List.replicate 384 (0 : Int)
 | x21 + 1 => encode12_l1_s f x21 (encode12_l1 f x21)
def encode12_v (f : Nat → Int) : (List Int) := encode12_l1 f 256
def encode12_m (f : Nat → Int) : (List Int) := shut (encode12_v f)
theorem encode12_e (f : Nat → Int) : encode12_m f = encode12_v f := shut_eq _
def c_encode12 (f : Nat → Int) : Con := ⟨[.ar .u16 256 f, vi 12], [], .tu (chain [.sk 0, vi 0]), [(0, .sl 5 [.int .u8] (encode12_m f))]⟩
theorem encode12_ok (f : Nat → Int) : ConOk Try.prog 76 (c_encode12 f) := by
 refine conOk_of rfl (nb := 0) Try.func76 rfl rfl Try.ntmps76 rfl rfl rfl fun g0 w0 ac gs ws hg0 hS => ?_
 have hS := hS.sp
 refine s0 [1, 2, 4, 5] [0] 1 hS fun hS => ?_
 refine wp_seq (s0 [1, 2, 4, 5, 16] [0] 1 hS fun hS => ?_)
 refine cond_f hS ?_
 refine wp_skip (then_n (sA [] trivial (fun _ => [(384 : Int) = 384, (0 : Int) ≤ 384, 1 * 384 ≤ 281474976710656, (384 : Int) ≤ 9223372036854775807]) [1, 2, 4, 5, 6] [0, 1] 2 ⟨rfl, by omega, by omega, by omega, trivial⟩ hS fun hS => ?_))
 refine wp_seq (s0 [1, 4, 5, 6, 20, 21] [1] 2 hS fun hS => ?_)
 refine wp_block (loop_y (ι := Nat × (List Int)) hg0 hS (fun z_ => match z_ with | (x21, x6) => 256 - x21) (fun z_ => match z_ with | (x21, x6) => [(1, vi 12), (4, .v (.slice none 0 0)), (5, vi 0), (6, .sk 1), (20, .ar .u16 256 f), (21, vi ((x21 : Nat) : Int))]) (fun z_ => match z_ with | (x21, x6) => [(1, .sl 5 [.int .u8] x6)]) (fun z_ => match z_ with | (x21, x6) => (x21 ≤ 256) ∧ (x6 = encode12_l1 f x21) ∧ (x6.length = 384) ∧ True) 2 (0, List.replicate 384 (0 : Int)) [(1, 1)] ⟨omm, rfl, (by simp), trivial⟩ ?_)
 rintro ⟨x21, x6⟩ ac gs ws ⟨hx21, hq1, p1, _⟩ hS
 refine s0 [1, 4, 5, 6, 20, 21, 22] [1] 2 hS fun hS => ?_
 refine wp_seq ?_
 refine if_d ((x21 : Int) < 256) hS (fun h1 => ?_) (fun h1 => ?_)
 ·refine wp_skip (then_n (wp_seq (wp_block (sA [] trivial (fun _ => [(0 : Int) ≤ (x21 : Int) ∧ ((x21 : Int) : Int) < 256]) [1, 4, 5, 6, 7, 8, 20, 21] [1] 2 ⟨by omega, trivial⟩ hS fun hS => ?_))))
  refine wp_seq (s0 [1, 4, 5, 6, 7, 8, 20, 21, 26] [1] 2 hS fun hS => ?_)
  refine cond_t hS ?_
  refine rA [] trivial (fun _ => [(3329 : Int) ≠ 0]) [1, 4, 5, 6, 7, 8, 20, 21] [1] 2 ⟨by omega, trivial⟩ hS fun hS => ?_
  refine then_n (s0 [1, 4, 5, 6, 7, 8, 20, 21, 29, 30] [1] 2 hS fun hS => ?_)
  refine wp_block (loop_y (ι := Nat × (List Int)) hg0 hS (fun z_ => match z_ with | (x30, x6_2) => 12 - x30) (fun z_ => match z_ with | (x30, x6_2) => [(1, vi 12), (4, .v (.slice none 0 0)), (5, vi 0), (6, .sk 1), (7, vi (x21 : Int)), (8, .v (.int .u16 (irem (f x21) 3329))), (20, .ar .u16 256 f), (21, vi (x21 : Int)), (29, vi 12), (30, vi ((x30 : Nat) : Int))]) (fun z_ => match z_ with | (x30, x6_2) => [(1, .sl 5 [.int .u8] x6_2)]) (fun z_ => match z_ with | (x30, x6_2) => (x30 ≤ 12) ∧ (x6_2 = encode12_l2 f x21 x6 x30) ∧ (x6_2.length = 384) ∧ True) 2 (0, x6) [(1, 1)] ⟨omm, rfl, p1, trivial⟩ ?_)
  rintro ⟨x30, x6_2⟩ ac gs ws ⟨hx30, hq2, p2, _⟩ hS
  refine s0 [1, 4, 5, 6, 7, 8, 20, 21, 29, 30, 31] [1] 2 hS fun hS => ?_
  refine wp_seq ?_
  refine if_d ((x30 : Int) < 12) hS (fun h2 => ?_) (fun h2 => ?_)
  ·refine wp_skip (then_n (wp_seq (wp_block (s0 [1, 4, 5, 6, 7, 8, 9, 20, 21, 29, 30] [1] 2 hS fun hS => ?_))))
   refine sA [(2, .oi ((x21 * 12 : Nat) : Int)), (4, .oi (((x21 * 12) + x30 : Nat) : Int))] trivial (fun _ => [imul .i64 (x21 : Int) 12 = ((x21 * 12 : Nat) : Int), iadd .i64 ((x21 * 12 : Nat) : Int) (x30 : Int) = (((x21 * 12) + x30 : Nat) : Int)]) [1, 4, 5, 6, 7, 8, 9, 10, 20, 21, 29, 30] [1] 2 ⟨by rw [imul64 omm omm]; omega, by rw [iadd64 omm omm]; omega, trivial⟩ hS fun hS => ?_
   refine rA [(2, .oi ((((x21 * 12) + x30) / 8 : Nat) : Int)), (11, .oi ((((x21 * 12) + x30) % 8 : Nat) : Int))] trivial (fun _ => [iquo .i64 (((x21 * 12) + x30 : Nat) : Int) 8 = ((((x21 * 12) + x30) / 8 : Nat) : Int), (8 : Int) ≠ 0, (0 : Int) ≤ ((((x21 * 12) + x30) / 8 : Nat) : Int) ∧ ((((x21 * 12) + x30) / 8 : Nat) : Int) < ((x6_2.length : Nat) : Int), (0 : Int) ≤ (x30 : Int), irem (((x21 * 12) + x30 : Nat) : Int) 8 = ((((x21 * 12) + x30) % 8 : Nat) : Int), (8 : Int) ≠ 0, (0 : Int) ≤ ((((x21 * 12) + x30) % 8 : Nat) : Int), (0 : Int) ≤ ((((x21 * 12) + x30) / 8 : Nat) : Int) ∧ ((((x21 * 12) + x30) / 8 : Nat) : Int) < ((x6_2.length : Nat) : Int)]) [1, 4, 5, 6, 7, 8, 20, 21, 29, 30] [1] 2 ⟨by rw [iquo64 omm omm omm]; omega, by omega, by omega, by omega, by rw [irem64 omm]; omega, by omega, by omega, by omega, trivial⟩ hS fun hS => ?_
   refine block_n (then_n (rA [(0, .oi ((x30 + 1 : Nat) : Int))] trivial (fun _ => [iadd .i64 (x30 : Int) 1 = ((x30 + 1 : Nat) : Int)]) [1, 4, 5, 6, 7, 8, 20, 21, 29, 30] [1] 2 ⟨by rw [iadd64 omm omm]; omega, trivial⟩ hS fun hS => ?_))
   refine then_n ?_
   exact next_y hg0 hS (s := (x30, x6_2)) (x30 + 1, x6_2.set (((x21 * 12) + x30) / 8) (ior .u8 (x6_2.getD (((x21 * 12) + x30) / 8) 0) (ishl .u8 (IntKind.wrap .u8 (iand .u16 (ishr .u16 (irem (f x21) 3329) (x30 : Int)) 1)) ((((x21 * 12) + x30) % 8 : Nat) : Int)))) [(1, 1)] (show 12 - (x30 + 1) < 12 - x30 from by omega) ⟨omm, (it_next (F := encode12_l2 f x21 x6) (st := encode12_l2_s f x21 x6) (fun _ => rfl) hq2 rfl), (by simpa using p2), trivial⟩
  ·have hScur := hS
   obtain rfl : 12 = x30 := by omega
   obtain rfl : encode12_l2 f x21 x6 12 = x6_2 := Eq.symm (congrArg (fun z => z) hq2)
   have hS := hScur
   clear hScur
   refine wp_exit (then_exit (then_exit (block_exit (block_n (then_n (rA [(0, .oi ((x21 + 1 : Nat) : Int))] trivial (fun _ => [iadd .i64 (x21 : Int) 1 = ((x21 + 1 : Nat) : Int)]) [1, 4, 5, 6, 20, 21] [1] 2 ⟨by rw [iadd64 omm omm]; omega, trivial⟩ hS fun hS => ?_))))))
   refine then_n ?_
   exact next_y hg0 hS (s := (x21, x6)) (x21 + 1, encode12_l2 f x21 x6 12) [(1, 1)] (show 256 - (x21 + 1) < 256 - x21 from by omega) ⟨omm, (it_next (F := encode12_l1 f) (st := encode12_l1_s f) (fun _ => rfl) hq1 rfl), p2, trivial⟩
 ·have hScur := hS
  obtain rfl : 256 = x21 := by omega
  obtain rfl : encode12_l1 f 256 = x6 := Eq.symm (congrArg (fun z => z) hq1)
  have hS := hScur
  clear hScur
  refine wp_exit (then_exit (then_exit (block_exit (then_n (s0 [4, 5] [1] 2 hS fun hS => ?_)))))
  refine wp_ret ?_
  have hM : encode12_m f = encode12_l1 f 256 := encode12_e f
  obtain ⟨gs, hS⟩ := hS.rn [(0, 1)] [(4, .sk 0), (5, vi 0)] [(0, .sl 5 [.int .u8] (encode12_l1 f 256))] 1 hg0
  exact fin_y rfl (.inr rfl) hS [.sk 0, vi 0] [(0, some (.sl 5 [.int .u8] (encode12_l1 f 256)))] rfl (by show H1Ok _ [(0, .sl 5 [.int .u8] (encode12_m f))] true; rw [hM]; first | (simp only []; exact ⟨rfl, trivial⟩) | exact ⟨rfl, trivial⟩)

def unpack12_l2_s (xs : List Int) (x8 : Nat) (o4_0 : Nat → Int) (x12 : Nat) : (Nat → Int) → (Nat → Int) := fun o4_0_2 => upd o4_0_2 x8 (ior .u16 (o4_0_2 x8) (ishl .u16 (IntKind.wrap .u16 (iand .u8 (ishr .u8 (xs.getD (((x8 * 12) + x12) / 8) 0) ((((x8 * 12) + x12) % 8 : Nat) : Int)) 1)) (x12 : Int)))
def unpack12_l2 (xs : List Int) (x8 : Nat) (o4_0 : Nat → Int) : Nat → (Nat → Int)
 | 0 => o4_0
 | x12 + 1 => unpack12_l2_s xs x8 o4_0 x12 (unpack12_l2 xs x8 o4_0 x12)
def unpack12_l1_s (xs : List Int) (x8 : Nat) : (Nat → Int) → (Nat → Int) := fun o4_0 => unpack12_l2 xs x8 o4_0 12
def unpack12_l1 (xs : List Int) : Nat → (Nat → Int)
 | 0 => fun _ => 0
 | x8 + 1 => unpack12_l1_s xs x8 (unpack12_l1 xs x8)
def unpack12_v (xs : List Int) : (Nat → Int) := unpack12_l1 xs 256
def unpack12_m (xs : List Int) : (Nat → Int) := shut (unpack12_v xs)
theorem unpack12_e (xs : List Int) : unpack12_m xs = unpack12_v xs := shut_eq _
def c_unpack12 (xs : List Int) : Con := ⟨[vi 12, lb xs], [], .ar .u16 256 (unpack12_m xs), []⟩
theorem unpack12_ok (xs : List Int) (h : 384 ≤ xs.length) : ConOk Try.prog 64 (c_unpack12 xs) := by
 refine conOk_of rfl (nb := 0) Try.func64 rfl rfl Try.ntmps64 rfl rfl rfl fun g0 w0 ac gs ws hg0 hS => ?_
 have hlen1 : xs.length ≤ 9223372036854775807 := hS.len 1 rfl
 have hS := hS.sp
 refine s0 [0, 1, 4] [0] 1 hS fun hS => ?_
 refine wp_seq (s0 [0, 1, 4, 8] [0] 1 hS fun hS => ?_)
 refine wp_block (loop_y (ι := Nat × (Nat → Int)) hg0 hS (fun z_ => match z_ with | (x8, o4_0) => 256 - x8) (fun z_ => match z_ with | (x8, o4_0) => [(0, vi 12), (1, lb xs), (4, .cp 0 0), (8, vi ((x8 : Nat) : Int))]) (fun z_ => match z_ with | (x8, o4_0) => [(0, .ob 60 (chain [.ar .u16 256 o4_0]))]) (fun z_ => match z_ with | (x8, o4_0) => (x8 ≤ 256) ∧ (o4_0 = unpack12_l1 xs x8) ∧ True) 1 (0, fun _ => 0) [(0, 0)] ⟨omm, rfl, trivial⟩ ?_)
 rintro ⟨x8, o4_0⟩ ac gs ws ⟨hx8, hq1, _⟩ hS
 refine s0 [0, 1, 4, 8, 9] [0] 1 hS fun hS => ?_
 refine wp_seq ?_
 refine if_d ((x8 : Int) < 256) hS (fun h1 => ?_) (fun h1 => ?_)
 ·refine wp_skip (then_n (wp_seq (wp_block (s0 [0, 1, 4, 5, 8] [0] 1 hS fun hS => ?_))))
  refine s0 [0, 1, 4, 5, 8, 11, 12] [0] 1 hS fun hS => ?_
  refine wp_block (loop_y (ι := Nat × (Nat → Int)) hg0 hS (fun z_ => match z_ with | (x12, o4_0_2) => 12 - x12) (fun z_ => match z_ with | (x12, o4_0_2) => [(0, vi 12), (1, lb xs), (4, .cp 0 0), (5, vi (x8 : Int)), (8, vi (x8 : Int)), (11, vi 12), (12, vi ((x12 : Nat) : Int))]) (fun z_ => match z_ with | (x12, o4_0_2) => [(0, .ob 60 (chain [.ar .u16 256 o4_0_2]))]) (fun z_ => match z_ with | (x12, o4_0_2) => (x12 ≤ 12) ∧ (o4_0_2 = unpack12_l2 xs x8 o4_0 x12) ∧ True) 1 (0, o4_0) [(0, 0)] ⟨omm, rfl, trivial⟩ ?_)
  rintro ⟨x12, o4_0_2⟩ ac gs ws ⟨hx12, hq2, _⟩ hS
  refine s0 [0, 1, 4, 5, 8, 11, 12, 13] [0] 1 hS fun hS => ?_
  refine wp_seq ?_
  refine if_d ((x12 : Int) < 12) hS (fun h2 => ?_) (fun h2 => ?_)
  ·refine wp_skip (then_n (wp_seq (wp_block (s0 [0, 1, 4, 5, 6, 8, 11, 12] [0] 1 hS fun hS => ?_))))
   refine sA [(2, .oi ((x8 * 12 : Nat) : Int)), (4, .oi (((x8 * 12) + x12 : Nat) : Int))] trivial (fun _ => [imul .i64 (x8 : Int) 12 = ((x8 * 12 : Nat) : Int), iadd .i64 ((x8 * 12 : Nat) : Int) (x12 : Int) = (((x8 * 12) + x12 : Nat) : Int)]) [0, 1, 4, 5, 6, 7, 8, 11, 12] [0] 1 ⟨by rw [imul64 omm omm]; omega, by rw [iadd64 omm omm]; omega, trivial⟩ hS fun hS => ?_
   refine rA [(5, .oi ((((x8 * 12) + x12) / 8 : Nat) : Int)), (9, .oi ((((x8 * 12) + x12) % 8 : Nat) : Int))] trivial (fun _ => [(0 : Int) ≤ (x8 : Int) ∧ ((x8 : Int) : Int) < 256, iquo .i64 (((x8 * 12) + x12 : Nat) : Int) 8 = ((((x8 * 12) + x12) / 8 : Nat) : Int), (8 : Int) ≠ 0, (0 : Int) ≤ ((((x8 * 12) + x12) / 8 : Nat) : Int) ∧ ((((x8 * 12) + x12) / 8 : Nat) : Int) < ((xs.length : Nat) : Int), irem (((x8 * 12) + x12 : Nat) : Int) 8 = ((((x8 * 12) + x12) % 8 : Nat) : Int), (8 : Int) ≠ 0, (0 : Int) ≤ ((((x8 * 12) + x12) % 8 : Nat) : Int), (0 : Int) ≤ (x12 : Int), (0 : Int) ≤ (x8 : Int) ∧ ((x8 : Int) : Int) < 256]) [0, 1, 4, 5, 8, 11, 12] [0] 1 ⟨by omega, by rw [iquo64 omm omm omm]; omega, by omega, by omega, by rw [irem64 omm]; omega, by omega, by omega, by omega, by omega, trivial⟩ hS fun hS => ?_
   refine block_n (then_n (rA [(0, .oi ((x12 + 1 : Nat) : Int))] trivial (fun _ => [iadd .i64 (x12 : Int) 1 = ((x12 + 1 : Nat) : Int)]) [0, 1, 4, 5, 8, 11, 12] [0] 1 ⟨by rw [iadd64 omm omm]; omega, trivial⟩ hS fun hS => ?_))
   refine then_n ?_
   exact next_y hg0 hS (s := (x12, o4_0_2)) (x12 + 1, upd o4_0_2 x8 (ior .u16 (o4_0_2 x8) (ishl .u16 (IntKind.wrap .u16 (iand .u8 (ishr .u8 (xs.getD (((x8 * 12) + x12) / 8) 0) ((((x8 * 12) + x12) % 8 : Nat) : Int)) 1)) (x12 : Int)))) [(0, 0)] (show 12 - (x12 + 1) < 12 - x12 from by omega) ⟨omm, (it_next (F := unpack12_l2 xs x8 o4_0) (st := unpack12_l2_s xs x8 o4_0) (fun _ => rfl) hq2 rfl), trivial⟩
  ·have hScur := hS
   obtain rfl : 12 = x12 := by omega
   obtain rfl : unpack12_l2 xs x8 o4_0 12 = o4_0_2 := Eq.symm (congrArg (fun z => z) hq2)
   have hS := hScur
   clear hScur
   refine wp_exit (then_exit (then_exit (block_exit (block_n (then_n (rA [(0, .oi ((x8 + 1 : Nat) : Int))] trivial (fun _ => [iadd .i64 (x8 : Int) 1 = ((x8 + 1 : Nat) : Int)]) [0, 1, 4, 8] [0] 1 ⟨by rw [iadd64 omm omm]; omega, trivial⟩ hS fun hS => ?_))))))
   refine then_n ?_
   exact next_y hg0 hS (s := (x8, o4_0)) (x8 + 1, unpack12_l2 xs x8 o4_0 12) [(0, 0)] (show 256 - (x8 + 1) < 256 - x8 from by omega) ⟨omm, (it_next (F := unpack12_l1 xs) (st := unpack12_l1_s xs) (fun _ => rfl) hq1 rfl), trivial⟩
 ·have hScur := hS
  obtain rfl : 256 = x8 := by omega
  obtain rfl : unpack12_l1 xs 256 = o4_0 := Eq.symm (congrArg (fun z => z) hq1)
  have hS := hScur
  clear hScur
  refine wp_exit (then_exit (then_exit (block_exit (then_n (s0 [4] [0] 1 hS fun hS => ?_)))))
  refine wp_ret ?_
  have hM : unpack12_m xs = unpack12_l1 xs 256 := unpack12_e xs
  exact fin_y rfl (.inr rfl) hS [.ar .u16 256 (unpack12_l1 xs 256)] [] (by show weak _ (.ar .u16 256 (unpack12_m xs)) = (.ar .u16 256 (unpack12_m xs)); rw [hM]; first | (simp only []; rfl) | (simp only []; done) | rfl) trivial

def mayB (f : Nat → Int) : Bool := (List.range 256).all fun i => decide (f i < 3329)
theorem may_no {f : Nat → Int} {i : Nat} (hi : i < 256) (h : (3329 : Int) ≤ f i) : mayB f = false := by
 cases hb : mayB f with
 | false => rfl
 | true =>
  have := List.all_eq_true.1 hb i (List.mem_range.2 hi)
  simp only [decide_eq_true_iff] at this
  omega
theorem may_yes {f : Nat → Int} (h : ∀ i, i < 256 → f i < 3329) : mayB f = true := by
 unfold mayB
 rw [List.all_eq_true]
 intro i hi
 rw [decide_eq_true_iff]
 exact h i (List.mem_range.1 hi)
def c_may (f : Nat → Int) : Con := ⟨[.ar .u16 256 f], [], .v (.bool (mayB f)), []⟩
theorem may_ok (f : Nat → Int) : ConOk Try.prog 34 (c_may f) := by
 refine conOk_of rfl (nb := 0) Try.func34 rfl rfl Try.ntmps34 rfl rfl rfl fun g0 w0 ac gs ws hg0 hS => ?_
 have hS := hS.sp
 refine s0 [1, 2] [0] 1 hS fun hS => ?_
 refine wp_seq (s0 [2, 5, 6] [] 1 hS fun hS => ?_)
 refine wp_block (loop_y (ι := Nat) hg0 hS (fun i => 256 - i) (fun i => [(5, .ar .u16 256 f), (6, vi ((i : Nat) : Int))]) (fun i => []) (fun i => (i ≤ 256) ∧ (∀ j, j < i → f j < 3329) ∧ True) 0 0 [] ⟨omm, (fun j h => absurd h (Nat.not_lt_zero j)), trivial⟩ ?_)
 rintro i ac gs ws ⟨hi, pm, _⟩ hS
 refine s0 [5, 6, 7] [] 0 hS fun hS => ?_
 refine wp_seq ?_
 refine if_d ((i : Int) < 256) hS (fun h1 => ?_) (fun h1 => ?_)
 ·refine wp_skip (then_n (wp_seq (wp_block (sA [] trivial (fun _ => [(0 : Int) ≤ (i : Int) ∧ ((i : Int) : Int) < 256]) [4, 5, 6] [] 0 ⟨by omega, trivial⟩ hS fun hS => ?_))))
  refine s0 [5, 6, 10] [] 0 hS fun hS => ?_
  refine if_d ((3329 : Int) ≤ (f i)) hS (fun h2 => ?_) (fun h2 => ?_)
  ·refine s0 [2, 5, 6] [] 0 hS fun hS => ?_
   refine wp_ret (block_ret (then_ret (then_ret (block_ret (then_ret ?_)))))
   exact fin_y rfl (.inr rfl) hS [.v (.bool false)] [] (by show weak _ (.v (.bool (mayB f))) = .v (.bool (mayB f)); rw [may_no omm h2]; rfl) trivial
  ·refine wp_skip (block_n (then_n (rA [(0, .oi ((i + 1 : Nat) : Int))] trivial (fun _ => [iadd .i64 (i : Int) 1 = ((i + 1 : Nat) : Int)]) [5, 6] [] 0 ⟨by rw [iadd64 omm omm]; omega, trivial⟩ hS fun hS => ?_)))
   refine then_n ?_
   exact next_y hg0 hS (s := (i)) (i + 1) [] (show 256 - (i + 1) < 256 - i from by omega) ⟨omm, (lst_next pm omm), trivial⟩
 ·have hScur := hS
  obtain rfl : 256 = i := by omega
  have hS := hScur
  clear hScur
  refine wp_exit (then_exit (then_exit (block_exit (then_n (s0 [2] [] 0 hS fun hS => ?_)))))
  refine wp_ret ?_
  exact fin_y rfl (.inr rfl) hS [.v (.bool true)] [] (by show weak _ (.v (.bool (mayB f))) = .v (.bool (mayB f)); rw [may_yes pm]; rfl) trivial

end
end Go.Sx.Try
namespace Go.Sx.Try
open Go.Mi Go.RowKit Go.Sx Go.Proofs
noncomputable section
def sum256_v (l : List (List Int)) : (List Int) := (rdA 136 (spg 136 6 l) 0 32).2.2
def sum256_m (l : List (List Int)) : (List Int) := shut (sum256_v l)
theorem sum256_e (l : List (List Int)) : sum256_m l = sum256_v l := shut_eq _
@[simp] theorem sum256_len (l : List (List Int)) : (sum256_m l).length = 32 := by rw [sum256_e]; exact rd_len ..
def c_sum256 (l : List (List Int)) : Con := ⟨[.ls false [.sl (.int .u8)] l], [], lb (sum256_m l), []⟩
theorem sum256_ok (l : List (List Int)) (h : l.flatten.length ≤ 140000000000000) : ConOk Try.prog 37 (c_sum256 l) := by
 refine conOk_of rfl (nb := 0) Try.func37 rfl rfl Try.ntmps37 rfl rfl rfl fun g0 w0 ac gs ws hg0 hS => ?_
 have hlen0 : l.length ≤ 9223372036854775807 := hS.len 0 rfl
 have hS := hS.sp
 refine s0 [0, 2] [] 0 hS fun hS => ?_
 refine sA [(1, .call ⟨67, (c_soaked 136 6 l), [], [(0, 0)]⟩), (2, .call ⟨68, (c_read 136 (spg 136 6 l) 0 32), [(0, 0)], []⟩)] ⟨soaked_ok _ _ _ omm omm (by first | omega | (simp only [List.flatten_cons, List.flatten_nil, List.length_append, List.length_cons, List.length_nil, List.length_take, List.length_drop, List.length_replicate] <;> omega) | (simp <;> omega)), read_ok _ _ _ _ omm omm omm omm, trivial⟩ (fun C => [ndC C 1, ndC C 2]) [2] [] 1 ⟨rfl, rfl, trivial⟩ hS fun hS => ?_
 refine wp_ret ?_
 have hM : sum256_m l = (rdA 136 (spg 136 6 l) 0 32).2.2 := sum256_e l
 exact fin_y rfl (.inr rfl) hS [lb ((rdA 136 (spg 136 6 l) 0 32).2.2)] [] (by show weak _ (lb (sum256_m l)) = (lb (sum256_m l)); rw [hM]; first | (simp only []; rfl) | (simp only []; done) | rfl) trivial

def sum512_v (l : List (List Int)) : (List Int) := (rdA 72 (spg 72 6 l) 0 64).2.2
def sum512_m (l : List (List Int)) : (List Int) := shut (sum512_v l)
theorem sum512_e (l : List (List Int)) : sum512_m l = sum512_v l := shut_eq _
@[simp] theorem sum512_len (l : List (List Int)) : (sum512_m l).length = 64 := by rw [sum512_e]; exact rd_len ..
def c_sum512 (l : List (List Int)) : Con := ⟨[.ls false [.sl (.int .u8)] l], [], lb (sum512_m l), []⟩
theorem sum512_ok (l : List (List Int)) (h : l.flatten.length ≤ 140000000000000) : ConOk Try.prog 38 (c_sum512 l) := by
 refine conOk_of rfl (nb := 0) Try.func38 rfl rfl Try.ntmps38 rfl rfl rfl fun g0 w0 ac gs ws hg0 hS => ?_
 have hlen0 : l.length ≤ 9223372036854775807 := hS.len 0 rfl
 have hS := hS.sp
 refine s0 [0, 2] [] 0 hS fun hS => ?_
 refine sA [(1, .call ⟨67, (c_soaked 72 6 l), [], [(0, 0)]⟩), (2, .call ⟨68, (c_read 72 (spg 72 6 l) 0 64), [(0, 0)], []⟩)] ⟨soaked_ok _ _ _ omm omm (by first | omega | (simp only [List.flatten_cons, List.flatten_nil, List.length_append, List.length_cons, List.length_nil, List.length_take, List.length_drop, List.length_replicate] <;> omega) | (simp <;> omega)), read_ok _ _ _ _ omm omm omm omm, trivial⟩ (fun C => [ndC C 1, ndC C 2]) [2] [] 1 ⟨rfl, rfl, trivial⟩ hS fun hS => ?_
 refine wp_ret ?_
 have hM : sum512_m l = (rdA 72 (spg 72 6 l) 0 64).2.2 := sum512_e l
 exact fin_y rfl (.inr rfl) hS [lb ((rdA 72 (spg 72 6 l) 0 64).2.2)] [] (by show weak _ (lb (sum512_m l)) = (lb (sum512_m l)); rw [hM]; first | (simp only []; rfl) | (simp only []; done) | rfl) trivial

def shake128_v (l : List (List Int)) : (List Int) := (rdA 136 (spg 136 31 l) 0 128).2.2
def shake128_m (l : List (List Int)) : (List Int) := shut (shake128_v l)
theorem shake128_e (l : List (List Int)) : shake128_m l = shake128_v l := shut_eq _
@[simp] theorem shake128_len (l : List (List Int)) : (shake128_m l).length = 128 := by rw [shake128_e]; exact rd_len ..
def c_shake128 (l : List (List Int)) : Con := ⟨[vi 128, .ls false [.sl (.int .u8)] l], [], lb (shake128_m l), []⟩
theorem shake128_ok (l : List (List Int)) (h : l.flatten.length ≤ 140000000000000) : ConOk Try.prog 98 (c_shake128 l) := by
 refine conOk_of rfl (nb := 0) Try.func98 rfl rfl Try.ntmps98 rfl rfl rfl fun g0 w0 ac gs ws hg0 hS => ?_
 have hlen1 : l.length ≤ 9223372036854775807 := hS.len 1 rfl
 have hS := hS.sp
 refine s0 [0, 1, 4] [] 0 hS fun hS => ?_
 refine sA [(1, .call ⟨67, (c_soaked 136 31 l), [], [(0, 0)]⟩), (4, .call ⟨68, (c_read 136 (spg 136 31 l) 0 128), [(0, 0)], []⟩)] ⟨soaked_ok _ _ _ omm omm (by first | omega | (simp only [List.flatten_cons, List.flatten_nil, List.length_append, List.length_cons, List.length_nil, List.length_take, List.length_drop, List.length_replicate] <;> omega) | (simp <;> omega)), read_ok _ _ _ _ omm omm omm omm, trivial⟩ (fun C => [ndC C 1, ndC C 4]) [4] [] 1 ⟨rfl, rfl, trivial⟩ hS fun hS => ?_
 refine wp_ret ?_
 have hM : shake128_m l = (rdA 136 (spg 136 31 l) 0 128).2.2 := shake128_e l
 exact fin_y rfl (.inr rfl) hS [lb ((rdA 136 (spg 136 31 l) 0 128).2.2)] [] (by show weak _ (lb (shake128_m l)) = (lb (shake128_m l)); rw [hM]; first | (simp only []; rfl) | (simp only []; done) | rfl) trivial

def noise_l1_s (sd : List Int) (k : Int) (x13 : Nat) : (Nat → Int) → (Nat → Int) := fun o4_0 => upd o4_0 x13 (mod_m (isub .u32 (isub .u32 (iadd .u32 (iadd .u32 (iand .u32 (ishr .u32 (IntKind.wrap .u32 ((shake128_m [sd, [k]]).getD (x13 / 2) 0)) (((x13 % 2) * 4 : Nat) : Int)) 1) (iand .u32 (ishr .u32 (ishr .u32 (IntKind.wrap .u32 ((shake128_m [sd, [k]]).getD (x13 / 2) 0)) (((x13 % 2) * 4 : Nat) : Int)) 1) 1)) 3329) (iand .u32 (ishr .u32 (ishr .u32 (IntKind.wrap .u32 ((shake128_m [sd, [k]]).getD (x13 / 2) 0)) (((x13 % 2) * 4 : Nat) : Int)) 2) 1)) (iand .u32 (ishr .u32 (ishr .u32 (IntKind.wrap .u32 ((shake128_m [sd, [k]]).getD (x13 / 2) 0)) (((x13 % 2) * 4 : Nat) : Int)) 3) 1)))
def noise_l1 (sd : List Int) (k : Int) : Nat → (Nat → Int)
 | 0 => fun _ => 0
 | x13 + 1 => noise_l1_s sd k x13 (noise_l1 sd k x13)
def noise_v (sd : List Int) (k : Int) : (Nat → Int) := noise_l1 sd k 256
def noise_m (sd : List Int) (k : Int) : (Nat → Int) := shut (noise_v sd k)
theorem noise_e (sd : List Int) (k : Int) : noise_m sd k = noise_v sd k := shut_eq _
def c_noise (sd : List Int) (k : Int) : Con := ⟨[lb sd, .v (.int .u8 k)], [], .ar .u16 256 (noise_m sd k), []⟩
theorem noise_ok (sd : List Int) (k : Int) (h : sd.length ≤ 100000000000000) : ConOk Try.prog 69 (c_noise sd k) := by
 refine conOk_of rfl (nb := 0) Try.func69 rfl rfl Try.ntmps69 rfl rfl rfl fun g0 w0 ac gs ws hg0 hS => ?_
 have hlen0 : sd.length ≤ 9223372036854775807 := hS.len 0 rfl
 have hS := hS.sp
 refine s0 [0, 1, 4] [0] 1 hS fun hS => ?_
 refine wp_seq (rA [(4, .call ⟨98, (c_shake128 [sd, [k]]), [], []⟩)] ⟨shake128_ok _ (by first | omega | (simp only [List.flatten_cons, List.flatten_nil, List.length_append, List.length_cons, List.length_nil, List.length_take, List.length_drop, List.length_replicate] <;> omega) | (simp <;> omega)), trivial⟩ (fun C => [ndC C 4]) [4, 5] [0] 1 ⟨rfl, trivial⟩ hS fun hS => ?_)
 have hl := shake128_len [sd, [k]]
 refine then_n (wp_seq (s0 [4, 5, 13] [0] 1 hS fun hS => ?_))
 refine wp_block (loop_y (ι := Nat × (Nat → Int)) hg0 hS (fun z_ => match z_ with | (x13, o4_0) => 256 - x13) (fun z_ => match z_ with | (x13, o4_0) => [(4, .cp 0 0), (5, lb (shake128_m [sd, [k]])), (13, vi ((x13 : Nat) : Int))]) (fun z_ => match z_ with | (x13, o4_0) => [(0, .ob 60 (chain [.ar .u16 256 o4_0]))]) (fun z_ => match z_ with | (x13, o4_0) => (x13 ≤ 256) ∧ (o4_0 = noise_l1 sd k x13) ∧ True) 1 (0, fun _ => 0) [(0, 0)] ⟨omm, rfl, trivial⟩ ?_)
 rintro ⟨x13, o4_0⟩ ac gs ws ⟨hx13, hq1, _⟩ hS
 refine s0 [4, 5, 13, 14] [0] 1 hS fun hS => ?_
 refine wp_seq ?_
 refine if_d ((x13 : Int) < 256) hS (fun h1 => ?_) (fun h1 => ?_)
 ·refine wp_skip (then_n (wp_seq (wp_block (s0 [4, 5, 6, 13] [0] 1 hS fun hS => ?_))))
  refine sA [(2, .oi ((x13 / 2 : Nat) : Int)), (7, .oi ((x13 % 2 : Nat) : Int)), (8, .oi (((x13 % 2) * 4 : Nat) : Int))] trivial (fun _ => [iquo .i64 (x13 : Int) 2 = ((x13 / 2 : Nat) : Int), (2 : Int) ≠ 0, (0 : Int) ≤ ((x13 / 2 : Nat) : Int) ∧ ((x13 / 2 : Nat) : Int) < (((shake128_m [sd, [k]]).length : Nat) : Int), irem (x13 : Int) 2 = ((x13 % 2 : Nat) : Int), (2 : Int) ≠ 0, imul .i64 ((x13 % 2 : Nat) : Int) 4 = (((x13 % 2) * 4 : Nat) : Int), (0 : Int) ≤ (((x13 % 2) * 4 : Nat) : Int)]) [4, 5, 6, 7, 13] [0] 1 ⟨by rw [iquo64 omm omm omm]; omega, by omega, by omega, by rw [irem64 omm]; omega, by omega, by rw [imul64 omm omm]; omega, by omega, trivial⟩ hS fun hS => ?_
  refine rA [(16, .call ⟨71, (c_mod (isub .u32 (isub .u32 (iadd .u32 (iadd .u32 (iand .u32 (ishr .u32 (IntKind.wrap .u32 ((shake128_m [sd, [k]]).getD (x13 / 2) 0)) (((x13 % 2) * 4 : Nat) : Int)) 1) (iand .u32 (ishr .u32 (ishr .u32 (IntKind.wrap .u32 ((shake128_m [sd, [k]]).getD (x13 / 2) 0)) (((x13 % 2) * 4 : Nat) : Int)) 1) 1)) 3329) (iand .u32 (ishr .u32 (ishr .u32 (IntKind.wrap .u32 ((shake128_m [sd, [k]]).getD (x13 / 2) 0)) (((x13 % 2) * 4 : Nat) : Int)) 2) 1)) (iand .u32 (ishr .u32 (ishr .u32 (IntKind.wrap .u32 ((shake128_m [sd, [k]]).getD (x13 / 2) 0)) (((x13 % 2) * 4 : Nat) : Int)) 3) 1))), [], []⟩)] ⟨mod_ok _, trivial⟩ (fun C => [(0 : Int) ≤ 1, (0 : Int) ≤ 2, (0 : Int) ≤ 3, ndC C 16, (0 : Int) ≤ (x13 : Int) ∧ ((x13 : Int) : Int) < 256]) [4, 5, 13] [0] 1 ⟨by omega, by omega, by omega, rfl, by omega, trivial⟩ hS fun hS => ?_
  refine block_n (then_n (rA [(0, .oi ((x13 + 1 : Nat) : Int))] trivial (fun _ => [iadd .i64 (x13 : Int) 1 = ((x13 + 1 : Nat) : Int)]) [4, 5, 13] [0] 1 ⟨by rw [iadd64 omm omm]; omega, trivial⟩ hS fun hS => ?_))
  refine then_n ?_
  exact next_y hg0 hS (s := (x13, o4_0)) (x13 + 1, upd o4_0 x13 (mod_m (isub .u32 (isub .u32 (iadd .u32 (iadd .u32 (iand .u32 (ishr .u32 (IntKind.wrap .u32 ((shake128_m [sd, [k]]).getD (x13 / 2) 0)) (((x13 % 2) * 4 : Nat) : Int)) 1) (iand .u32 (ishr .u32 (ishr .u32 (IntKind.wrap .u32 ((shake128_m [sd, [k]]).getD (x13 / 2) 0)) (((x13 % 2) * 4 : Nat) : Int)) 1) 1)) 3329) (iand .u32 (ishr .u32 (ishr .u32 (IntKind.wrap .u32 ((shake128_m [sd, [k]]).getD (x13 / 2) 0)) (((x13 % 2) * 4 : Nat) : Int)) 2) 1)) (iand .u32 (ishr .u32 (ishr .u32 (IntKind.wrap .u32 ((shake128_m [sd, [k]]).getD (x13 / 2) 0)) (((x13 % 2) * 4 : Nat) : Int)) 3) 1)))) [(0, 0)] (show 256 - (x13 + 1) < 256 - x13 from by omega) ⟨omm, (it_next (F := noise_l1 sd k) (st := noise_l1_s sd k) (fun _ => rfl) hq1 rfl), trivial⟩
 ·have hScur := hS
  obtain rfl : 256 = x13 := by omega
  obtain rfl : noise_l1 sd k 256 = o4_0 := Eq.symm (congrArg (fun z => z) hq1)
  have hS := hScur
  clear hScur
  refine wp_exit (then_exit (then_exit (block_exit (then_n (s0 [4] [0] 1 hS fun hS => ?_)))))
  refine wp_ret ?_
  have hM : noise_m sd k = noise_l1 sd k 256 := noise_e sd k
  exact fin_y rfl (.inr rfl) hS [.ar .u16 256 (noise_l1 sd k 256)] [] (by show weak _ (.ar .u16 256 (noise_m sd k)) = (.ar .u16 256 (noise_m sd k)); rw [hM]; first | (simp only []; rfl) | (simp only []; done) | rfl) trivial

def c_newreader (l : List (List Int)) : Con := ⟨[.ls false [.sl (.int .u8)] l], [], .cp 0 0, [(0, .ob 162 (chain [.cp 1 0])), (1, .ob 141 (chain [.ar .u64 25 (spg 168 31 l), vi 168, vi 0]))]⟩
theorem newreader_ok (l : List (List Int)) (h : l.flatten.length ≤ 140000000000000) : ConOk Try.prog 100 (c_newreader l) := by
 refine conOk_of rfl (nb := 0) Try.func100 rfl rfl Try.ntmps100 rfl rfl rfl fun g0 w0 ac gs ws hg0 hS => ?_
 have hlen0 : l.length ≤ 9223372036854775807 := hS.len 0 rfl
 have hS := hS.sp
 refine s0 [0, 2] [] 0 hS fun hS => ?_
 refine sA [(1, .call ⟨67, (c_soaked 168 31 l), [], [(0, 0)]⟩)] ⟨soaked_ok _ _ _ omm omm (by first | omega | (simp only [List.flatten_cons, List.flatten_nil, List.length_append, List.length_cons, List.length_nil, List.length_take, List.length_drop, List.length_replicate] <;> omega) | (simp <;> omega)), trivial⟩ (fun C => [ndC C 1]) [2] [0, 1] 2 ⟨rfl, trivial⟩ hS fun hS => ?_
 refine wp_ret ?_
 obtain ⟨gs, hS⟩ := hS.rn [(0, 1), (1, 0)] [(2, .cp 0 0)] [(0, .ob 162 (chain [.cp 1 0])), (1, .ob 141 (chain [.ar .u64 25 (spg 168 31 l), vi 168, vi 0]))] 2 hg0
 exact fin_y rfl (.inr rfl) hS [.cp 0 0] [(0, some (.ob 162 (chain [.cp 1 0]))), (1, some (.ob 141 (chain [.ar .u64 25 (spg 168 31 l), vi 168, vi 0])))] rfl ⟨rfl, rfl, trivial⟩

def c_rread (f : Nat → Int) (a : Nat) : Con := ⟨[.cp 0 0, vi 504], [(0, .ob 162 (chain [.cp 1 0])), (1, .ob 141 (chain [.ar .u64 25 f, vi 168, vi (a : Int)]))], lb ((rdA 168 f a 504).2.2), [(0, .ob 162 (chain [.cp 1 0])), (1, .ob 141 (chain [.ar .u64 25 ((rdA 168 f a 504).1), vi 168, vi ((((rdA 168 f a 504).2.1) : Nat) : Int)]))]⟩
theorem rread_ok (f : Nat → Int) (a : Nat) (h : a ≤ 168) : ConOk Try.prog 101 (c_rread f a) := by
 refine conOk_of rfl (nb := 2) Try.func101 rfl rfl Try.ntmps101 rfl rfl rfl fun g0 w0 ac gs ws hg0 hS => ?_
 have hS := hS.sp
 refine s0 [0, 1, 4] [0, 1] 2 hS fun hS => ?_
 refine wp_seq (s0 [0, 1, 4, 14] [0, 1] 2 hS fun hS => ?_)
 refine cond_f hS ?_
 refine wp_skip (then_n (wp_seq (s0 [0, 1, 4, 19] [0, 1] 2 hS fun hS => ?_)))
 refine cond_f hS ?_
 refine wp_skip (then_n (sA [(5, .call ⟨68, (c_read 168 f a 504), [(0, 1)], []⟩)] ⟨read_ok _ _ _ _ omm omm omm omm, trivial⟩ (fun C => [ndC C 5]) [4] [0, 1] 2 ⟨rfl, trivial⟩ hS fun hS => ?_))
 refine wp_ret ?_
 exact fin_y rfl (.inr rfl) hS [lb ((rdA 168 f a 504).2.2)] [(0, some (.ob 162 (chain [.cp 1 0]))), (1, some (.ob 141 (chain [.ar .u64 25 ((rdA 168 f a 504).1), vi 168, vi (((rdA 168 f a 504).2.1 : Nat) : Int)])))] rfl ⟨rfl, rfl, trivial⟩

end
end Go.Sx.Try
namespace Go.Sx
open Go.Mi Go.RowKit
def bv (f : Nat → Int) : Ke.St := fun i => BitVec.ofInt 64 (f i)
def Rg (f : Nat → Int) : Prop := ∀ i, i < 25 → 0 ≤ f i ∧ f i < 18446744073709551616
theorem wrap64 (x : Int) : IntKind.wrap .u64 x = x % 18446744073709551616 := by
 simp [IntKind.wrap, IntKind.bits, IntKind.signed]
theorem wrap64_rg (x : Int) : 0 ≤ IntKind.wrap .u64 x ∧ IntKind.wrap .u64 x < 18446744073709551616 := by rw [wrap64]; omega
theorem bv_wrap (x : Int) : BitVec.ofInt 64 (IntKind.wrap .u64 x) = BitVec.ofInt 64 x := by
 apply BitVec.eq_of_toInt_eq
 simp only [BitVec.toInt_ofInt, wrap64]
 unfold Int.bmod
 simp
theorem bv_nat (x : BitVec 64) : BitVec.ofInt 64 (x.toNat : Int) = x := by simp
theorem bv_xor (p q : Int) : BitVec.ofInt 64 (ixor .u64 p q) = BitVec.ofInt 64 p ^^^ BitVec.ofInt 64 q := by
 unfold ixor; rw [bv_wrap]; exact bv_nat _
theorem bv_and (p q : Int) : BitVec.ofInt 64 (iand .u64 p q) = BitVec.ofInt 64 p &&& BitVec.ofInt 64 q := by
 unfold iand; rw [bv_wrap]; exact bv_nat _
theorem bv_or (p q : Int) : BitVec.ofInt 64 (ior .u64 p q) = BitVec.ofInt 64 p ||| BitVec.ofInt 64 q := by
 unfold ior; rw [bv_wrap]; exact bv_nat _
theorem bv_not (p : Int) : BitVec.ofInt 64 (inot .u64 p) = ~~~ BitVec.ofInt 64 p := by
 unfold inot; rw [bv_xor]
 rw [show BitVec.ofInt 64 (if IntKind.signed .u64 then -1 else IntKind.max .u64) = BitVec.allOnes 64 from rfl, BitVec.allOnes_xor]
theorem ixor_rg (p q : Int) : 0 ≤ ixor .u64 p q ∧ ixor .u64 p q < 18446744073709551616 := wrap64_rg _
theorem ior_rg (p q : Int) : 0 ≤ ior .u64 p q ∧ ior .u64 p q < 18446744073709551616 := wrap64_rg _
theorem ofInt_toNat {x : Int} (h : 0 ≤ x ∧ x < 18446744073709551616) : (BitVec.ofInt 64 x).toNat = x.toNat := by
 rw [BitVec.toNat_ofInt]; omega
theorem bv_shl (p : Int) (k : Nat) (hk : k ≤ 64) : BitVec.ofInt 64 (ishl .u64 p (k : Int)) = BitVec.ofInt 64 p <<< k := by
 unfold ishl
 rw [bv_wrap, show min (k : Int).toNat (IntKind.bits .u64) = k by simp [IntKind.bits]; omega]
 apply BitVec.eq_of_toNat_eq
 rw [BitVec.toNat_shiftLeft, Nat.shiftLeft_eq, BitVec.toNat_ofInt, BitVec.toNat_ofInt]
 have h1 : (p * 2 ^ k) % ((2 ^ 64 : Nat) : Int) = ((p % ((2 ^ 64 : Nat) : Int)) * ((2 ^ k : Nat) : Int)) % ((2 ^ 64 : Nat) : Int) := by
  rw [show ((2 ^ k : Nat) : Int) = (2 : Int) ^ k by simp]
  have e1 := Int.mul_emod p (2 ^ k) ((2 ^ 64 : Nat) : Int)
  have e2 := Int.mul_emod (p % ((2 ^ 64 : Nat) : Int)) (2 ^ k) ((2 ^ 64 : Nat) : Int)
  rw [Int.emod_emod_of_dvd _ (Int.dvd_refl _)] at e2
  rw [e1, e2]
 rw [h1]
 have h2 : 0 ≤ p % ((2 ^ 64 : Nat) : Int) := Int.emod_nonneg _ (by decide)
 obtain ⟨n, hn⟩ := Int.eq_ofNat_of_zero_le h2
 rw [hn]
 have h3 : (((n : Int) * ((2 ^ k : Nat) : Int)) % ((2 ^ 64 : Nat) : Int)).toNat = n * 2 ^ k % 2 ^ 64 := by
  rw [← Int.natCast_mul, ← Int.natCast_emod, Int.toNat_natCast]
 rw [h3]
 rfl
theorem bv_shr {p : Int} (h : 0 ≤ p ∧ p < 18446744073709551616) (k : Nat) (hk : k ≤ 64) : BitVec.ofInt 64 (ishr .u64 p (k : Int)) = BitVec.ofInt 64 p >>> k := by
 unfold ishr
 rw [show min (k : Int).toNat (IntKind.bits .u64) = k by simp [IntKind.bits]; omega]
 obtain ⟨n, rfl⟩ := Int.eq_ofNat_of_zero_le h.1
 apply BitVec.eq_of_toNat_eq
 rw [BitVec.toNat_ushiftRight, Nat.shiftRight_eq_div_pow, ofInt_toNat h]
 rw [Int.fdiv_eq_ediv_of_nonneg _ (Int.pow_nonneg (by decide)), show (2 : Int) ^ k = ((2 ^ k : Nat) : Int) by simp]
 rw [show (((n : Nat) : Int) / ((2 ^ k : Nat) : Int)) = ((n / 2 ^ k : Nat) : Int) from rfl]
 have h3 : n / 2 ^ k ≤ n := Nat.div_le_self _ _
 have h4 : n < 18446744073709551616 := by have := h.2; omega
 rw [ofInt_toNat ⟨Int.natCast_nonneg _, by omega⟩, Int.toNat_natCast, Int.toNat_natCast]
theorem rotl_bv {x : Int} (h : 0 ≤ x ∧ x < 18446744073709551616) (k : Nat) (hk : k < 1000) : BitVec.ofInt 64 (rotl x (k : Int)) = Ke.rot (BitVec.ofInt 64 x) k := by
 have hm : iand .u64 (IntKind.wrap .u64 (k : Int)) 63 = ((k % 64 : Nat) : Int) := by
  unfold iand
  rw [wrap64, BitVec.toNat_and, show (BitVec.ofInt (IntKind.bits .u64) 63).toNat = 2 ^ 6 - 1 from rfl, Nat.and_two_pow_sub_one_eq_mod]
  have e : (BitVec.ofInt (IntKind.bits .u64) (IntKind.wrap .u64 (k : Int))).toNat = k := by
   rw [wrap64]
   show (BitVec.ofInt 64 _).toNat = k
   rw [ofInt_toNat ⟨by omega, by omega⟩]; omega
  rw [e]
  omega
 have hs : isub .u64 64 (iand .u64 (IntKind.wrap .u64 (k : Int)) 63) = ((64 - k % 64 : Nat) : Int) := by
  rw [hm]; unfold isub; rw [wrap64]; omega
 unfold rotl
 rw [bv_or, hs, hm, bv_shl _ _ (by omega), bv_shr h _ (by omega)]
 unfold Ke.rot
 rw [BitVec.rotateLeft_def]
theorem rotl_rg (x k : Int) : 0 ≤ rotl x k ∧ rotl x k < 18446744073709551616 := ior_rg _ _
theorem thC_s (a : Nat → Int) (n x : Nat) : thC a (n + 1) x = if x = n % 5 then ixor .u64 (thC a n x) (a n) else thC a n x := by
 simp only [thC, upd]
 split
 ·rename_i h; rw [h]
 ·rfl
theorem thC_5 (a : Nat → Int) (k x : Nat) (hx : x < 5) : thC a (5 * k + 5) x = ixor .u64 (thC a (5 * k) x) (a (5 * k + x)) := by
 have h5 : x = 0 ∨ x = 1 ∨ x = 2 ∨ x = 3 ∨ x = 4 := by omega
 rw [show 5 * k + 5 = 5 * k + 4 + 1 from rfl, thC_s, show 5 * k + 4 = 5 * k + 3 + 1 from rfl, thC_s, show 5 * k + 3 = 5 * k + 2 + 1 from rfl, thC_s, show 5 * k + 2 = 5 * k + 1 + 1 from rfl, thC_s, thC_s]
 rcases h5 with rfl | rfl | rfl | rfl | rfl <;> repeat (first | rw [if_pos (by omega)] | rw [if_neg (by omega)] | rfl)
theorem thC_at (a : Nat → Int) (x : Nat) (hx : x < 5) : BitVec.ofInt 64 (thC a 25 x) = Ke.par (bv a) x := by
 have h1 := thC_5 a 4 x hx
 have h2 := thC_5 a 3 x hx
 have h3 := thC_5 a 2 x hx
 have h4 := thC_5 a 1 x hx
 have h5 := thC_5 a 0 x hx
 have h6 : thC a 0 x = 0 := rfl
 show BitVec.ofInt 64 (thC a (5 * 4 + 5) x) = _
 rw [h1, show thC a (5 * 4) x = thC a (5 * 3 + 5) x from rfl, h2, show thC a (5 * 3) x = thC a (5 * 2 + 5) x from rfl, h3, show thC a (5 * 2) x = thC a (5 * 1 + 5) x from rfl, h4, show thC a (5 * 1) x = thC a (5 * 0 + 5) x from rfl, h5, show thC a (5 * 0) x = 0 from rfl]
 simp only [bv_xor]
 unfold Ke.par bv
 rw [Nat.mod_eq_of_lt hx]
 simp [Nat.add_comm]
theorem thA_at (a c : Nat → Int) : ∀ n i, thA a c n i = if i < n then ixor .u64 (a i) (ixor .u64 (c ((i % 5 + 4) % 5)) (rotl (c ((i % 5 + 1) % 5)) 1)) else a i
 | 0, i => by simp [thA]
 | n + 1, i => by
  simp only [thA, upd]
  by_cases h : i = n
  ·subst h; rw [if_pos rfl, thA_at a c i i, if_neg (Nat.lt_irrefl _), if_pos (Nat.lt_succ_self _)]
  ·rw [if_neg h, thA_at a c n i]
   by_cases h2 : i < n
   ·rw [if_pos h2, if_pos (by omega)]
   ·rw [if_neg h2, if_neg (by omega)]
theorem thC_rg (a : Nat → Int) : ∀ n i, 0 ≤ thC a n i ∧ thC a n i < 18446744073709551616
 | 0, i => by simp [thC]
 | n + 1, i => by
  simp only [thC, upd]
  split
  ·exact ixor_rg _ _
  ·exact thC_rg a n i
theorem theta_bv (a : Nat → Int) : Ke.Eq25 (bv (theta a)) (Ke.theta (bv a)) := by
 intro i hi
 unfold bv theta Ke.theta Ke.dif
 rw [thA_at, if_pos hi, bv_xor, bv_xor, thC_at _ _ (by omega), show (1 : Int) = ((1 : Nat) : Int) from rfl, rotl_bv (thC_rg _ _ _) 1 (by omega), thC_at _ _ (by omega)]
 rw [show (i % 5 + 4) % 5 = (i + 4) % 5 by omega, show (i % 5 + 1) % 5 = (i + 1) % 5 by omega, Ke.par_mod, Ke.par_mod]
 rfl
theorem theta_rg (a : Nat → Int) : Rg (theta a) := fun i hi => by
 unfold theta; rw [thA_at, if_pos hi]; exact ixor_rg _ _
theorem rhoA_bv {a : Nat → Int} (ha : Rg a) : ∀ n, n ≤ 24 → Rg (rhoA a n) ∧ Ke.Eq25 (bv (rhoA a n)) (Ke.rhoN (bv a) n)
 | 0, _ => ⟨ha, fun i _ => rfl⟩
 | n + 1, hn => by
  obtain ⟨h1, h2⟩ := rhoA_bv ha n (by omega)
  have hk : iquo .i64 (imul .i64 ((n + 1 : Nat) : Int) ((n + 2 : Nat) : Int)) 2 = (((n + 1) * (n + 2) / 2 : Nat) : Int) := by
   have key : ((List.range 24).all fun n => decide (iquo .i64 (imul .i64 ((n + 1 : Nat) : Int) ((n + 2 : Nat) : Int)) 2 = (((n + 1) * (n + 2) / 2 : Nat) : Int))) = true := by kernel_rfl
   exact of_decide_eq_true (List.all_eq_true.1 key n (List.mem_range.2 (by omega)))
  have hk2 : (n + 1) * (n + 2) / 2 < 1000 := by
   have : (n + 1) * (n + 2) ≤ 24 * 25 := Nat.mul_le_mul (by omega) (by omega)
   omega
  have hp := Ke.ps_lt n (by omega)
  refine ⟨fun i hi => ?_, fun i hi => ?_⟩
  ·simp only [rhoA, upd]
   split
   ·exact rotl_rg _ _
   ·exact h1 i hi
  ·simp only [rhoA, upd, bv, Ke.rhoN]
   show BitVec.ofInt 64 (if i = Ke.ps (n + 1) then _ else _) = _
   split
   ·rw [hk]; exact rotl_bv (ha _ hp) _ hk2
   ·exact h2 i hi
theorem rho_bv {a : Nat → Int} (ha : Rg a) : Ke.Eq25 (bv (rho a)) (Ke.rho (bv a)) := (rhoA_bv ha 24 (Nat.le_refl _)).2
theorem chiA_at (a : Nat → Int) : ∀ n i, chiA a n i = if i < n then ixor .u64 (a i) (iand .u64 (inot .u64 (a (i - i % 5 + (i + 1) % 5))) (a (i - i % 5 + (i + 2) % 5))) else a i
 | 0, i => by simp [chiA]
 | n + 1, i => by
  simp only [chiA, upd]
  by_cases h : i = n
  ·subst h; rw [if_pos rfl, chiA_at a i i, if_neg (Nat.lt_irrefl _), if_pos (Nat.lt_succ_self _)]
  ·rw [if_neg h, chiA_at a n i]
   by_cases h2 : i < n
   ·rw [if_pos h2, if_pos (by omega)]
   ·rw [if_neg h2, if_neg (by omega)]
theorem chi_bv (a : Nat → Int) : Ke.Eq25 (bv (chi a)) (Ke.chi (bv a)) := by
 intro i hi
 unfold bv chi Ke.chi
 rw [chiA_at, if_pos hi, bv_xor, bv_and, bv_not]
theorem chi_rg (a : Nat → Int) : Rg (chi a) := fun i hi => by
 unfold chi; rw [chiA_at, if_pos hi]; exact ixor_rg _ _
theorem kst3 (b : Nat → Int) : kst b 3 = chi (rho (theta b)) := by simp only [kst, kstp]
def RCl (n : Nat) : List Ke.Ln := (List.range n).map fun i => BitVec.ofInt 64 (RC i)
theorem rounds_app : ∀ (l m : List Ke.Ln) (a : Ke.St), Ke.rounds (l ++ m) a = Ke.rounds m (Ke.rounds l a)
 | [], m, a => rfl
 | c :: l, m, a => rounds_app l m (Ke.round c a)
theorem perA_bv {a : Nat → Int} (ha : Rg a) : ∀ n, Rg (perA a n) ∧ Ke.Eq25 (bv (perA a n)) (Ke.rounds (RCl n) (bv a))
 | 0 => ⟨ha, fun i _ => rfl⟩
 | n + 1 => by
  obtain ⟨h1, h2⟩ := perA_bv ha n
  generalize hK : Ke.rounds (RCl n) (bv a) = K at h2
  have e : Ke.rounds (RCl (n + 1)) (bv a) = Ke.round (BitVec.ofInt 64 (RC n)) K := by
   rw [← hK]; unfold RCl; rw [List.range_succ, List.map_append, rounds_app]; rfl
  have k1 : Rg (kst (perA a n) 3) := by rw [kst3]; exact chi_rg _
  have k2 : Ke.Eq25 (bv (kst (perA a n) 3)) (Ke.chi (Ke.rho (Ke.theta K))) := by
   have t1 : Ke.Eq25 (bv (theta (perA a n))) (Ke.theta K) := fun i hi => by rw [theta_bv _ i hi, Ke.theta_congr h2 i hi]
   have t2 : Ke.Eq25 (bv (rho (theta (perA a n)))) (Ke.rho (Ke.theta K)) := fun i hi => by
    rw [rho_bv (theta_rg _) i hi]; exact Ke.rhoN_congr t1 24 (Nat.le_refl _) i hi
   intro i hi
   rw [kst3, chi_bv _ i hi, Ke.chi_congr t2 i hi]
  have pe : perA a (n + 1) = upd (kst (perA a n) 3) 0 (ixor .u64 (kst (perA a n) 3 0) (RC n)) := rfl
  generalize kst (perA a n) 3 = q at k1 k2 pe
  rw [pe]
  refine ⟨fun i hi => ?_, fun i hi => ?_⟩
  ·unfold upd
   split
   ·exact ixor_rg _ _
   ·exact k1 i hi
  ·rw [e]
   unfold Ke.round Ke.iota bv upd
   split
   ·rw [bv_xor]
    have := k2 0 (by omega)
    unfold bv at this
    rw [this]
   ·exact k2 i hi
def permK (a : Ke.St) : Ke.St := Ke.rounds (RCl 24) a
theorem perm_bv {a : Nat → Int} (ha : Rg a) : Ke.Eq25 (bv (perm a)) (permK (bv a)) := (perA_bv ha 24).2
theorem perm_rg {a : Nat → Int} (ha : Rg a) : Rg (perm a) := (perA_bv ha 24).1
def permN (a : Nat → Int) : Nat → Nat → Int
 | 0 => a
 | n + 1 => perm (permN a n)
theorem permN_bv {a : Nat → Int} (ha : Rg a) : ∀ n, Rg (permN a n) ∧ Ke.Eq25 (bv (permN a n)) (Ke.iter permK n (bv a))
 | 0 => ⟨ha, fun _ _ => rfl⟩
 | n + 1 => by
  obtain ⟨h1, h2⟩ := permN_bv ha n
  refine ⟨perm_rg h1, fun i hi => ?_⟩
  show bv (perm (permN a n)) i = permK (Ke.iter permK n (bv a)) i
  rw [perm_bv h1 i hi]
  exact Ke.rounds_congr (RCl 24) h2 i hi
theorem perm_again {a : Nat → Int} (ha : Rg a) (m : Nat) : ∃ n, m < n ∧ ∀ i, i < 25 → permN a n i = a i := by
 obtain ⟨n, h1, h2⟩ := Ke.again_late (f := permK) (fun h => Ke.rounds_inj _ h) (fun h => Ke.rounds_congr _ h) (bv a) m
 refine ⟨n, h1, fun i hi => ?_⟩
 obtain ⟨h3, h4⟩ := permN_bv ha n
 have h5 := (h4 i hi).trans (h2 i hi)
 unfold bv at h5
 have h6 := congrArg BitVec.toNat h5
 rw [ofInt_toNat (h3 i hi), ofInt_toNat (ha i hi)] at h6
 have := h3 i hi
 have := ha i hi
 omega
end Go.Sx
namespace Go.Sx
open Go.Mi Go.RowKit
def Bt (f : Nat → Int) (i : Nat) : Int := IntKind.wrap .u8 (ishr .u64 (f (i / 8)) ((8 * (i % 8) : Nat) : Int))
def bts (f : Nat → Int) (a n : Nat) : List Int := (List.range n).map fun i => Bt f (a + i)
theorem bts_s (f : Nat → Int) (a n : Nat) : bts f a (n + 1) = bts f a n ++ [Bt f (a + n)] := by unfold bts; rw [List.range_succ, List.map_append]; rfl
theorem bts_len (f : Nat → Int) (a n : Nat) : (bts f a n).length = n := by simp [bts]
theorem rdA_in {r : Nat} (f : Nat → Int) (a : Nat) : ∀ n, a + n ≤ r → rdA r f a n = (f, a + n, bts f a n)
 | 0, _ => (rd_0 r f a).symm
 | n + 1, h => by
  rw [rdA_s, rdA_in f a n (by omega), bts_s]
  simp only
  rw [if_neg (by omega)]
  rfl
theorem rdA_app (r : Nat) (f : Nat → Int) (a m : Nat) : ∀ n, rdA r f a (m + n) = ((rdA r (rdA r f a m).1 (rdA r f a m).2.1 n).1, (rdA r (rdA r f a m).1 (rdA r f a m).2.1 n).2.1, (rdA r f a m).2.2 ++ (rdA r (rdA r f a m).1 (rdA r f a m).2.1 n).2.2)
 | 0 => by
  rw [← rd_0]
  simp
 | n + 1 => by
  have ih := rdA_app r f a m n
  rw [show m + (n + 1) = (m + n) + 1 from rfl, rdA_s, ih, rdA_s]
  generalize rdA r (rdA r f a m).1 (rdA r f a m).2.1 n = q
  obtain ⟨g, b, o⟩ := q
  simp only
  split <;> simp
theorem rdA_full {r : Nat} (hr : 0 < r) (f : Nat → Int) (n : Nat) : rdA r f r (n + 1) = rdA r (perm f) 0 (n + 1) := by
 rw [Nat.add_comm n 1, rdA_app r f r 1, rdA_app r (perm f) 0 1]
 have h1 : rdA r f r 1 = (perm f, 1, [Bt (perm f) 0]) := by rw [rdA_s, ← rd_0]; simp only [if_true]; rfl
 have h2 : rdA r (perm f) 0 1 = (perm f, 1, [Bt (perm f) 0]) := by rw [rdA_s, ← rd_0]; simp only; rw [if_neg (by omega)]; rfl
 rw [h1, h2]
def blk (f : Nat → Int) : List Int := bts f 0 168
theorem blk_len (f : Nat → Int) : (blk f).length = 168 := bts_len ..
theorem rdA_r {r : Nat} (hr : 0 < r) (h : Nat → Int) : rdA r h 0 (r + (r + r)) = (perm (perm h), r, bts h 0 r ++ bts (perm h) 0 r ++ bts (perm (perm h)) 0 r) := by
 have e : ∀ h, rdA r h 0 r = (h, r, bts h 0 r) := fun h => by rw [rdA_in h 0 r (by omega), Nat.zero_add]
 have e2 : ∀ h, rdA r h r r = (perm h, r, bts (perm h) 0 r) := fun h => by
  obtain ⟨n, rfl⟩ : ∃ n, r = n + 1 := ⟨r - 1, by omega⟩
  rw [rdA_full hr, e]
 rw [rdA_app, e, rdA_app, e2, e2, List.append_assoc]
theorem rdA_3 (h : Nat → Int) : rdA 168 h 0 504 = (perm (perm h), 168, blk h ++ blk (perm h) ++ blk (perm (perm h))) := rdA_r (by decide) h
theorem rdA_4 (h : Nat → Int) : rdA 168 h 168 504 = (perm (perm (perm h)), 168, blk (perm h) ++ blk (perm (perm h)) ++ blk (perm (perm (perm h)))) := (rdA_full (r := 168) (by decide) h 503).trans (rdA_3 (perm h))
def acc1 (x : Int) (s : (Nat → Int) × Nat) : (Nat → Int) × Nat := if x < 3329 then (if s.2 < 256 then (upd s.1 s.2 x, s.2 + 1) else s) else s
def ux1 (a b : Int) : Int := ior .u16 (IntKind.wrap .u16 a) (ishl .u16 (IntKind.wrap .u16 (iand .u8 b 15)) 8)
def ux2 (b c : Int) : Int := ior .u16 (IntKind.wrap .u16 (ishr .u8 b 4)) (ishl .u16 (IntKind.wrap .u16 c) 4)
def acc : List Int → (Nat → Int) × Nat → (Nat → Int) × Nat
 | a :: b :: c :: r, s => acc r (acc1 (ux2 b c) (acc1 (ux1 a b) s))
 | _, s => s
theorem acc_step {b : List Int} (h : 3 ≤ b.length) (s : (Nat → Int) × Nat) : acc b s = acc (b.drop 3) (acc1 (ux2 (b.getD 1 0) (b.getD 2 0)) (acc1 (ux1 (b.getD 0 0) (b.getD 1 0)) s)) := by
 match b, h with
 | x :: y :: z :: r, _ => rfl
theorem acc_nil (s : (Nat → Int) × Nat) : acc [] s = s := rfl
theorem acc1_mono (x : Int) (s : (Nat → Int) × Nat) : s.2 ≤ (acc1 x s).2 ∧ ((acc1 x s).2 ≤ s.2 + 1) ∧ (s.2 ≤ 256 → (acc1 x s).2 ≤ 256) := by
 unfold acc1
 split
 ·split
  ·simp only; omega
  ·omega
 ·omega
theorem acc_mono : ∀ (l : List Int) (s : (Nat → Int) × Nat), s.2 ≤ (acc l s).2 ∧ (s.2 ≤ 256 → (acc l s).2 ≤ 256) := by
 intro l
 induction h : l.length using Nat.strongRecOn generalizing l with
 | _ n ih =>
  intro s
  match l, h with
  | [], _ => exact ⟨Nat.le_refl _, id⟩
  | [_], _ => exact ⟨Nat.le_refl _, id⟩
  | [_, _], _ => exact ⟨Nat.le_refl _, id⟩
  | a :: b :: c :: r, h =>
   have h1 := acc1_mono (ux1 a b) s
   have h2 := acc1_mono (ux2 b c) (acc1 (ux1 a b) s)
   have h3 := ih r.length (by rw [← h]; simp only [List.length_cons]; omega) r rfl (acc1 (ux2 b c) (acc1 (ux1 a b) s))
   exact ⟨by show s.2 ≤ (acc r _).2; omega, fun h4 => h3.2 (h2.2.2 (h1.2.2 h4))⟩
theorem acc_app : ∀ (p r : List Int) (s : (Nat → Int) × Nat), p.length % 3 = 0 → acc (p ++ r) s = acc r (acc p s) := by
 intro p
 induction h : p.length using Nat.strongRecOn generalizing p with
 | _ n ih =>
  intro r s hm
  match p, h with
  | [], _ => rfl
  | [_], h => simp only [List.length_cons, List.length_nil] at h; omega
  | [_, _], h => simp only [List.length_cons, List.length_nil] at h; omega
  | a :: b :: c :: q, h =>
   simp only [List.length_cons] at h
   exact ih q.length (by omega) q rfl r _ (by omega)
theorem acc_zero {p r : List Int} (hp : p.length % 3 = 0) {s : (Nat → Int) × Nat} (hs : s.2 < 256) : s.2 < (acc (p ++ 0 :: 0 :: 0 :: r) s).2 := by
 rw [acc_app _ _ _ hp]
 have h1 := (acc_mono p s).1
 show s.2 < (acc r (acc1 (ux2 0 0) (acc1 (ux1 0 0) (acc p s)))).2
 rw [show ux1 0 0 = 0 from rfl, show ux2 0 0 = 0 from rfl]
 generalize acc p s = t at h1
 have h2 := acc1_mono 0 (acc1 0 t)
 have h3 := (acc_mono r (acc1 0 (acc1 0 t))).1
 have h4 : t.2 < 256 → (acc1 0 t).2 = t.2 + 1 := fun h => by unfold acc1; rw [if_pos (by decide), if_pos h]
 have h5 := acc1_mono 0 t
 omega
def uR (g0 : Nat → Int) : Nat → (Nat → Int) × Nat × (Nat → Int) × Nat
 | 0 => (g0, 0, fun _ => 0, 0)
 | k + 1 => ((rdA 168 (uR g0 k).1 (uR g0 k).2.1 504).1, (rdA 168 (uR g0 k).1 (uR g0 k).2.1 504).2.1, acc (rdA 168 (uR g0 k).1 (uR g0 k).2.1 504).2.2 (uR g0 k).2.2)
theorem permN_s (a : Nat → Int) : ∀ n, permN (perm a) n = permN a (n + 1)
 | 0 => rfl
 | n + 1 => congrArg perm (permN_s a n)
theorem uR_at (g0 : Nat → Int) : ∀ k, rdA 168 (uR g0 k).1 (uR g0 k).2.1 504 = (permN g0 (3 * k + 2), 168, blk (permN g0 (3 * k)) ++ blk (permN g0 (3 * k + 1)) ++ blk (permN g0 (3 * k + 2)))
 | 0 => rdA_3 g0
 | k + 1 => by
  have ih := uR_at g0 k
  have e : uR g0 (k + 1) = (permN g0 (3 * k + 2), 168, acc (blk (permN g0 (3 * k)) ++ blk (permN g0 (3 * k + 1)) ++ blk (permN g0 (3 * k + 2))) (uR g0 k).2.2) := by
   show ((rdA 168 (uR g0 k).1 (uR g0 k).2.1 504).1, (rdA 168 (uR g0 k).1 (uR g0 k).2.1 504).2.1, acc (rdA 168 (uR g0 k).1 (uR g0 k).2.1 504).2.2 (uR g0 k).2.2) = _
   rw [ih]
  rw [e]
  simp only
  rw [rdA_4]
  rfl
theorem uR_next (g0 : Nat → Int) (k : Nat) : (uR g0 (k + 1)).2.2 = acc (blk (permN g0 (3 * k)) ++ blk (permN g0 (3 * k + 1)) ++ blk (permN g0 (3 * k + 2))) (uR g0 k).2.2 := by
 show acc (rdA 168 (uR g0 k).1 (uR g0 k).2.1 504).2.2 (uR g0 k).2.2 = _
 rw [uR_at]
theorem Bt_zero {f : Nat → Int} {i : Nat} (h : f (i / 8) = 0) : Bt f i = 0 := by
 unfold Bt; rw [h]; unfold ishr; rw [Int.zero_fdiv]; rfl
theorem blk_zero {f : Nat → Int} (h : f 5 = 0) : ∃ p r, blk f = p ++ 0 :: 0 :: 0 :: r ∧ p.length = 42 := by
 have hb : ∀ i, i < 168 → (blk f)[i]? = some (Bt f i) := fun i hi => by simp [blk, bts, hi]
 have hl := blk_len f
 refine ⟨(blk f).take 42, (blk f).drop 45, ?_, by simp [hl]⟩
 have e : (blk f).drop 42 = 0 :: 0 :: 0 :: (blk f).drop 45 := by
  have at' : ∀ i, i < 168 → (blk f).drop i = Bt f i :: (blk f).drop (i + 1) := fun i hi => by
   rw [List.drop_eq_getElem_cons (by rw [hl]; exact hi)]
   have := hb i hi
   rw [List.getElem?_eq_getElem (by rw [hl]; exact hi)] at this
   rw [Option.some.inj this]
  rw [at' 42 (by omega), at' 43 (by omega), at' 44 (by omega), Bt_zero h, Bt_zero h, Bt_zero h]
 rw [← e, List.take_append_drop]
theorem uR_mono (g0 : Nat → Int) : ∀ k, (uR g0 k).2.2.2 ≤ (uR g0 (k + 1)).2.2.2 ∧ (uR g0 k).2.2.2 ≤ 256
 | 0 => ⟨Nat.zero_le _, Nat.zero_le _⟩
 | k + 1 => by
  have ih := uR_mono g0 k
  refine ⟨?_, ?_⟩
  ·rw [uR_next g0 (k + 1)]; exact (acc_mono _ _).1
  ·rw [uR_next g0 k]; exact (acc_mono _ _).2 ih.2
theorem uR_le (g0 : Nat → Int) (k : Nat) : ∀ d, (uR g0 k).2.2.2 ≤ (uR g0 (k + d)).2.2.2
 | 0 => Nat.le_refl _
 | d + 1 => Nat.le_trans (uR_le g0 k d) (uR_mono g0 (k + d)).1
theorem uR_more {g0 : Nat → Int} {t : Nat} (h : permN g0 t 5 = 0) (hk : (uR g0 (t / 3)).2.2.2 < 256) : (uR g0 (t / 3)).2.2.2 < (uR g0 (t / 3 + 1)).2.2.2 := by
 rw [uR_next]
 have h3 : t % 3 = 0 ∨ t % 3 = 1 ∨ t % 3 = 2 := by omega
 obtain ⟨p, r, e, hp⟩ := blk_zero h
 rcases h3 with h3 | h3 | h3
 ·rw [show 3 * (t / 3) = t by omega, e]
  have := acc_zero (p := p) (r := r ++ blk (permN g0 (t + 1)) ++ blk (permN g0 (t + 2))) (by rw [hp]) hk
  simpa using this
 ·rw [show 3 * (t / 3) + 1 = t by omega, e]
  have := acc_zero (p := blk (permN g0 (3 * (t / 3))) ++ p) (r := r ++ blk (permN g0 (3 * (t / 3) + 2))) (by rw [List.length_append, hp, blk_len]) hk
  simpa using this
 ·rw [show 3 * (t / 3) + 2 = t by omega, e]
  have := acc_zero (p := blk (permN g0 (3 * (t / 3))) ++ blk (permN g0 (3 * (t / 3) + 1)) ++ p) (r := r) (by rw [List.length_append, List.length_append, hp, blk_len, blk_len]) hk
  simpa using this
theorem uR_ends {g0 : Nat → Int} (h : ∀ m, ∃ t, m ≤ t ∧ permN g0 t 5 = 0) : ∃ K, ∀ k, (uR g0 k).2.2.2 < 256 → k < K := by
 have key : ∀ c, c ≤ 256 → ∃ K, ∀ k, K ≤ k → c ≤ (uR g0 k).2.2.2 := by
  intro c
  induction c with
  | zero => exact fun _ => ⟨0, fun _ _ => Nat.zero_le _⟩
  | succ c ih =>
   intro hc
   obtain ⟨K, hK⟩ := ih (by omega)
   obtain ⟨t, h1, h2⟩ := h (3 * K)
   refine ⟨t / 3 + 1, fun k hk => ?_⟩
   have h3 := hK (t / 3) (by omega)
   have h4 := uR_le g0 (t / 3 + 1) (k - (t / 3 + 1))
   rw [show t / 3 + 1 + (k - (t / 3 + 1)) = k by omega] at h4
   have h6 := uR_le g0 (t / 3) 1
   by_cases h5 : (uR g0 (t / 3)).2.2.2 < 256
   ·have := uR_more h2 h5
    omega
   ·omega
 obtain ⟨K, hK⟩ := key 256 (Nat.le_refl _)
 refine ⟨K, fun k hk => ?_⟩
 rcases Nat.lt_or_ge k K with h1 | h1
 ·exact h1
 ·have := hK k h1; omega
theorem xin_rg (b : List Int) : ∀ n, Rg (xin b (fun _ => 0) n)
 | 0 => fun i _ => by simp [xin]
 | n + 1 => fun i hi => by
  simp only [xin, upd]
  split
  ·exact ixor_rg _ _
  ·exact xin_rg b n i hi
theorem xin_zero {b : List Int} {l : Nat} (h : ∀ i, i / 8 = l → b.getD i 0 = 0) : ∀ n, xin b (fun _ => 0) n l = 0
 | 0 => rfl
 | n + 1 => by
  simp only [xin, upd]
  split
  ·rename_i e
   rw [← e, xin_zero h n, h n e.symm]
   have e2 : ∀ m : Nat, m < 8 → ixor .u64 0 (ishl .u64 (IntKind.wrap .u64 0) ((8 * m : Nat) : Int)) = 0 := by
    intro m hm
    have : m = 0 ∨ m = 1 ∨ m = 2 ∨ m = 3 ∨ m = 4 ∨ m = 5 ∨ m = 6 ∨ m = 7 := by omega
    rcases this with rfl | rfl | rfl | rfl | rfl | rfl | rfl | rfl <;> rfl
   exact e2 (n % 8) (Nat.mod_lt _ (by decide))
  ·exact xin_zero h n
theorem pad_one {l : List (List Int)} (h : l.flatten.length < 40) : (pad 168 31 l).length = 168 ∧ ∀ i, i / 8 = 5 → (pad 168 31 l).getD i 0 = 0 := by
 have hl : (l.flatten ++ [(31 : Int)]).length = l.flatten.length + 1 := by simp
 have hz : (padZ 168 31 l).length = 168 := by
  unfold padZ
  rw [List.length_append, List.length_replicate, hl]
  omega
 refine ⟨by rw [pad_len, hz], fun i hi => ?_⟩
 unfold pad
 rw [hz, List.getD_eq_getElem?_getD, List.getElem?_set_ne (by omega)]
 unfold padZ
 rw [List.getElem?_append_right (by rw [hl]; omega)]
 rw [List.getElem?_replicate]
 split <;> rfl
theorem spg_one {l : List (List Int)} (h : l.flatten.length < 40) : ∃ x0, Rg x0 ∧ x0 5 = 0 ∧ spg 168 31 l = perm x0 := by
 obtain ⟨h1, h2⟩ := pad_one h
 refine ⟨xin (pad 168 31 l) (fun _ => 0) 168, xin_rg _ _, xin_zero h2 _, ?_⟩
 unfold spg
 rw [h1]
 show perm (xin ((pad 168 31 l).drop (0 * 168)) (soakN (pad 168 31 l) 168 0) 168) = _
 rw [Nat.zero_mul, List.drop_zero]
 rfl
theorem spg_again {l : List (List Int)} (h : l.flatten.length < 40) (m : Nat) : ∃ t, m ≤ t ∧ permN (spg 168 31 l) t 5 = 0 := by
 obtain ⟨x0, h1, h2, h3⟩ := spg_one h
 obtain ⟨n, h4, h5⟩ := perm_again h1 m
 refine ⟨n - 1, by omega, ?_⟩
 rw [h3, permN_s, show n - 1 + 1 = n by omega, h5 5 (by omega), h2]
noncomputable def uK (l : List (List Int)) : Nat := Classical.epsilon fun K => ∀ k, (uR (spg 168 31 l) k).2.2.2 < 256 → k < K
theorem uK_ok {l : List (List Int)} (h : l.flatten.length < 40) {k : Nat} (hk : (uR (spg 168 31 l) k).2.2.2 < 256) : k < uK l :=
 Classical.epsilon_spec (uR_ends (spg_again h)) k hk
noncomputable def uniform (l : List (List Int)) : Nat → Int := (uR (spg 168 31 l) (lst fun k => (uR (spg 168 31 l) k).2.2.2 < 256)).2.2.1
def accs (xs : List Int) (s : (Nat → Int) × Nat) : Nat → (Nat → Int) × Nat
 | 0 => s
 | i + 1 => acc1 (xs.getD i 0) (accs xs s i)
theorem acc1_y {x : Int} {f : Nat → Int} {n : Nat} (h : x < 3329) (h2 : ((n : Nat) : Int) < 256) : acc1 x (f, n) = (upd f n x, n + 1) := by
 unfold acc1; rw [if_pos h, if_pos (by simp only; omega)]
theorem acc1_n {x : Int} {f : Nat → Int} {n : Nat} (h : x < 3329) (h2 : ¬ ((n : Nat) : Int) < 256) : acc1 x (f, n) = (f, n) := by
 unfold acc1; rw [if_pos h, if_neg (by simp only; omega)]
theorem acc1_z {x : Int} {f : Nat → Int} {n : Nat} (h : ¬ x < 3329) : acc1 x (f, n) = (f, n) := by
 unfold acc1; rw [if_neg h]
theorem accs_next {xs : List Int} {s s' : (Nat → Int) × Nat} {t : Nat} {f : Nat → Int} {n : Nat} (h : (f, n) = accs xs s t) (h2 : s' = acc1 (xs.getD t 0) (f, n)) : s' = accs xs s (t + 1) := by
 show _ = acc1 _ (accs xs s t)
 rw [← h]; exact h2
theorem acc_nx {b : List Int} {s r : (Nat → Int) × Nat} (h : 3 ≤ b.length) (hc : acc b s = r) : acc (b.drop 3) (accs [ux1 (b.getD 0 0) (b.getD 1 0), ux2 (b.getD 1 0) (b.getD 2 0)] s 2) = r := (acc_step h s).symm.trans hc
theorem uR_nx {g0 g f : Nat → Int} {k a n : Nat} (hq : (g, a, f, n) = uR g0 k) : ((rdA 168 g a 504).1, (rdA 168 g a 504).2.1, acc (rdA 168 g a 504).2.2 (f, n)) = uR g0 (k + 1) := by
 show _ = ((rdA 168 (uR g0 k).1 (uR g0 k).2.1 504).1, (rdA 168 (uR g0 k).1 (uR g0 k).2.1 504).2.1, acc (rdA 168 (uR g0 k).1 (uR g0 k).2.1 504).2.2 (uR g0 k).2.2)
 rw [← hq]
theorem uR_a {g0 g f : Nat → Int} {k a n : Nat} (hq : (g, a, f, n) = uR g0 k) : a ≤ 168 := by
 cases k with
 | zero => have := congrArg (·.2.1) hq; simp only [uR] at this; omega
 | succ k =>
  have := congrArg (·.2.1) hq
  have e : (uR g0 (k + 1)).2.1 = (rdA 168 (uR g0 k).1 (uR g0 k).2.1 504).2.1 := rfl
  simp only [e, uR_at] at this
  omega
end Go.Sx
namespace Go.Sx.Try
open Go.Mi Go.RowKit Go.Sx Go.Proofs
noncomputable section
def c_uniform (sd : List Int) (bi bj : Int) : Con := ⟨[lb sd, .v (.int .u8 bi), .v (.int .u8 bj)], [], .ar .u16 256 (uniform [sd, [bi, bj]]), []⟩
theorem uniform_ok (sd : List Int) (bi bj : Int) (h : sd.length = 32) : ConOk Try.prog 72 (c_uniform sd bi bj) := by
 refine conOk_of rfl (nb := 0) Try.func72 rfl rfl Try.ntmps72 rfl rfl rfl fun g0 w0 ac gs ws hg0 hS => ?_
 have hlen0 : sd.length ≤ 9223372036854775807 := hS.len 0 rfl
 have hS := hS.sp
 refine s0 [0, 1, 2, 6] [0] 1 hS fun hS => ?_
 refine sA [(5, .call ⟨100, (c_newreader [sd, [bi, bj]]), [], [(0, 1), (1, 2)]⟩)] ⟨newreader_ok _ (by first | omega | (simp only [List.flatten_cons, List.flatten_nil, List.length_append, List.length_cons, List.length_nil, List.length_take, List.length_drop, List.length_replicate] <;> omega) | (simp <;> omega)), trivial⟩ (fun C => [ndC C 5]) [6, 7] [0, 1, 2] 3 ⟨rfl, trivial⟩ hS fun hS => ?_
 refine s0 [6, 7, 8] [0, 1, 2] 3 hS fun hS => ?_
 refine wp_seq (wp_block (loop_y (ι := Nat × (Nat → Int) × Nat × (Nat → Int) × Nat) hg0 hS (fun z_ => match z_ with | (k, g, a, f, n) => uK [sd, [bi, bj]] - k) (fun z_ => match z_ with | (k, g, a, f, n) => [(6, .cp 0 0), (7, .cp 1 0), (8, vi ((n : Nat) : Int))]) (fun z_ => match z_ with | (k, g, a, f, n) => [(0, .ob 60 (chain [.ar .u16 256 f])), (1, .ob 162 (chain [.cp 2 0])), (2, .ob 141 (chain [.ar .u64 25 g, vi 168, vi ((a : Nat) : Int)]))]) (fun z_ => match z_ with | (k, g, a, f, n) => ((g, a, f, n) = uR (spg 168 31 [sd, [bi, bj]]) k) ∧ (∀ j, j < k → (uR (spg 168 31 [sd, [bi, bj]]) j).2.2.2 < 256) ∧ True) 3 (0, (spg 168 31 [sd, [bi, bj]]), 0, fun _ => 0, 0) [(0, 0), (1, 1), (2, 2)] ⟨rfl, (fun j h => absurd h (Nat.not_lt_zero j)), trivial⟩ ?_))
 rintro ⟨k, g, a, f, n⟩ ac gs ws ⟨hq, hj, _⟩ hS
 refine wp_seq (s0 [6, 7, 8, 19] [0, 1, 2] 3 hS fun hS => ?_)
 refine if_d ((n : Int) < 256) hS (fun h1 => ?_) (fun h1 => ?_)
 ·refine wp_skip (then_n (wp_block (wp_seq ?_)))
  have ha := uR_a hq
  have hnk : (uR (spg 168 31 [sd, [bi, bj]]) k).2.2.2 < 256 := by rw [← hq]; simp only; omega
  have hk := uK_ok (l := [sd, [bi, bj]]) (by simp only [List.flatten_cons, List.flatten_nil, List.length_append, List.length_cons, List.length_nil]; omega) hnk
  refine rA [(1, .call ⟨101, (c_rread g a), [(0, 1), (1, 2)], []⟩)] ⟨rread_ok _ _ omm, trivial⟩ (fun C => [ndC C 1]) [6, 7, 8, 9] [0, 1, 2] 3 ⟨rfl, trivial⟩ hS fun hS => ?_
  refine then_n (wp_block (loop_y (ι := (List Int) × (Nat → Int) × Nat) hg0 hS (fun z_ => match z_ with | (b, f2, n2) => b.length) (fun z_ => match z_ with | (b, f2, n2) => [(6, .cp 0 0), (7, .cp 1 0), (8, vi ((n2 : Nat) : Int)), (9, lb b)]) (fun z_ => match z_ with | (b, f2, n2) => [(0, .ob 60 (chain [.ar .u16 256 f2])), (1, .ob 162 (chain [.cp 2 0])), (2, .ob 141 (chain [.ar .u64 25 ((rdA 168 g a 504).1), vi 168, vi ((((rdA 168 g a 504).2.1) : Nat) : Int)]))]) (fun z_ => match z_ with | (b, f2, n2) => (b.length % 3 = 0) ∧ (acc b (f2, n2) = acc (rdA 168 g a 504).2.2 (f, n)) ∧ True) 3 (((rdA 168 g a 504).2.2), f, n) [(0, 0), (1, 1), (2, 2)] ⟨(by rw [rd_len]), rfl, trivial⟩ ?_))
  rintro ⟨b, f2, n2⟩ ac gs ws ⟨hb, hc, _⟩ hS
  refine wp_seq (s0 [6, 7, 8, 9, 24] [0, 1, 2] 3 hS fun hS => ?_)
  refine if_d ((0 : Int) < ((b.length : Nat) : Int)) hS (fun h2 => ?_) (fun h2 => ?_)
  ·refine wp_skip (then_n (wp_seq (wp_block (sA [] trivial (fun _ => [(0 : Int) ≤ 0 ∧ 0 < ((b.length : Nat) : Int), (0 : Int) ≤ 1 ∧ 1 < ((b.length : Nat) : Int), (0 : Int) ≤ 8, (0 : Int) ≤ 1 ∧ 1 < ((b.length : Nat) : Int), (0 : Int) ≤ 4, (0 : Int) ≤ 2 ∧ 2 < ((b.length : Nat) : Int), (0 : Int) ≤ 4]) [6, 7, 8, 9, 49, 50, 51] [0, 1, 2] 3 ⟨by omega, by omega, by omega, by omega, by omega, by omega, by omega, trivial⟩ hS fun hS => ?_))))
   refine wp_block (loop_y (ι := Nat × (Nat → Int) × Nat) hg0 hS (fun z_ => match z_ with | (t, f3, n3) => 2 - t) (fun z_ => match z_ with | (t, f3, n3) => [(6, .cp 0 0), (7, .cp 1 0), (8, vi ((n3 : Nat) : Int)), (9, lb b), (49, .ls true [.int .u16] [(ior .u16 (IntKind.wrap .u16 (b.getD 0 0)) (ishl .u16 (IntKind.wrap .u16 (iand .u8 (b.getD 1 0) 15)) 8)), (ior .u16 (IntKind.wrap .u16 (ishr .u8 (b.getD 1 0) 4)) (ishl .u16 (IntKind.wrap .u16 (b.getD 2 0)) 4))]), (50, vi 2), (51, vi ((t : Nat) : Int))]) (fun z_ => match z_ with | (t, f3, n3) => [(0, .ob 60 (chain [.ar .u16 256 f3])), (1, .ob 162 (chain [.cp 2 0])), (2, .ob 141 (chain [.ar .u64 25 ((rdA 168 g a 504).1), vi 168, vi ((((rdA 168 g a 504).2.1) : Nat) : Int)]))]) (fun z_ => match z_ with | (t, f3, n3) => (t ≤ 2) ∧ ((f3, n3) = accs [(ior .u16 (IntKind.wrap .u16 (b.getD 0 0)) (ishl .u16 (IntKind.wrap .u16 (iand .u8 (b.getD 1 0) 15)) 8)), (ior .u16 (IntKind.wrap .u16 (ishr .u8 (b.getD 1 0) 4)) (ishl .u16 (IntKind.wrap .u16 (b.getD 2 0)) 4))] (f2, n2) t) ∧ True) 3 (0, f2, n2) [(0, 0), (1, 1), (2, 2)] ⟨omm, rfl, trivial⟩ ?_)
   rintro ⟨t, f3, n3⟩ ac gs ws ⟨ht, hs, _⟩ hS
   refine s0 [6, 7, 8, 9, 49, 50, 51, 52] [0, 1, 2] 3 hS fun hS => ?_
   refine wp_seq ?_
   refine if_d ((t : Int) < 2) hS (fun h3 => ?_) (fun h3 => ?_)
   ·refine wp_skip (then_n (wp_seq (wp_block (sA [] trivial (fun _ => [(0 : Int) ≤ (t : Int) ∧ ((t : Int) : Int) < 2]) [6, 7, 8, 9, 11, 49, 50, 51] [0, 1, 2] 3 ⟨by omega, trivial⟩ hS fun hS => ?_))))
    refine wp_seq ?_
    by_cases h4 : ([(ior .u16 (IntKind.wrap .u16 (b.getD 0 0)) (ishl .u16 (IntKind.wrap .u16 (iand .u8 (b.getD 1 0) 15)) 8)), (ior .u16 (IntKind.wrap .u16 (ishr .u8 (b.getD 1 0) 4)) (ishl .u16 (IntKind.wrap .u16 (b.getD 2 0)) 4))].getD t 0) < 3329
    ·refine rA [(1, .ob true)] trivial (fun _ => [(decide (([(ior .u16 (IntKind.wrap .u16 (b.getD 0 0)) (ishl .u16 (IntKind.wrap .u16 (iand .u8 (b.getD 1 0) 15)) 8)), (ior .u16 (IntKind.wrap .u16 (ishr .u8 (b.getD 1 0) 4)) (ishl .u16 (IntKind.wrap .u16 (b.getD 2 0)) 4))].getD t 0) < 3329)) = true]) [6, 7, 8, 9, 11, 49, 50, 51, 60] [0, 1, 2] 3 ⟨decide_eq_true h4, trivial⟩ hS fun hS => ?_
     refine then_n ?_
     refine if_d ((n3 : Int) < 256) hS (fun h5 => ?_) (fun h5 => ?_)
     ·refine sA [] trivial (fun _ => [(0 : Int) ≤ (n3 : Int) ∧ ((n3 : Int) : Int) < 256]) [6, 7, 8, 9, 49, 50, 51] [0, 1, 2] 3 ⟨by omega, trivial⟩ hS fun hS => ?_
      refine rA [(1, .oi ((n3 + 1 : Nat) : Int))] trivial (fun _ => [iadd .i64 (n3 : Int) 1 = ((n3 + 1 : Nat) : Int)]) [6, 7, 8, 9, 49, 50, 51] [0, 1, 2] 3 ⟨by rw [iadd64 omm omm]; omega, trivial⟩ hS fun hS => ?_
      refine block_n (then_n (rA [(0, .oi ((t + 1 : Nat) : Int))] trivial (fun _ => [iadd .i64 (t : Int) 1 = ((t + 1 : Nat) : Int)]) [6, 7, 8, 9, 49, 50, 51] [0, 1, 2] 3 ⟨by rw [iadd64 omm omm]; omega, trivial⟩ hS fun hS => ?_))
      refine then_n ?_
      exact next_y hg0 hS (s := (t, f3, n3)) (t + 1, upd f3 n3 ([(ior .u16 (IntKind.wrap .u16 (b.getD 0 0)) (ishl .u16 (IntKind.wrap .u16 (iand .u8 (b.getD 1 0) 15)) 8)), (ior .u16 (IntKind.wrap .u16 (ishr .u8 (b.getD 1 0) 4)) (ishl .u16 (IntKind.wrap .u16 (b.getD 2 0)) 4))].getD t 0), n3 + 1) [(0, 0), (1, 1), (2, 2)] (show 2 - (t + 1) < 2 - t from by omega) ⟨omm, (accs_next hs (by first | exact (acc1_y asm asm).symm | exact (acc1_n asm asm).symm | exact (acc1_z asm).symm)), trivial⟩
     ·refine wp_skip (block_n (then_n (rA [(0, .oi ((t + 1 : Nat) : Int))] trivial (fun _ => [iadd .i64 (t : Int) 1 = ((t + 1 : Nat) : Int)]) [6, 7, 8, 9, 49, 50, 51] [0, 1, 2] 3 ⟨by rw [iadd64 omm omm]; omega, trivial⟩ hS fun hS => ?_)))
      refine then_n ?_
      exact next_y hg0 hS (s := (t, f3, n3)) (t + 1, f3, n3) [(0, 0), (1, 1), (2, 2)] (show 2 - (t + 1) < 2 - t from by omega) ⟨omm, (accs_next hs (by first | exact (acc1_y asm asm).symm | exact (acc1_n asm asm).symm | exact (acc1_z asm).symm)), trivial⟩
    ·refine rA [(1, .ob false)] trivial (fun _ => [(decide (([(ior .u16 (IntKind.wrap .u16 (b.getD 0 0)) (ishl .u16 (IntKind.wrap .u16 (iand .u8 (b.getD 1 0) 15)) 8)), (ior .u16 (IntKind.wrap .u16 (ishr .u8 (b.getD 1 0) 4)) (ishl .u16 (IntKind.wrap .u16 (b.getD 2 0)) 4))].getD t 0) < 3329)) = false]) [6, 7, 8, 9, 11, 49, 50, 51, 60] [0, 1, 2] 3 ⟨decide_eq_false h4, trivial⟩ hS fun hS => ?_
     refine then_n (cond_f hS ?_)
     refine wp_skip (block_n (then_n (rA [(0, .oi ((t + 1 : Nat) : Int))] trivial (fun _ => [iadd .i64 (t : Int) 1 = ((t + 1 : Nat) : Int)]) [6, 7, 8, 9, 49, 50, 51] [0, 1, 2] 3 ⟨by rw [iadd64 omm omm]; omega, trivial⟩ hS fun hS => ?_)))
     refine then_n ?_
     exact next_y hg0 hS (s := (t, f3, n3)) (t + 1, f3, n3) [(0, 0), (1, 1), (2, 2)] (show 2 - (t + 1) < 2 - t from by omega) ⟨omm, (accs_next hs (by first | exact (acc1_y asm asm).symm | exact (acc1_n asm asm).symm | exact (acc1_z asm).symm)), trivial⟩
   ·have hScur := hS
    obtain rfl : 2 = t := by omega
    obtain rfl : (accs [(ior .u16 (IntKind.wrap .u16 (b.getD 0 0)) (ishl .u16 (IntKind.wrap .u16 (iand .u8 (b.getD 1 0) 15)) 8)), (ior .u16 (IntKind.wrap .u16 (ishr .u8 (b.getD 1 0) 4)) (ishl .u16 (IntKind.wrap .u16 (b.getD 2 0)) 4))] (f2, n2) 2).1 = f3 := Eq.symm (congrArg (fun z => z.1) hs)
    obtain rfl : (accs [(ior .u16 (IntKind.wrap .u16 (b.getD 0 0)) (ishl .u16 (IntKind.wrap .u16 (iand .u8 (b.getD 1 0) 15)) 8)), (ior .u16 (IntKind.wrap .u16 (ishr .u8 (b.getD 1 0) 4)) (ishl .u16 (IntKind.wrap .u16 (b.getD 2 0)) 4))] (f2, n2) 2).2 = n3 := Eq.symm (congrArg (fun z => z.2) hs)
    have hS := hScur
    clear hScur
    refine wp_exit (then_exit (then_exit (block_exit (block_n (then_n (rA [] trivial (fun _ => [bndP (some 3) none none b.length b.length]) [6, 7, 8, 9] [0, 1, 2] 3 ⟨⟨by simp only [nnI] <;> omega, by simp only [nnI] <;> omega, by simp only [nnI] <;> omega, by simp, by simp only [bl] <;> omega, by simp only [bl] <;> omega, by simp only [bl] <;> omega⟩, trivial⟩ hS fun hS => ?_))))))
    refine then_n ?_
    exact next_y hg0 hS (s := (b, f2, n2)) (b.drop 3, (accs [(ior .u16 (IntKind.wrap .u16 (b.getD 0 0)) (ishl .u16 (IntKind.wrap .u16 (iand .u8 (b.getD 1 0) 15)) 8)), (ior .u16 (IntKind.wrap .u16 (ishr .u8 (b.getD 1 0) 4)) (ishl .u16 (IntKind.wrap .u16 (b.getD 2 0)) 4))] (f2, n2) 2).1, (accs [(ior .u16 (IntKind.wrap .u16 (b.getD 0 0)) (ishl .u16 (IntKind.wrap .u16 (iand .u8 (b.getD 1 0) 15)) 8)), (ior .u16 (IntKind.wrap .u16 (ishr .u8 (b.getD 1 0) 4)) (ishl .u16 (IntKind.wrap .u16 (b.getD 2 0)) 4))] (f2, n2) 2).2) [(0, 0), (1, 1), (2, 2)] (show (b.drop 3).length < b.length from by rw [List.length_drop]; omega) ⟨(by rw [List.length_drop]; omega), (acc_nx omm hc), trivial⟩
  ·have hScur := hS
   have hn : b = [] := List.eq_nil_of_length_eq_zero omm
   obtain rfl : [] = b := Eq.symm hn
   obtain rfl : (acc (rdA 168 g a 504).2.2 (f, n)).1 = f2 := Eq.symm (congrArg (fun z => z.1) ((acc_nil _).symm.trans hc))
   obtain rfl : (acc (rdA 168 g a 504).2.2 (f, n)).2 = n2 := Eq.symm (congrArg (fun z => z.2) ((acc_nil _).symm.trans hc))
   have hS := hScur
   clear hScur
   refine wp_exit (then_exit (then_exit (block_exit (block_n (then_n ?_)))))
   exact next_y hg0 hS (s := (k, g, a, f, n)) (k + 1, ((rdA 168 g a 504).1), (rdA 168 g a 504).2.1, (acc (rdA 168 g a 504).2.2 (f, n)).1, (acc (rdA 168 g a 504).2.2 (f, n)).2) [(0, 0), (1, 1), (2, 2)] (show uK [sd, [bi, bj]] - (k + 1) < uK [sd, [bi, bj]] - k from by omega) ⟨(uR_nx hq), (lst_next hj hnk), trivial⟩
 ·have hScur := hS
  obtain rfl := lst_eq (P := fun k => (uR (spg 168 31 [sd, [bi, bj]]) k).2.2.2 < 256) (by rw [← hq]; simp only; omega) hj
  obtain rfl : uniform [sd, [bi, bj]] = f := Eq.symm (congrArg (fun z => z.2.2.1) hq)
  have hS := hScur
  clear hScur
  refine wp_exit (then_exit (then_exit (block_exit (then_n (s0 [6] [0] 3 hS fun hS => ?_)))))
  refine wp_ret ?_
  exact fin_y rfl (.inr rfl) hS [.ar .u16 256 (uniform [sd, [bi, bj]])] [] rfl trivial

end
end Go.Sx.Try
namespace Go.Sx.Try
open Go.Mi Go.RowKit Go.Sx Go.Proofs
noncomputable section
theorem encode12_l2_len (f : Nat → Int) (i : Nat) (o : List Int) : ∀ k, (encode12_l2 f i o k).length = o.length
 | 0 => rfl
 | k + 1 => by
  show (encode12_l2_s f i o k (encode12_l2 f i o k)).length = o.length
  unfold encode12_l2_s
  rw [List.length_set, encode12_l2_len f i o k]
@[simp] theorem encode12_len (f : Nat → Int) : (encode12_m f).length = 384 := by
 have key : ∀ i, (encode12_l1 f i).length = 384 := by
  intro i
  induction i with
  | zero => exact List.length_replicate
  | succ i ih => exact (encode12_l2_len f i _ 12).trans ih
 rw [encode12_e]
 exact key 256
def each_ntt_l1_s (f : Nat → Int) (x6 : Nat) : (Nat → Int) → (Nat → Int) := fun o2_0 => updW o2_0 (x6 * 256) 256 (ntt_m (fun j => o2_0 (x6 * 256 + j)))
def each_ntt_l1 (f : Nat → Int) : Nat → (Nat → Int)
 | 0 => f
 | x6 + 1 => each_ntt_l1_s f x6 (each_ntt_l1 f x6)
def each_ntt_v (f : Nat → Int) : (Nat → Int) := each_ntt_l1 f 3
def each_ntt_m (f : Nat → Int) : (Nat → Int) := shut (each_ntt_v f)
theorem each_ntt_e (f : Nat → Int) : each_ntt_m f = each_ntt_v f := shut_eq _
def c_each_ntt (f : Nat → Int) : Con := ⟨[.ar .u16 768 f, .v (.func (.func 41) #[] #[])], [], .ar .u16 768 (each_ntt_m f), []⟩
theorem each_ntt_ok (f : Nat → Int) : ConOk Try.prog 40 (c_each_ntt f) := by
 refine conOk_of rfl (nb := 0) Try.func40 rfl rfl Try.ntmps40 rfl rfl rfl fun g0 w0 ac gs ws hg0 hS => ?_
 have hS := hS.sp
 refine s0 [1, 2, 4] [0, 1] 2 hS fun hS => ?_
 refine wp_seq (s0 [1, 2, 4, 6] [0, 1] 2 hS fun hS => ?_)
 refine wp_block (loop_y (ι := Nat × (Nat → Int)) hg0 hS (fun z_ => match z_ with | (x6, o2_0) => 3 - x6) (fun z_ => match z_ with | (x6, o2_0) => [(1, .v (.func (.func 41) #[] #[])), (2, .cp 0 0), (4, .cp 1 0), (6, vi ((x6 : Nat) : Int))]) (fun z_ => match z_ with | (x6, o2_0) => [(0, .ob 62 (chain [.ar .u16 768 o2_0])), (1, .ob 62 (chain [.ar .u16 768 (fun _ => 0)]))]) (fun z_ => match z_ with | (x6, o2_0) => (x6 ≤ 3) ∧ (o2_0 = each_ntt_l1 f x6) ∧ True) 2 (0, f) [(0, 0), (1, 1)] ⟨omm, rfl, trivial⟩ ?_)
 rintro ⟨x6, o2_0⟩ ac gs ws ⟨hx6, hq1, _⟩ hS
 refine s0 [1, 2, 4, 6, 7] [0, 1] 2 hS fun hS => ?_
 refine wp_seq ?_
 refine if_d ((x6 : Int) < 3) hS (fun h1 => ?_) (fun h1 => ?_)
 ·refine wp_skip (then_n (wp_seq (wp_block (s0 [1, 2, 4, 5, 6] [0, 1] 2 hS fun hS => ?_))))
  refine rA [(4, .ov (.ar .u16 256 (fun j => o2_0 (x6 * 256 + j)))), (5, .call ⟨41, (c_ntt (fun j => o2_0 (x6 * 256 + j))), [], []⟩)] ⟨ntt_ok _, trivial⟩ (fun C => [(0 : Int) ≤ (x6 : Int) ∧ ((x6 : Int) : Int) < 3, (.ar .u16 256 (fun j => o2_0 (x6 * 256 + j)) : D) = (.ar .u16 256 (fun j => o2_0 (x6 * 256 + j))), ndC C 5, (0 : Int) ≤ (x6 : Int) ∧ ((x6 : Int) : Int) < 3]) [1, 2, 4, 6] [0, 1] 2 ⟨by omega, rfl, rfl, by omega, trivial⟩ hS fun hS => ?_
  refine block_n (then_n (rA [(0, .oi ((x6 + 1 : Nat) : Int))] trivial (fun _ => [iadd .i64 (x6 : Int) 1 = ((x6 + 1 : Nat) : Int)]) [1, 2, 4, 6] [0, 1] 2 ⟨by rw [iadd64 omm omm]; omega, trivial⟩ hS fun hS => ?_))
  refine then_n ?_
  exact next_y hg0 hS (s := (x6, o2_0)) (x6 + 1, updW o2_0 (x6 * 256) 256 (ntt_m (fun j => o2_0 (x6 * 256 + j)))) [(0, 0), (1, 1)] (show 3 - (x6 + 1) < 3 - x6 from by omega) ⟨omm, (it_next (F := each_ntt_l1 f) (st := each_ntt_l1_s f) (fun _ => rfl) hq1 rfl), trivial⟩
 ·have hScur := hS
  obtain rfl : 3 = x6 := by omega
  obtain rfl : each_ntt_l1 f 3 = o2_0 := Eq.symm (congrArg (fun z => z) hq1)
  have hS := hScur
  clear hScur
  refine wp_exit (then_exit (then_exit (block_exit (then_n (s0 [4] [1] 2 hS fun hS => ?_)))))
  refine wp_ret ?_
  have hM : each_ntt_m f = each_ntt_l1 f 3 := each_ntt_e f
  exact fin_y rfl (.inr rfl) hS [.ar .u16 768 (each_ntt_l1 f 3)] [] (by show weak _ (.ar .u16 768 (each_ntt_m f)) = (.ar .u16 768 (each_ntt_m f)); rw [hM]; first | (simp only []; rfl) | (simp only []; done) | rfl) trivial

def with_mul_l1_s (f g : Nat → Int) (x8 : Nat) : (Nat → Int) → (Nat → Int) := fun o3_0 => updW o3_0 (x8 * 256) 256 (mul_m (fun j => o3_0 (x8 * 256 + j)) (fun j => g (x8 * 256 + j)))
def with_mul_l1 (f g : Nat → Int) : Nat → (Nat → Int)
 | 0 => f
 | x8 + 1 => with_mul_l1_s f g x8 (with_mul_l1 f g x8)
def with_mul_v (f g : Nat → Int) : (Nat → Int) := with_mul_l1 f g 3
def with_mul_m (f g : Nat → Int) : (Nat → Int) := shut (with_mul_v f g)
theorem with_mul_e (f g : Nat → Int) : with_mul_m f g = with_mul_v f g := shut_eq _
def c_with_mul (f g : Nat → Int) : Con := ⟨[.ar .u16 768 f, .ar .u16 768 g, .v (.func (.func 74) #[] #[])], [], .ar .u16 768 (with_mul_m f g), []⟩
theorem with_mul_ok (f g : Nat → Int) : ConOk Try.prog 73 (c_with_mul f g) := by
 refine conOk_of rfl (nb := 0) Try.func73 rfl rfl Try.ntmps73 rfl rfl rfl fun g0 w0 ac gs ws hg0 hS => ?_
 have hS := hS.sp
 refine s0 [2, 3, 4, 6] [0, 1, 2] 3 hS fun hS => ?_
 refine wp_seq (s0 [2, 3, 4, 6, 8] [0, 1, 2] 3 hS fun hS => ?_)
 refine wp_block (loop_y (ι := Nat × (Nat → Int)) hg0 hS (fun z_ => match z_ with | (x8, o3_0) => 3 - x8) (fun z_ => match z_ with | (x8, o3_0) => [(2, .v (.func (.func 74) #[] #[])), (3, .cp 0 0), (4, .cp 1 0), (6, .cp 2 0), (8, vi ((x8 : Nat) : Int))]) (fun z_ => match z_ with | (x8, o3_0) => [(0, .ob 62 (chain [.ar .u16 768 o3_0])), (1, .ob 62 (chain [.ar .u16 768 g])), (2, .ob 62 (chain [.ar .u16 768 (fun _ => 0)]))]) (fun z_ => match z_ with | (x8, o3_0) => (x8 ≤ 3) ∧ (o3_0 = with_mul_l1 f g x8) ∧ True) 3 (0, f) [(0, 0), (1, 1), (2, 2)] ⟨omm, rfl, trivial⟩ ?_)
 rintro ⟨x8, o3_0⟩ ac gs ws ⟨hx8, hq1, _⟩ hS
 refine s0 [2, 3, 4, 6, 8, 9] [0, 1, 2] 3 hS fun hS => ?_
 refine wp_seq ?_
 refine if_d ((x8 : Int) < 3) hS (fun h1 => ?_) (fun h1 => ?_)
 ·refine wp_skip (then_n (wp_seq (wp_block (s0 [2, 3, 4, 6, 7, 8] [0, 1, 2] 3 hS fun hS => ?_))))
  refine rA [(4, .ov (.ar .u16 256 (fun j => o3_0 (x8 * 256 + j)))), (7, .ov (.ar .u16 256 (fun j => g (x8 * 256 + j)))), (8, .call ⟨74, (c_mul (fun j => o3_0 (x8 * 256 + j)) (fun j => g (x8 * 256 + j))), [], []⟩)] ⟨mul_ok _ _, trivial⟩ (fun _ => [(0 : Int) ≤ (x8 : Int) ∧ ((x8 : Int) : Int) < 3, (.ar .u16 256 (fun j => o3_0 (x8 * 256 + j)) : D) = (.ar .u16 256 (fun j => o3_0 (x8 * 256 + j))), (0 : Int) ≤ (x8 : Int) ∧ ((x8 : Int) : Int) < 3, (.ar .u16 256 (fun j => g (x8 * 256 + j)) : D) = (.ar .u16 256 (fun j => g (x8 * 256 + j))), nd [.ar .u16 256 (fun j => o3_0 (x8 * 256 + j)), .ar .u16 256 (fun j => g (x8 * 256 + j))] [], (0 : Int) ≤ (x8 : Int) ∧ ((x8 : Int) : Int) < 3]) [2, 3, 4, 6, 8] [0, 1, 2] 3 ⟨by omega, rfl, by omega, rfl, rfl, by omega, trivial⟩ hS fun hS => ?_
  refine block_n (then_n (rA [(0, .oi ((x8 + 1 : Nat) : Int))] trivial (fun _ => [iadd .i64 (x8 : Int) 1 = ((x8 + 1 : Nat) : Int)]) [2, 3, 4, 6, 8] [0, 1, 2] 3 ⟨by rw [iadd64 omm omm]; omega, trivial⟩ hS fun hS => ?_))
  refine then_n ?_
  exact next_y hg0 hS (s := (x8, o3_0)) (x8 + 1, updW o3_0 (x8 * 256) 256 (mul_m (fun j => o3_0 (x8 * 256 + j)) (fun j => g (x8 * 256 + j)))) [(0, 0), (1, 1), (2, 2)] (show 3 - (x8 + 1) < 3 - x8 from by omega) ⟨omm, (it_next (F := with_mul_l1 f g) (st := with_mul_l1_s f g) (fun _ => rfl) hq1 rfl), trivial⟩
 ·have hScur := hS
  obtain rfl : 3 = x8 := by omega
  obtain rfl : with_mul_l1 f g 3 = o3_0 := Eq.symm (congrArg (fun z => z) hq1)
  have hS := hScur
  clear hScur
  refine wp_exit (then_exit (then_exit (block_exit (then_n (s0 [6] [2] 3 hS fun hS => ?_)))))
  refine wp_ret ?_
  have hM : with_mul_m f g = with_mul_l1 f g 3 := with_mul_e f g
  exact fin_y rfl (.inr rfl) hS [.ar .u16 768 (with_mul_l1 f g 3)] [] (by show weak _ (.ar .u16 768 (with_mul_m f g)) = (.ar .u16 768 (with_mul_m f g)); rw [hM]; first | (simp only []; rfl) | (simp only []; done) | rfl) trivial

def dot_l1_s (f g : Nat → Int) (x10 : Nat) : (Nat → Int) → (Nat → Int) := fun o4_0 => add_m o4_0 (fun j => (with_mul_m f g) (x10 * 256 + j))
def dot_l1 (f g : Nat → Int) : Nat → (Nat → Int)
 | 0 => fun _ => 0
 | x10 + 1 => dot_l1_s f g x10 (dot_l1 f g x10)
def dot_v (f g : Nat → Int) : (Nat → Int) := dot_l1 f g 3
def dot_m (f g : Nat → Int) : (Nat → Int) := shut (dot_v f g)
theorem dot_e (f g : Nat → Int) : dot_m f g = dot_v f g := shut_eq _
def c_dot (f g : Nat → Int) : Con := ⟨[.ar .u16 768 f, .ar .u16 768 g], [], .ar .u16 256 (dot_m f g), []⟩
theorem dot_ok (f g : Nat → Int) : ConOk Try.prog 44 (c_dot f g) := by
 refine conOk_of rfl (nb := 0) Try.func44 rfl rfl Try.ntmps44 rfl rfl rfl fun g0 w0 ac gs ws hg0 hS => ?_
 have hS := hS.sp
 refine s0 [2, 3, 4] [0, 1, 2] 3 hS fun hS => ?_
 refine wp_seq (sA [(0, .ov (.ar .u16 768 f)), (1, .ov (.ar .u16 768 g)), (2, .call ⟨73, (c_with_mul f g), [], []⟩)] ⟨with_mul_ok _ _, trivial⟩ (fun _ => [(.ar .u16 768 f : D) = (.ar .u16 768 f), (.ar .u16 768 g : D) = (.ar .u16 768 g), nd [.ar .u16 768 f, .ar .u16 768 g, .v (.func (.func 74) #[] #[])] []]) [4, 9, 10] [2] 3 ⟨rfl, rfl, rfl, trivial⟩ hS fun hS => ?_)
 refine wp_block (loop_y (ι := Nat × (Nat → Int)) hg0 hS (fun z_ => match z_ with | (x10, o4_0) => 3 - x10) (fun z_ => match z_ with | (x10, o4_0) => [(4, .cp 2 0), (9, .ar .u16 768 (with_mul_m f g)), (10, vi ((x10 : Nat) : Int))]) (fun z_ => match z_ with | (x10, o4_0) => [(2, .ob 60 (chain [.ar .u16 256 o4_0]))]) (fun z_ => match z_ with | (x10, o4_0) => (x10 ≤ 3) ∧ (o4_0 = dot_l1 f g x10) ∧ True) 3 (0, fun _ => 0) [(2, 2)] ⟨omm, rfl, trivial⟩ ?_)
 rintro ⟨x10, o4_0⟩ ac gs ws ⟨hx10, hq1, _⟩ hS
 refine s0 [4, 9, 10, 11] [2] 3 hS fun hS => ?_
 refine wp_seq ?_
 refine if_d ((x10 : Int) < 3) hS (fun h1 => ?_) (fun h1 => ?_)
 ·refine wp_skip (then_n (wp_seq (wp_block (sA [] trivial (fun _ => [(0 : Int) ≤ (x10 : Int) ∧ ((x10 : Int) : Int) < 3]) [4, 6, 9, 10] [2, 3] 4 ⟨by omega, trivial⟩ hS fun hS => ?_))))
  refine rA [(0, .ov (.ar .u16 256 o4_0)), (1, .ov (.ar .u16 256 (fun j => (with_mul_m f g) (x10 * 256 + j)))), (2, .call ⟨42, (c_add o4_0 (fun j => (with_mul_m f g) (x10 * 256 + j))), [], []⟩)] ⟨add_ok _ _, trivial⟩ (fun _ => [(.ar .u16 256 o4_0 : D) = (.ar .u16 256 o4_0), (.ar .u16 256 (fun j => (with_mul_m f g) (x10 * 256 + j)) : D) = (.ar .u16 256 (fun j => (with_mul_m f g) (x10 * 256 + j))), nd [.ar .u16 256 o4_0, .ar .u16 256 (fun j => (with_mul_m f g) (x10 * 256 + j))] []]) [4, 9, 10] [2] 4 ⟨rfl, rfl, rfl, trivial⟩ hS fun hS => ?_
  refine block_n (then_n (rA [(0, .oi ((x10 + 1 : Nat) : Int))] trivial (fun _ => [iadd .i64 (x10 : Int) 1 = ((x10 + 1 : Nat) : Int)]) [4, 9, 10] [2] 4 ⟨by rw [iadd64 omm omm]; omega, trivial⟩ hS fun hS => ?_))
  refine then_n ?_
  exact next_y hg0 hS (s := (x10, o4_0)) (x10 + 1, add_m o4_0 (fun j => (with_mul_m f g) (x10 * 256 + j))) [(2, 2)] (show 3 - (x10 + 1) < 3 - x10 from by omega) ⟨omm, (it_next (F := dot_l1 f g) (st := dot_l1_s f g) (fun _ => rfl) hq1 rfl), trivial⟩
 ·have hScur := hS
  obtain rfl : 3 = x10 := by omega
  obtain rfl : dot_l1 f g 3 = o4_0 := Eq.symm (congrArg (fun z => z) hq1)
  have hS := hScur
  clear hScur
  refine wp_exit (then_exit (then_exit (block_exit (then_n (s0 [4] [2] 3 hS fun hS => ?_)))))
  refine wp_ret ?_
  have hM : dot_m f g = dot_l1 f g 3 := dot_e f g
  exact fin_y rfl (.inr rfl) hS [.ar .u16 256 (dot_l1 f g 3)] [] (by show weak _ (.ar .u16 256 (dot_m f g)) = (.ar .u16 256 (dot_m f g)); rw [hM]; first | (simp only []; rfl) | (simp only []; done) | rfl) trivial

def rbytes_l1_s (f : Nat → Int) (x8 : Nat) : (List Int) → (List Int) := fun x2 => x2 ++ (encode12_m (fun j => f (x8 * 256 + j)))
def rbytes_l1 (f : Nat → Int) : Nat → (List Int)
 | 0 => []
 | x8 + 1 => rbytes_l1_s f x8 (rbytes_l1 f x8)
def rbytes_v (f : Nat → Int) : (List Int) := rbytes_l1 f 3
def rbytes_m (f : Nat → Int) : (List Int) := shut (rbytes_v f)
theorem rbytes_e (f : Nat → Int) : rbytes_m f = rbytes_v f := shut_eq _
def c_rbytes (f : Nat → Int) : Con := ⟨[.ar .u16 768 f], [], lb (rbytes_m f), []⟩
theorem rbytes_ok (f : Nat → Int) : ConOk Try.prog 46 (c_rbytes f) := by
 refine conOk_of rfl (nb := 0) Try.func46 rfl rfl Try.ntmps46 rfl rfl rfl fun g0 w0 ac gs ws hg0 hS => ?_
 have hS := hS.sp
 refine s0 [1, 2] [0] 1 hS fun hS => ?_
 refine wp_seq (s0 [2, 7, 8] [] 1 hS fun hS => ?_)
 refine wp_block ?_
 obtain ⟨gs, hS⟩ := hS.nilk 2 5 [.int .u8]
 refine loop_y (ι := Nat × (List Int)) hg0 hS (fun z_ => match z_ with | (x8, x2) => 3 - x8) (fun z_ => match z_ with | (x8, x2) => [(2, .sk 1), (7, .ar .u16 768 f), (8, vi ((x8 : Nat) : Int))]) (fun z_ => match z_ with | (x8, x2) => [(1, .sl 5 [.int .u8] x2)]) (fun z_ => match z_ with | (x8, x2) => (x8 ≤ 3) ∧ (x2 = rbytes_l1 f x8) ∧ (x2.length = 384 * x8) ∧ True) 2 (0, []) [(1, 1)] ⟨omm, rfl, rfl, trivial⟩ ?_
 rintro ⟨x8, x2⟩ ac gs ws ⟨hx8, hq1, p1, _⟩ hS
 refine s0 [2, 7, 8, 9] [1] 2 hS fun hS => ?_
 refine wp_seq ?_
 refine if_d ((x8 : Int) < 3) hS (fun h1 => ?_) (fun h1 => ?_)
 ·refine wp_skip (then_n (wp_seq (wp_block (sA [] trivial (fun _ => [(0 : Int) ≤ (x8 : Int) ∧ ((x8 : Int) : Int) < 3]) [2, 4, 7, 8] [1, 2] 3 ⟨by omega, trivial⟩ hS fun hS => ?_))))
  refine wp_seq (rA [(0, .ov (.ar .u16 256 (fun j => f (x8 * 256 + j)))), (1, .call ⟨76, (c_encode12 (fun j => f (x8 * 256 + j))), [], [(0, 3)]⟩)] ⟨encode12_ok _, trivial⟩ (fun _ => [(.ar .u16 256 (fun j => f (x8 * 256 + j)) : D) = (.ar .u16 256 (fun j => f (x8 * 256 + j))), nd [.ar .u16 256 (fun j => f (x8 * 256 + j)), vi 12] []]) [2, 5, 7, 8] [1, 3] 4 ⟨rfl, rfl, trivial⟩ hS fun hS => ?_)
  have hl := encode12_len (fun j => f (x8 * 256 + j))
  refine then_n (rA [] trivial (fun _ => [x2.length + (encode12_m (fun j => f (x8 * 256 + j))).length ≤ 9223372036854775807, (x2.length + (encode12_m (fun j => f (x8 * 256 + j))).length) * 1 ≤ 140737488355328]) [2, 7, 8] [4] 5 ⟨by omega, by omega, trivial⟩ hS fun hS => ?_)
  refine block_n (then_n (rA [(0, .oi ((x8 + 1 : Nat) : Int))] trivial (fun _ => [iadd .i64 (x8 : Int) 1 = ((x8 + 1 : Nat) : Int)]) [2, 7, 8] [4] 5 ⟨by rw [iadd64 omm omm]; omega, trivial⟩ hS fun hS => ?_))
  refine then_n ?_
  exact next_y hg0 hS (s := (x8, x2)) (x8 + 1, x2 ++ (encode12_m (fun j => f (x8 * 256 + j)))) [(1, 4)] (show 3 - (x8 + 1) < 3 - x8 from by omega) ⟨omm, (it_next (F := rbytes_l1 f) (st := rbytes_l1_s f) (fun _ => rfl) hq1 rfl), (by rw [List.length_append, encode12_len, p1]; omega), trivial⟩
 ·have hScur := hS
  obtain rfl : 3 = x8 := by omega
  obtain rfl : rbytes_l1 f 3 = x2 := Eq.symm (congrArg (fun z => z) hq1)
  have hS := hScur
  clear hScur
  refine wp_exit (then_exit (then_exit (block_exit (then_n (s0 [2] [1] 2 hS fun hS => ?_)))))
  refine wp_ret ?_
  have hM : rbytes_m f = rbytes_l1 f 3 := rbytes_e f
  obtain ⟨gs, hS⟩ := hS.fz 1
  exact fin_y rfl (.inr rfl) hS [lb (rbytes_l1 f 3)] [] (by show weak _ (lb (rbytes_m f)) = (lb (rbytes_m f)); rw [hM]; first | (simp only []; rfl) | (simp only []; done) | rfl) trivial

def rowof_l1_s (xs : List Int) (x4 : Nat) : (Nat → Int) → (Nat → Int) := fun o2_0 => updW o2_0 (x4 * 256) 256 (unpack12_m (xs.drop (384 * x4)))
def rowof_l1 (xs : List Int) : Nat → (Nat → Int)
 | 0 => fun _ => 0
 | x4 + 1 => rowof_l1_s xs x4 (rowof_l1 xs x4)
def rowof_v (xs : List Int) : (Nat → Int) := rowof_l1 xs 3
def rowof_m (xs : List Int) : (Nat → Int) := shut (rowof_v xs)
theorem rowof_e (xs : List Int) : rowof_m xs = rowof_v xs := shut_eq _
def c_rowof (xs : List Int) : Con := ⟨[lb xs], [], .ar .u16 768 (rowof_m xs), []⟩
theorem rowof_ok (xs : List Int) (h : 1152 ≤ xs.length) : ConOk Try.prog 33 (c_rowof xs) := by
 refine conOk_of rfl (nb := 0) Try.func33 rfl rfl Try.ntmps33 rfl rfl rfl fun g0 w0 ac gs ws hg0 hS => ?_
 have hlen0 : xs.length ≤ 9223372036854775807 := hS.len 0 rfl
 have hS := hS.sp
 refine s0 [0, 2] [0] 1 hS fun hS => ?_
 refine wp_seq (s0 [0, 2, 4] [0] 1 hS fun hS => ?_)
 refine wp_block (loop_y (ι := Nat × (Nat → Int)) hg0 hS (fun z_ => match z_ with | (x4, o2_0) => 3 - x4) (fun z_ => match z_ with | (x4, o2_0) => [(0, lb xs), (2, .cp 0 0), (4, vi ((x4 : Nat) : Int))]) (fun z_ => match z_ with | (x4, o2_0) => [(0, .ob 62 (chain [.ar .u16 768 o2_0]))]) (fun z_ => match z_ with | (x4, o2_0) => (x4 ≤ 3) ∧ (o2_0 = rowof_l1 xs x4) ∧ True) 1 (0, fun _ => 0) [(0, 0)] ⟨omm, rfl, trivial⟩ ?_)
 rintro ⟨x4, o2_0⟩ ac gs ws ⟨hx4, hq1, _⟩ hS
 refine s0 [0, 2, 4, 5] [0] 1 hS fun hS => ?_
 refine wp_seq ?_
 refine if_d ((x4 : Int) < 3) hS (fun h1 => ?_) (fun h1 => ?_)
 ·refine wp_skip (then_n (wp_seq (wp_block (s0 [0, 2, 3, 4] [0] 1 hS fun hS => ?_))))
  refine rA [(3, .oi ((384 * x4 : Nat) : Int)), (5, .call ⟨64, (c_unpack12 (xs.drop (384 * x4))), [], []⟩)] ⟨unpack12_ok _ (by first | omega | (simp only [List.length_append, List.length_drop, List.length_take, List.length_cons, List.length_nil]; omega)), trivial⟩ (fun C => [imul .i64 384 (x4 : Int) = ((384 * x4 : Nat) : Int), bndP (some ((384 * x4 : Nat) : Int)) none none xs.length xs.length, ndC C 5, (0 : Int) ≤ (x4 : Int) ∧ ((x4 : Int) : Int) < 3]) [0, 2, 4] [0] 1 ⟨by rw [imul64 omm omm]; omega, ⟨by simp only [nnI] <;> omega, by simp only [nnI] <;> omega, by simp only [nnI] <;> omega, by simp, by simp only [bl] <;> omega, by simp only [bl] <;> omega, by simp only [bl] <;> omega⟩, rfl, by omega, trivial⟩ hS fun hS => ?_
  refine block_n (then_n (rA [(0, .oi ((x4 + 1 : Nat) : Int))] trivial (fun _ => [iadd .i64 (x4 : Int) 1 = ((x4 + 1 : Nat) : Int)]) [0, 2, 4] [0] 1 ⟨by rw [iadd64 omm omm]; omega, trivial⟩ hS fun hS => ?_))
  refine then_n ?_
  exact next_y hg0 hS (s := (x4, o2_0)) (x4 + 1, updW o2_0 (x4 * 256) 256 (unpack12_m (xs.drop (384 * x4)))) [(0, 0)] (show 3 - (x4 + 1) < 3 - x4 from by omega) ⟨omm, (it_next (F := rowof_l1 xs) (st := rowof_l1_s xs) (fun _ => rfl) hq1 rfl), trivial⟩
 ·have hScur := hS
  obtain rfl : 3 = x4 := by omega
  obtain rfl : rowof_l1 xs 3 = o2_0 := Eq.symm (congrArg (fun z => z) hq1)
  have hS := hScur
  clear hScur
  refine wp_exit (then_exit (then_exit (block_exit (then_n (s0 [2] [0] 1 hS fun hS => ?_)))))
  refine wp_ret ?_
  have hM : rowof_m xs = rowof_l1 xs 3 := rowof_e xs
  exact fin_y rfl (.inr rfl) hS [.ar .u16 768 (rowof_l1 xs 3)] [] (by show weak _ (.ar .u16 768 (rowof_m xs)) = (.ar .u16 768 (rowof_m xs)); rw [hM]; first | (simp only []; rfl) | (simp only []; done) | rfl) trivial

def knoise_l1_s (sd : List Int) (n x6 : Nat) : (Nat → Int) → (Nat → Int) := fun o4_0 => updW o4_0 (x6 * 256) 256 (noise_m sd (IntKind.wrap .u8 ((n + x6 : Nat) : Int)))
def knoise_l1 (sd : List Int) (n : Nat) : Nat → (Nat → Int)
 | 0 => fun _ => 0
 | x6 + 1 => knoise_l1_s sd n x6 (knoise_l1 sd n x6)
def knoise_v (sd : List Int) (n : Nat) : (Nat → Int) := knoise_l1 sd n 3
def knoise_m (sd : List Int) (n : Nat) : (Nat → Int) := shut (knoise_v sd n)
theorem knoise_e (sd : List Int) (n : Nat) : knoise_m sd n = knoise_v sd n := shut_eq _
def c_knoise (sd : List Int) (n : Nat) : Con := ⟨[lb sd, vi (n : Int)], [], .ar .u16 768 (knoise_m sd n), []⟩
theorem knoise_ok (sd : List Int) (n : Nat) (h : sd.length ≤ 100000000000000) (hn : n ≤ 100) : ConOk Try.prog 39 (c_knoise sd n) := by
 refine conOk_of rfl (nb := 0) Try.func39 rfl rfl Try.ntmps39 rfl rfl rfl fun g0 w0 ac gs ws hg0 hS => ?_
 have hlen0 : sd.length ≤ 9223372036854775807 := hS.len 0 rfl
 have hS := hS.sp
 refine s0 [0, 1, 4] [0] 1 hS fun hS => ?_
 refine wp_seq (s0 [0, 1, 4, 6] [0] 1 hS fun hS => ?_)
 refine wp_block (loop_y (ι := Nat × (Nat → Int)) hg0 hS (fun z_ => match z_ with | (x6, o4_0) => 3 - x6) (fun z_ => match z_ with | (x6, o4_0) => [(0, lb sd), (1, vi (n : Int)), (4, .cp 0 0), (6, vi ((x6 : Nat) : Int))]) (fun z_ => match z_ with | (x6, o4_0) => [(0, .ob 62 (chain [.ar .u16 768 o4_0]))]) (fun z_ => match z_ with | (x6, o4_0) => (x6 ≤ 3) ∧ (o4_0 = knoise_l1 sd n x6) ∧ True) 1 (0, fun _ => 0) [(0, 0)] ⟨omm, rfl, trivial⟩ ?_)
 rintro ⟨x6, o4_0⟩ ac gs ws ⟨hx6, hq1, _⟩ hS
 refine s0 [0, 1, 4, 6, 7] [0] 1 hS fun hS => ?_
 refine wp_seq ?_
 refine if_d ((x6 : Int) < 3) hS (fun h1 => ?_) (fun h1 => ?_)
 ·refine wp_skip (then_n (wp_seq (wp_block (s0 [0, 1, 4, 5, 6] [0] 1 hS fun hS => ?_))))
  refine rA [(4, .oi ((n + x6 : Nat) : Int)), (6, .call ⟨69, (c_noise sd (IntKind.wrap .u8 ((n + x6 : Nat) : Int))), [], []⟩)] ⟨noise_ok _ _ lnn, trivial⟩ (fun C => [iadd .i64 (n : Int) (x6 : Int) = ((n + x6 : Nat) : Int), ndC C 6, (0 : Int) ≤ (x6 : Int) ∧ ((x6 : Int) : Int) < 3]) [0, 1, 4, 6] [0] 1 ⟨by rw [iadd64 omm omm]; omega, rfl, by omega, trivial⟩ hS fun hS => ?_
  refine block_n (then_n (rA [(0, .oi ((x6 + 1 : Nat) : Int))] trivial (fun _ => [iadd .i64 (x6 : Int) 1 = ((x6 + 1 : Nat) : Int)]) [0, 1, 4, 6] [0] 1 ⟨by rw [iadd64 omm omm]; omega, trivial⟩ hS fun hS => ?_))
  refine then_n ?_
  exact next_y hg0 hS (s := (x6, o4_0)) (x6 + 1, updW o4_0 (x6 * 256) 256 (noise_m sd (IntKind.wrap .u8 ((n + x6 : Nat) : Int)))) [(0, 0)] (show 3 - (x6 + 1) < 3 - x6 from by omega) ⟨omm, (it_next (F := knoise_l1 sd n) (st := knoise_l1_s sd n) (fun _ => rfl) hq1 rfl), trivial⟩
 ·have hScur := hS
  obtain rfl : 3 = x6 := by omega
  obtain rfl : knoise_l1 sd n 3 = o4_0 := Eq.symm (congrArg (fun z => z) hq1)
  have hS := hScur
  clear hScur
  refine wp_exit (then_exit (then_exit (block_exit (then_n (s0 [4] [0] 1 hS fun hS => ?_)))))
  refine wp_ret ?_
  have hM : knoise_m sd n = knoise_l1 sd n 3 := knoise_e sd n
  exact fin_y rfl (.inr rfl) hS [.ar .u16 768 (knoise_l1 sd n 3)] [] (by show weak _ (.ar .u16 768 (knoise_m sd n)) = (.ar .u16 768 (knoise_m sd n)); rw [hM]; first | (simp only []; rfl) | (simp only []; done) | rfl) trivial

def matrix_false_l1_s (sd : List Int) (i x10 : Nat) : (Nat → Int) → (Nat → Int) := fun o6_0 => updW o6_0 (x10 * 256) 256 (uniform [sd, [(IntKind.wrap .u8 (x10 : Int)), (IntKind.wrap .u8 (i : Int))]])
def matrix_false_l1 (sd : List Int) (i : Nat) : Nat → (Nat → Int)
 | 0 => fun _ => 0
 | x10 + 1 => matrix_false_l1_s sd i x10 (matrix_false_l1 sd i x10)
def matrix_false_v (sd : List Int) (i : Nat) : (Nat → Int) := matrix_false_l1 sd i 3
def matrix_false_m (sd : List Int) (i : Nat) : (Nat → Int) := shut (matrix_false_v sd i)
theorem matrix_false_e (sd : List Int) (i : Nat) : matrix_false_m sd i = matrix_false_v sd i := shut_eq _
def c_matrix_false (sd : List Int) (i : Nat) : Con := ⟨[lb sd, vi (i : Int), .v (.bool false)], [], .ar .u16 768 (matrix_false_m sd i), []⟩
theorem matrix_false_ok (sd : List Int) (i : Nat) (h : sd.length = 32) (hi : i ≤ 100) : ConOk Try.prog 43 (c_matrix_false sd i) := by
 refine conOk_of rfl (nb := 0) Try.func43 rfl rfl Try.ntmps43 rfl rfl rfl fun g0 w0 ac gs ws hg0 hS => ?_
 have hlen0 : sd.length ≤ 9223372036854775807 := hS.len 0 rfl
 have hS := hS.sp
 refine s0 [0, 1, 2, 6] [0] 1 hS fun hS => ?_
 refine wp_seq (s0 [0, 1, 2, 6, 10] [0] 1 hS fun hS => ?_)
 refine wp_block (loop_y (ι := Nat × (Nat → Int)) hg0 hS (fun z_ => match z_ with | (x10, o6_0) => 3 - x10) (fun z_ => match z_ with | (x10, o6_0) => [(0, lb sd), (1, vi (i : Int)), (2, .v (.bool false)), (6, .cp 0 0), (10, vi ((x10 : Nat) : Int))]) (fun z_ => match z_ with | (x10, o6_0) => [(0, .ob 62 (chain [.ar .u16 768 o6_0]))]) (fun z_ => match z_ with | (x10, o6_0) => (x10 ≤ 3) ∧ (o6_0 = matrix_false_l1 sd i x10) ∧ True) 1 (0, fun _ => 0) [(0, 0)] ⟨omm, rfl, trivial⟩ ?_)
 rintro ⟨x10, o6_0⟩ ac gs ws ⟨hx10, hq1, _⟩ hS
 refine s0 [0, 1, 2, 6, 10, 11] [0] 1 hS fun hS => ?_
 refine wp_seq ?_
 refine if_d ((x10 : Int) < 3) hS (fun h1 => ?_) (fun h1 => ?_)
 ·refine wp_skip (then_n (wp_seq (wp_block (s0 [0, 1, 2, 6, 7, 10] [0] 1 hS fun hS => ?_))))
  refine s0 [0, 1, 2, 6, 7, 8, 9, 10] [0] 1 hS fun hS => ?_
  refine wp_seq (s0 [0, 1, 2, 6, 7, 8, 9, 10, 17] [0] 1 hS fun hS => ?_)
  refine cond_f hS ?_
  refine wp_skip (then_n (rA [(4, .call ⟨72, (c_uniform sd (IntKind.wrap .u8 (x10 : Int)) (IntKind.wrap .u8 (i : Int))), [], []⟩)] ⟨uniform_ok _ _ _ (by first | omega | assumption), trivial⟩ (fun C => [ndC C 4, (0 : Int) ≤ (x10 : Int) ∧ ((x10 : Int) : Int) < 3]) [0, 1, 2, 6, 10] [0] 1 ⟨rfl, by omega, trivial⟩ hS fun hS => ?_))
  refine block_n (then_n (rA [(0, .oi ((x10 + 1 : Nat) : Int))] trivial (fun _ => [iadd .i64 (x10 : Int) 1 = ((x10 + 1 : Nat) : Int)]) [0, 1, 2, 6, 10] [0] 1 ⟨by rw [iadd64 omm omm]; omega, trivial⟩ hS fun hS => ?_))
  refine then_n ?_
  exact next_y hg0 hS (s := (x10, o6_0)) (x10 + 1, updW o6_0 (x10 * 256) 256 (uniform [sd, [(IntKind.wrap .u8 (x10 : Int)), (IntKind.wrap .u8 (i : Int))]])) [(0, 0)] (show 3 - (x10 + 1) < 3 - x10 from by omega) ⟨omm, (it_next (F := matrix_false_l1 sd i) (st := matrix_false_l1_s sd i) (fun _ => rfl) hq1 rfl), trivial⟩
 ·have hScur := hS
  obtain rfl : 3 = x10 := by omega
  obtain rfl : matrix_false_l1 sd i 3 = o6_0 := Eq.symm (congrArg (fun z => z) hq1)
  have hS := hScur
  clear hScur
  refine wp_exit (then_exit (then_exit (block_exit (then_n (s0 [6] [0] 1 hS fun hS => ?_)))))
  refine wp_ret ?_
  have hM : matrix_false_m sd i = matrix_false_l1 sd i 3 := matrix_false_e sd i
  exact fin_y rfl (.inr rfl) hS [.ar .u16 768 (matrix_false_l1 sd i 3)] [] (by show weak _ (.ar .u16 768 (matrix_false_m sd i)) = (.ar .u16 768 (matrix_false_m sd i)); rw [hM]; first | (simp only []; rfl) | (simp only []; done) | rfl) trivial

end
end Go.Sx.Try
