/- Texts that belong together: Tf, W1, W2, W3, W4, W5, W6, H6. General lemmas and walks; no conditions. -/
import Derived.Test.YtoefhjabaanokaaDoorB2
import Derived.Test.YtoefhjabaanokaaDoorProg
import Derived.KernelRfl
set_option linter.unusedSimpArgs false
set_option linter.unusedVariables false
set_option linter.unnecessarySimpa false
namespace Go.Mi.Term
open Go.Mi Go.Proofs
theorem u26 : type_of% Tryd.underlying26 := Tryd.underlying26
theorem u24 : type_of% Tryd.underlying24 := Tryd.underlying24
theorem eu : type_of% Tryd.underlying132 := Tryd.underlying132
theorem u9 : type_of% Tryd.underlying9 := Tryd.underlying9
theorem dH : type_of% Tryd.underlying110 := Tryd.underlying110
theorem u83 : type_of% Tryd.underlying83 := Tryd.underlying83
theorem cI : type_of% Tryd.underlying112 := Tryd.underlying112
theorem u4 : type_of% Tryd.underlying4 := Tryd.underlying4
theorem u31 : type_of% Tryd.underlying31 := Tryd.underlying31
theorem ij : type_of% Tryd.underlying114 := Tryd.underlying114
theorem kK : type_of% Tryd.underlying118 := Tryd.underlying118
theorem u36 : type_of% Tryd.underlying36 := Tryd.underlying36
theorem u90 : type_of% Tryd.underlying90 := Tryd.underlying90
theorem u53 : type_of% Tryd.underlying53 := Tryd.underlying53
theorem u56 : type_of% Tryd.underlying56 := Tryd.underlying56
theorem u99 : type_of% Tryd.underlying99 := Tryd.underlying99
theorem u58 : type_of% Tryd.underlying58 := Tryd.underlying58
theorem u97 : type_of% Tryd.underlying97 := Tryd.underlying97
theorem u89 : type_of% Tryd.underlying89 := Tryd.underlying89
theorem u42 : type_of% Tryd.underlying42 := Tryd.underlying42
theorem u92 : type_of% Tryd.underlying92 := Tryd.underlying92
theorem u47 : type_of% Tryd.underlying47 := Tryd.underlying47
theorem u51 : type_of% Tryd.underlying51 := Tryd.underlying51
theorem mo : Tryd.prog.follows .mixedOrders = true := by kernel_rfl
theorem c3 : bW Tryd.prog 3 := ⟨_, Tryd.func3, by kernel_rfl, by kernel_rfl⟩
theorem c4 : bW Tryd.prog 4 := ⟨_, Tryd.func4, by kernel_rfl, by kernel_rfl⟩
theorem c5 : bW Tryd.prog 5 := ⟨_, Tryd.func5, by kernel_rfl, by kernel_rfl⟩
theorem c6 : bW Tryd.prog 6 := ⟨_, Tryd.func6, by kernel_rfl, by kernel_rfl⟩
theorem c7 : bW Tryd.prog 7 := ⟨_, Tryd.func7, by kernel_rfl, by kernel_rfl⟩
theorem c8 : bW Tryd.prog 8 := ⟨_, Tryd.func8, by kernel_rfl, by kernel_rfl⟩
theorem c9 : bW Tryd.prog 9 := ⟨_, Tryd.func9, by kernel_rfl, by kernel_rfl⟩
theorem c19 : bW Tryd.prog 19 := ⟨_, Tryd.func19, by kernel_rfl, by kernel_rfl⟩
theorem c22 : bW Tryd.prog 22 := ⟨_, Tryd.func22, by kernel_rfl, by kernel_rfl⟩
theorem c24 : bW Tryd.prog 24 := ⟨_, Tryd.func24, by kernel_rfl, by kernel_rfl⟩
theorem c25 : bW Tryd.prog 25 := ⟨_, Tryd.func25, by kernel_rfl, by kernel_rfl⟩
theorem c27 : bW Tryd.prog 27 := ⟨_, Tryd.func27, by kernel_rfl, by kernel_rfl⟩
theorem c28 : bW Tryd.prog 28 := ⟨_, Tryd.func28, by kernel_rfl, by kernel_rfl⟩
theorem c29 : bW Tryd.prog 29 := ⟨_, Tryd.func29, by kernel_rfl, by kernel_rfl⟩
theorem c30 : bW Tryd.prog 30 := ⟨_, Tryd.func30, by kernel_rfl, by kernel_rfl⟩
theorem c35 : bW Tryd.prog 35 := ⟨_, Tryd.func35, by kernel_rfl, by kernel_rfl⟩
theorem c36 : bW Tryd.prog 36 := ⟨_, Tryd.func36, by kernel_rfl, by kernel_rfl⟩
theorem c39 : bW Tryd.prog 39 := ⟨_, Tryd.func39, by kernel_rfl, by kernel_rfl⟩
theorem c40 : bW Tryd.prog 40 := ⟨_, Tryd.func40, by kernel_rfl, by kernel_rfl⟩
theorem c42 : bW Tryd.prog 42 := ⟨_, Tryd.func42, by kernel_rfl, by kernel_rfl⟩
theorem c43 : bW Tryd.prog 43 := ⟨_, Tryd.func43, by kernel_rfl, by kernel_rfl⟩
theorem c44 : bW Tryd.prog 44 := ⟨_, Tryd.func44, by kernel_rfl, by kernel_rfl⟩
theorem c45 : bW Tryd.prog 45 := ⟨_, Tryd.func45, by kernel_rfl, by kernel_rfl⟩
theorem c46 : bW Tryd.prog 46 := ⟨_, Tryd.func46, by kernel_rfl, by kernel_rfl⟩
theorem c49 : bW Tryd.prog 49 := ⟨_, Tryd.func49, by kernel_rfl, by kernel_rfl⟩
theorem c51 : bW Tryd.prog 51 := ⟨_, Tryd.func51, by kernel_rfl, by kernel_rfl⟩
theorem c52 : bW Tryd.prog 52 := ⟨_, Tryd.func52, by kernel_rfl, by kernel_rfl⟩
theorem c53 : bW Tryd.prog 53 := ⟨_, Tryd.func53, by kernel_rfl, by kernel_rfl⟩
theorem c54 : bW Tryd.prog 54 := ⟨_, Tryd.func54, by kernel_rfl, by kernel_rfl⟩
theorem c55 : bW Tryd.prog 55 := ⟨_, Tryd.func55, by kernel_rfl, by kernel_rfl⟩
theorem c56 : bW Tryd.prog 56 := ⟨_, Tryd.func56, by kernel_rfl, by kernel_rfl⟩
theorem c57 : bW Tryd.prog 57 := ⟨_, Tryd.func57, by kernel_rfl, by kernel_rfl⟩
theorem c58 : bW Tryd.prog 58 := ⟨_, Tryd.func58, by kernel_rfl, by kernel_rfl⟩
theorem c59 : bW Tryd.prog 59 := ⟨_, Tryd.func59, by kernel_rfl, by kernel_rfl⟩
theorem c60 : bW Tryd.prog 60 := ⟨_, Tryd.func60, by kernel_rfl, by kernel_rfl⟩
theorem c61 : bW Tryd.prog 61 := ⟨_, Tryd.func61, by kernel_rfl, by kernel_rfl⟩
theorem c62 : bW Tryd.prog 62 := ⟨_, Tryd.func62, by kernel_rfl, by kernel_rfl⟩
theorem c63 : bW Tryd.prog 63 := ⟨_, Tryd.func63, by kernel_rfl, by kernel_rfl⟩
theorem c67 : bW Tryd.prog 67 := ⟨_, Tryd.func67, by kernel_rfl, by kernel_rfl⟩
theorem c69 : bW Tryd.prog 69 := ⟨_, Tryd.func69, by kernel_rfl, by kernel_rfl⟩
theorem c72 : bW Tryd.prog 72 := ⟨_, Tryd.func72, by kernel_rfl, by kernel_rfl⟩
theorem c75 : bW Tryd.prog 75 := ⟨_, Tryd.func75, by kernel_rfl, by kernel_rfl⟩
theorem c76 : bW Tryd.prog 76 := ⟨_, Tryd.func76, by kernel_rfl, by kernel_rfl⟩
theorem c77 : bW Tryd.prog 77 := ⟨_, Tryd.func77, by kernel_rfl, by kernel_rfl⟩
theorem c78 : bW Tryd.prog 78 := ⟨_, Tryd.func78, by kernel_rfl, by kernel_rfl⟩
theorem c79 : bW Tryd.prog 79 := ⟨_, Tryd.func79, by kernel_rfl, by kernel_rfl⟩
theorem c80 : bW Tryd.prog 80 := ⟨_, Tryd.func80, by kernel_rfl, by kernel_rfl⟩
theorem c81 : bW Tryd.prog 81 := ⟨_, Tryd.func81, by kernel_rfl, by kernel_rfl⟩
theorem c82 : bW Tryd.prog 82 := ⟨_, Tryd.func82, by kernel_rfl, by kernel_rfl⟩
theorem c83 : bW Tryd.prog 83 := ⟨_, Tryd.func83, by kernel_rfl, by kernel_rfl⟩
theorem c86 : bW Tryd.prog 86 := ⟨_, Tryd.func86, by kernel_rfl, by kernel_rfl⟩
theorem c87 : bW Tryd.prog 87 := ⟨_, Tryd.func87, by kernel_rfl, by kernel_rfl⟩
theorem c88 : bW Tryd.prog 88 := ⟨_, Tryd.func88, by kernel_rfl, by kernel_rfl⟩
theorem c89 : bW Tryd.prog 89 := ⟨_, Tryd.func89, by kernel_rfl, by kernel_rfl⟩
theorem c92 : bW Tryd.prog 92 := ⟨_, Tryd.func92, by kernel_rfl, by kernel_rfl⟩
theorem c93 : bW Tryd.prog 93 := ⟨_, Tryd.func93, by kernel_rfl, by kernel_rfl⟩
theorem c95 : bW Tryd.prog 95 := ⟨_, Tryd.func95, by kernel_rfl, by kernel_rfl⟩
theorem c96 : bW Tryd.prog 96 := ⟨_, Tryd.func96, by kernel_rfl, by kernel_rfl⟩
theorem c97 : bW Tryd.prog 97 := ⟨_, Tryd.func97, by kernel_rfl, by kernel_rfl⟩
theorem c98 : bW Tryd.prog 98 := ⟨_, Tryd.func98, by kernel_rfl, by kernel_rfl⟩
theorem c99 : bW Tryd.prog 99 := ⟨_, Tryd.func99, by kernel_rfl, by kernel_rfl⟩
theorem xU : bW Tryd.prog 100 := ⟨_, Tryd.func100, by kernel_rfl, by kernel_rfl⟩
theorem wU : bW Tryd.prog 101 := ⟨_, Tryd.func101, by kernel_rfl, by kernel_rfl⟩
theorem xS : bW Tryd.prog 102 := ⟨_, Tryd.func102, by kernel_rfl, by kernel_rfl⟩
theorem xR : bW Tryd.prog 107 := ⟨_, Tryd.func107, by kernel_rfl, by kernel_rfl⟩
theorem xQ : bW Tryd.prog 108 := ⟨_, Tryd.func108, by kernel_rfl, by kernel_rfl⟩
theorem sz3 : (Tryd.prog.info? 3).map (·.size) = some 1 := by kernel_rfl
theorem sz4 : (Tryd.prog.info? 4).map (·.size) = some 1 := by kernel_rfl
theorem ii4 : (Tryd.prog.info? 4).map (fun i => (i.size, i.bytes, i.zero)) = some (1, 1, some vf) := by kernel_rfl
theorem zz4 : (Tryd.prog.info? 4).map (fun i => (i.size, i.zero)) = some (1, some vf) := by kernel_rfl
theorem sz9 : (Tryd.prog.info? 9).map (·.size) = some 1 := by kernel_rfl
theorem ii9 : (Tryd.prog.info? 9).map (fun i => (i.size, i.bytes, i.zero)) = some (1, 16, some (vT [])) := by kernel_rfl
theorem zz9 : (Tryd.prog.info? 9).map (fun i => (i.size, i.zero)) = some (1, some (vT [])) := by kernel_rfl
theorem fe : (Tryd.prog.info? 24).map (·.size) = some 1 := by kernel_rfl
theorem w4 : (Tryd.prog.info? 24).map (fun i => (i.size, i.zero)) = some (1, some vN) := by kernel_rfl
theorem bV : (Tryd.prog.info? 26).map (·.size) = some 3 := by kernel_rfl
theorem ll : (Tryd.prog.info? 26).map (fun i => (i.size, i.bytes, i.zero)) = some (3, 40, some (.agg #[(vI 0), (vI 0), vN])) := by kernel_rfl
theorem rH : (Tryd.prog.info? 26).map (fun i => (i.size, i.zero)) = some (3, some (.agg #[(vI 0), (vI 0), vN])) := by kernel_rfl
theorem z26 : (Tryd.prog.info? 26).bind (·.zero) = some (.agg #[(vI 0), (vI 0), vN]) := by kernel_rfl
theorem il : (Tryd.prog.info? 31).map (·.size) = some 2 := by kernel_rfl
theorem z31 : (Tryd.prog.info? 31).bind (·.zero) = some (.agg #[vf, vf]) := by kernel_rfl
theorem vF : (Tryd.prog.info? 36).map (·.size) = some 1 := by kernel_rfl
theorem z46 : (Tryd.prog.info? 46).bind (·.zero) = some (.agg #[(vI 0), (vI 0), vf]) := by kernel_rfl
theorem z47 : (Tryd.prog.info? 47).bind (·.zero) = some (.agg #[(vI 0), (vI 0), vf]) := by kernel_rfl
theorem xc : (Tryd.prog.info? 52).map (·.size) = some 3 := by kernel_rfl
theorem vE : (Tryd.prog.info? 53).map (·.size) = some 1 := by kernel_rfl
theorem mT : (Tryd.prog.info? 58).map (·.size) = some 6 := by kernel_rfl
theorem wD : (Tryd.prog.info? 58).map (fun i => (i.size, i.bytes, i.zero)) = some (6, 64, some (.agg #[(vI 0), (vI 0), vN, (vI 0), (vI 0), (vI 0)])) := by kernel_rfl
theorem vo : (Tryd.prog.info? 58).map (fun i => (i.size, i.zero)) = some (6, some (.agg #[(vI 0), (vI 0), vN, (vI 0), (vI 0), (vI 0)])) := by kernel_rfl
theorem z58 : (Tryd.prog.info? 58).bind (·.zero) = some (.agg #[(vI 0), (vI 0), vN, (vI 0), (vI 0), (vI 0)]) := by kernel_rfl
theorem w9 : (Tryd.prog.info? 80).map (·.size) = some 1 := by kernel_rfl
theorem iN : (Tryd.prog.info? 83).map (·.size) = some 1 := by kernel_rfl
theorem wC : (Tryd.prog.info? 83).map (fun i => (i.size, i.bytes, i.zero)) = some (1, 8, some (Value.pointer none)) := by kernel_rfl
theorem lC : (Tryd.prog.info? 83).map (fun i => (i.size, i.zero)) = some (1, some (Value.pointer none)) := by kernel_rfl
theorem w8 : (Tryd.prog.info? 89).map (·.size) = some 1 := by kernel_rfl
theorem vD : (Tryd.prog.info? 90).map (·.size) = some 1 := by kernel_rfl
theorem w7 : (Tryd.prog.info? 97).map (·.size) = some 1 := by kernel_rfl
theorem tL : (Tryd.prog.info? 99).map (·.size) = some 3 := by kernel_rfl
theorem xv : (Tryd.prog.info? 99).map (fun i => (i.size, i.bytes, i.zero)) = some (3, 32, some (.agg #[vN, vf, vf])) := by kernel_rfl
theorem w3 : (Tryd.prog.info? 99).map (fun i => (i.size, i.zero)) = some (3, some (.agg #[vN, vf, vf])) := by kernel_rfl
theorem z99 : (Tryd.prog.info? 99).bind (·.zero) = some (.agg #[vN, vf, vf]) := by kernel_rfl
theorem cV : (Tryd.prog.info? 110).map (·.size) = some 1 := by kernel_rfl
theorem vr : (Tryd.prog.info? 112).bind (·.zero) = some (.agg #[(vI 0), (vI 0), vN, (vT [])]) := by kernel_rfl
theorem lS : (Tryd.prog.info? 114).map (·.size) = some 1 := by kernel_rfl
theorem w5 : (Tryd.prog.info? 116).bind (·.zero) = some (.agg #[vf, vf, (Value.pointer none), (Value.map none)]) := by kernel_rfl
theorem vq : (Tryd.prog.info? 118).bind (·.zero) = some (.agg #[vN, (Value.map none)]) := by kernel_rfl
theorem z171 : (Tryd.prog.info? 171).bind (·.zero) = some (.agg #[(Value.pointer none), (Value.pointer none), (Value.pointer none), (vT [])]) := by kernel_rfl
end Go.Mi.Term
namespace Go.Mi.Term
open Go.Mi Go.Proofs Go.RowKit
set_option maxRecDepth 100000 in
theorem lq {k nm : Int} {ks : List Tm} (ih : ∀ t, t ∈ ks → ∀ (X : List Nat) (vs : List Value) (n : Nat) (w : World), IsT w X t vs → n ≤ 5000 → Calls Tryd.prog 93 (List.toArray [.agg vs.toArray, .int .i64 n]) w (Ret fun v w' => v = .int .i64 (cnt t n) ∧ Gr w w'))
 {X : List Nat} {ad : Option Addr} {cap : Nat} {xs : List Value} (n : Nat) (hn : n ≤ 5000) (w0 : World) (hsl : 0 < ks.length → ∃ b o, ad = some ⟨b, o, none⟩ ∧ b ∉ X ∧ At w0 b o xs) (hks : IsTs w0 X ks xs) :
 Calls Tryd.prog 93 (List.toArray [.agg #[.int .i64 k, .int .i64 nm, .slice ad ks.length cap], .int .i64 n]) w0 (Ret fun v w' => v = .int .i64 (eR ks (n + 1)) ∧ Gr w0 w') := by
 refine co Tryd.func93 rfl Tryd.ntmps93 rfl fun a hF => ?_
 have hM := Mem.start w0
 have hF := hF.sub (L' := [(0, (Value.agg (#[(vI k), (vI nm), (Value.slice ad ks.length cap)]))), (1, (vI (n : Int)))]) ⟨rfl, rfl, trivial⟩
 refine wp_seq ?_
 refine wp_region_lit ?_
 refine wlR (dI rfl) rfl hF ?_
 rintro _ w a ⟨b1, rfl, hnb_⟩ hF
 have hM : Mem w0 w [(b1, #[(vI k), (vI nm), (Value.slice ad ks.length cap)], 26)] := hM.alloc hnb_
 refine wl (bA rfl) rfl hF (fun a hF => ?_)
 refine bx ?_
 refine wp_seq ?_
 refine wp_region_lit ?_
 refine wl (bC rfl) rfl hF (fun a hF => ?_)
 refine wl (cy rfl rfl (bO (by omega) (by omega))) rfl hF (fun a hF => ?_)
 refine wl (bA rfl) rfl hF (fun a hF => ?_)
 refine bx ?_
 refine wp_seq ?_
 refine wp_seq ?_
 refine wp_region_lit ?_
 refine wl (bD u26 (m := 0) fe rfl rfl rfl) rfl hF (fun a hF => ?_)
 refine wl (bF u24 rfl rfl (hM.cell 0 rfl rfl)) rfl hF (fun a hF => ?_)
 refine wl (bT u24 rfl) rfl hF (fun a hF => ?_)
 refine wl (bC rfl) rfl hF (fun a hF => ?_)
 refine bx ?_
 refine bz ?_
 refine wp_block ?_
 refine cb (fun u a w => ∃ (i m : Nat), u = ks.length - i ∧ (i ≤ ks.length) ∧ (m ≤ 5001) ∧ (eR (ks.drop i) m = eR ks (n + 1)) ∧ (i ≤ m) ∧ Frm a 23 [(1, (vI (m : Int))), (2, (vp b1)), (10, (Value.slice ad ks.length cap)), (11, (vI (ks.length : Int))), (12, (vI (i : Int)))] ∧ Mem w0 w [(b1, #[(vI k), (vI nm), (Value.slice ad ks.length cap)], 26)]) _ ⟨0, n + 1, rfl, (by omega), (by omega), rfl, (by omega), hF.sub ⟨rfl, rfl, rfl, rfl, rfl, trivial⟩, ?_⟩ ?_
 ·exact hM
 rintro _ a w ⟨i, m, rfl, hl1_0, hl1_1, hl1_2, hl1_3, hF, hM⟩
 refine wp_seq ?_
 refine wp_region_lit ?_
 refine wl (ez rfl rfl) rfl hF (fun a hF => ?_)
 refine bx ?_
 refine wp_seq ?_
 refine cn hF rfl (fun h => ?_) (fun h => ?_)
 ·have s := of_decide_eq_true h
  clear h
  obtain ⟨b0, o0, r, hb0, q⟩ := hsl (by omega)
  obtain ⟨t1, hi⟩ : ∃ t, ks[i]? = some t := ⟨_, List.getElem?_eq_getElem (by omega)⟩
  have l : t1 ∈ ks := List.mem_of_getElem? hi
  obtain ⟨a1, e, j⟩ := hks.at q i t1 hi
  obtain ⟨k1, g, f, l1, d, rfl⟩ := e.form
  refine wp_skip ?_
  refine wp_seq ?_
  refine wp_block ?_
  refine wp_seq ?_
  refine wp_region_lit ?_
  refine wl (d6 (b := b0) (o := o0) u24 bV (by rw [← r]; rfl) rfl rfl (by omega)) rfl hF (fun a hF => ?_)
  refine wl (cj u26 rfl bV rfl (j.mv (Gr.ch hM.below) (by simp)) rfl) rfl hF (fun a hF => ?_)
  refine wlR (d8 z26) rfl hF ?_
  rintro _ w a ⟨b2, rfl, hnb_⟩ hF
  have hM : Mem w0 w [(b1, #[(vI k), (vI nm), (Value.slice ad ks.length cap)], 26), (b2, #[(vI 0), (vI 0), vN], 26)] := hM.alloc hnb_
  refine kI (dk (c' := #[(vI k1), (vI g), (Value.slice f l1 d)]) bV rfl rfl rfl (fun v hv => by simp at hv; rcases hv with rfl | rfl | rfl <;> rfl) (hM.at 1 rfl) rfl) hF ?_
  rintro w a hu hF
  have hM : Mem w0 w [(b1, #[(vI k), (vI nm), (Value.slice ad ks.length cap)], 26), (b2, #[(vI k1), (vI g), (Value.slice f l1 d)], 26)] := hM.upd 1 rfl hu
  refine bx ?_
  refine wp_seq ?_
  refine wp_seq ?_
  refine wp_region_lit ?_
  refine wl (bC rfl) rfl hF (fun a hF => ?_)
  refine wl (iM rfl rfl) rfl hF (fun a hF => ?_)
  refine bx ?_
  refine bz ?_
  refine cn hF rfl (fun h => ?_) (fun h => ?_)
  ·have p := of_decide_eq_true h
   clear h
   have c : m = eR ks (n + 1) := by rw [← hl1_2, rg (by omega)]
   refine wp_exit ?_
   refine bG ?_
   refine j4 (by decide) ?_
   refine bG ?_
   refine bG ?_
   refine bZ ?_
   refine wp_seq ?_
   refine wp_region_lit ?_
   refine wl (bC rfl) rfl hF (fun a hF => ?_)
   refine wl (bA rfl) rfl hF (fun a hF => ?_)
   refine bx ?_
   refine wp_ret ?_
   refine bv hF (bw Tryd.results93 (RV.tmp hF rfl)) ?_
   exact ⟨by rw [c], hM.below⟩
  ·have p := of_decide_eq_false h
   clear h
   refine wp_skip ?_
   refine bz ?_
   refine wp_region_lit ?_
   refine wl (em u26 rfl bV rfl (hM.at 1 rfl) rfl) rfl hF (fun a hF => ?_)
   refine wl (bC rfl) rfl hF (fun a hF => ?_)
   refine wlR (a_ c93 rfl (ih t1 l X _ m _ (IsT.mv (Gr.ch hM.below) (by simp) (fun x hx => .inl hx) t1 _ e) (by omega))) rfl hF ?_
   rintro _ w a ⟨rfl, hg⟩ hF
   have hM := hM.call hg
   refine wl (bA rfl) rfl hF (fun a hF => ?_)
   refine bx ?_
   refine bR ?_
   refine bz ?_
   refine wp_region_lit ?_
   refine wl (cy rfl rfl (bO (by omega) (by omega))) rfl hF (fun a hF => ?_)
   refine wl (bC rfl) rfl hF (fun a hF => ?_)
   refine bx ?_
   refine bz ?_
   refine ⟨_, ?_, i + 1, cnt t1 m, rfl, (by omega), (by have := ra t1 m; omega), (by rw [pj hi (by omega)]; exact hl1_2), (by have := rc t1 m; omega), hF.sub ⟨rfl, rfl, rfl, rfl, rfl, trivial⟩, ?_⟩
   ·omega
   exact hM.sub (by simp)
 ·have s := of_decide_eq_false h
  clear h
  have hi : i = ks.length := by omega
  have c : m = eR ks (n + 1) := by rw [← hl1_2, hi, List.drop_length]; rfl
  refine wp_exit ?_
  refine bG ?_
  refine bG ?_
  refine bZ ?_
  refine wp_seq ?_
  refine wp_region_lit ?_
  refine wl (bC rfl) rfl hF (fun a hF => ?_)
  refine wl (bA rfl) rfl hF (fun a hF => ?_)
  refine bx ?_
  refine wp_ret ?_
  refine bv hF (bw Tryd.results93 (RV.tmp hF rfl)) ?_
  exact ⟨by rw [c], hM.below⟩
theorem j3 (t : Tm) : ∀ (X : List Nat) (vs : List Value) (n : Nat) (w : World), IsT w X t vs → n ≤ 5000 → Calls Tryd.prog 93 (List.toArray [.agg vs.toArray, .int .i64 n]) w (Ret fun v w' => v = .int .i64 (cnt t n) ∧ Gr w w') := by
 refine Tm.ind (p := fun t => ∀ (X : List Nat) (vs : List Value) (n : Nat) (w : World), IsT w X t vs → n ≤ 5000 → Calls Tryd.prog 93 (List.toArray [.agg vs.toArray, .int .i64 n]) w (Ret fun v w' => v = .int .i64 (cnt t n) ∧ Gr w w')) ?_ t
 intro k nm ks ih X vs n w ht hn
 simp only [IsT] at ht
 obtain ⟨sl, xs, rfl, h1, h2⟩ := ht
 obtain ⟨ad, cap, rfl, h3⟩ := h1.form
 exact lq ih n hn w h3 h2
end Go.Mi.Term
namespace Go.Mi.Term
open Go.Mi Go.Proofs Go.RowKit
set_option maxRecDepth 100000 in
theorem nT {t : Tm} {X : List Nat} {k nm : Int} {ad : Option Addr} {l cap : Nat} (w0 : World) (ht : IsT w0 X t [.int .i64 k, .int .i64 nm, .slice ad l cap]) : Calls Tryd.prog 77 (List.toArray [.agg #[.int .i64 k, .int .i64 nm, .slice ad l cap]]) w0 (Ret fun v w' => v = .int .i64 (size t) ∧ Gr w0 w') := by
 refine co Tryd.func77 rfl Tryd.ntmps77 rfl fun a hF => ?_
 have hM := Mem.start w0
 have hF := hF.sub (L' := [(0, (Value.agg (#[(vI k), (vI nm), (Value.slice ad l cap)])))]) ⟨rfl, trivial⟩
 refine wp_seq ?_
 refine wp_region_lit ?_
 refine wlR (dI rfl) rfl hF ?_
 rintro _ w a ⟨b1, rfl, hnb_⟩ hF
 have hM : Mem w0 w [(b1, #[(vI k), (vI nm), (Value.slice ad l cap)], 26)] := hM.alloc hnb_
 refine wl (bA rfl) rfl hF (fun a hF => ?_)
 refine bx ?_
 refine wp_seq ?_
 refine wp_region_lit ?_
 refine wl (em u26 rfl bV rfl (hM.at 0 rfl) rfl) rfl hF (fun a hF => ?_)
 refine wlR (a_ c93 rfl (j3 t X _ 0 _ (IsT.mv (Gr.ch hM.below) (by simp) (fun x hx => .inl hx) t _ ht) (by omega))) rfl hF ?_
 rintro _ w a ⟨rfl, hg⟩ hF
 have hM := hM.call hg
 refine wl (tC (r := ((size t : Nat) : Int)) rfl rfl (by simp only [size]; split <;> omega)) rfl hF (fun a hF => ?_)
 refine wl (bA rfl) rfl hF (fun a hF => ?_)
 refine bx ?_
 refine wp_ret ?_
 refine bv hF (bw Tryd.results77 (RV.tmp hF rfl)) ?_
 exact ⟨rfl, hM.below⟩
set_option maxRecDepth 100000 in
theorem lV {k nm : Int} {ks : List Tm} (ih : ∀ t, t ∈ ks → ∀ (X : List Nat) (vs : List Value) (d : Nat) (w : World), IsT w X t vs → d ≤ 1000 → Calls Tryd.prog 78 (List.toArray [.agg vs.toArray, .int .i64 d]) w (Ret fun v w' => v = .bool (cw t d) ∧ Gr w w'))
 {X : List Nat} {ad : Option Addr} {cap : Nat} {xs : List Value} (d : Nat) (hd : d ≤ 1000) (w0 : World) (hsl : 0 < ks.length → ∃ b o, ad = some ⟨b, o, none⟩ ∧ b ∉ X ∧ At w0 b o xs) (hks : IsTs w0 X ks xs) :
 Calls Tryd.prog 78 (List.toArray [.agg #[.int .i64 k, .int .i64 nm, .slice ad ks.length cap], .int .i64 d]) w0 (Ret fun v w' => v = .bool (cw (.mk k nm ks) d) ∧ Gr w0 w') := by
 refine co Tryd.func78 rfl Tryd.ntmps78 rfl fun a hF => ?_
 have hM := Mem.start w0
 have hF := hF.sub (L' := [(0, (Value.agg (#[(vI k), (vI nm), (Value.slice ad ks.length cap)]))), (1, (vI (d : Int)))]) ⟨rfl, rfl, trivial⟩
 refine wp_seq ?_
 refine wp_region_lit ?_
 refine wlR (dI rfl) rfl hF ?_
 rintro _ w a ⟨b1, rfl, hnb_⟩ hF
 have hM : Mem w0 w [(b1, #[(vI k), (vI nm), (Value.slice ad ks.length cap)], 26)] := hM.alloc hnb_
 refine wl (bA rfl) rfl hF (fun a hF => ?_)
 refine bx ?_
 refine wp_seq ?_
 refine wp_region_lit ?_
 refine wl (bA rfl) rfl hF (fun a hF => ?_)
 refine wl (bA rfl) rfl hF (fun a hF => ?_)
 refine bx ?_
 refine wp_seq ?_
 refine wp_seq ?_
 refine wp_region_lit ?_
 refine wl (bD u26 (m := 0) sz3 rfl rfl rfl) rfl hF (fun a hF => ?_)
 refine wl (bF Tryd.underlying3 rfl rfl (hM.cell 0 rfl rfl)) rfl hF (fun a hF => ?_)
 refine bx ?_
 refine bz ?_
 refine wp_block ?_
 refine wp_seq ?_
 refine wp_region_lit ?_
 refine wl (dN rfl rfl) rfl hF (fun a hF => ?_)
 refine wl (bA rfl) rfl hF (fun a hF => ?_)
 refine bx ?_
 refine bz ?_
 refine cn hF rfl (fun h => ?_) (fun h => ?_)
 ·have G := of_decide_eq_true h
  clear h
  have g : low k = 0 := (by simp [low, dX, G])
  have j : dX k = 0 := (by simp [low, dX, G])
  refine wp_seq ?_
  refine wp_region_lit ?_
  refine wl (bA rfl) rfl hF (fun a hF => ?_)
  refine wl (bA rfl) rfl hF (fun a hF => ?_)
  refine bx ?_
  refine wp_seq ?_
  refine wp_region_lit ?_
  refine wl (bD u26 (m := 0) sz3 rfl rfl rfl) rfl hF (fun a hF => ?_)
  refine wl (bF Tryd.underlying3 rfl rfl (hM.cell 0 rfl rfl)) rfl hF (fun a hF => ?_)
  refine wl (ez rfl rfl) rfl hF (fun a hF => ?_)
  refine wl (bC rfl) rfl hF (fun a hF => ?_)
  by_cases hnm : nm < 0
  ·have e : decide (nm < 0) = true := decide_eq_true hnm
   rw [e] at hF
   refine cH (c := true) rfl rfl rfl hF (fun a hF => ?_)
   refine cH (c := true) rfl rfl rfl hF (fun a hF => ?_)
   refine cH (c := true) rfl rfl rfl hF (fun a hF => ?_)
   refine wl (cJ (b := true) rfl rfl) rfl hF (fun a hF => ?_)
   refine bx ?_
   refine wp_cond_true (hF.eval rfl) ?_
   refine wp_seq ?_
   refine wp_region_lit ?_
   refine wl (bA rfl) rfl hF (fun a hF => ?_)
   refine bx ?_
   refine wp_ret ?_
   refine bY ?_
   refine bH ?_
   refine bv hF (bw Tryd.results78 (RV.tmp hF rfl)) ?_
   first | exact ⟨by rw [cg (by omega)], hM.below⟩ | exact ⟨by rw [cf g j (by omega)], hM.below⟩ | exact ⟨by rw [ce f], hM.below⟩ | exact ⟨by rw [cd (by omega) g j (by omega) l], hM.below⟩
  ·have e : decide (nm < 0) = false := decide_eq_false hnm
   rw [e] at hF
   refine wlg rfl (bD u26 (m := 0) sz3 rfl rfl rfl) rfl hF (fun a hF => ?_)
   refine wlg rfl (bF Tryd.underlying3 rfl rfl (hM.cell 0 rfl rfl)) rfl hF (fun a hF => ?_)
   refine wlg rfl (iM rfl rfl) rfl hF (fun a hF => ?_)
   refine wl (cJ (b := false) rfl rfl) rfl hF (fun a hF => ?_)
   refine bx ?_
   refine bz ?_
   refine cn hF rfl (fun h => ?_) (fun h => ?_)
   ·have J := of_decide_eq_true h
    clear h
    refine wp_seq ?_
    refine wp_region_lit ?_
    refine wl (bA rfl) rfl hF (fun a hF => ?_)
    refine bx ?_
    refine wp_ret ?_
    refine bY ?_
    refine bH ?_
    refine bv hF (bw Tryd.results78 (RV.tmp hF rfl)) ?_
    first | exact ⟨by rw [cg (by omega)], hM.below⟩ | exact ⟨by rw [cf g j (by omega)], hM.below⟩ | exact ⟨by rw [ce f], hM.below⟩ | exact ⟨by rw [cd (by omega) g j (by omega) l], hM.below⟩
   ·have J := of_decide_eq_false h
    clear h
    refine wp_skip ?_
    refine bR ?_
    refine wp_seq ?_
    refine wp_seq ?_
    refine wp_region_lit ?_
    refine wl (bC rfl) rfl hF (fun a hF => ?_)
    refine wl (kz rfl rfl) rfl hF (fun a hF => ?_)
    refine wl (bC rfl) rfl hF (fun a hF => ?_)
    by_cases hdd : 100 ≤ (d : Int)
    ·have e : decide (100 ≤ (d : Int)) = true := decide_eq_true hdd
     rw [e] at hF
     refine cH (c := true) rfl rfl rfl hF (fun a hF => ?_)
     refine cH (c := true) rfl rfl rfl hF (fun a hF => ?_)
     refine cH (c := true) rfl rfl rfl hF (fun a hF => ?_)
     refine cH (c := true) rfl rfl rfl hF (fun a hF => ?_)
     refine cH (c := true) rfl rfl rfl hF (fun a hF => ?_)
     refine wl (cJ (b := true) rfl rfl) rfl hF (fun a hF => ?_)
     refine wl (bC rfl) rfl hF (fun a hF => ?_)
     refine cH (c := true) rfl rfl rfl hF (fun a hF => ?_)
     refine cH (c := true) rfl rfl rfl hF (fun a hF => ?_)
     refine cH (c := true) rfl rfl rfl hF (fun a hF => ?_)
     refine cH (c := true) rfl rfl rfl hF (fun a hF => ?_)
     refine cH (c := true) rfl rfl rfl hF (fun a hF => ?_)
     refine wl (cJ (b := true) rfl rfl) rfl hF (fun a hF => ?_)
     refine bx ?_
     refine wp_cond_true (hF.eval rfl) ?_
     refine wp_seq ?_
     refine wp_region_lit ?_
     refine wl (bA rfl) rfl hF (fun a hF => ?_)
     refine bx ?_
     refine wp_ret ?_
     refine bH ?_
     refine bv hF (bw Tryd.results78 (RV.tmp hF rfl)) ?_
     first | exact ⟨by rw [cg (by omega)], hM.below⟩ | exact ⟨by rw [cf g j (by omega)], hM.below⟩ | exact ⟨by rw [ce f], hM.below⟩ | exact ⟨by rw [cd (by omega) g j (by omega) l], hM.below⟩
    ·have e : decide (100 ≤ (d : Int)) = false := decide_eq_false hdd
     rw [e] at hF
     refine wlg rfl (bD u26 (m := 0) fe rfl rfl rfl) rfl hF (fun a hF => ?_)
     refine wlg rfl (bF u24 rfl rfl (hM.cell 0 rfl rfl)) rfl hF (fun a hF => ?_)
     refine wlg rfl (bT u24 rfl) rfl hF (fun a hF => ?_)
     refine wlg rfl (bC rfl) rfl hF (fun a hF => ?_)
     refine wlg rfl (ez rfl rfl) rfl hF (fun a hF => ?_)
     refine wl (cJ (b := false) rfl rfl) rfl hF (fun a hF => ?_)
     refine wl (bC rfl) rfl hF (fun a hF => ?_)
     by_cases hlow : (ks.length : Int) < 0
     ·have e : decide ((ks.length : Int) < 0) = true := decide_eq_true hlow
      rw [e] at hF
      refine cH (c := true) rfl rfl rfl hF (fun a hF => ?_)
      refine cH (c := true) rfl rfl rfl hF (fun a hF => ?_)
      refine cH (c := true) rfl rfl rfl hF (fun a hF => ?_)
      refine cH (c := true) rfl rfl rfl hF (fun a hF => ?_)
      refine cH (c := true) rfl rfl rfl hF (fun a hF => ?_)
      refine wl (cJ (b := true) rfl rfl) rfl hF (fun a hF => ?_)
      refine bx ?_
      refine wp_cond_true (hF.eval rfl) ?_
      refine wp_seq ?_
      refine wp_region_lit ?_
      refine wl (bA rfl) rfl hF (fun a hF => ?_)
      refine bx ?_
      refine wp_ret ?_
      refine bH ?_
      refine bv hF (bw Tryd.results78 (RV.tmp hF rfl)) ?_
      first | exact ⟨by rw [cg (by omega)], hM.below⟩ | exact ⟨by rw [cf g j (by omega)], hM.below⟩ | exact ⟨by rw [ce f], hM.below⟩ | exact ⟨by rw [cd (by omega) g j (by omega) l], hM.below⟩
     ·have e : decide ((ks.length : Int) < 0) = false := decide_eq_false hlow
      rw [e] at hF
      refine wlg rfl (bD u26 (m := 0) fe rfl rfl rfl) rfl hF (fun a hF => ?_)
      refine wlg rfl (bF u24 rfl rfl (hM.cell 0 rfl rfl)) rfl hF (fun a hF => ?_)
      refine wlg rfl (bT u24 rfl) rfl hF (fun a hF => ?_)
      refine wlg rfl (bC rfl) rfl hF (fun a hF => ?_)
      refine wlg rfl (iM rfl rfl) rfl hF (fun a hF => ?_)
      refine wl (cJ (b := false) rfl rfl) rfl hF (fun a hF => ?_)
      refine bx ?_
      refine bz ?_
      refine cn hF rfl (fun h => ?_) (fun h => ?_)
      ·have p := of_decide_eq_true h
       clear h
       refine wp_seq ?_
       refine wp_region_lit ?_
       refine wl (bA rfl) rfl hF (fun a hF => ?_)
       refine bx ?_
       refine wp_ret ?_
       refine bH ?_
       refine bv hF (bw Tryd.results78 (RV.tmp hF rfl)) ?_
       first | exact ⟨by rw [cg (by omega)], hM.below⟩ | exact ⟨by rw [cf g j (by omega)], hM.below⟩ | exact ⟨by rw [ce f], hM.below⟩ | exact ⟨by rw [cd (by omega) g j (by omega) l], hM.below⟩
      ·have p := of_decide_eq_false h
       clear h
       refine wp_skip ?_
       refine wp_seq ?_
       refine wp_seq ?_
       refine wp_region_lit ?_
       refine wl (bD u26 (m := 0) fe rfl rfl rfl) rfl hF (fun a hF => ?_)
       refine wl (bF u24 rfl rfl (hM.cell 0 rfl rfl)) rfl hF (fun a hF => ?_)
       refine wl (bT u24 rfl) rfl hF (fun a hF => ?_)
       refine wl (bC rfl) rfl hF (fun a hF => ?_)
       refine bx ?_
       refine bz ?_
       refine wp_block ?_
       refine cb (fun D a w => ∃ (i : Nat), D = ks.length - i ∧ (i ≤ ks.length) ∧ (cB (ks.drop i) (d + 1) = cB ks (d + 1)) ∧ Frm a 62 [(1, (vI (d : Int))), (2, (vp b1)), (50, (Value.slice ad ks.length cap)), (51, (vI (ks.length : Int))), (52, (vI (i : Int)))] ∧ Mem w0 w [(b1, #[(vI k), (vI nm), (Value.slice ad ks.length cap)], 26)]) _ ⟨0, rfl, (by omega), rfl, hF.sub ⟨rfl, rfl, rfl, rfl, rfl, trivial⟩, ?_⟩ ?_
       ·exact hM
       rintro _ a w ⟨i, rfl, hl1_0, hl1_1, hF, hM⟩
       have I := hl1_0
       have q := hl1_1
       refine wp_seq ?_
       refine wp_region_lit ?_
       refine wl (ez rfl rfl) rfl hF (fun a hF => ?_)
       refine bx ?_
       refine wp_seq ?_
       refine cn hF rfl (fun h => ?_) (fun h => ?_)
       ·have C := of_decide_eq_true h
        clear h
        obtain ⟨b0, o0, B, H, A⟩ := hsl (by omega)
        obtain ⟨t1, hi⟩ : ∃ t, ks[i]? = some t := ⟨_, List.getElem?_eq_getElem (by omega)⟩
        have z : t1 ∈ ks := List.mem_of_getElem? hi
        obtain ⟨a1, r, y⟩ := hks.at A i t1 hi
        obtain ⟨k1, u, s, l1, n, rfl⟩ := r.form
        refine wp_skip ?_
        refine wp_seq ?_
        refine wp_block ?_
        refine wp_seq ?_
        refine wp_region_lit ?_
        refine wl (d6 (b := b0) (o := o0) u24 bV (by rw [← B]; rfl) rfl rfl (by omega)) rfl hF (fun a hF => ?_)
        refine wl (cj u26 rfl bV rfl (y.mv (Gr.ch hM.below) (by simp)) rfl) rfl hF (fun a hF => ?_)
        refine wlR (d8 z26) rfl hF ?_
        rintro _ w a ⟨b2, rfl, hnb_⟩ hF
        have hM : Mem w0 w [(b1, #[(vI k), (vI nm), (Value.slice ad ks.length cap)], 26), (b2, #[(vI 0), (vI 0), vN], 26)] := hM.alloc hnb_
        refine kI (dk (c' := #[(vI k1), (vI u), (Value.slice s l1 n)]) bV rfl rfl rfl (fun v hv => by simp at hv; rcases hv with rfl | rfl | rfl <;> rfl) (hM.at 1 rfl) rfl) hF ?_
        rintro w a hu hF
        have hM : Mem w0 w [(b1, #[(vI k), (vI nm), (Value.slice ad ks.length cap)], 26), (b2, #[(vI k1), (vI u), (Value.slice s l1 n)], 26)] := hM.upd 1 rfl hu
        refine bx ?_
        refine wp_seq ?_
        refine wp_region_lit ?_
        refine wl (em u26 rfl bV rfl (hM.at 1 rfl) rfl) rfl hF (fun a hF => ?_)
        refine wl (bC rfl) rfl hF (fun a hF => ?_)
        refine wl (cy rfl rfl (bO (by omega) (by omega))) rfl hF (fun a hF => ?_)
        refine wlR (a_ c78 rfl (ih t1 z X _ (d + 1) _ (IsT.mv (Gr.ch hM.below) (by simp) (fun x hx => .inl hx) t1 _ r) (by omega))) rfl hF ?_
        rintro _ w a ⟨rfl, hg⟩ hF
        have hM := hM.call hg
        refine wl (mD rfl) rfl hF (fun a hF => ?_)
        refine bx ?_
        refine bz ?_
        refine cn hF rfl (fun h => ?_) (fun h => ?_)
        ·have hs := h
         clear h
         have f : cB ks (d + 1) = false := by rw [← q, dn hi]; simp at hs; simp [hs]
         refine wp_seq ?_
         refine wp_region_lit ?_
         refine wl (bA rfl) rfl hF (fun a hF => ?_)
         refine bx ?_
         refine wp_ret ?_
         refine bY ?_
         refine bH ?_
         refine bH ?_
         refine bY ?_
         refine bH ?_
         refine bv hF (bw Tryd.results78 (RV.tmp hF rfl)) ?_
         first | exact ⟨by rw [cg (by omega)], hM.below⟩ | exact ⟨by rw [cf g j (by omega)], hM.below⟩ | exact ⟨by rw [ce f], hM.below⟩ | exact ⟨by rw [cd (by omega) g j (by omega) l], hM.below⟩
        ·have hs := h
         clear h
         have hs : cw t1 (d + 1) = true := by simpa using hs
         refine wp_skip ?_
         refine bR ?_
         refine bz ?_
         refine wp_region_lit ?_
         refine wl (cy rfl rfl (bO (by omega) (by omega))) rfl hF (fun a hF => ?_)
         refine wl (bC rfl) rfl hF (fun a hF => ?_)
         refine bx ?_
         refine bz ?_
         refine ⟨_, ?_, i + 1, rfl, (by omega), (by rw [← q, dn hi, hs, Bool.true_and]), hF.sub ⟨rfl, rfl, rfl, rfl, rfl, trivial⟩, ?_⟩
         ·omega
         exact hM.sub (by simp)
       ·have C := of_decide_eq_false h
        clear h
        have hi : i = ks.length := by omega
        have l : cB ks (d + 1) = true := by rw [← q, hi, List.drop_length]; rfl
        refine wp_exit ?_
        refine bG ?_
        refine bG ?_
        refine bZ ?_
        refine wp_seq ?_
        refine wp_region_lit ?_
        refine wl (bA rfl) rfl hF (fun a hF => ?_)
        refine bx ?_
        refine wp_ret ?_
        refine bv hF (bw Tryd.results78 (RV.tmp hF rfl)) ?_
        first | exact ⟨by rw [cg (by omega)], hM.below⟩ | exact ⟨by rw [cf g j (by omega)], hM.below⟩ | exact ⟨by rw [ce f], hM.below⟩ | exact ⟨by rw [cd (by omega) g j (by omega) l], hM.below⟩
 ·have G := of_decide_eq_false h
  clear h
  refine wp_seq ?_
  refine wp_region_lit ?_
  refine wl (dN rfl rfl) rfl hF (fun a hF => ?_)
  refine wl (bA rfl) rfl hF (fun a hF => ?_)
  refine bx ?_
  refine bz ?_
  refine cn hF rfl (fun h => ?_) (fun h => ?_)
  ·have E := of_decide_eq_true h
   clear h
   have g : low k = 1 := (by simp [low, dX, E])
   have j : dX k = 1 := (by simp [low, dX, E])
   refine wp_region_lit ?_
   refine wl (bA rfl) rfl hF (fun a hF => ?_)
   refine wl (bA rfl) rfl hF (fun a hF => ?_)
   refine bx ?_
   refine bR ?_
   refine wp_seq ?_
   refine wp_seq ?_
   refine wp_region_lit ?_
   refine wl (bC rfl) rfl hF (fun a hF => ?_)
   refine wl (kz rfl rfl) rfl hF (fun a hF => ?_)
   refine wl (bC rfl) rfl hF (fun a hF => ?_)
   by_cases hdd : 100 ≤ (d : Int)
   ·have e : decide (100 ≤ (d : Int)) = true := decide_eq_true hdd
    rw [e] at hF
    refine cH (c := true) rfl rfl rfl hF (fun a hF => ?_)
    refine cH (c := true) rfl rfl rfl hF (fun a hF => ?_)
    refine cH (c := true) rfl rfl rfl hF (fun a hF => ?_)
    refine cH (c := true) rfl rfl rfl hF (fun a hF => ?_)
    refine cH (c := true) rfl rfl rfl hF (fun a hF => ?_)
    refine wl (cJ (b := true) rfl rfl) rfl hF (fun a hF => ?_)
    refine wl (bC rfl) rfl hF (fun a hF => ?_)
    refine cH (c := true) rfl rfl rfl hF (fun a hF => ?_)
    refine cH (c := true) rfl rfl rfl hF (fun a hF => ?_)
    refine cH (c := true) rfl rfl rfl hF (fun a hF => ?_)
    refine cH (c := true) rfl rfl rfl hF (fun a hF => ?_)
    refine cH (c := true) rfl rfl rfl hF (fun a hF => ?_)
    refine wl (cJ (b := true) rfl rfl) rfl hF (fun a hF => ?_)
    refine bx ?_
    refine wp_cond_true (hF.eval rfl) ?_
    refine wp_seq ?_
    refine wp_region_lit ?_
    refine wl (bA rfl) rfl hF (fun a hF => ?_)
    refine bx ?_
    refine wp_ret ?_
    refine bH ?_
    refine bv hF (bw Tryd.results78 (RV.tmp hF rfl)) ?_
    first | exact ⟨by rw [cg (by omega)], hM.below⟩ | exact ⟨by rw [cf g j (by omega)], hM.below⟩ | exact ⟨by rw [ce f], hM.below⟩ | exact ⟨by rw [cd (by omega) g j (by omega) l], hM.below⟩
   ·have e : decide (100 ≤ (d : Int)) = false := decide_eq_false hdd
    rw [e] at hF
    refine wlg rfl (bD u26 (m := 0) fe rfl rfl rfl) rfl hF (fun a hF => ?_)
    refine wlg rfl (bF u24 rfl rfl (hM.cell 0 rfl rfl)) rfl hF (fun a hF => ?_)
    refine wlg rfl (bT u24 rfl) rfl hF (fun a hF => ?_)
    refine wlg rfl (bC rfl) rfl hF (fun a hF => ?_)
    refine wlg rfl (ez rfl rfl) rfl hF (fun a hF => ?_)
    refine wl (cJ (b := false) rfl rfl) rfl hF (fun a hF => ?_)
    refine wl (bC rfl) rfl hF (fun a hF => ?_)
    by_cases hlow : (ks.length : Int) < 1
    ·have e : decide ((ks.length : Int) < 1) = true := decide_eq_true hlow
     rw [e] at hF
     refine cH (c := true) rfl rfl rfl hF (fun a hF => ?_)
     refine cH (c := true) rfl rfl rfl hF (fun a hF => ?_)
     refine cH (c := true) rfl rfl rfl hF (fun a hF => ?_)
     refine cH (c := true) rfl rfl rfl hF (fun a hF => ?_)
     refine cH (c := true) rfl rfl rfl hF (fun a hF => ?_)
     refine wl (cJ (b := true) rfl rfl) rfl hF (fun a hF => ?_)
     refine bx ?_
     refine wp_cond_true (hF.eval rfl) ?_
     refine wp_seq ?_
     refine wp_region_lit ?_
     refine wl (bA rfl) rfl hF (fun a hF => ?_)
     refine bx ?_
     refine wp_ret ?_
     refine bH ?_
     refine bv hF (bw Tryd.results78 (RV.tmp hF rfl)) ?_
     first | exact ⟨by rw [cg (by omega)], hM.below⟩ | exact ⟨by rw [cf g j (by omega)], hM.below⟩ | exact ⟨by rw [ce f], hM.below⟩ | exact ⟨by rw [cd (by omega) g j (by omega) l], hM.below⟩
    ·have e : decide ((ks.length : Int) < 1) = false := decide_eq_false hlow
     rw [e] at hF
     refine wlg rfl (bD u26 (m := 0) fe rfl rfl rfl) rfl hF (fun a hF => ?_)
     refine wlg rfl (bF u24 rfl rfl (hM.cell 0 rfl rfl)) rfl hF (fun a hF => ?_)
     refine wlg rfl (bT u24 rfl) rfl hF (fun a hF => ?_)
     refine wlg rfl (bC rfl) rfl hF (fun a hF => ?_)
     refine wlg rfl (iM rfl rfl) rfl hF (fun a hF => ?_)
     refine wl (cJ (b := false) rfl rfl) rfl hF (fun a hF => ?_)
     refine bx ?_
     refine bz ?_
     refine cn hF rfl (fun h => ?_) (fun h => ?_)
     ·have p := of_decide_eq_true h
      clear h
      refine wp_seq ?_
      refine wp_region_lit ?_
      refine wl (bA rfl) rfl hF (fun a hF => ?_)
      refine bx ?_
      refine wp_ret ?_
      refine bH ?_
      refine bv hF (bw Tryd.results78 (RV.tmp hF rfl)) ?_
      first | exact ⟨by rw [cg (by omega)], hM.below⟩ | exact ⟨by rw [cf g j (by omega)], hM.below⟩ | exact ⟨by rw [ce f], hM.below⟩ | exact ⟨by rw [cd (by omega) g j (by omega) l], hM.below⟩
     ·have p := of_decide_eq_false h
      clear h
      refine wp_skip ?_
      refine wp_seq ?_
      refine wp_seq ?_
      refine wp_region_lit ?_
      refine wl (bD u26 (m := 0) fe rfl rfl rfl) rfl hF (fun a hF => ?_)
      refine wl (bF u24 rfl rfl (hM.cell 0 rfl rfl)) rfl hF (fun a hF => ?_)
      refine wl (bT u24 rfl) rfl hF (fun a hF => ?_)
      refine wl (bC rfl) rfl hF (fun a hF => ?_)
      refine bx ?_
      refine bz ?_
      refine wp_block ?_
      refine cb (fun D a w => ∃ (i : Nat), D = ks.length - i ∧ (i ≤ ks.length) ∧ (cB (ks.drop i) (d + 1) = cB ks (d + 1)) ∧ Frm a 62 [(1, (vI (d : Int))), (2, (vp b1)), (50, (Value.slice ad ks.length cap)), (51, (vI (ks.length : Int))), (52, (vI (i : Int)))] ∧ Mem w0 w [(b1, #[(vI k), (vI nm), (Value.slice ad ks.length cap)], 26)]) _ ⟨0, rfl, (by omega), rfl, hF.sub ⟨rfl, rfl, rfl, rfl, rfl, trivial⟩, ?_⟩ ?_
      ·exact hM
      rintro _ a w ⟨i, rfl, hl2_0, hl2_1, hF, hM⟩
      have I := hl2_0
      have q := hl2_1
      refine wp_seq ?_
      refine wp_region_lit ?_
      refine wl (ez rfl rfl) rfl hF (fun a hF => ?_)
      refine bx ?_
      refine wp_seq ?_
      refine cn hF rfl (fun h => ?_) (fun h => ?_)
      ·have C := of_decide_eq_true h
       clear h
       obtain ⟨b0, o0, B, H, A⟩ := hsl (by omega)
       obtain ⟨t1, hi⟩ : ∃ t, ks[i]? = some t := ⟨_, List.getElem?_eq_getElem (by omega)⟩
       have z : t1 ∈ ks := List.mem_of_getElem? hi
       obtain ⟨a1, r, y⟩ := hks.at A i t1 hi
       obtain ⟨k1, u, s, l1, n, rfl⟩ := r.form
       refine wp_skip ?_
       refine wp_seq ?_
       refine wp_block ?_
       refine wp_seq ?_
       refine wp_region_lit ?_
       refine wl (d6 (b := b0) (o := o0) u24 bV (by rw [← B]; rfl) rfl rfl (by omega)) rfl hF (fun a hF => ?_)
       refine wl (cj u26 rfl bV rfl (y.mv (Gr.ch hM.below) (by simp)) rfl) rfl hF (fun a hF => ?_)
       refine wlR (d8 z26) rfl hF ?_
       rintro _ w a ⟨b3, rfl, hnb_⟩ hF
       have hM : Mem w0 w [(b1, #[(vI k), (vI nm), (Value.slice ad ks.length cap)], 26), (b3, #[(vI 0), (vI 0), vN], 26)] := hM.alloc hnb_
       refine kI (dk (c' := #[(vI k1), (vI u), (Value.slice s l1 n)]) bV rfl rfl rfl (fun v hv => by simp at hv; rcases hv with rfl | rfl | rfl <;> rfl) (hM.at 1 rfl) rfl) hF ?_
       rintro w a hu hF
       have hM : Mem w0 w [(b1, #[(vI k), (vI nm), (Value.slice ad ks.length cap)], 26), (b3, #[(vI k1), (vI u), (Value.slice s l1 n)], 26)] := hM.upd 1 rfl hu
       refine bx ?_
       refine wp_seq ?_
       refine wp_region_lit ?_
       refine wl (em u26 rfl bV rfl (hM.at 1 rfl) rfl) rfl hF (fun a hF => ?_)
       refine wl (bC rfl) rfl hF (fun a hF => ?_)
       refine wl (cy rfl rfl (bO (by omega) (by omega))) rfl hF (fun a hF => ?_)
       refine wlR (a_ c78 rfl (ih t1 z X _ (d + 1) _ (IsT.mv (Gr.ch hM.below) (by simp) (fun x hx => .inl hx) t1 _ r) (by omega))) rfl hF ?_
       rintro _ w a ⟨rfl, hg⟩ hF
       have hM := hM.call hg
       refine wl (mD rfl) rfl hF (fun a hF => ?_)
       refine bx ?_
       refine bz ?_
       refine cn hF rfl (fun h => ?_) (fun h => ?_)
       ·have hs := h
        clear h
        have f : cB ks (d + 1) = false := by rw [← q, dn hi]; simp at hs; simp [hs]
        refine wp_seq ?_
        refine wp_region_lit ?_
        refine wl (bA rfl) rfl hF (fun a hF => ?_)
        refine bx ?_
        refine wp_ret ?_
        refine bY ?_
        refine bH ?_
        refine bH ?_
        refine bY ?_
        refine bH ?_
        refine bv hF (bw Tryd.results78 (RV.tmp hF rfl)) ?_
        first | exact ⟨by rw [cg (by omega)], hM.below⟩ | exact ⟨by rw [cf g j (by omega)], hM.below⟩ | exact ⟨by rw [ce f], hM.below⟩ | exact ⟨by rw [cd (by omega) g j (by omega) l], hM.below⟩
       ·have hs := h
        clear h
        have hs : cw t1 (d + 1) = true := by simpa using hs
        refine wp_skip ?_
        refine bR ?_
        refine bz ?_
        refine wp_region_lit ?_
        refine wl (cy rfl rfl (bO (by omega) (by omega))) rfl hF (fun a hF => ?_)
        refine wl (bC rfl) rfl hF (fun a hF => ?_)
        refine bx ?_
        refine bz ?_
        refine ⟨_, ?_, i + 1, rfl, (by omega), (by rw [← q, dn hi, hs, Bool.true_and]), hF.sub ⟨rfl, rfl, rfl, rfl, rfl, trivial⟩, ?_⟩
        ·omega
        exact hM.sub (by simp)
      ·have C := of_decide_eq_false h
       clear h
       have hi : i = ks.length := by omega
       have l : cB ks (d + 1) = true := by rw [← q, hi, List.drop_length]; rfl
       refine wp_exit ?_
       refine bG ?_
       refine bG ?_
       refine bZ ?_
       refine wp_seq ?_
       refine wp_region_lit ?_
       refine wl (bA rfl) rfl hF (fun a hF => ?_)
       refine bx ?_
       refine wp_ret ?_
       refine bv hF (bw Tryd.results78 (RV.tmp hF rfl)) ?_
       first | exact ⟨by rw [cg (by omega)], hM.below⟩ | exact ⟨by rw [cf g j (by omega)], hM.below⟩ | exact ⟨by rw [ce f], hM.below⟩ | exact ⟨by rw [cd (by omega) g j (by omega) l], hM.below⟩
  ·have E := of_decide_eq_false h
   clear h
   refine wp_seq ?_
   refine wp_region_lit ?_
   refine wl (dN rfl rfl) rfl hF (fun a hF => ?_)
   refine wl (bA rfl) rfl hF (fun a hF => ?_)
   refine bx ?_
   refine bz ?_
   refine cn hF rfl (fun h => ?_) (fun h => ?_)
   ·have F := of_decide_eq_true h
    clear h
    have g : low k = 1 := (by simp [low, dX, F])
    have j : dX k = 8 := (by simp [low, dX, F])
    refine wp_region_lit ?_
    refine wl (bA rfl) rfl hF (fun a hF => ?_)
    refine wl (bA rfl) rfl hF (fun a hF => ?_)
    refine bx ?_
    refine bR ?_
    refine wp_seq ?_
    refine wp_seq ?_
    refine wp_region_lit ?_
    refine wl (bC rfl) rfl hF (fun a hF => ?_)
    refine wl (kz rfl rfl) rfl hF (fun a hF => ?_)
    refine wl (bC rfl) rfl hF (fun a hF => ?_)
    by_cases hdd : 100 ≤ (d : Int)
    ·have e : decide (100 ≤ (d : Int)) = true := decide_eq_true hdd
     rw [e] at hF
     refine cH (c := true) rfl rfl rfl hF (fun a hF => ?_)
     refine cH (c := true) rfl rfl rfl hF (fun a hF => ?_)
     refine cH (c := true) rfl rfl rfl hF (fun a hF => ?_)
     refine cH (c := true) rfl rfl rfl hF (fun a hF => ?_)
     refine cH (c := true) rfl rfl rfl hF (fun a hF => ?_)
     refine wl (cJ (b := true) rfl rfl) rfl hF (fun a hF => ?_)
     refine wl (bC rfl) rfl hF (fun a hF => ?_)
     refine cH (c := true) rfl rfl rfl hF (fun a hF => ?_)
     refine cH (c := true) rfl rfl rfl hF (fun a hF => ?_)
     refine cH (c := true) rfl rfl rfl hF (fun a hF => ?_)
     refine cH (c := true) rfl rfl rfl hF (fun a hF => ?_)
     refine cH (c := true) rfl rfl rfl hF (fun a hF => ?_)
     refine wl (cJ (b := true) rfl rfl) rfl hF (fun a hF => ?_)
     refine bx ?_
     refine wp_cond_true (hF.eval rfl) ?_
     refine wp_seq ?_
     refine wp_region_lit ?_
     refine wl (bA rfl) rfl hF (fun a hF => ?_)
     refine bx ?_
     refine wp_ret ?_
     refine bH ?_
     refine bv hF (bw Tryd.results78 (RV.tmp hF rfl)) ?_
     first | exact ⟨by rw [cg (by omega)], hM.below⟩ | exact ⟨by rw [cf g j (by omega)], hM.below⟩ | exact ⟨by rw [ce f], hM.below⟩ | exact ⟨by rw [cd (by omega) g j (by omega) l], hM.below⟩
    ·have e : decide (100 ≤ (d : Int)) = false := decide_eq_false hdd
     rw [e] at hF
     refine wlg rfl (bD u26 (m := 0) fe rfl rfl rfl) rfl hF (fun a hF => ?_)
     refine wlg rfl (bF u24 rfl rfl (hM.cell 0 rfl rfl)) rfl hF (fun a hF => ?_)
     refine wlg rfl (bT u24 rfl) rfl hF (fun a hF => ?_)
     refine wlg rfl (bC rfl) rfl hF (fun a hF => ?_)
     refine wlg rfl (ez rfl rfl) rfl hF (fun a hF => ?_)
     refine wl (cJ (b := false) rfl rfl) rfl hF (fun a hF => ?_)
     refine wl (bC rfl) rfl hF (fun a hF => ?_)
     by_cases hlow : (ks.length : Int) < 1
     ·have e : decide ((ks.length : Int) < 1) = true := decide_eq_true hlow
      rw [e] at hF
      refine cH (c := true) rfl rfl rfl hF (fun a hF => ?_)
      refine cH (c := true) rfl rfl rfl hF (fun a hF => ?_)
      refine cH (c := true) rfl rfl rfl hF (fun a hF => ?_)
      refine cH (c := true) rfl rfl rfl hF (fun a hF => ?_)
      refine cH (c := true) rfl rfl rfl hF (fun a hF => ?_)
      refine wl (cJ (b := true) rfl rfl) rfl hF (fun a hF => ?_)
      refine bx ?_
      refine wp_cond_true (hF.eval rfl) ?_
      refine wp_seq ?_
      refine wp_region_lit ?_
      refine wl (bA rfl) rfl hF (fun a hF => ?_)
      refine bx ?_
      refine wp_ret ?_
      refine bH ?_
      refine bv hF (bw Tryd.results78 (RV.tmp hF rfl)) ?_
      first | exact ⟨by rw [cg (by omega)], hM.below⟩ | exact ⟨by rw [cf g j (by omega)], hM.below⟩ | exact ⟨by rw [ce f], hM.below⟩ | exact ⟨by rw [cd (by omega) g j (by omega) l], hM.below⟩
     ·have e : decide ((ks.length : Int) < 1) = false := decide_eq_false hlow
      rw [e] at hF
      refine wlg rfl (bD u26 (m := 0) fe rfl rfl rfl) rfl hF (fun a hF => ?_)
      refine wlg rfl (bF u24 rfl rfl (hM.cell 0 rfl rfl)) rfl hF (fun a hF => ?_)
      refine wlg rfl (bT u24 rfl) rfl hF (fun a hF => ?_)
      refine wlg rfl (bC rfl) rfl hF (fun a hF => ?_)
      refine wlg rfl (iM rfl rfl) rfl hF (fun a hF => ?_)
      refine wl (cJ (b := false) rfl rfl) rfl hF (fun a hF => ?_)
      refine bx ?_
      refine bz ?_
      refine cn hF rfl (fun h => ?_) (fun h => ?_)
      ·have p := of_decide_eq_true h
       clear h
       refine wp_seq ?_
       refine wp_region_lit ?_
       refine wl (bA rfl) rfl hF (fun a hF => ?_)
       refine bx ?_
       refine wp_ret ?_
       refine bH ?_
       refine bv hF (bw Tryd.results78 (RV.tmp hF rfl)) ?_
       first | exact ⟨by rw [cg (by omega)], hM.below⟩ | exact ⟨by rw [cf g j (by omega)], hM.below⟩ | exact ⟨by rw [ce f], hM.below⟩ | exact ⟨by rw [cd (by omega) g j (by omega) l], hM.below⟩
      ·have p := of_decide_eq_false h
       clear h
       refine wp_skip ?_
       refine wp_seq ?_
       refine wp_seq ?_
       refine wp_region_lit ?_
       refine wl (bD u26 (m := 0) fe rfl rfl rfl) rfl hF (fun a hF => ?_)
       refine wl (bF u24 rfl rfl (hM.cell 0 rfl rfl)) rfl hF (fun a hF => ?_)
       refine wl (bT u24 rfl) rfl hF (fun a hF => ?_)
       refine wl (bC rfl) rfl hF (fun a hF => ?_)
       refine bx ?_
       refine bz ?_
       refine wp_block ?_
       refine cb (fun D a w => ∃ (i : Nat), D = ks.length - i ∧ (i ≤ ks.length) ∧ (cB (ks.drop i) (d + 1) = cB ks (d + 1)) ∧ Frm a 62 [(1, (vI (d : Int))), (2, (vp b1)), (50, (Value.slice ad ks.length cap)), (51, (vI (ks.length : Int))), (52, (vI (i : Int)))] ∧ Mem w0 w [(b1, #[(vI k), (vI nm), (Value.slice ad ks.length cap)], 26)]) _ ⟨0, rfl, (by omega), rfl, hF.sub ⟨rfl, rfl, rfl, rfl, rfl, trivial⟩, ?_⟩ ?_
       ·exact hM
       rintro _ a w ⟨i, rfl, hl3_0, hl3_1, hF, hM⟩
       have I := hl3_0
       have q := hl3_1
       refine wp_seq ?_
       refine wp_region_lit ?_
       refine wl (ez rfl rfl) rfl hF (fun a hF => ?_)
       refine bx ?_
       refine wp_seq ?_
       refine cn hF rfl (fun h => ?_) (fun h => ?_)
       ·have C := of_decide_eq_true h
        clear h
        obtain ⟨b0, o0, B, H, A⟩ := hsl (by omega)
        obtain ⟨t1, hi⟩ : ∃ t, ks[i]? = some t := ⟨_, List.getElem?_eq_getElem (by omega)⟩
        have z : t1 ∈ ks := List.mem_of_getElem? hi
        obtain ⟨a1, r, y⟩ := hks.at A i t1 hi
        obtain ⟨k1, u, s, l1, n, rfl⟩ := r.form
        refine wp_skip ?_
        refine wp_seq ?_
        refine wp_block ?_
        refine wp_seq ?_
        refine wp_region_lit ?_
        refine wl (d6 (b := b0) (o := o0) u24 bV (by rw [← B]; rfl) rfl rfl (by omega)) rfl hF (fun a hF => ?_)
        refine wl (cj u26 rfl bV rfl (y.mv (Gr.ch hM.below) (by simp)) rfl) rfl hF (fun a hF => ?_)
        refine wlR (d8 z26) rfl hF ?_
        rintro _ w a ⟨b4, rfl, hnb_⟩ hF
        have hM : Mem w0 w [(b1, #[(vI k), (vI nm), (Value.slice ad ks.length cap)], 26), (b4, #[(vI 0), (vI 0), vN], 26)] := hM.alloc hnb_
        refine kI (dk (c' := #[(vI k1), (vI u), (Value.slice s l1 n)]) bV rfl rfl rfl (fun v hv => by simp at hv; rcases hv with rfl | rfl | rfl <;> rfl) (hM.at 1 rfl) rfl) hF ?_
        rintro w a hu hF
        have hM : Mem w0 w [(b1, #[(vI k), (vI nm), (Value.slice ad ks.length cap)], 26), (b4, #[(vI k1), (vI u), (Value.slice s l1 n)], 26)] := hM.upd 1 rfl hu
        refine bx ?_
        refine wp_seq ?_
        refine wp_region_lit ?_
        refine wl (em u26 rfl bV rfl (hM.at 1 rfl) rfl) rfl hF (fun a hF => ?_)
        refine wl (bC rfl) rfl hF (fun a hF => ?_)
        refine wl (cy rfl rfl (bO (by omega) (by omega))) rfl hF (fun a hF => ?_)
        refine wlR (a_ c78 rfl (ih t1 z X _ (d + 1) _ (IsT.mv (Gr.ch hM.below) (by simp) (fun x hx => .inl hx) t1 _ r) (by omega))) rfl hF ?_
        rintro _ w a ⟨rfl, hg⟩ hF
        have hM := hM.call hg
        refine wl (mD rfl) rfl hF (fun a hF => ?_)
        refine bx ?_
        refine bz ?_
        refine cn hF rfl (fun h => ?_) (fun h => ?_)
        ·have hs := h
         clear h
         have f : cB ks (d + 1) = false := by rw [← q, dn hi]; simp at hs; simp [hs]
         refine wp_seq ?_
         refine wp_region_lit ?_
         refine wl (bA rfl) rfl hF (fun a hF => ?_)
         refine bx ?_
         refine wp_ret ?_
         refine bY ?_
         refine bH ?_
         refine bH ?_
         refine bY ?_
         refine bH ?_
         refine bv hF (bw Tryd.results78 (RV.tmp hF rfl)) ?_
         first | exact ⟨by rw [cg (by omega)], hM.below⟩ | exact ⟨by rw [cf g j (by omega)], hM.below⟩ | exact ⟨by rw [ce f], hM.below⟩ | exact ⟨by rw [cd (by omega) g j (by omega) l], hM.below⟩
        ·have hs := h
         clear h
         have hs : cw t1 (d + 1) = true := by simpa using hs
         refine wp_skip ?_
         refine bR ?_
         refine bz ?_
         refine wp_region_lit ?_
         refine wl (cy rfl rfl (bO (by omega) (by omega))) rfl hF (fun a hF => ?_)
         refine wl (bC rfl) rfl hF (fun a hF => ?_)
         refine bx ?_
         refine bz ?_
         refine ⟨_, ?_, i + 1, rfl, (by omega), (by rw [← q, dn hi, hs, Bool.true_and]), hF.sub ⟨rfl, rfl, rfl, rfl, rfl, trivial⟩, ?_⟩
         ·omega
         exact hM.sub (by simp)
       ·have C := of_decide_eq_false h
        clear h
        have hi : i = ks.length := by omega
        have l : cB ks (d + 1) = true := by rw [← q, hi, List.drop_length]; rfl
        refine wp_exit ?_
        refine bG ?_
        refine bG ?_
        refine bZ ?_
        refine wp_seq ?_
        refine wp_region_lit ?_
        refine wl (bA rfl) rfl hF (fun a hF => ?_)
        refine bx ?_
        refine wp_ret ?_
        refine bv hF (bw Tryd.results78 (RV.tmp hF rfl)) ?_
        first | exact ⟨by rw [cg (by omega)], hM.below⟩ | exact ⟨by rw [cf g j (by omega)], hM.below⟩ | exact ⟨by rw [ce f], hM.below⟩ | exact ⟨by rw [cd (by omega) g j (by omega) l], hM.below⟩
   ·have F := of_decide_eq_false h
    clear h
    refine wp_seq ?_
    refine wp_region_lit ?_
    refine wl (bD u26 (m := 0) sz3 rfl rfl rfl) rfl hF (fun a hF => ?_)
    refine wl (bF Tryd.underlying3 rfl rfl (hM.cell 0 rfl rfl)) rfl hF (fun a hF => ?_)
    refine wl (ez rfl rfl) rfl hF (fun a hF => ?_)
    refine wl (bC rfl) rfl hF (fun a hF => ?_)
    by_cases hkl : k < 1
    ·have e : decide (k < 1) = true := decide_eq_true hkl
     rw [e] at hF
     refine cH (c := true) rfl rfl rfl hF (fun a hF => ?_)
     refine cH (c := true) rfl rfl rfl hF (fun a hF => ?_)
     refine cH (c := true) rfl rfl rfl hF (fun a hF => ?_)
     refine wl (cJ (b := true) rfl rfl) rfl hF (fun a hF => ?_)
     refine bx ?_
     refine wp_cond_true (hF.eval rfl) ?_
     refine wp_seq ?_
     refine wp_region_lit ?_
     refine wl (bA rfl) rfl hF (fun a hF => ?_)
     refine bx ?_
     refine wp_ret ?_
     refine bY ?_
     refine bH ?_
     refine bv hF (bw Tryd.results78 (RV.tmp hF rfl)) ?_
     first | exact ⟨by rw [cg (by omega)], hM.below⟩ | exact ⟨by rw [cf g j (by omega)], hM.below⟩ | exact ⟨by rw [ce f], hM.below⟩ | exact ⟨by rw [cd (by omega) g j (by omega) l], hM.below⟩
    ·have e : decide (k < 1) = false := decide_eq_false hkl
     rw [e] at hF
     refine wlg rfl (bD u26 (m := 0) sz3 rfl rfl rfl) rfl hF (fun a hF => ?_)
     refine wlg rfl (bF Tryd.underlying3 rfl rfl (hM.cell 0 rfl rfl)) rfl hF (fun a hF => ?_)
     refine wlg rfl (iM rfl rfl) rfl hF (fun a hF => ?_)
     refine wl (cJ (b := false) rfl rfl) rfl hF (fun a hF => ?_)
     refine bx ?_
     refine bz ?_
     refine cn hF rfl (fun h => ?_) (fun h => ?_)
     ·have K := of_decide_eq_true h
      clear h
      refine wp_seq ?_
      refine wp_region_lit ?_
      refine wl (bA rfl) rfl hF (fun a hF => ?_)
      refine bx ?_
      refine wp_ret ?_
      refine bY ?_
      refine bH ?_
      refine bv hF (bw Tryd.results78 (RV.tmp hF rfl)) ?_
      first | exact ⟨by rw [cg (by omega)], hM.below⟩ | exact ⟨by rw [cf g j (by omega)], hM.below⟩ | exact ⟨by rw [ce f], hM.below⟩ | exact ⟨by rw [cd (by omega) g j (by omega) l], hM.below⟩
     ·have K := of_decide_eq_false h
      clear h
      have g : low k = 2 := (by simp [low, dX, G, E, F])
      have j : dX k = 2 := (by simp [low, dX, G, E, F])
      refine wp_skip ?_
      refine bR ?_
      refine wp_seq ?_
      refine wp_seq ?_
      refine wp_region_lit ?_
      refine wl (bC rfl) rfl hF (fun a hF => ?_)
      refine wl (kz rfl rfl) rfl hF (fun a hF => ?_)
      refine wl (bC rfl) rfl hF (fun a hF => ?_)
      by_cases hdd : 100 ≤ (d : Int)
      ·have e : decide (100 ≤ (d : Int)) = true := decide_eq_true hdd
       rw [e] at hF
       refine cH (c := true) rfl rfl rfl hF (fun a hF => ?_)
       refine cH (c := true) rfl rfl rfl hF (fun a hF => ?_)
       refine cH (c := true) rfl rfl rfl hF (fun a hF => ?_)
       refine cH (c := true) rfl rfl rfl hF (fun a hF => ?_)
       refine cH (c := true) rfl rfl rfl hF (fun a hF => ?_)
       refine wl (cJ (b := true) rfl rfl) rfl hF (fun a hF => ?_)
       refine wl (bC rfl) rfl hF (fun a hF => ?_)
       refine cH (c := true) rfl rfl rfl hF (fun a hF => ?_)
       refine cH (c := true) rfl rfl rfl hF (fun a hF => ?_)
       refine cH (c := true) rfl rfl rfl hF (fun a hF => ?_)
       refine cH (c := true) rfl rfl rfl hF (fun a hF => ?_)
       refine cH (c := true) rfl rfl rfl hF (fun a hF => ?_)
       refine wl (cJ (b := true) rfl rfl) rfl hF (fun a hF => ?_)
       refine bx ?_
       refine wp_cond_true (hF.eval rfl) ?_
       refine wp_seq ?_
       refine wp_region_lit ?_
       refine wl (bA rfl) rfl hF (fun a hF => ?_)
       refine bx ?_
       refine wp_ret ?_
       refine bH ?_
       refine bv hF (bw Tryd.results78 (RV.tmp hF rfl)) ?_
       first | exact ⟨by rw [cg (by omega)], hM.below⟩ | exact ⟨by rw [cf g j (by omega)], hM.below⟩ | exact ⟨by rw [ce f], hM.below⟩ | exact ⟨by rw [cd (by omega) g j (by omega) l], hM.below⟩
      ·have e : decide (100 ≤ (d : Int)) = false := decide_eq_false hdd
       rw [e] at hF
       refine wlg rfl (bD u26 (m := 0) fe rfl rfl rfl) rfl hF (fun a hF => ?_)
       refine wlg rfl (bF u24 rfl rfl (hM.cell 0 rfl rfl)) rfl hF (fun a hF => ?_)
       refine wlg rfl (bT u24 rfl) rfl hF (fun a hF => ?_)
       refine wlg rfl (bC rfl) rfl hF (fun a hF => ?_)
       refine wlg rfl (ez rfl rfl) rfl hF (fun a hF => ?_)
       refine wl (cJ (b := false) rfl rfl) rfl hF (fun a hF => ?_)
       refine wl (bC rfl) rfl hF (fun a hF => ?_)
       by_cases hlow : (ks.length : Int) < 2
       ·have e : decide ((ks.length : Int) < 2) = true := decide_eq_true hlow
        rw [e] at hF
        refine cH (c := true) rfl rfl rfl hF (fun a hF => ?_)
        refine cH (c := true) rfl rfl rfl hF (fun a hF => ?_)
        refine cH (c := true) rfl rfl rfl hF (fun a hF => ?_)
        refine cH (c := true) rfl rfl rfl hF (fun a hF => ?_)
        refine cH (c := true) rfl rfl rfl hF (fun a hF => ?_)
        refine wl (cJ (b := true) rfl rfl) rfl hF (fun a hF => ?_)
        refine bx ?_
        refine wp_cond_true (hF.eval rfl) ?_
        refine wp_seq ?_
        refine wp_region_lit ?_
        refine wl (bA rfl) rfl hF (fun a hF => ?_)
        refine bx ?_
        refine wp_ret ?_
        refine bH ?_
        refine bv hF (bw Tryd.results78 (RV.tmp hF rfl)) ?_
        first | exact ⟨by rw [cg (by omega)], hM.below⟩ | exact ⟨by rw [cf g j (by omega)], hM.below⟩ | exact ⟨by rw [ce f], hM.below⟩ | exact ⟨by rw [cd (by omega) g j (by omega) l], hM.below⟩
       ·have e : decide ((ks.length : Int) < 2) = false := decide_eq_false hlow
        rw [e] at hF
        refine wlg rfl (bD u26 (m := 0) fe rfl rfl rfl) rfl hF (fun a hF => ?_)
        refine wlg rfl (bF u24 rfl rfl (hM.cell 0 rfl rfl)) rfl hF (fun a hF => ?_)
        refine wlg rfl (bT u24 rfl) rfl hF (fun a hF => ?_)
        refine wlg rfl (bC rfl) rfl hF (fun a hF => ?_)
        refine wlg rfl (iM rfl rfl) rfl hF (fun a hF => ?_)
        refine wl (cJ (b := false) rfl rfl) rfl hF (fun a hF => ?_)
        refine bx ?_
        refine bz ?_
        refine cn hF rfl (fun h => ?_) (fun h => ?_)
        ·have p := of_decide_eq_true h
         clear h
         refine wp_seq ?_
         refine wp_region_lit ?_
         refine wl (bA rfl) rfl hF (fun a hF => ?_)
         refine bx ?_
         refine wp_ret ?_
         refine bH ?_
         refine bv hF (bw Tryd.results78 (RV.tmp hF rfl)) ?_
         first | exact ⟨by rw [cg (by omega)], hM.below⟩ | exact ⟨by rw [cf g j (by omega)], hM.below⟩ | exact ⟨by rw [ce f], hM.below⟩ | exact ⟨by rw [cd (by omega) g j (by omega) l], hM.below⟩
        ·have p := of_decide_eq_false h
         clear h
         refine wp_skip ?_
         refine wp_seq ?_
         refine wp_seq ?_
         refine wp_region_lit ?_
         refine wl (bD u26 (m := 0) fe rfl rfl rfl) rfl hF (fun a hF => ?_)
         refine wl (bF u24 rfl rfl (hM.cell 0 rfl rfl)) rfl hF (fun a hF => ?_)
         refine wl (bT u24 rfl) rfl hF (fun a hF => ?_)
         refine wl (bC rfl) rfl hF (fun a hF => ?_)
         refine bx ?_
         refine bz ?_
         refine wp_block ?_
         refine cb (fun D a w => ∃ (i : Nat), D = ks.length - i ∧ (i ≤ ks.length) ∧ (cB (ks.drop i) (d + 1) = cB ks (d + 1)) ∧ Frm a 62 [(1, (vI (d : Int))), (2, (vp b1)), (50, (Value.slice ad ks.length cap)), (51, (vI (ks.length : Int))), (52, (vI (i : Int)))] ∧ Mem w0 w [(b1, #[(vI k), (vI nm), (Value.slice ad ks.length cap)], 26)]) _ ⟨0, rfl, (by omega), rfl, hF.sub ⟨rfl, rfl, rfl, rfl, rfl, trivial⟩, ?_⟩ ?_
         ·exact hM
         rintro _ a w ⟨i, rfl, hl4_0, hl4_1, hF, hM⟩
         have I := hl4_0
         have q := hl4_1
         refine wp_seq ?_
         refine wp_region_lit ?_
         refine wl (ez rfl rfl) rfl hF (fun a hF => ?_)
         refine bx ?_
         refine wp_seq ?_
         refine cn hF rfl (fun h => ?_) (fun h => ?_)
         ·have C := of_decide_eq_true h
          clear h
          obtain ⟨b0, o0, B, H, A⟩ := hsl (by omega)
          obtain ⟨t1, hi⟩ : ∃ t, ks[i]? = some t := ⟨_, List.getElem?_eq_getElem (by omega)⟩
          have z : t1 ∈ ks := List.mem_of_getElem? hi
          obtain ⟨a1, r, y⟩ := hks.at A i t1 hi
          obtain ⟨k1, u, s, l1, n, rfl⟩ := r.form
          refine wp_skip ?_
          refine wp_seq ?_
          refine wp_block ?_
          refine wp_seq ?_
          refine wp_region_lit ?_
          refine wl (d6 (b := b0) (o := o0) u24 bV (by rw [← B]; rfl) rfl rfl (by omega)) rfl hF (fun a hF => ?_)
          refine wl (cj u26 rfl bV rfl (y.mv (Gr.ch hM.below) (by simp)) rfl) rfl hF (fun a hF => ?_)
          refine wlR (d8 z26) rfl hF ?_
          rintro _ w a ⟨b5, rfl, hnb_⟩ hF
          have hM : Mem w0 w [(b1, #[(vI k), (vI nm), (Value.slice ad ks.length cap)], 26), (b5, #[(vI 0), (vI 0), vN], 26)] := hM.alloc hnb_
          refine kI (dk (c' := #[(vI k1), (vI u), (Value.slice s l1 n)]) bV rfl rfl rfl (fun v hv => by simp at hv; rcases hv with rfl | rfl | rfl <;> rfl) (hM.at 1 rfl) rfl) hF ?_
          rintro w a hu hF
          have hM : Mem w0 w [(b1, #[(vI k), (vI nm), (Value.slice ad ks.length cap)], 26), (b5, #[(vI k1), (vI u), (Value.slice s l1 n)], 26)] := hM.upd 1 rfl hu
          refine bx ?_
          refine wp_seq ?_
          refine wp_region_lit ?_
          refine wl (em u26 rfl bV rfl (hM.at 1 rfl) rfl) rfl hF (fun a hF => ?_)
          refine wl (bC rfl) rfl hF (fun a hF => ?_)
          refine wl (cy rfl rfl (bO (by omega) (by omega))) rfl hF (fun a hF => ?_)
          refine wlR (a_ c78 rfl (ih t1 z X _ (d + 1) _ (IsT.mv (Gr.ch hM.below) (by simp) (fun x hx => .inl hx) t1 _ r) (by omega))) rfl hF ?_
          rintro _ w a ⟨rfl, hg⟩ hF
          have hM := hM.call hg
          refine wl (mD rfl) rfl hF (fun a hF => ?_)
          refine bx ?_
          refine bz ?_
          refine cn hF rfl (fun h => ?_) (fun h => ?_)
          ·have hs := h
           clear h
           have f : cB ks (d + 1) = false := by rw [← q, dn hi]; simp at hs; simp [hs]
           refine wp_seq ?_
           refine wp_region_lit ?_
           refine wl (bA rfl) rfl hF (fun a hF => ?_)
           refine bx ?_
           refine wp_ret ?_
           refine bY ?_
           refine bH ?_
           refine bH ?_
           refine bY ?_
           refine bH ?_
           refine bv hF (bw Tryd.results78 (RV.tmp hF rfl)) ?_
           first | exact ⟨by rw [cg (by omega)], hM.below⟩ | exact ⟨by rw [cf g j (by omega)], hM.below⟩ | exact ⟨by rw [ce f], hM.below⟩ | exact ⟨by rw [cd (by omega) g j (by omega) l], hM.below⟩
          ·have hs := h
           clear h
           have hs : cw t1 (d + 1) = true := by simpa using hs
           refine wp_skip ?_
           refine bR ?_
           refine bz ?_
           refine wp_region_lit ?_
           refine wl (cy rfl rfl (bO (by omega) (by omega))) rfl hF (fun a hF => ?_)
           refine wl (bC rfl) rfl hF (fun a hF => ?_)
           refine bx ?_
           refine bz ?_
           refine ⟨_, ?_, i + 1, rfl, (by omega), (by rw [← q, dn hi, hs, Bool.true_and]), hF.sub ⟨rfl, rfl, rfl, rfl, rfl, trivial⟩, ?_⟩
           ·omega
           exact hM.sub (by simp)
         ·have C := of_decide_eq_false h
          clear h
          have hi : i = ks.length := by omega
          have l : cB ks (d + 1) = true := by rw [← q, hi, List.drop_length]; rfl
          refine wp_exit ?_
          refine bG ?_
          refine bG ?_
          refine bZ ?_
          refine wp_seq ?_
          refine wp_region_lit ?_
          refine wl (bA rfl) rfl hF (fun a hF => ?_)
          refine bx ?_
          refine wp_ret ?_
          refine bv hF (bw Tryd.results78 (RV.tmp hF rfl)) ?_
          first | exact ⟨by rw [cg (by omega)], hM.below⟩ | exact ⟨by rw [cf g j (by omega)], hM.below⟩ | exact ⟨by rw [ce f], hM.below⟩ | exact ⟨by rw [cd (by omega) g j (by omega) l], hM.below⟩
theorem kM (t : Tm) : ∀ (X : List Nat) (vs : List Value) (d : Nat) (w : World), IsT w X t vs → d ≤ 1000 → Calls Tryd.prog 78 (List.toArray [.agg vs.toArray, .int .i64 d]) w (Ret fun v w' => v = .bool (cw t d) ∧ Gr w w') := by
 refine Tm.ind (p := fun t => ∀ (X : List Nat) (vs : List Value) (d : Nat) (w : World), IsT w X t vs → d ≤ 1000 → Calls Tryd.prog 78 (List.toArray [.agg vs.toArray, .int .i64 d]) w (Ret fun v w' => v = .bool (cw t d) ∧ Gr w w')) ?_ t
 intro k nm ks ih X vs d w ht hd
 simp only [IsT] at ht
 obtain ⟨sl, xs, rfl, h1, h2⟩ := ht
 obtain ⟨ad, cap, rfl, h3⟩ := h1.form
 exact lV ih d hd w h3 h2
end Go.Mi.Term
namespace Go.Mi.Term
open Go.Mi Go.Proofs Go.RowKit
set_option maxRecDepth 100000 in
theorem iC {t : Tm} {X : List Nat} {k nm : Int} {ad : Option Addr} {l cap : Nat} (w0 : World) (ht : IsT w0 X t [.int .i64 k, .int .i64 nm, .slice ad l cap]) : Calls Tryd.prog 42 (List.toArray [.agg #[.int .i64 k, .int .i64 nm, .slice ad l cap]]) w0 (Ret fun v w' => v = .bool (may t) ∧ Gr w0 w') := by
 refine co Tryd.func42 rfl Tryd.ntmps42 rfl fun a hF => ?_
 have hM := Mem.start w0
 have hF := hF.sub (L' := [(0, (Value.agg (#[(vI k), (vI nm), (Value.slice ad l cap)])))]) ⟨rfl, trivial⟩
 refine wp_seq ?_
 refine wp_region_lit ?_
 refine wlR (dI rfl) rfl hF ?_
 rintro _ w a ⟨b1, rfl, hnb_⟩ hF
 have hM : Mem w0 w [(b1, #[(vI k), (vI nm), (Value.slice ad l cap)], 26)] := hM.alloc hnb_
 refine wl (bA rfl) rfl hF (fun a hF => ?_)
 refine bx ?_
 refine wp_seq ?_
 refine wp_region_lit ?_
 refine wl (em u26 rfl bV rfl (hM.at 0 rfl) rfl) rfl hF (fun a hF => ?_)
 refine wlR (a_ c77 rfl (nT _ (IsT.mv (Gr.ch hM.below) (by simp) (fun x hx => .inl hx) t _ ht))) rfl hF ?_
 rintro _ w a ⟨rfl, hg⟩ hF
 have hM := hM.call hg
 refine wl (tD rfl rfl) rfl hF (fun a hF => ?_)
 refine wl (bC rfl) rfl hF (fun a hF => ?_)
 by_cases hsz : ((size t : Nat) : Int) ≤ 5000
 ·have d : decide (((size t : Nat) : Int) ≤ 5000) = true := decide_eq_true hsz
  rw [d] at hF
  refine wlg rfl (em u26 rfl bV rfl (hM.at 0 rfl) rfl) rfl hF (fun a hF => ?_)
  refine w6 rfl (a_ c78 rfl (kM t X _ 0 _ (IsT.mv (Gr.ch hM.below) (by simp) (fun x hx => .inl hx) t _ ht) (by omega))) rfl hF ?_
  rintro _ w a ⟨rfl, hg⟩ hF
  have hM := hM.call hg
  refine wl (cJ (b := true) rfl rfl) rfl hF (fun a hF => ?_)
  refine wl (bA rfl) rfl hF (fun a hF => ?_)
  refine bx ?_
  refine wp_ret ?_
  refine bv hF (bw Tryd.results42 (RV.tmp hF rfl)) ?_
  first | exact ⟨by rw [od (by omega)], hM.below⟩ | exact ⟨by rw [qo (by omega)], hM.below⟩
 ·have d : decide (((size t : Nat) : Int) ≤ 5000) = false := decide_eq_false hsz
  rw [d] at hF
  refine cH (c := false) rfl rfl rfl hF (fun a hF => ?_)
  refine cH (c := false) rfl rfl rfl hF (fun a hF => ?_)
  refine wl (cJ (b := false) rfl rfl) rfl hF (fun a hF => ?_)
  refine wl (bA rfl) rfl hF (fun a hF => ?_)
  refine bx ?_
  refine wp_ret ?_
  refine bv hF (bw Tryd.results42 (RV.tmp hF rfl)) ?_
  first | exact ⟨by rw [od (by omega)], hM.below⟩ | exact ⟨by rw [qo (by omega)], hM.below⟩
end Go.Mi.Term
namespace Go.Mi.Term
open Go.Mi Go.Proofs Go.RowKit
set_option maxRecDepth 100000 in
theorem lM (w0 : World) : Calls Tryd.prog 97 (List.toArray [.int .i64 1]) w0 (Ret fun v w' => v = .string (bs (dt 1)) ∧ Gr w0 w') := by
 refine co Tryd.func97 rfl Tryd.ntmps97 rfl fun a hF => ?_
 have hM := Mem.start w0
 have hF := hF.sub (L' := [(0, (vI 1))]) ⟨rfl, trivial⟩
 refine wp_seq ?_
 refine wp_region_lit ?_
 refine wl (bA rfl) rfl hF (fun a hF => ?_)
 refine bx ?_
 refine wp_seq ?_
 refine wp_region_lit ?_
 refine wlR (bU (cells := #[(vT []), (vT [110]), (vT [112, 117, 98]), (vT [100, 104]), (vT [107, 101, 109]), (vT [99, 116]), (vT [104]), (vT [101, 110, 99]), (vT [115, 105, 103]), (vT [112, 97, 105, 114])]) eu zz9 rfl (by decide) (by decide) (by kernel_rfl)) rfl hF ?_
 rintro _ w a ⟨b1, rfl, hnb_⟩ hF
 have hM : Mem w0 w [(b1, #[(vT []), (vT [110]), (vT [112, 117, 98]), (vT [100, 104]), (vT [107, 101, 109]), (vT [99, 116]), (vT [104]), (vT [101, 110, 99]), (vT [115, 105, 103]), (vT [112, 97, 105, 114])], 9)] := hM.alloc hnb_
 refine wl (bA rfl) rfl hF (fun a hF => ?_)
 refine bx ?_
 refine wp_seq ?_
 refine wp_region_lit ?_
 refine wl (bC rfl) rfl hF (fun a hF => ?_)
 refine wl (bC rfl) rfl hF (fun a hF => ?_)
 refine wl (ed (j := 1) eu sz9 rfl rfl rfl (by omega)) rfl hF (fun a hF => ?_)
 refine wl (bF u9 rfl rfl (hM.cell 0 rfl rfl)) rfl hF (fun a hF => ?_)
 refine wl (bA rfl) rfl hF (fun a hF => ?_)
 refine bx ?_
 refine wp_ret ?_
 refine bv hF (bw Tryd.results97 (RV.tmp hF rfl)) ?_
 exact ⟨rfl, hM.below⟩
set_option maxRecDepth 100000 in
theorem lL (w0 : World) : Calls Tryd.prog 97 (List.toArray [.int .i64 2]) w0 (Ret fun v w' => v = .string (bs (dt 2)) ∧ Gr w0 w') := by
 refine co Tryd.func97 rfl Tryd.ntmps97 rfl fun a hF => ?_
 have hM := Mem.start w0
 have hF := hF.sub (L' := [(0, (vI 2))]) ⟨rfl, trivial⟩
 refine wp_seq ?_
 refine wp_region_lit ?_
 refine wl (bA rfl) rfl hF (fun a hF => ?_)
 refine bx ?_
 refine wp_seq ?_
 refine wp_region_lit ?_
 refine wlR (bU (cells := #[(vT []), (vT [110]), (vT [112, 117, 98]), (vT [100, 104]), (vT [107, 101, 109]), (vT [99, 116]), (vT [104]), (vT [101, 110, 99]), (vT [115, 105, 103]), (vT [112, 97, 105, 114])]) eu zz9 rfl (by decide) (by decide) (by kernel_rfl)) rfl hF ?_
 rintro _ w a ⟨b1, rfl, hnb_⟩ hF
 have hM : Mem w0 w [(b1, #[(vT []), (vT [110]), (vT [112, 117, 98]), (vT [100, 104]), (vT [107, 101, 109]), (vT [99, 116]), (vT [104]), (vT [101, 110, 99]), (vT [115, 105, 103]), (vT [112, 97, 105, 114])], 9)] := hM.alloc hnb_
 refine wl (bA rfl) rfl hF (fun a hF => ?_)
 refine bx ?_
 refine wp_seq ?_
 refine wp_region_lit ?_
 refine wl (bC rfl) rfl hF (fun a hF => ?_)
 refine wl (bC rfl) rfl hF (fun a hF => ?_)
 refine wl (ed (j := 2) eu sz9 rfl rfl rfl (by omega)) rfl hF (fun a hF => ?_)
 refine wl (bF u9 rfl rfl (hM.cell 0 rfl rfl)) rfl hF (fun a hF => ?_)
 refine wl (bA rfl) rfl hF (fun a hF => ?_)
 refine bx ?_
 refine wp_ret ?_
 refine bv hF (bw Tryd.results97 (RV.tmp hF rfl)) ?_
 exact ⟨rfl, hM.below⟩
set_option maxRecDepth 100000 in
theorem lK (w0 : World) : Calls Tryd.prog 97 (List.toArray [.int .i64 3]) w0 (Ret fun v w' => v = .string (bs (dt 3)) ∧ Gr w0 w') := by
 refine co Tryd.func97 rfl Tryd.ntmps97 rfl fun a hF => ?_
 have hM := Mem.start w0
 have hF := hF.sub (L' := [(0, (vI 3))]) ⟨rfl, trivial⟩
 refine wp_seq ?_
 refine wp_region_lit ?_
 refine wl (bA rfl) rfl hF (fun a hF => ?_)
 refine bx ?_
 refine wp_seq ?_
 refine wp_region_lit ?_
 refine wlR (bU (cells := #[(vT []), (vT [110]), (vT [112, 117, 98]), (vT [100, 104]), (vT [107, 101, 109]), (vT [99, 116]), (vT [104]), (vT [101, 110, 99]), (vT [115, 105, 103]), (vT [112, 97, 105, 114])]) eu zz9 rfl (by decide) (by decide) (by kernel_rfl)) rfl hF ?_
 rintro _ w a ⟨b1, rfl, hnb_⟩ hF
 have hM : Mem w0 w [(b1, #[(vT []), (vT [110]), (vT [112, 117, 98]), (vT [100, 104]), (vT [107, 101, 109]), (vT [99, 116]), (vT [104]), (vT [101, 110, 99]), (vT [115, 105, 103]), (vT [112, 97, 105, 114])], 9)] := hM.alloc hnb_
 refine wl (bA rfl) rfl hF (fun a hF => ?_)
 refine bx ?_
 refine wp_seq ?_
 refine wp_region_lit ?_
 refine wl (bC rfl) rfl hF (fun a hF => ?_)
 refine wl (bC rfl) rfl hF (fun a hF => ?_)
 refine wl (ed (j := 3) eu sz9 rfl rfl rfl (by omega)) rfl hF (fun a hF => ?_)
 refine wl (bF u9 rfl rfl (hM.cell 0 rfl rfl)) rfl hF (fun a hF => ?_)
 refine wl (bA rfl) rfl hF (fun a hF => ?_)
 refine bx ?_
 refine wp_ret ?_
 refine bv hF (bw Tryd.results97 (RV.tmp hF rfl)) ?_
 exact ⟨rfl, hM.below⟩
set_option maxRecDepth 100000 in
theorem lJ (w0 : World) : Calls Tryd.prog 97 (List.toArray [.int .i64 4]) w0 (Ret fun v w' => v = .string (bs (dt 4)) ∧ Gr w0 w') := by
 refine co Tryd.func97 rfl Tryd.ntmps97 rfl fun a hF => ?_
 have hM := Mem.start w0
 have hF := hF.sub (L' := [(0, (vI 4))]) ⟨rfl, trivial⟩
 refine wp_seq ?_
 refine wp_region_lit ?_
 refine wl (bA rfl) rfl hF (fun a hF => ?_)
 refine bx ?_
 refine wp_seq ?_
 refine wp_region_lit ?_
 refine wlR (bU (cells := #[(vT []), (vT [110]), (vT [112, 117, 98]), (vT [100, 104]), (vT [107, 101, 109]), (vT [99, 116]), (vT [104]), (vT [101, 110, 99]), (vT [115, 105, 103]), (vT [112, 97, 105, 114])]) eu zz9 rfl (by decide) (by decide) (by kernel_rfl)) rfl hF ?_
 rintro _ w a ⟨b1, rfl, hnb_⟩ hF
 have hM : Mem w0 w [(b1, #[(vT []), (vT [110]), (vT [112, 117, 98]), (vT [100, 104]), (vT [107, 101, 109]), (vT [99, 116]), (vT [104]), (vT [101, 110, 99]), (vT [115, 105, 103]), (vT [112, 97, 105, 114])], 9)] := hM.alloc hnb_
 refine wl (bA rfl) rfl hF (fun a hF => ?_)
 refine bx ?_
 refine wp_seq ?_
 refine wp_region_lit ?_
 refine wl (bC rfl) rfl hF (fun a hF => ?_)
 refine wl (bC rfl) rfl hF (fun a hF => ?_)
 refine wl (ed (j := 4) eu sz9 rfl rfl rfl (by omega)) rfl hF (fun a hF => ?_)
 refine wl (bF u9 rfl rfl (hM.cell 0 rfl rfl)) rfl hF (fun a hF => ?_)
 refine wl (bA rfl) rfl hF (fun a hF => ?_)
 refine bx ?_
 refine wp_ret ?_
 refine bv hF (bw Tryd.results97 (RV.tmp hF rfl)) ?_
 exact ⟨rfl, hM.below⟩
set_option maxRecDepth 100000 in
theorem lI (w0 : World) : Calls Tryd.prog 97 (List.toArray [.int .i64 5]) w0 (Ret fun v w' => v = .string (bs (dt 5)) ∧ Gr w0 w') := by
 refine co Tryd.func97 rfl Tryd.ntmps97 rfl fun a hF => ?_
 have hM := Mem.start w0
 have hF := hF.sub (L' := [(0, (vI 5))]) ⟨rfl, trivial⟩
 refine wp_seq ?_
 refine wp_region_lit ?_
 refine wl (bA rfl) rfl hF (fun a hF => ?_)
 refine bx ?_
 refine wp_seq ?_
 refine wp_region_lit ?_
 refine wlR (bU (cells := #[(vT []), (vT [110]), (vT [112, 117, 98]), (vT [100, 104]), (vT [107, 101, 109]), (vT [99, 116]), (vT [104]), (vT [101, 110, 99]), (vT [115, 105, 103]), (vT [112, 97, 105, 114])]) eu zz9 rfl (by decide) (by decide) (by kernel_rfl)) rfl hF ?_
 rintro _ w a ⟨b1, rfl, hnb_⟩ hF
 have hM : Mem w0 w [(b1, #[(vT []), (vT [110]), (vT [112, 117, 98]), (vT [100, 104]), (vT [107, 101, 109]), (vT [99, 116]), (vT [104]), (vT [101, 110, 99]), (vT [115, 105, 103]), (vT [112, 97, 105, 114])], 9)] := hM.alloc hnb_
 refine wl (bA rfl) rfl hF (fun a hF => ?_)
 refine bx ?_
 refine wp_seq ?_
 refine wp_region_lit ?_
 refine wl (bC rfl) rfl hF (fun a hF => ?_)
 refine wl (bC rfl) rfl hF (fun a hF => ?_)
 refine wl (ed (j := 5) eu sz9 rfl rfl rfl (by omega)) rfl hF (fun a hF => ?_)
 refine wl (bF u9 rfl rfl (hM.cell 0 rfl rfl)) rfl hF (fun a hF => ?_)
 refine wl (bA rfl) rfl hF (fun a hF => ?_)
 refine bx ?_
 refine wp_ret ?_
 refine bv hF (bw Tryd.results97 (RV.tmp hF rfl)) ?_
 exact ⟨rfl, hM.below⟩
set_option maxRecDepth 100000 in
theorem lH (w0 : World) : Calls Tryd.prog 97 (List.toArray [.int .i64 6]) w0 (Ret fun v w' => v = .string (bs (dt 6)) ∧ Gr w0 w') := by
 refine co Tryd.func97 rfl Tryd.ntmps97 rfl fun a hF => ?_
 have hM := Mem.start w0
 have hF := hF.sub (L' := [(0, (vI 6))]) ⟨rfl, trivial⟩
 refine wp_seq ?_
 refine wp_region_lit ?_
 refine wl (bA rfl) rfl hF (fun a hF => ?_)
 refine bx ?_
 refine wp_seq ?_
 refine wp_region_lit ?_
 refine wlR (bU (cells := #[(vT []), (vT [110]), (vT [112, 117, 98]), (vT [100, 104]), (vT [107, 101, 109]), (vT [99, 116]), (vT [104]), (vT [101, 110, 99]), (vT [115, 105, 103]), (vT [112, 97, 105, 114])]) eu zz9 rfl (by decide) (by decide) (by kernel_rfl)) rfl hF ?_
 rintro _ w a ⟨b1, rfl, hnb_⟩ hF
 have hM : Mem w0 w [(b1, #[(vT []), (vT [110]), (vT [112, 117, 98]), (vT [100, 104]), (vT [107, 101, 109]), (vT [99, 116]), (vT [104]), (vT [101, 110, 99]), (vT [115, 105, 103]), (vT [112, 97, 105, 114])], 9)] := hM.alloc hnb_
 refine wl (bA rfl) rfl hF (fun a hF => ?_)
 refine bx ?_
 refine wp_seq ?_
 refine wp_region_lit ?_
 refine wl (bC rfl) rfl hF (fun a hF => ?_)
 refine wl (bC rfl) rfl hF (fun a hF => ?_)
 refine wl (ed (j := 6) eu sz9 rfl rfl rfl (by omega)) rfl hF (fun a hF => ?_)
 refine wl (bF u9 rfl rfl (hM.cell 0 rfl rfl)) rfl hF (fun a hF => ?_)
 refine wl (bA rfl) rfl hF (fun a hF => ?_)
 refine bx ?_
 refine wp_ret ?_
 refine bv hF (bw Tryd.results97 (RV.tmp hF rfl)) ?_
 exact ⟨rfl, hM.below⟩
set_option maxRecDepth 100000 in
theorem lG (w0 : World) : Calls Tryd.prog 97 (List.toArray [.int .i64 7]) w0 (Ret fun v w' => v = .string (bs (dt 7)) ∧ Gr w0 w') := by
 refine co Tryd.func97 rfl Tryd.ntmps97 rfl fun a hF => ?_
 have hM := Mem.start w0
 have hF := hF.sub (L' := [(0, (vI 7))]) ⟨rfl, trivial⟩
 refine wp_seq ?_
 refine wp_region_lit ?_
 refine wl (bA rfl) rfl hF (fun a hF => ?_)
 refine bx ?_
 refine wp_seq ?_
 refine wp_region_lit ?_
 refine wlR (bU (cells := #[(vT []), (vT [110]), (vT [112, 117, 98]), (vT [100, 104]), (vT [107, 101, 109]), (vT [99, 116]), (vT [104]), (vT [101, 110, 99]), (vT [115, 105, 103]), (vT [112, 97, 105, 114])]) eu zz9 rfl (by decide) (by decide) (by kernel_rfl)) rfl hF ?_
 rintro _ w a ⟨b1, rfl, hnb_⟩ hF
 have hM : Mem w0 w [(b1, #[(vT []), (vT [110]), (vT [112, 117, 98]), (vT [100, 104]), (vT [107, 101, 109]), (vT [99, 116]), (vT [104]), (vT [101, 110, 99]), (vT [115, 105, 103]), (vT [112, 97, 105, 114])], 9)] := hM.alloc hnb_
 refine wl (bA rfl) rfl hF (fun a hF => ?_)
 refine bx ?_
 refine wp_seq ?_
 refine wp_region_lit ?_
 refine wl (bC rfl) rfl hF (fun a hF => ?_)
 refine wl (bC rfl) rfl hF (fun a hF => ?_)
 refine wl (ed (j := 7) eu sz9 rfl rfl rfl (by omega)) rfl hF (fun a hF => ?_)
 refine wl (bF u9 rfl rfl (hM.cell 0 rfl rfl)) rfl hF (fun a hF => ?_)
 refine wl (bA rfl) rfl hF (fun a hF => ?_)
 refine bx ?_
 refine wp_ret ?_
 refine bv hF (bw Tryd.results97 (RV.tmp hF rfl)) ?_
 exact ⟨rfl, hM.below⟩
set_option maxRecDepth 100000 in
theorem lF (w0 : World) : Calls Tryd.prog 97 (List.toArray [.int .i64 8]) w0 (Ret fun v w' => v = .string (bs (dt 8)) ∧ Gr w0 w') := by
 refine co Tryd.func97 rfl Tryd.ntmps97 rfl fun a hF => ?_
 have hM := Mem.start w0
 have hF := hF.sub (L' := [(0, (vI 8))]) ⟨rfl, trivial⟩
 refine wp_seq ?_
 refine wp_region_lit ?_
 refine wl (bA rfl) rfl hF (fun a hF => ?_)
 refine bx ?_
 refine wp_seq ?_
 refine wp_region_lit ?_
 refine wlR (bU (cells := #[(vT []), (vT [110]), (vT [112, 117, 98]), (vT [100, 104]), (vT [107, 101, 109]), (vT [99, 116]), (vT [104]), (vT [101, 110, 99]), (vT [115, 105, 103]), (vT [112, 97, 105, 114])]) eu zz9 rfl (by decide) (by decide) (by kernel_rfl)) rfl hF ?_
 rintro _ w a ⟨b1, rfl, hnb_⟩ hF
 have hM : Mem w0 w [(b1, #[(vT []), (vT [110]), (vT [112, 117, 98]), (vT [100, 104]), (vT [107, 101, 109]), (vT [99, 116]), (vT [104]), (vT [101, 110, 99]), (vT [115, 105, 103]), (vT [112, 97, 105, 114])], 9)] := hM.alloc hnb_
 refine wl (bA rfl) rfl hF (fun a hF => ?_)
 refine bx ?_
 refine wp_seq ?_
 refine wp_region_lit ?_
 refine wl (bC rfl) rfl hF (fun a hF => ?_)
 refine wl (bC rfl) rfl hF (fun a hF => ?_)
 refine wl (ed (j := 8) eu sz9 rfl rfl rfl (by omega)) rfl hF (fun a hF => ?_)
 refine wl (bF u9 rfl rfl (hM.cell 0 rfl rfl)) rfl hF (fun a hF => ?_)
 refine wl (bA rfl) rfl hF (fun a hF => ?_)
 refine bx ?_
 refine wp_ret ?_
 refine bv hF (bw Tryd.results97 (RV.tmp hF rfl)) ?_
 exact ⟨rfl, hM.below⟩
set_option maxRecDepth 100000 in
theorem lE (w0 : World) : Calls Tryd.prog 97 (List.toArray [.int .i64 9]) w0 (Ret fun v w' => v = .string (bs (dt 9)) ∧ Gr w0 w') := by
 refine co Tryd.func97 rfl Tryd.ntmps97 rfl fun a hF => ?_
 have hM := Mem.start w0
 have hF := hF.sub (L' := [(0, (vI 9))]) ⟨rfl, trivial⟩
 refine wp_seq ?_
 refine wp_region_lit ?_
 refine wl (bA rfl) rfl hF (fun a hF => ?_)
 refine bx ?_
 refine wp_seq ?_
 refine wp_region_lit ?_
 refine wlR (bU (cells := #[(vT []), (vT [110]), (vT [112, 117, 98]), (vT [100, 104]), (vT [107, 101, 109]), (vT [99, 116]), (vT [104]), (vT [101, 110, 99]), (vT [115, 105, 103]), (vT [112, 97, 105, 114])]) eu zz9 rfl (by decide) (by decide) (by kernel_rfl)) rfl hF ?_
 rintro _ w a ⟨b1, rfl, hnb_⟩ hF
 have hM : Mem w0 w [(b1, #[(vT []), (vT [110]), (vT [112, 117, 98]), (vT [100, 104]), (vT [107, 101, 109]), (vT [99, 116]), (vT [104]), (vT [101, 110, 99]), (vT [115, 105, 103]), (vT [112, 97, 105, 114])], 9)] := hM.alloc hnb_
 refine wl (bA rfl) rfl hF (fun a hF => ?_)
 refine bx ?_
 refine wp_seq ?_
 refine wp_region_lit ?_
 refine wl (bC rfl) rfl hF (fun a hF => ?_)
 refine wl (bC rfl) rfl hF (fun a hF => ?_)
 refine wl (ed (j := 9) eu sz9 rfl rfl rfl (by omega)) rfl hF (fun a hF => ?_)
 refine wl (bF u9 rfl rfl (hM.cell 0 rfl rfl)) rfl hF (fun a hF => ?_)
 refine wl (bA rfl) rfl hF (fun a hF => ?_)
 refine bx ?_
 refine wp_ret ?_
 refine bv hF (bw Tryd.results97 (RV.tmp hF rfl)) ?_
 exact ⟨rfl, hM.below⟩
def cG : Prop := ∀ (lv : Value) (g c : Nat) (l : List Tx) (w : World), lv = .slice (some ⟨g, 0, none⟩) l.length c → g < w.heap.size → l.length ≤ c → At w g 0 (l.map fun x => Value.string (bs x)) → (Lib.join l [44]).length ≤ 1099511627776 → Calls Tryd.prog 99 (List.toArray [lv, .string (bs [44])]) w (Ret fun v w' => v = .string (bs (Lib.join l [44])) ∧ Gr w w')
theorem fO {k : Int} (h : 1 ≤ k ∧ k ≤ 9) (w0 : World) : Calls Tryd.prog 97 (List.toArray [.int .i64 k]) w0 (Ret fun v w' => v = .string (bs (dt k)) ∧ Gr w0 w') := by
 have : k = 1 ∨ k = 2 ∨ k = 3 ∨ k = 4 ∨ k = 5 ∨ k = 6 ∨ k = 7 ∨ k = 8 ∨ k = 9 := by omega
 rcases this with rfl | rfl | rfl | rfl | rfl | rfl | rfl | rfl | rfl
 ·exact lM w0
 ·exact lL w0
 ·exact lK w0
 ·exact lJ w0
 ·exact lI w0
 ·exact lH w0
 ·exact lG w0
 ·exact lF w0
 ·exact lE w0
end Go.Mi.Term
namespace Go.Mi.Term
open Go.Mi Go.Proofs Go.RowKit
set_option maxRecDepth 100000 in
theorem kG {T0 : World → Prop} {nb : Nat} (hT : ∀ w w', Below nb w w' → T0 w → T0 w') {n : Int} (hit : ∀ w, T0 w → Calls Tryd.prog 98 (List.toArray [.int .i64 n]) w (Ret fun v w' => v = .string (bs (Lib.itoa n)) ∧ Gr w w')) {sv : Value} (hlen : (Lib.itoa n).length ≤ 1000) (w0 : World) (hnb : nb ≤ w0.heap.size) (hw0 : T0 w0) : Calls Tryd.prog 83 (List.toArray [.int .i64 1, .int .i64 n, sv]) w0 (Ret fun v w' => v = .string (bs (wtn 1 n [])) ∧ Gr w0 w') := by
 refine co Tryd.func83 rfl Tryd.ntmps83 rfl fun a hF => ?_
 have hM := Mem.start w0
 have hF := hF.sub (L' := [(0, (vI 1)), (1, (vI n)), (2, sv)]) ⟨rfl, rfl, rfl, trivial⟩
 refine wp_seq ?_
 refine wp_region_lit ?_
 refine wl (bA rfl) rfl hF (fun a hF => ?_)
 refine bx ?_
 refine wp_seq ?_
 refine wp_seq ?_
 refine wp_region_lit ?_
 refine wl (bC rfl) rfl hF (fun a hF => ?_)
 refine wl (dU (c := true) (dN rfl rfl) (by decide)) rfl hF (fun a hF => ?_)
 refine bx ?_
 refine wp_cond_true (hF.eval rfl) ?_
 refine wp_seq ?_
 refine wp_region_lit ?_
 refine wl (bC rfl) rfl hF (fun a hF => ?_)
 refine wlR (a_ c97 rfl (fO (by omega) _)) rfl hF ?_
 rintro _ w a ⟨rfl, hg⟩ hF
 have hM := hM.call hg
 refine wl (bC rfl) rfl hF (fun a hF => ?_)
 refine wlR (a_ c98 rfl (hit _ (hT _ _ (hM.below.mono hnb) hw0))) rfl hF ?_
 rintro _ w a ⟨rfl, hg⟩ hF
 have hM := hM.call hg
 refine wl (fE (s := (dt 1)) (u := (Lib.itoa n)) rfl rfl (by have : (dt 1).length = 1 := rfl; omega)) rfl hF (fun a hF => ?_)
 refine wl (bA rfl) rfl hF (fun a hF => ?_)
 refine bx ?_
 refine wp_ret ?_
 refine bH ?_
 refine bv hF (bw Tryd.results83 (RV.tmp hF rfl)) ?_
 exact ⟨rfl, hM.below⟩
set_option maxRecDepth 100000 in
theorem lD {k n : Int} {ks : List Tm} {X : List Nat} {ad : Option Addr} {cap : Nat} {xs : List Value} (hk : 1 ≤ k ∧ k ≤ 9) (hk1 : ¬ k = 1) (hk3 : ¬ k = 3) (w0 : World) (h1 : 0 < ks.length) (h8 : ks.length ≤ 1000) (hlen : (Lib.join (ks.map txt) [44]).length ≤ 1099511627776) (hsl : 0 < ks.length → ∃ b o, ad = some ⟨b, o, none⟩ ∧ b ∉ X ∧ At w0 b o xs) (hks : IsNs w0 X ks xs) (hjoin : cG) :
 Calls Tryd.prog 83 (List.toArray [.int .i64 k, .int .i64 n, .slice ad ks.length cap]) w0 (Ret fun v w' => v = .string (bs (wtn k n (jk ks))) ∧ Gr w0 w') := by
 refine co Tryd.func83 rfl Tryd.ntmps83 rfl fun a hF => ?_
 have hM := Mem.start w0
 have hF := hF.sub (L' := [(0, (vI k)), (1, (vI n)), (2, (Value.slice ad ks.length cap))]) ⟨rfl, rfl, rfl, trivial⟩
 refine wp_seq ?_
 refine wp_region_lit ?_
 refine wl (bA rfl) rfl hF (fun a hF => ?_)
 refine bx ?_
 refine wp_seq ?_
 refine wp_seq ?_
 refine wp_region_lit ?_
 refine wl (bC rfl) rfl hF (fun a hF => ?_)
 refine wl (dU (c := false) (dN rfl rfl) (decide_eq_false hk1)) rfl hF (fun a hF => ?_)
 refine bx ?_
 refine wp_cond_false (hF.eval rfl) ?_
 refine wp_skip ?_
 refine wp_seq ?_
 refine wp_region_lit ?_
 refine wl (bA rfl) rfl hF (fun a hF => ?_)
 refine bx ?_
 refine wp_seq ?_
 refine wp_seq ?_
 refine wp_region_lit ?_
 refine wl (bC rfl) rfl hF (fun a hF => ?_)
 refine wl (bT dH rfl) rfl hF (fun a hF => ?_)
 refine wl (bC rfl) rfl hF (fun a hF => ?_)
 refine bx ?_
 refine bz ?_
 refine wp_block ?_
 refine cb (fun D a w => ∃ (i : Nat) (lv : Value), D = ks.length - i ∧ (i ≤ ks.length) ∧ (Own w w0.heap.size 9 1 lv i ((ks.take i).map (fun t => Value.string (bs (txt t))))) ∧ Frm a 59 [(0, (vI k)), (7, lv), (17, (Value.slice ad ks.length cap)), (18, (vI (ks.length : Int))), (19, (vI (i : Int)))] ∧ Mem w0 w []) _ ⟨0, Value.slice none 0 0, rfl, (by omega), (Own.nil _ _ _ _), hF.sub ⟨rfl, rfl, rfl, rfl, rfl, trivial⟩, ?_⟩ ?_
 ·exact hM
 rintro _ a w ⟨i, lv, rfl, hl1_0, hl1_1, hF, hM⟩
 have d := hl1_1
 refine wp_seq ?_
 refine wp_region_lit ?_
 refine wl (ez rfl rfl) rfl hF (fun a hF => ?_)
 refine bx ?_
 refine wp_seq ?_
 refine cn hF rfl (fun h => ?_) (fun h => ?_)
 ·have B := of_decide_eq_true h
  clear h
  obtain ⟨b0, o0, A, hb0, z⟩ := hsl (by omega)
  obtain ⟨t1, hi⟩ : ∃ t, ks[i]? = some t := ⟨_, List.getElem?_eq_getElem (by omega)⟩
  obtain ⟨v1, F, G⟩ := hks.at i t1 hi
  obtain ⟨bn, kn, nn, sn, rfl, hbn, x⟩ := G.form
  refine wp_skip ?_
  refine wp_seq ?_
  refine wp_block ?_
  refine wp_seq ?_
  refine wp_region_lit ?_
  refine wl (kx (b := b0) (o := o0) (j := i) dH iN (by rw [← A]; rfl) rfl rfl (by omega)) rfl hF (fun a hF => ?_)
  refine wl (bF u83 rfl rfl ((z.mv (Gr.ch hM.below) (by simp)) i _ F)) rfl hF (fun a hF => ?_)
  refine wl (bA rfl) rfl hF (fun a hF => ?_)
  refine bx ?_
  refine bz ?_
  refine wp_region_lit ?_
  refine wl (bC rfl) rfl hF (fun a hF => ?_)
  refine wl (bC rfl) rfl hF (fun a hF => ?_)
  refine wl (d_nil rfl) rfl hF (fun a hF => ?_)
  refine wl (bD cI (m := 0) sz9 rfl rfl rfl) rfl hF (fun a hF => ?_)
  refine wl (bF u9 rfl rfl ((x.mv (Gr.ch hM.below) (by simp)) 3 _ rfl)) rfl hF (fun a hF => ?_)
  refine wlR (bU (cells := #[(vT (txt t1))]) eu zz9 rfl (by decide) (by decide) (by kernel_rfl)) rfl hF ?_
  rintro _ w a ⟨b1, rfl, hnb_⟩ hF
  have hM : Mem w0 w [(b1, #[(vT (txt t1))], 9)] := hM.alloc hnb_
  have E : ∀ y, y ∈ bE lv → b1 ≠ y := fun y hy => by have h1_ := (d.lt y hy).2; have h2_ := hnb_.num; omega
  have d := d.mv hnb_.ch (by simp)
  have g := d
  refine wlR (gF (b := b1) (u := Value.string (bs (txt t1))) eu ii9 rfl rfl rfl g (At.of_blk (hM.at 0 rfl)) rfl (by omega) (by unfold maxLen; omega) hM.below.size) rfl hF ?_
  rintro lv1 w a ⟨d, hch, hob⟩ hF
  have hM := jf hM hch (fun y hy => ⟨(g.lt y hy).1, fun e he => by simp at he; subst he; exact E y hy⟩)
  refine wl (bA rfl) rfl hF (fun a hF => ?_)
  refine bx ?_
  refine bR ?_
  refine bz ?_
  refine wp_region_lit ?_
  refine wl (cy rfl rfl (bO (by omega) (by omega))) rfl hF (fun a hF => ?_)
  refine wl (bC rfl) rfl hF (fun a hF => ?_)
  refine bx ?_
  refine bz ?_
  refine ⟨_, ?_, i + 1, lv1, rfl, (by omega), (by rw [fD hi]; exact d), hF.sub ⟨rfl, rfl, rfl, rfl, rfl, trivial⟩, ?_⟩
  ·omega
  exact hM.sub (by simp)
 ·have B := of_decide_eq_false h
  clear h
  have hi : i = ks.length := by omega
  have d : Own w w0.heap.size 9 1 lv ks.length (ks.map (fun t => Value.string (bs (txt t)))) := by have h_ := d; rw [hi, List.take_length] at h_; exact h_
  refine wp_exit ?_
  refine bG ?_
  refine bG ?_
  refine bZ ?_
  refine wp_seq ?_
  refine wp_seq ?_
  refine eJ Tt mo (fun f w => Mem w0 w (([[]] : List (List Blk)).getD f []) ∧ Own w w0.heap.size 9 1 lv ks.length (ks.map (fun t => Value.string (bs (txt t))))) [] (rows := [⟨[], [(0, (vI k))], [0], .val (vI k)⟩, ⟨[(0, 31)], [], [0], .val vf⟩, ⟨[(1, 32)], [], [0], .val vf⟩, ⟨[(2, 33)], [(7, lv)], [0], .val undef⟩, ⟨[(3, 34), (2, 33)], [], [0], .val undef⟩, ⟨[(4, 35), (2, 33)], [], [0], .val undef⟩, ⟨[(2, 33)], [(7, lv)], [0], .val undef⟩, ⟨[(6, 37), (2, 33)], [], [0], .val undef⟩, ⟨[(7, 38), (2, 33)], [], [0], .val undef⟩, ⟨[(5, 36), (8, 39), (2, 33)], [], [0], .val undef⟩, ⟨[(2, 33), (9, 40)], [], [0], .val vf⟩]) (by kernel_rfl) hF ⟨hM.drew, d.mv (Ch.drew _) (by simp)⟩ ?_ ?_
  ·refine ⟨?_, ?_, ?_, ?_, ?_, ?_, ?_, ?_, ?_, ?_, ?_, trivial⟩
   ·exact ⟨⟨rfl, trivial⟩, fun f _ vs w hW _ => Det.ob hW (bC rfl)⟩
   ·exact ⟨trivial, fun f _ vs w hW _ => Det.ob hW (dU (c := false) (dN rfl rfl) (decide_eq_false hk3))⟩
   ·exact ⟨trivial, fun f _ vs w hW _ => Det.ob hW (bC rfl)⟩
   ·exact ⟨⟨rfl, trivial⟩, fun f _ vs w hW _ => ⟨false, _, rfl, rfl, rfl, rfl⟩⟩
   ·exact ⟨trivial, fun f _ vs w hW _ => ⟨false, _, rfl, rfl, rfl, rfl⟩⟩
   ·exact ⟨trivial, fun f _ vs w hW _ => ⟨false, _, rfl, rfl, rfl, rfl⟩⟩
   ·exact ⟨⟨rfl, trivial⟩, fun f _ vs w hW _ => ⟨false, _, rfl, rfl, rfl, rfl⟩⟩
   ·exact ⟨trivial, fun f _ vs w hW _ => ⟨false, _, rfl, rfl, rfl, rfl⟩⟩
   ·exact ⟨trivial, fun f _ vs w hW _ => ⟨false, _, rfl, rfl, rfl, rfl⟩⟩
   ·exact ⟨trivial, fun f _ vs w hW _ => ⟨false, _, rfl, rfl, rfl, rfl⟩⟩
   ·exact ⟨trivial, fun f _ vs w hW _ => Det.ob hW (cJ (b := false) rfl rfl)⟩
  ·intro a w vs hW _ hF
   have hM : Mem w0 w [] := hW.1
   have d := hW.2
   have hF := hF.sub (L' := [(0, (vI k)), (7, lv), (17, (Value.slice ad ks.length cap)), (18, (vI (ks.length : Int))), (19, (vI (i : Int))), (20, (vB (decide ((i : Int) < (ks.length : Int))))), (41, vf)]) ⟨rfl, rfl, rfl, rfl, rfl, rfl, rfl, trivial⟩
   refine wp_cond_false (hF.eval rfl) ?_
   refine wp_skip ?_
   refine wp_seq ?_
   have hwl := jh k
   have p := d.at
   obtain ⟨g1, q, r, C, l⟩ : ∃ b cap, lv = .slice (some ⟨b, 0, none⟩) ks.length cap ∧ ks.length ≤ cap ∧ At _ b 0 (ks.map (fun t => Value.string (bs (txt t)))) := by rcases p with ⟨_, h0, _⟩ | h; omega; exact h
   refine wp_region_lit ?_
   refine wl (bC rfl) rfl hF (fun a hF => ?_)
   refine wlR (a_ c97 rfl (fO (by omega) _)) rfl hF ?_
   rintro _ w a ⟨rfl, hg⟩ hF
   have hM := hM.call hg
   have d := d.mv (Gr.ch hg) (by simp)
   have l := l.mv (Gr.ch hg) (by simp)
   refine wl (fE (s := (dt k)) (u := [40]) rfl rfl (by simp; omega)) rfl hF (fun a hF => ?_)
   refine wl (bC rfl) rfl hF (fun a hF => ?_)
   refine wlR (a_ c99 rfl (hjoin lv g1 q (ks.map txt) _ (by simpa using r) (d.lt g1 (by rw [r]; simp [bE])).2 (by simpa using C) (by rw [List.map_map]; exact l) hlen)) rfl hF ?_
   rintro _ w a ⟨rfl, hg⟩ hF
   have hM := hM.call hg
   refine wl (fE (s := ((dt k) ++ ([40]))) (u := (Lib.join (ks.map txt) [44])) rfl rfl (by simp; omega)) rfl hF (fun a hF => ?_)
   refine wl (fE (s := (((dt k) ++ ([40])) ++ (Lib.join (ks.map txt) [44]))) (u := [41]) rfl rfl (by simp; omega)) rfl hF (fun a hF => ?_)
   refine wl (bA rfl) rfl hF (fun a hF => ?_)
   refine bx ?_
   refine wp_ret ?_
   refine bv hF (bw Tryd.results83 (RV.tmp hF rfl)) ?_
   exact ⟨by simp only [wtn, hk1, if_false, fJ, hk3, gN], hM.below⟩
end Go.Mi.Term
namespace Go.Mi.Term
open Go.Mi Go.Proofs Go.RowKit
set_option maxRecDepth 100000 in
theorem mR {n : Int} {ks : List Tm} {X : List Nat} {ad : Option Addr} {cap : Nat} {xs : List Value} (w0 : World) (h2 : ks.length = 2) (hlen : ((ks.map txt).map List.length).sum ≤ 1099511627000) (hsl : 0 < ks.length → ∃ b o, ad = some ⟨b, o, none⟩ ∧ b ∉ X ∧ At w0 b o xs) (hks : IsNs w0 X ks xs) (hjoin : cG) :
 Calls Tryd.prog 83 (List.toArray [.int .i64 3, .int .i64 n, .slice ad ks.length cap]) w0 (Ret fun v w' => v = .string (bs (wtn 3 n (jk ks))) ∧ Gr w0 w') := by
 refine co Tryd.func83 rfl Tryd.ntmps83 rfl fun a hF => ?_
 have hM := Mem.start w0
 have hF := hF.sub (L' := [(0, (vI 3)), (1, (vI n)), (2, (Value.slice ad ks.length cap))]) ⟨rfl, rfl, rfl, trivial⟩
 refine wp_seq ?_
 refine wp_region_lit ?_
 refine wl (bA rfl) rfl hF (fun a hF => ?_)
 refine bx ?_
 refine wp_seq ?_
 refine wp_seq ?_
 refine wp_region_lit ?_
 refine wl (bC rfl) rfl hF (fun a hF => ?_)
 refine wl (dU (c := false) (dN rfl rfl) (by decide)) rfl hF (fun a hF => ?_)
 refine bx ?_
 refine wp_cond_false (hF.eval rfl) ?_
 refine wp_skip ?_
 refine wp_seq ?_
 refine wp_region_lit ?_
 refine wl (bA rfl) rfl hF (fun a hF => ?_)
 refine bx ?_
 refine wp_seq ?_
 refine wp_seq ?_
 refine wp_region_lit ?_
 refine wl (bC rfl) rfl hF (fun a hF => ?_)
 refine wl (bT dH rfl) rfl hF (fun a hF => ?_)
 refine wl (bC rfl) rfl hF (fun a hF => ?_)
 refine bx ?_
 refine bz ?_
 refine wp_block ?_
 refine cb (fun N a w => ∃ (i : Nat) (lv : Value), N = ks.length - i ∧ (i ≤ ks.length) ∧ (Own w w0.heap.size 9 1 lv i ((ks.take i).map (fun t => Value.string (bs (txt t))))) ∧ Frm a 59 [(0, (vI 3)), (7, lv), (17, (Value.slice ad ks.length cap)), (18, (vI (ks.length : Int))), (19, (vI (i : Int)))] ∧ Mem w0 w []) _ ⟨0, Value.slice none 0 0, rfl, (by omega), (Own.nil _ _ _ _), hF.sub ⟨rfl, rfl, rfl, rfl, rfl, trivial⟩, ?_⟩ ?_
 ·exact hM
 rintro _ a w ⟨i, lv, rfl, hl1_0, hl1_1, hF, hM⟩
 have g := hl1_1
 refine wp_seq ?_
 refine wp_region_lit ?_
 refine wl (ez rfl rfl) rfl hF (fun a hF => ?_)
 refine bx ?_
 refine wp_seq ?_
 refine cn hF rfl (fun h => ?_) (fun h => ?_)
 ·have L := of_decide_eq_true h
  clear h
  obtain ⟨b0, o0, K, hb0, J⟩ := hsl (by omega)
  obtain ⟨t1, hi⟩ : ∃ t, ks[i]? = some t := ⟨_, List.getElem?_eq_getElem (by omega)⟩
  obtain ⟨v1, Q, R⟩ := hks.at i t1 hi
  obtain ⟨bn, kn, nn, sn, rfl, hbn, F⟩ := R.form
  refine wp_skip ?_
  refine wp_seq ?_
  refine wp_block ?_
  refine wp_seq ?_
  refine wp_region_lit ?_
  refine wl (kx (b := b0) (o := o0) (j := i) dH iN (by rw [← K]; rfl) rfl rfl (by omega)) rfl hF (fun a hF => ?_)
  refine wl (bF u83 rfl rfl ((J.mv (Gr.ch hM.below) (by simp)) i _ Q)) rfl hF (fun a hF => ?_)
  refine wl (bA rfl) rfl hF (fun a hF => ?_)
  refine bx ?_
  refine bz ?_
  refine wp_region_lit ?_
  refine wl (bC rfl) rfl hF (fun a hF => ?_)
  refine wl (bC rfl) rfl hF (fun a hF => ?_)
  refine wl (d_nil rfl) rfl hF (fun a hF => ?_)
  refine wl (bD cI (m := 0) sz9 rfl rfl rfl) rfl hF (fun a hF => ?_)
  refine wl (bF u9 rfl rfl ((F.mv (Gr.ch hM.below) (by simp)) 3 _ rfl)) rfl hF (fun a hF => ?_)
  refine wlR (bU (cells := #[(vT (txt t1))]) eu zz9 rfl (by decide) (by decide) (by kernel_rfl)) rfl hF ?_
  rintro _ w a ⟨b1, rfl, hnb_⟩ hF
  have hM : Mem w0 w [(b1, #[(vT (txt t1))], 9)] := hM.alloc hnb_
  have P : ∀ y, y ∈ bE lv → b1 ≠ y := fun y hy => by have h1_ := (g.lt y hy).2; have h2_ := hnb_.num; omega
  have g := g.mv hnb_.ch (by simp)
  have p := g
  refine wlR (gF (b := b1) (u := Value.string (bs (txt t1))) eu ii9 rfl rfl rfl p (At.of_blk (hM.at 0 rfl)) rfl (by omega) (by unfold maxLen; omega) hM.below.size) rfl hF ?_
  rintro lv1 w a ⟨g, hch, hob⟩ hF
  have hM := jf hM hch (fun y hy => ⟨(p.lt y hy).1, fun e he => by simp at he; subst he; exact P y hy⟩)
  refine wl (bA rfl) rfl hF (fun a hF => ?_)
  refine bx ?_
  refine bR ?_
  refine bz ?_
  refine wp_region_lit ?_
  refine wl (cy rfl rfl (bO (by omega) (by omega))) rfl hF (fun a hF => ?_)
  refine wl (bC rfl) rfl hF (fun a hF => ?_)
  refine bx ?_
  refine bz ?_
  refine ⟨_, ?_, i + 1, lv1, rfl, (by omega), (by rw [fD hi]; exact g), hF.sub ⟨rfl, rfl, rfl, rfl, rfl, trivial⟩, ?_⟩
  ·omega
  exact hM.sub (by simp)
 ·have L := of_decide_eq_false h
  clear h
  have hi : i = ks.length := by omega
  have g : Own w w0.heap.size 9 1 lv ks.length (ks.map (fun t => Value.string (bs (txt t)))) := by have h_ := g; rw [hi, List.take_length] at h_; exact h_
  refine wp_exit ?_
  refine bG ?_
  refine bG ?_
  refine bZ ?_
  refine wp_seq ?_
  refine wp_seq ?_
  obtain ⟨ta, tb, q⟩ : ∃ a b, ks = [a, b] := by match ks, h2 with | [a, b], _ => exact ⟨a, b, rfl⟩
  have z : Own w w0.heap.size 9 1 lv 2 [Value.string (bs (txt ta)), Value.string (bs (txt tb))] := by have h_ := g; rw [q] at h_; exact h_
  obtain ⟨g1, r, f, l, O, G, x, E, C, hcs⟩ := sd z
  have hM : Mem w0 w [(g1, f, 9)] := sW hM O G
  have A : (Lib.join [txt ta, txt tb] [44]).length ≤ 1099511627776 := by simp [Lib.join, List.intercalate]; rw [q] at hlen; simp at hlen; omega
  have B : (Lib.join [txt tb, txt ta] [44]).length ≤ 1099511627776 := by simp [Lib.join, List.intercalate]; rw [q] at hlen; simp at hlen; omega
  have I : 0 < f.size := by omega
  have H : 1 < f.size := by omega
  refine eJ Tt mo (fun d w => Mem w0 w (([[(g1, f, 9)]] : List (List Blk)).getD d [])) [] (rows := [⟨[], [(0, (vI 3))], [0], .val (vI 3)⟩, ⟨[(0, 31)], [], [0], .val vt⟩, ⟨[(1, 32)], [], [0], .val vt⟩, ⟨[(2, 33)], [(7, lv)], [0], .val lv⟩, ⟨[(3, 34), (2, 33)], [], [0], .val (vP g1 1)⟩, ⟨[(4, 35), (2, 33)], [], [0], .val (vT (txt tb))⟩, ⟨[(2, 33)], [(7, lv)], [0], .val lv⟩, ⟨[(6, 37), (2, 33)], [], [0], .val (vp g1)⟩, ⟨[(7, 38), (2, 33)], [], [0], .val (vT (txt ta))⟩, ⟨[(5, 36), (8, 39), (2, 33)], [], [0], .val (vB (dZ (txt tb) (txt ta)))⟩, ⟨[(2, 33), (9, 40)], [], [0], .val (vB (dZ (txt tb) (txt ta)))⟩]) (by kernel_rfl) hF hM.drew ?_ ?_
  ·refine ⟨?_, ?_, ?_, ?_, ?_, ?_, ?_, ?_, ?_, ?_, ?_, trivial⟩
   ·exact ⟨⟨rfl, trivial⟩, fun d _ vs w hW _ => Det.ob hW (bC rfl)⟩
   ·exact ⟨trivial, fun d _ vs w hW _ => Det.ob hW (dU (c := true) (dN rfl rfl) (by decide))⟩
   ·exact ⟨trivial, fun d _ vs w hW _ => Det.ob hW (bC rfl)⟩
   ·exact ⟨⟨rfl, trivial⟩, fun d _ vs w hW _ => ⟨true, _, rfl, rfl, Det.ob hW (bC rfl)⟩⟩
   ·exact ⟨trivial, fun d _ vs w hW _ => ⟨true, _, rfl, rfl, Det.ob hW (ed (j := 1) eu sz9 (by rw [← l]; rfl) rfl rfl (by omega))⟩⟩
   ·refine ⟨trivial, fun d k vs w hW _ => ?_⟩
    obtain rfl := ca k
    have hM : Mem w0 w [(g1, f, 9)] := hW
    exact ⟨true, _, rfl, rfl, Det.ob hW (bF u9 rfl rfl (hM.cell 0 rfl C))⟩
   ·exact ⟨⟨rfl, trivial⟩, fun d _ vs w hW _ => ⟨true, _, rfl, rfl, Det.ob hW (bC rfl)⟩⟩
   ·exact ⟨trivial, fun d _ vs w hW _ => ⟨true, _, rfl, rfl, Det.ob hW (ed (j := 0) eu sz9 (by rw [← l]; rfl) rfl rfl (by omega))⟩⟩
   ·refine ⟨trivial, fun d k vs w hW _ => ?_⟩
    obtain rfl := ca k
    have hM : Mem w0 w [(g1, f, 9)] := hW
    exact ⟨true, _, rfl, rfl, Det.ob hW (bF u9 rfl rfl (hM.cell 0 rfl E))⟩
   ·exact ⟨trivial, fun d _ vs w hW _ => ⟨true, _, rfl, rfl, Det.ob hW (uY (s := (txt tb)) (u := (txt ta)) rfl rfl)⟩⟩
   ·exact ⟨trivial, fun d _ vs w hW _ => Det.ob hW (cJ (b := true) rfl rfl)⟩
  ·intro a w vs hW _ hF
   have hM : Mem w0 w [(g1, f, 9)] := hW
   have hF := hF.sub (L' := [(0, (vI 3)), (7, lv), (17, (Value.slice ad ks.length cap)), (18, (vI (ks.length : Int))), (19, (vI (i : Int))), (20, (vB (decide ((i : Int) < (ks.length : Int))))), (41, (vB (dZ (txt tb) (txt ta))))]) ⟨rfl, rfl, rfl, rfl, rfl, rfl, rfl, trivial⟩
   refine bz ?_
   refine cn hF rfl (fun h => ?_) (fun h => ?_)
   ·have D := h
    clear h
    refine eJ Tt mo (fun d w => Mem w0 w (([[(g1, f, 9)], [(g1, (f.setIfInBounds 0 (vT (txt tb))), 9)], [(g1, ((f.setIfInBounds 0 (vT (txt tb))).setIfInBounds 1 (vT (txt ta))), 9)]] : List (List Blk)).getD d [])) [9, 11] (rows := [⟨[], [(7, lv)], [0], .val lv⟩, ⟨[], [(7, lv)], [0, 1], .val lv⟩, ⟨[], [(7, lv)], [0], .val lv⟩, ⟨[(2, 44)], [], [0], .val (vP g1 1)⟩, ⟨[(3, 45)], [], [0], .val (vT (txt tb))⟩, ⟨[], [(7, lv)], [0], .val lv⟩, ⟨[(5, 47)], [], [0], .val (vp g1)⟩, ⟨[(6, 48)], [], [0], .val (vT (txt ta))⟩, ⟨[(0, 42)], [], [0], .val (vp g1)⟩, ⟨[(8, 50), (4, 46)], [], [0], .rel (fun _ _ => True) (fun _ _ _ _ _ => trivial)⟩, ⟨[(1, 43)], [], [1], .val (vP g1 1)⟩, ⟨[(10, 51), (7, 49)], [], [1], .rel (fun _ _ => True) (fun _ _ _ _ _ => trivial)⟩]) (by kernel_rfl) hF hM.drew ?_ ?_
    ·refine ⟨?_, ?_, ?_, ?_, ?_, ?_, ?_, ?_, ?_, ?_, ?_, ?_, trivial⟩
     ·exact ⟨⟨rfl, trivial⟩, fun d _ vs w hW _ => Det.ob hW (bC rfl)⟩
     ·exact ⟨⟨rfl, trivial⟩, fun d _ vs w hW _ => Det.ob hW (bC rfl)⟩
     ·exact ⟨⟨rfl, trivial⟩, fun d _ vs w hW _ => Det.ob hW (bC rfl)⟩
     ·exact ⟨trivial, fun d _ vs w hW _ => Det.ob hW (ed (j := 1) eu sz9 (by rw [← l]; rfl) rfl rfl (by omega))⟩
     ·refine ⟨trivial, fun d k vs w hW _ => ?_⟩
      obtain rfl := ca k
      have hM : Mem w0 w [(g1, f, 9)] := hW
      exact Det.ob hW (bF u9 rfl rfl (hM.cell 0 rfl C))
     ·exact ⟨⟨rfl, trivial⟩, fun d _ vs w hW _ => Det.ob hW (bC rfl)⟩
     ·exact ⟨trivial, fun d _ vs w hW _ => Det.ob hW (ed (j := 0) eu sz9 (by rw [← l]; rfl) rfl rfl (by omega))⟩
     ·refine ⟨trivial, fun d k vs w hW _ => ?_⟩
      obtain rfl := ca k
      have hM : Mem w0 w [(g1, f, 9)] := hW
      exact Det.ob hW (bF u9 rfl rfl (hM.cell 0 rfl E))
     ·exact ⟨trivial, fun d _ vs w hW _ => Det.ob hW (ed (j := 0) eu sz9 (by rw [← l]; rfl) rfl rfl (by omega))⟩
     ·refine ⟨trivial, fun d k vs w hW _ => ?_⟩
      obtain rfl := ca k
      have hM : Mem w0 w [(g1, f, 9)] := hW
      exact Ok1.obs (fun w' hu => by exact hM.upd 0 rfl hu) (dG (v := (vT (txt tb))) sz9 rfl rfl rfl (hM.at 0 rfl) (by first | omega | (simp; omega)))
     ·exact ⟨trivial, fun d _ vs w hW _ => Det.ob hW (ed (j := 1) eu sz9 (by rw [← l]; rfl) rfl rfl (by omega))⟩
     ·refine ⟨trivial, fun d k vs w hW _ => ?_⟩
      obtain rfl := ca k
      have hM : Mem w0 w [(g1, (f.setIfInBounds 0 (vT (txt tb))), 9)] := hW
      exact Ok1.obs (fun w' hu => by exact hM.upd 0 rfl hu) (dG (v := (vT (txt ta))) sz9 rfl rfl rfl (hM.at 0 rfl) (by first | omega | (simp; omega)))
    ·intro a w vs hW _ hF
     have hM : Mem w0 w [(g1, ((f.setIfInBounds 0 (vT (txt tb))).setIfInBounds 1 (vT (txt ta))), 9)] := hW
     have hF := hF.sub (L' := [(0, (vI 3)), (7, lv), (17, (Value.slice ad ks.length cap)), (18, (vI (ks.length : Int))), (19, (vI (i : Int))), (20, (vB (decide ((i : Int) < (ks.length : Int))))), (41, (vB (dZ (txt tb) (txt ta))))]) ⟨rfl, rfl, rfl, rfl, rfl, rfl, rfl, trivial⟩
     refine wp_seq ?_
     have M := jh 3
     refine wp_region_lit ?_
     refine wl (bC rfl) rfl hF (fun a hF => ?_)
     refine wlR (a_ c97 rfl (fO (by omega) _)) rfl hF ?_
     rintro _ w a ⟨rfl, hg⟩ hF
     have hM := hM.call hg
     refine wl (fE (s := (dt 3)) (u := [40]) rfl rfl (by simp; omega)) rfl hF (fun a hF => ?_)
     refine wl (bC rfl) rfl hF (fun a hF => ?_)
     refine wlR (a_ c99 rfl (hjoin lv g1 r [txt tb, txt ta] _ l (hM.lt (List.mem_cons_self ..)) x (rp (hM.at 0 rfl) (by simp [I]) (by simp [H])) B)) rfl hF ?_
     rintro _ w a ⟨rfl, hg⟩ hF
     have hM := hM.call hg
     refine wl (fE (s := ((dt 3) ++ ([40]))) (u := (Lib.join [txt tb, txt ta] [44])) rfl rfl (by simp; omega)) rfl hF (fun a hF => ?_)
     refine wl (fE (s := (((dt 3) ++ ([40])) ++ (Lib.join [txt tb, txt ta] [44]))) (u := [41]) rfl rfl (by simp; omega)) rfl hF (fun a hF => ?_)
     refine wl (bA rfl) rfl hF (fun a hF => ?_)
     refine bx ?_
     refine wp_ret ?_
     refine bv hF (bw Tryd.results83 (RV.tmp hF rfl)) ?_
     first | exact ⟨by rw [q]; simp [wtn, fJ, jk, D], hM.below⟩
   ·have D := h
    clear h
    refine wp_skip ?_
    refine wp_seq ?_
    have M := jh 3
    refine wp_region_lit ?_
    refine wl (bC rfl) rfl hF (fun a hF => ?_)
    refine wlR (a_ c97 rfl (fO (by omega) _)) rfl hF ?_
    rintro _ w a ⟨rfl, hg⟩ hF
    have hM := hM.call hg
    refine wl (fE (s := (dt 3)) (u := [40]) rfl rfl (by simp; omega)) rfl hF (fun a hF => ?_)
    refine wl (bC rfl) rfl hF (fun a hF => ?_)
    refine wlR (a_ c99 rfl (hjoin lv g1 r [txt ta, txt tb] _ l (hM.lt (List.mem_cons_self ..)) x (rp (hM.at 0 rfl) E C) A)) rfl hF ?_
    rintro _ w a ⟨rfl, hg⟩ hF
    have hM := hM.call hg
    refine wl (fE (s := ((dt 3) ++ ([40]))) (u := (Lib.join [txt ta, txt tb] [44])) rfl rfl (by simp; omega)) rfl hF (fun a hF => ?_)
    refine wl (fE (s := (((dt 3) ++ ([40])) ++ (Lib.join [txt ta, txt tb] [44]))) (u := [41]) rfl rfl (by simp; omega)) rfl hF (fun a hF => ?_)
    refine wl (bA rfl) rfl hF (fun a hF => ?_)
    refine bx ?_
    refine wp_ret ?_
    refine bv hF (bw Tryd.results83 (RV.tmp hF rfl)) ?_
    first | exact ⟨by rw [q]; simp [wtn, fJ, jk, D], hM.below⟩
end Go.Mi.Term
namespace Go.Mi.Term
open Go.Mi Go.Proofs Go.RowKit
section
variable {P : Program} {n : Nat} {L : List (Nat × Value)} {w : World} {ds : Option Nat} {ty : TypeId} {pos : String} {af : Array Edge} {gu : Option (Nat × Bool)}
theorem dg {t : TypeId} {fs : Array Field} {z : Value} {pl : Array (Nat × Nat)} {parts : Array (Nat × Operand)} {ps : List (Nat × Value)} {cells : Array Value} (ht : P.underlying t = some (.struct fs)) (hz : (P.info? t).bind (·.zero) = some z)
    (hpl : ∀ w, (fs.mapM fun f => (do pure (f.offset, ← sizeOf f.type) : Sem (Nat × Nat))).run P w = .ok pl w) (hp : evp L parts.toList = some ps) (hf : Instr.fill (pl[·]?) z.cells ps = some cells) : Det P ⟨ds, .build t parts, ty, pos, af, gu⟩ n L w (.agg cells) w :=
  Det.of_run fun a hF => by
    obtain ⟨inf, hi, hz'⟩ := Option.bind_eq_some_iff.1 hz
    have he : (parts.map fun p => (p.1, a.eval p.2)).toList = ps := by rw [Array.toList_map]; exact hD hF hp
    have hzr : (zeroValue t).run P w = .ok z w := by simp [zeroValue, typeInfo, hi, hz']
    simp only [execOp, Instr.build, Sem.run_bind, hzr, bN ht, Result.andThen_ok, hpl w, he, hf]
    rfl
end
theorem tz {z0 z1 z2 z3 a b c d : Value} (ha : a.cells = #[a]) (hb : b.cells = #[b]) (hc : c.cells = #[c]) (hd : d.cells = #[d]) :
    Instr.fill ((#[(0, 1), (1, 1), (2, 1), (3, 1)] : Array (Nat × Nat))[·]?) #[z0, z1, z2, z3] [(0, a), (1, b), (2, c), (3, d)] = some #[a, b, c, d] := by
  simp [Instr.fill, ha, hb, hc, hd]
theorem th (w : World) : ∀ fs, Tryd.prog.underlying 112 = some (.struct fs) → (fs.mapM fun f => (do pure (f.offset, ← sizeOf f.type) : Sem (Nat × Nat))).run Tryd.prog w = .ok #[(0, 1), (1, 1), (2, 1), (3, 1)] w := by
  intro fs h
  rw [cI] at h
  cases h
  obtain ⟨i3, h3, e3⟩ := Option.map_eq_some_iff.1 sz3
  obtain ⟨i110, h110, e110⟩ := Option.map_eq_some_iff.1 cV
  obtain ⟨i9, h9, e9⟩ := Option.map_eq_some_iff.1 sz9
  simp [sizeOf, typeInfo, h3, h110, h9, e3, e110, e9]
theorem IsN.cell1 {w : World} {X : List Nat} {t : Tm} {v : Value} (h : IsN w X t v) : v.oneCell' = true := by
  obtain ⟨b, k, n, sl, rfl, _⟩ := h.form
  rfl
theorem IsN.cellsv {w : World} {X : List Nat} {t : Tm} {v : Value} (h : IsN w X t v) : v.cells = #[v] := by
  obtain ⟨b, k, n, sl, rfl, _⟩ := h.form
  rfl
theorem jM {z a : Value} (ha : a.cells = #[a]) : Instr.fill (fun i => some (i * 1, 1)) ((Array.range (1 * 1)).map (z.cells[· % z.cells.size]!)) [(0, a)] = some #[a] := by
  simp [Instr.fill, ha]
  apply Array.ext'
  simp [Array.toList_setIfInBounds, Array.toList_map, Array.toList_range, List.range_succ]
theorem qm (ks : List Tm) : gx ks = ks.map nrm := by
  induction ks with
  | nil => rfl
  | cons k ks ih => simp [gx, ih]
mutual
theorem nW : (t : Tm) → txt (nrm t) = txt t
  | .mk k n ks => by
    simp only [nrm, txt, lO ks]
    by_cases h : k = 1
    · simp [h]
    · simp only [h, if_false, wtn]
theorem lO : (ks : List Tm) → jk (gx ks) = jk ks
  | [] => rfl
  | k :: ks => by simp only [gx, jk, nW k, lO ks]
end
def wZ (T0 : World → Prop) (n : Int) : Prop := (∀ w, T0 w → Calls Tryd.prog 98 (List.toArray [.int .i64 n]) w (Ret fun v w' => v = .string (bs (Lib.itoa n)) ∧ Gr w w')) ∧ (Lib.itoa n).length ≤ 1000
def WrK (T0 : World → Prop) (k n : Int) (ks : List Tm) : Prop := (1 ≤ k ∧ k ≤ 9) ∧ (k = 1 → wZ T0 n ∧ ks = []) ∧ (k ≠ 1 → 0 < ks.length ∧ ks.length ≤ 1000) ∧ (k = 3 → ks.length = 2) ∧ ((ks.map txt).map List.length).sum + ks.length ≤ 1099511627000
theorem qE (l : List Tx) : (Lib.join l [44]).length ≤ (l.map List.length).sum + l.length := by
  induction l with
  | nil => simp [Lib.join]
  | cons x l ih =>
    cases l with
    | nil => simp [Lib.join, List.intercalate]
    | cons y l =>
      have h1 := Lib.join_cons x (y :: l) [44]
      have h2 := Lib.join_cons y l [44]
      rw [h2] at ih
      rw [h1]
      simp only [List.length_append, Lib.joinTail, List.map_cons, List.flatten_cons, List.length_cons, List.sum_cons, List.length_nil] at ih ⊢
      omega
theorem fA {T0 : World → Prop} {nb : Nat} (hT : ∀ w w', Below nb w w' → T0 w → T0 w') (hjoin : cG) {k n : Int} {ks : List Tm} (hw : WrK T0 k n ks) {X : List Nat} {ad : Option Addr} {cap : Nat} {xs : List Value} (w0 : World) (hnb : nb ≤ w0.heap.size) (hw0 : T0 w0)
    (hsl : 0 < ks.length → ∃ b o, ad = some ⟨b, o, none⟩ ∧ b ∉ X ∧ At w0 b o xs) (hks : IsNs w0 X ks xs) :
    Calls Tryd.prog 83 (List.toArray [.int .i64 k, .int .i64 n, .slice ad ks.length cap]) w0 (Ret fun v w' => v = .string (bs (txt (.mk k n ks))) ∧ Gr w0 w') := by
  obtain ⟨h1, h2, h3, h4, h5⟩ := hw
  simp only [txt]
  by_cases hk : k = 1
  · subst hk
    obtain ⟨h6, rfl⟩ := h2 rfl
    exact kG hT h6.1 h6.2 w0 hnb hw0
  · by_cases hk3 : k = 3
    · subst hk3
      exact mR w0 (h4 rfl) (by omega) hsl hks hjoin
    · have := qE (ks.map txt)
      simp only [List.length_map] at this
      exact lD h1 hk hk3 w0 (h3 hk).1 (h3 hk).2 (by omega) hsl hks hjoin
mutual
def WrT (T0 : World → Prop) : Tm → Prop
  | .mk k nm ks => WrK T0 k (if k = 1 then nm else 0) (ks.map nrm) ∧ ks.length ≤ 1000 ∧ WrTs T0 ks
def WrTs (T0 : World → Prop) : List Tm → Prop
  | [] => True
  | t :: ts => WrT T0 t ∧ WrTs T0 ts
end
theorem WrTs.at {T0 : World → Prop} : ∀ {ts : List Tm}, WrTs T0 ts → ∀ t, t ∈ ts → WrT T0 t
  | [], _, t, ht => by simp at ht
  | u :: ts, h, t, ht => by
    simp only [WrTs] at h
    rcases List.mem_cons.1 ht with rfl | ht
    · exact h.1
    · exact WrTs.at h.2 t ht
theorem Own.cells1 {w : World} {base m n : Nat} {e : TypeId} {v : Value} {xs : List Value} (h : Own w base e m v n xs) : v.cells = #[v] := by
  rcases h.at with ⟨rfl, _⟩ | ⟨b, cap, rfl, _⟩ <;> rfl
theorem iD {T0 : World → Prop} {nb : Nat} (hT : ∀ w w', Below nb w w' → T0 w → T0 w') (hjoin : cG) {k n : Int} {ks : List Tm} (hw : WrK T0 k n ks) {X : List Nat} {base m : Nat} {e : TypeId} {lv : Value} {ps : List Value} (w0 : World) (hnb : nb ≤ w0.heap.size) (hw0 : T0 w0)
    (hown : Own w0 base e 1 lv m ps) (hm : m = ks.length) (hks : IsNs w0 X ks ps) :
    Calls Tryd.prog 83 (List.toArray [.int .i64 k, .int .i64 n, lv]) w0 (Ret fun v w' => v = .string (bs (txt (.mk k n ks))) ∧ Gr w0 w') := by
  subst hm
  have h0 : IsNs w0 [] ks ps := IsNs.mv (Ch.refl [] w0) (by simp) (by simp) ks ps hks
  rcases hown.at with ⟨rfl, h1, h2⟩ | ⟨b, cap, rfl, _, hat⟩
  · have h3 : ks = [] := List.eq_nil_of_length_eq_zero h1
    subst h3
    exact fA hT hjoin hw (ad := none) (cap := 0) w0 hnb hw0 (by simp) h0
  · exact fA hT hjoin hw (ad := some ⟨b, 0, none⟩) (cap := cap) w0 hnb hw0 (fun _ => ⟨b, 0, rfl, by simp, hat⟩) h0
theorem IsN.mk' {w : World} {X : List Nat} {b base : Nat} {k nm n0 : Int} {ks : List Tm} {lv : Value} {ps : List Value} {e t : TypeId} {f : Nat × Nat} (hb : b ∉ X) (hat : w.heap[b]? = some (.cells #[.int .i64 k, .int .i64 n0, lv, .string (bs (txt (.mk k n0 (ks.map nrm))))] t f))
    (hn : n0 = if k = 1 then nm else 0) (hown : Own w base e 1 lv ks.length ps) (hlo : ∀ y, y ∈ bE lv → y ∉ X) (hns : IsNs w X (ks.map nrm) ps) : IsN w X (nrm (.mk k nm ks)) (.pointer (some ⟨b, 0, none⟩)) := by
  simp only [nrm, qm, ← hn, IsN]
  refine ⟨b, lv, ps, rfl, hb, At.of_blk hat, ?_, hns⟩
  simp only [List.length_map]
  have hl := hown.lt
  rcases hown.at with ⟨h1, h2, h3⟩ | ⟨g, cap, rfl, hc, ha⟩
  · exact .inl ⟨.inl h1, h2, h3⟩
  · obtain ⟨cap, rfl⟩ := Nat.le.dest hc
    exact .inr ⟨g, 0, cap, rfl, hlo g (by simp [bE]), (hl g (by simp [bE])).2, ha⟩
end Go.Mi.Term
