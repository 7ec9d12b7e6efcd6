/- Texts that belong together: Tf, W1, W2, W3, W4, W5, W6, H6. General lemmas and walks; no conditions. -/
import Derived.Test.YtoefhjabaanokaaDoorB2
import Derived.Test.YtoefhjabaanokaaDoorProg
import Derived.KernelRfl
set_option linter.unusedSimpArgs false
set_option linter.unusedVariables false
set_option linter.unnecessarySimpa false
namespace Go.Mi.Term
open Go.Mi Go.Proofs
theorem mo : Tryd.prog.follows .mixedOrders = true := by kernel_rfl
theorem c3 : Callee Tryd.prog 3 := ⟨_, Tryd.func3, by kernel_rfl, by kernel_rfl⟩
theorem c4 : Callee Tryd.prog 4 := ⟨_, Tryd.func4, by kernel_rfl, by kernel_rfl⟩
theorem c5 : Callee Tryd.prog 5 := ⟨_, Tryd.func5, by kernel_rfl, by kernel_rfl⟩
theorem c6 : Callee Tryd.prog 6 := ⟨_, Tryd.func6, by kernel_rfl, by kernel_rfl⟩
theorem c7 : Callee Tryd.prog 7 := ⟨_, Tryd.func7, by kernel_rfl, by kernel_rfl⟩
theorem c8 : Callee Tryd.prog 8 := ⟨_, Tryd.func8, by kernel_rfl, by kernel_rfl⟩
theorem c9 : Callee Tryd.prog 9 := ⟨_, Tryd.func9, by kernel_rfl, by kernel_rfl⟩
theorem c19 : Callee Tryd.prog 19 := ⟨_, Tryd.func19, by kernel_rfl, by kernel_rfl⟩
theorem c24 : Callee Tryd.prog 24 := ⟨_, Tryd.func24, by kernel_rfl, by kernel_rfl⟩
theorem c25 : Callee Tryd.prog 25 := ⟨_, Tryd.func25, by kernel_rfl, by kernel_rfl⟩
theorem c27 : Callee Tryd.prog 27 := ⟨_, Tryd.func27, by kernel_rfl, by kernel_rfl⟩
theorem c28 : Callee Tryd.prog 28 := ⟨_, Tryd.func28, by kernel_rfl, by kernel_rfl⟩
theorem c29 : Callee Tryd.prog 29 := ⟨_, Tryd.func29, by kernel_rfl, by kernel_rfl⟩
theorem c30 : Callee Tryd.prog 30 := ⟨_, Tryd.func30, by kernel_rfl, by kernel_rfl⟩
theorem c31 : Callee Tryd.prog 31 := ⟨_, Tryd.func31, by kernel_rfl, by kernel_rfl⟩
theorem c35 : Callee Tryd.prog 35 := ⟨_, Tryd.func35, by kernel_rfl, by kernel_rfl⟩
theorem c36 : Callee Tryd.prog 36 := ⟨_, Tryd.func36, by kernel_rfl, by kernel_rfl⟩
theorem c39 : Callee Tryd.prog 39 := ⟨_, Tryd.func39, by kernel_rfl, by kernel_rfl⟩
theorem c41 : Callee Tryd.prog 41 := ⟨_, Tryd.func41, by kernel_rfl, by kernel_rfl⟩
theorem c42 : Callee Tryd.prog 42 := ⟨_, Tryd.func42, by kernel_rfl, by kernel_rfl⟩
theorem c43 : Callee Tryd.prog 43 := ⟨_, Tryd.func43, by kernel_rfl, by kernel_rfl⟩
theorem c44 : Callee Tryd.prog 44 := ⟨_, Tryd.func44, by kernel_rfl, by kernel_rfl⟩
theorem c45 : Callee Tryd.prog 45 := ⟨_, Tryd.func45, by kernel_rfl, by kernel_rfl⟩
theorem c46 : Callee Tryd.prog 46 := ⟨_, Tryd.func46, by kernel_rfl, by kernel_rfl⟩
theorem c51 : Callee Tryd.prog 51 := ⟨_, Tryd.func51, by kernel_rfl, by kernel_rfl⟩
theorem c52 : Callee Tryd.prog 52 := ⟨_, Tryd.func52, by kernel_rfl, by kernel_rfl⟩
theorem c53 : Callee Tryd.prog 53 := ⟨_, Tryd.func53, by kernel_rfl, by kernel_rfl⟩
theorem c54 : Callee Tryd.prog 54 := ⟨_, Tryd.func54, by kernel_rfl, by kernel_rfl⟩
theorem c55 : Callee Tryd.prog 55 := ⟨_, Tryd.func55, by kernel_rfl, by kernel_rfl⟩
theorem c56 : Callee Tryd.prog 56 := ⟨_, Tryd.func56, by kernel_rfl, by kernel_rfl⟩
theorem c57 : Callee Tryd.prog 57 := ⟨_, Tryd.func57, by kernel_rfl, by kernel_rfl⟩
theorem c58 : Callee Tryd.prog 58 := ⟨_, Tryd.func58, by kernel_rfl, by kernel_rfl⟩
theorem c59 : Callee Tryd.prog 59 := ⟨_, Tryd.func59, by kernel_rfl, by kernel_rfl⟩
theorem c60 : Callee Tryd.prog 60 := ⟨_, Tryd.func60, by kernel_rfl, by kernel_rfl⟩
theorem c61 : Callee Tryd.prog 61 := ⟨_, Tryd.func61, by kernel_rfl, by kernel_rfl⟩
theorem c62 : Callee Tryd.prog 62 := ⟨_, Tryd.func62, by kernel_rfl, by kernel_rfl⟩
theorem c63 : Callee Tryd.prog 63 := ⟨_, Tryd.func63, by kernel_rfl, by kernel_rfl⟩
theorem c77 : Callee Tryd.prog 77 := ⟨_, Tryd.func77, by kernel_rfl, by kernel_rfl⟩
theorem c78 : Callee Tryd.prog 78 := ⟨_, Tryd.func78, by kernel_rfl, by kernel_rfl⟩
theorem c79 : Callee Tryd.prog 79 := ⟨_, Tryd.func79, by kernel_rfl, by kernel_rfl⟩
theorem c80 : Callee Tryd.prog 80 := ⟨_, Tryd.func80, by kernel_rfl, by kernel_rfl⟩
theorem c81 : Callee Tryd.prog 81 := ⟨_, Tryd.func81, by kernel_rfl, by kernel_rfl⟩
theorem c82 : Callee Tryd.prog 82 := ⟨_, Tryd.func82, by kernel_rfl, by kernel_rfl⟩
theorem c83 : Callee Tryd.prog 83 := ⟨_, Tryd.func83, by kernel_rfl, by kernel_rfl⟩
theorem c86 : Callee Tryd.prog 86 := ⟨_, Tryd.func86, by kernel_rfl, by kernel_rfl⟩
theorem c87 : Callee Tryd.prog 87 := ⟨_, Tryd.func87, by kernel_rfl, by kernel_rfl⟩
theorem c88 : Callee Tryd.prog 88 := ⟨_, Tryd.func88, by kernel_rfl, by kernel_rfl⟩
theorem c89 : Callee Tryd.prog 89 := ⟨_, Tryd.func89, by kernel_rfl, by kernel_rfl⟩
theorem c93 : Callee Tryd.prog 93 := ⟨_, Tryd.func93, by kernel_rfl, by kernel_rfl⟩
theorem c95 : Callee Tryd.prog 95 := ⟨_, Tryd.func95, by kernel_rfl, by kernel_rfl⟩
theorem c96 : Callee Tryd.prog 96 := ⟨_, Tryd.func96, by kernel_rfl, by kernel_rfl⟩
theorem c97 : Callee Tryd.prog 97 := ⟨_, Tryd.func97, by kernel_rfl, by kernel_rfl⟩
theorem c98 : Callee Tryd.prog 98 := ⟨_, Tryd.func98, by kernel_rfl, by kernel_rfl⟩
theorem c99 : Callee Tryd.prog 99 := ⟨_, Tryd.func99, by kernel_rfl, by kernel_rfl⟩
theorem c100 : Callee Tryd.prog 100 := ⟨_, Tryd.func100, by kernel_rfl, by kernel_rfl⟩
theorem c101 : Callee Tryd.prog 101 := ⟨_, Tryd.func101, by kernel_rfl, by kernel_rfl⟩
theorem c102 : Callee Tryd.prog 102 := ⟨_, Tryd.func102, by kernel_rfl, by kernel_rfl⟩
theorem c107 : Callee Tryd.prog 107 := ⟨_, Tryd.func107, by kernel_rfl, by kernel_rfl⟩
theorem c108 : Callee Tryd.prog 108 := ⟨_, Tryd.func108, by kernel_rfl, by kernel_rfl⟩
theorem sz3 : (Tryd.prog.info? 3).map (·.size) = some 1 := by kernel_rfl
theorem sz4 : (Tryd.prog.info? 4).map (·.size) = some 1 := by kernel_rfl
theorem ii4 : (Tryd.prog.info? 4).map (fun i => (i.size, i.bytes, i.zero)) = some (1, 1, some vf) := by kernel_rfl
theorem zz4 : (Tryd.prog.info? 4).map (fun i => (i.size, i.zero)) = some (1, some vf) := by kernel_rfl
theorem sz9 : (Tryd.prog.info? 9).map (·.size) = some 1 := by kernel_rfl
theorem ii9 : (Tryd.prog.info? 9).map (fun i => (i.size, i.bytes, i.zero)) = some (1, 16, some (vT [])) := by kernel_rfl
theorem zz9 : (Tryd.prog.info? 9).map (fun i => (i.size, i.zero)) = some (1, some (vT [])) := by kernel_rfl
theorem sz24 : (Tryd.prog.info? 24).map (·.size) = some 1 := by kernel_rfl
theorem zz24 : (Tryd.prog.info? 24).map (fun i => (i.size, i.zero)) = some (1, some vN) := by kernel_rfl
theorem sz26 : (Tryd.prog.info? 26).map (·.size) = some 3 := by kernel_rfl
theorem ii26 : (Tryd.prog.info? 26).map (fun i => (i.size, i.bytes, i.zero)) = some (3, 40, some (.agg #[(vI 0), (vI 0), vN])) := by kernel_rfl
theorem zz26 : (Tryd.prog.info? 26).map (fun i => (i.size, i.zero)) = some (3, some (.agg #[(vI 0), (vI 0), vN])) := by kernel_rfl
theorem z26 : (Tryd.prog.info? 26).bind (·.zero) = some (.agg #[(vI 0), (vI 0), vN]) := by kernel_rfl
theorem sz31 : (Tryd.prog.info? 31).map (·.size) = some 2 := by kernel_rfl
theorem z31 : (Tryd.prog.info? 31).bind (·.zero) = some (.agg #[vf, vf]) := by kernel_rfl
theorem sz36 : (Tryd.prog.info? 36).map (·.size) = some 1 := by kernel_rfl
theorem z46 : (Tryd.prog.info? 46).bind (·.zero) = some (.agg #[(vI 0), (vI 0), vf]) := by kernel_rfl
theorem z47 : (Tryd.prog.info? 47).bind (·.zero) = some (.agg #[(vI 0), (vI 0), vf]) := by kernel_rfl
theorem sz52 : (Tryd.prog.info? 52).map (·.size) = some 3 := by kernel_rfl
theorem sz53 : (Tryd.prog.info? 53).map (·.size) = some 1 := by kernel_rfl
theorem sz58 : (Tryd.prog.info? 58).map (·.size) = some 6 := by kernel_rfl
theorem ii58 : (Tryd.prog.info? 58).map (fun i => (i.size, i.bytes, i.zero)) = some (6, 64, some (.agg #[(vI 0), (vI 0), vN, (vI 0), (vI 0), (vI 0)])) := by kernel_rfl
theorem zz58 : (Tryd.prog.info? 58).map (fun i => (i.size, i.zero)) = some (6, some (.agg #[(vI 0), (vI 0), vN, (vI 0), (vI 0), (vI 0)])) := by kernel_rfl
theorem z58 : (Tryd.prog.info? 58).bind (·.zero) = some (.agg #[(vI 0), (vI 0), vN, (vI 0), (vI 0), (vI 0)]) := by kernel_rfl
theorem sz80 : (Tryd.prog.info? 80).map (·.size) = some 1 := by kernel_rfl
theorem sz83 : (Tryd.prog.info? 83).map (·.size) = some 1 := by kernel_rfl
theorem ii83 : (Tryd.prog.info? 83).map (fun i => (i.size, i.bytes, i.zero)) = some (1, 8, some (Value.pointer none)) := by kernel_rfl
theorem zz83 : (Tryd.prog.info? 83).map (fun i => (i.size, i.zero)) = some (1, some (Value.pointer none)) := by kernel_rfl
theorem sz89 : (Tryd.prog.info? 89).map (·.size) = some 1 := by kernel_rfl
theorem sz90 : (Tryd.prog.info? 90).map (·.size) = some 1 := by kernel_rfl
theorem sz97 : (Tryd.prog.info? 97).map (·.size) = some 1 := by kernel_rfl
theorem sz99 : (Tryd.prog.info? 99).map (·.size) = some 3 := by kernel_rfl
theorem ii99 : (Tryd.prog.info? 99).map (fun i => (i.size, i.bytes, i.zero)) = some (3, 32, some (.agg #[vN, vf, vf])) := by kernel_rfl
theorem zz99 : (Tryd.prog.info? 99).map (fun i => (i.size, i.zero)) = some (3, some (.agg #[vN, vf, vf])) := by kernel_rfl
theorem z99 : (Tryd.prog.info? 99).bind (·.zero) = some (.agg #[vN, vf, vf]) := by kernel_rfl
theorem sz110 : (Tryd.prog.info? 110).map (·.size) = some 1 := by kernel_rfl
theorem z112 : (Tryd.prog.info? 112).bind (·.zero) = some (.agg #[(vI 0), (vI 0), vN, (vT [])]) := by kernel_rfl
theorem sz114 : (Tryd.prog.info? 114).map (·.size) = some 1 := by kernel_rfl
theorem z116 : (Tryd.prog.info? 116).bind (·.zero) = some (.agg #[vf, vf, (Value.pointer none), (Value.map none)]) := by kernel_rfl
theorem z118 : (Tryd.prog.info? 118).bind (·.zero) = some (.agg #[vN, (Value.map none)]) := by kernel_rfl
theorem z171 : (Tryd.prog.info? 171).bind (·.zero) = some (.agg #[(Value.pointer none), (Value.pointer none), (Value.pointer none), (vT [])]) := by kernel_rfl
end Go.Mi.Term
namespace Go.Mi.Term
open Go.Mi Go.Proofs Go.RowKit
set_option maxRecDepth 100000 in
theorem counted_step {k nm : Int} {ks : List Tm} (ih : ∀ t, t ∈ ks → ∀ (X : List Nat) (vs : List Value) (n : Nat) (w : World), IsT w X t vs → n ≤ 5000 → Calls Tryd.prog 93 (List.toArray [.agg vs.toArray, .int .i64 n]) w (Ret fun v w' => v = .int .i64 (cnt t n) ∧ Gr w w'))
 {X : List Nat} {ad : Option Addr} {cap : Nat} {xs : List Value} (n : Nat) (hn : n ≤ 5000) (w0 : World) (hsl : 0 < ks.length → ∃ b o, ad = some ⟨b, o, none⟩ ∧ b ∉ X ∧ At w0 b o xs) (hks : IsTs w0 X ks xs) :
 Calls Tryd.prog 93 (List.toArray [.agg #[.int .i64 k, .int .i64 nm, .slice ad ks.length cap], .int .i64 n]) w0 (Ret fun v w' => v = .int .i64 (cntL ks (n + 1)) ∧ Gr w0 w') := by
 refine calls_of Tryd.func93 rfl Tryd.ntmps93 rfl fun a hF => ?_
 have hM := Mem.start w0
 have hF := hF.sub (L' := [(0, (Value.agg (#[(vI k), (vI nm), (Value.slice ad ks.length cap)]))), (1, (vI (n : Int)))]) ⟨rfl, rfl, trivial⟩
 refine wp_seq ?_
 refine wp_region_lit ?_
 refine wlR (ok_box rfl) rfl hF ?_
 rintro _ w a ⟨b1, rfl, hnb_⟩ hF
 have hM : Mem w0 w [(b1, #[(vI k), (vI nm), (Value.slice ad ks.length cap)], 26)] := hM.alloc hnb_
 refine wl (d_assign rfl) rfl hF (fun a hF => ?_)
 refine wl_nil ?_
 refine then_n ?_
 refine wp_seq ?_
 refine wp_region_lit ?_
 refine wl (d_move rfl) rfl hF (fun a hF => ?_)
 refine wl (d_add rfl rfl (wrap_i64 (by omega) (by omega))) rfl hF (fun a hF => ?_)
 refine wl (d_assign rfl) rfl hF (fun a hF => ?_)
 refine wl_nil ?_
 refine then_n ?_
 refine wp_seq ?_
 refine wp_seq ?_
 refine wp_region_lit ?_
 refine wl (d_fieldAddrQ Tryd.underlying26 (m := 0) sz24 rfl rfl rfl) rfl hF (fun a hF => ?_)
 refine wl (d_load1 Tryd.underlying24 rfl rfl (hM.cell 0 rfl rfl)) rfl hF (fun a hF => ?_)
 refine wl (d_len_slice Tryd.underlying24 rfl) rfl hF (fun a hF => ?_)
 refine wl (d_move rfl) rfl hF (fun a hF => ?_)
 refine wl_nil ?_
 refine then_n ?_
 refine wp_block ?_
 refine wp_loop_k (fun u a w => ∃ (i m : Nat), u = ks.length - i ∧ (i ≤ ks.length) ∧ (m ≤ 5001) ∧ (cntL (ks.drop i) m = cntL ks (n + 1)) ∧ (i ≤ m) ∧ Frm a 23 [(1, (vI (m : Int))), (2, (vp b1)), (10, (Value.slice ad ks.length cap)), (11, (vI (ks.length : Int))), (12, (vI (i : Int)))] ∧ Mem w0 w [(b1, #[(vI k), (vI nm), (Value.slice ad ks.length cap)], 26)]) _ ⟨0, n + 1, rfl, (by omega), (by omega), rfl, (by omega), hF.sub ⟨rfl, rfl, rfl, rfl, rfl, trivial⟩, ?_⟩ ?_
 ·exact hM
 rintro _ a w ⟨i, m, rfl, hl1_0, hl1_1, hl1_2, hl1_3, hF, hM⟩
 refine wp_seq ?_
 refine wp_region_lit ?_
 refine wl (d_lss rfl rfl) rfl hF (fun a hF => ?_)
 refine wl_nil ?_
 refine then_n ?_
 refine wp_seq ?_
 refine wp_if hF rfl (fun h => ?_) (fun h => ?_)
 ·have r := of_decide_eq_true h
  clear h
  obtain ⟨b0, o0, s, hb0, p⟩ := hsl (by omega)
  obtain ⟨t1, hi⟩ : ∃ t, ks[i]? = some t := ⟨_, List.getElem?_eq_getElem (by omega)⟩
  have q : t1 ∈ ks := List.mem_of_getElem? hi
  obtain ⟨a1, f, l⟩ := hks.at p i t1 hi
  obtain ⟨k1, g, j, l1, d, rfl⟩ := f.form
  refine wp_skip ?_
  refine then_n ?_
  refine wp_seq ?_
  refine wp_block ?_
  refine wp_seq ?_
  refine wp_region_lit ?_
  refine wl (d_ixSm (b := b0) (o := o0) Tryd.underlying24 sz26 (by rw [← s]; rfl) rfl rfl (by omega)) rfl hF (fun a hF => ?_)
  refine wl (d_loadC Tryd.underlying26 rfl sz26 rfl (l.mv (Gr.ch hM.below) (by simp)) rfl) rfl hF (fun a hF => ?_)
  refine wlR (ok_alloc z26) rfl hF ?_
  rintro _ w a ⟨b2, rfl, hnb_⟩ hF
  have hM : Mem w0 w [(b1, #[(vI k), (vI nm), (Value.slice ad ks.length cap)], 26), (b2, #[(vI 0), (vI 0), vN], 26)] := hM.alloc hnb_
  refine wl0R (ok_storeA (c' := #[(vI k1), (vI g), (Value.slice j l1 d)]) sz26 rfl rfl rfl (fun v hv => by simp at hv; rcases hv with rfl | rfl | rfl <;> rfl) (hM.at 1 rfl) rfl) hF ?_
  rintro w a hu hF
  have hM : Mem w0 w [(b1, #[(vI k), (vI nm), (Value.slice ad ks.length cap)], 26), (b2, #[(vI k1), (vI g), (Value.slice j l1 d)], 26)] := hM.upd 1 rfl hu
  refine wl_nil ?_
  refine then_n ?_
  refine wp_seq ?_
  refine wp_seq ?_
  refine wp_region_lit ?_
  refine wl (d_move rfl) rfl hF (fun a hF => ?_)
  refine wl (d_gtr rfl rfl) rfl hF (fun a hF => ?_)
  refine wl_nil ?_
  refine then_n ?_
  refine wp_if hF rfl (fun h => ?_) (fun h => ?_)
  ·have e := of_decide_eq_true h
   clear h
   have c : m = cntL ks (n + 1) := by rw [← hl1_2, cntL_big (by omega)]
   refine wp_exit ?_
   refine then_exit ?_
   refine block_exit_ne (by decide) ?_
   refine then_exit ?_
   refine then_exit ?_
   refine block_exit ?_
   refine then_n ?_
   refine wp_seq ?_
   refine wp_region_lit ?_
   refine wl (d_move rfl) rfl hF (fun a hF => ?_)
   refine wl (d_assign rfl) rfl hF (fun a hF => ?_)
   refine wl_nil ?_
   refine then_n ?_
   refine wp_ret ?_
   refine body_ret hF (results1 Tryd.results93 (RV.tmp hF rfl)) ?_
   exact ⟨by rw [c], hM.below⟩
  ·have e := of_decide_eq_false h
   clear h
   refine wp_skip ?_
   refine then_n ?_
   refine wp_region_lit ?_
   refine wl (d_loadA Tryd.underlying26 rfl sz26 rfl (hM.at 1 rfl) rfl) rfl hF (fun a hF => ?_)
   refine wl (d_move rfl) rfl hF (fun a hF => ?_)
   refine wlR (ok_call c93 rfl (ih t1 q X _ m _ (IsT.mv (Gr.ch hM.below) (by simp) (fun x hx => .inl hx) t1 _ f) (by omega))) rfl hF ?_
   rintro _ w a ⟨rfl, hg⟩ hF
   have hM := hM.call hg
   refine wl (d_assign rfl) rfl hF (fun a hF => ?_)
   refine wl_nil ?_
   refine block_n ?_
   refine then_n ?_
   refine wp_region_lit ?_
   refine wl (d_add rfl rfl (wrap_i64 (by omega) (by omega))) rfl hF (fun a hF => ?_)
   refine wl (d_move rfl) rfl hF (fun a hF => ?_)
   refine wl_nil ?_
   refine then_n ?_
   refine ⟨_, ?_, i + 1, cnt t1 m, rfl, (by omega), (by have := cnt_le t1 m; omega), (by rw [cntL_drop hi (by omega)]; exact hl1_2), (by have := cnt_ge t1 m; omega), hF.sub ⟨rfl, rfl, rfl, rfl, rfl, trivial⟩, ?_⟩
   ·omega
   exact hM.sub (by simp)
 ·have r := of_decide_eq_false h
  clear h
  have hi : i = ks.length := by omega
  have c : m = cntL ks (n + 1) := by rw [← hl1_2, hi, List.drop_length]; rfl
  refine wp_exit ?_
  refine then_exit ?_
  refine then_exit ?_
  refine block_exit ?_
  refine then_n ?_
  refine wp_seq ?_
  refine wp_region_lit ?_
  refine wl (d_move rfl) rfl hF (fun a hF => ?_)
  refine wl (d_assign rfl) rfl hF (fun a hF => ?_)
  refine wl_nil ?_
  refine then_n ?_
  refine wp_ret ?_
  refine body_ret hF (results1 Tryd.results93 (RV.tmp hF rfl)) ?_
  exact ⟨by rw [c], hM.below⟩
theorem counted_calls (t : Tm) : ∀ (X : List Nat) (vs : List Value) (n : Nat) (w : World), IsT w X t vs → n ≤ 5000 → Calls Tryd.prog 93 (List.toArray [.agg vs.toArray, .int .i64 n]) w (Ret fun v w' => v = .int .i64 (cnt t n) ∧ Gr w w') := by
 refine Tm.ind (p := fun t => ∀ (X : List Nat) (vs : List Value) (n : Nat) (w : World), IsT w X t vs → n ≤ 5000 → Calls Tryd.prog 93 (List.toArray [.agg vs.toArray, .int .i64 n]) w (Ret fun v w' => v = .int .i64 (cnt t n) ∧ Gr w w')) ?_ t
 intro k nm ks ih X vs n w ht hn
 simp only [IsT] at ht
 obtain ⟨sl, xs, rfl, h1, h2⟩ := ht
 obtain ⟨ad, cap, rfl, h3⟩ := h1.form
 exact counted_step ih n hn w h3 h2
end Go.Mi.Term
namespace Go.Mi.Term
open Go.Mi Go.Proofs Go.RowKit
set_option maxRecDepth 100000 in
theorem Size_calls {t : Tm} {X : List Nat} {k nm : Int} {ad : Option Addr} {l cap : Nat} (w0 : World) (ht : IsT w0 X t [.int .i64 k, .int .i64 nm, .slice ad l cap]) : Calls Tryd.prog 77 (List.toArray [.agg #[.int .i64 k, .int .i64 nm, .slice ad l cap]]) w0 (Ret fun v w' => v = .int .i64 (size t) ∧ Gr w0 w') := by
 refine calls_of Tryd.func77 rfl Tryd.ntmps77 rfl fun a hF => ?_
 have hM := Mem.start w0
 have hF := hF.sub (L' := [(0, (Value.agg (#[(vI k), (vI nm), (Value.slice ad l cap)])))]) ⟨rfl, trivial⟩
 refine wp_seq ?_
 refine wp_region_lit ?_
 refine wlR (ok_box rfl) rfl hF ?_
 rintro _ w a ⟨b1, rfl, hnb_⟩ hF
 have hM : Mem w0 w [(b1, #[(vI k), (vI nm), (Value.slice ad l cap)], 26)] := hM.alloc hnb_
 refine wl (d_assign rfl) rfl hF (fun a hF => ?_)
 refine wl_nil ?_
 refine then_n ?_
 refine wp_seq ?_
 refine wp_region_lit ?_
 refine wl (d_loadA Tryd.underlying26 rfl sz26 rfl (hM.at 0 rfl) rfl) rfl hF (fun a hF => ?_)
 refine wlR (ok_call c93 rfl (counted_calls t X _ 0 _ (IsT.mv (Gr.ch hM.below) (by simp) (fun x hx => .inl hx) t _ ht) (by omega))) rfl hF ?_
 rintro _ w a ⟨rfl, hg⟩ hF
 have hM := hM.call hg
 refine wl (d_min (r := ((size t : Nat) : Int)) rfl rfl (by simp only [size]; split <;> omega)) rfl hF (fun a hF => ?_)
 refine wl (d_assign rfl) rfl hF (fun a hF => ?_)
 refine wl_nil ?_
 refine then_n ?_
 refine wp_ret ?_
 refine body_ret hF (results1 Tryd.results77 (RV.tmp hF rfl)) ?_
 exact ⟨rfl, hM.below⟩
set_option maxRecDepth 100000 in
theorem shaped_step {k nm : Int} {ks : List Tm} (ih : ∀ t, t ∈ ks → ∀ (X : List Nat) (vs : List Value) (d : Nat) (w : World), IsT w X t vs → d ≤ 1000 → Calls Tryd.prog 78 (List.toArray [.agg vs.toArray, .int .i64 d]) w (Ret fun v w' => v = .bool (shaped t d) ∧ Gr w w'))
 {X : List Nat} {ad : Option Addr} {cap : Nat} {xs : List Value} (d : Nat) (hd : d ≤ 1000) (w0 : World) (hsl : 0 < ks.length → ∃ b o, ad = some ⟨b, o, none⟩ ∧ b ∉ X ∧ At w0 b o xs) (hks : IsTs w0 X ks xs) :
 Calls Tryd.prog 78 (List.toArray [.agg #[.int .i64 k, .int .i64 nm, .slice ad ks.length cap], .int .i64 d]) w0 (Ret fun v w' => v = .bool (shaped (.mk k nm ks) d) ∧ Gr w0 w') := by
 refine calls_of Tryd.func78 rfl Tryd.ntmps78 rfl fun a hF => ?_
 have hM := Mem.start w0
 have hF := hF.sub (L' := [(0, (Value.agg (#[(vI k), (vI nm), (Value.slice ad ks.length cap)]))), (1, (vI (d : Int)))]) ⟨rfl, rfl, trivial⟩
 refine wp_seq ?_
 refine wp_region_lit ?_
 refine wlR (ok_box rfl) rfl hF ?_
 rintro _ w a ⟨b1, rfl, hnb_⟩ hF
 have hM : Mem w0 w [(b1, #[(vI k), (vI nm), (Value.slice ad ks.length cap)], 26)] := hM.alloc hnb_
 refine wl (d_assign rfl) rfl hF (fun a hF => ?_)
 refine wl_nil ?_
 refine then_n ?_
 refine wp_seq ?_
 refine wp_region_lit ?_
 refine wl (d_assign rfl) rfl hF (fun a hF => ?_)
 refine wl (d_assign rfl) rfl hF (fun a hF => ?_)
 refine wl_nil ?_
 refine then_n ?_
 refine wp_seq ?_
 refine wp_seq ?_
 refine wp_region_lit ?_
 refine wl (d_fieldAddrQ Tryd.underlying26 (m := 0) sz3 rfl rfl rfl) rfl hF (fun a hF => ?_)
 refine wl (d_load1 Tryd.underlying3 rfl rfl (hM.cell 0 rfl rfl)) rfl hF (fun a hF => ?_)
 refine wl_nil ?_
 refine then_n ?_
 refine wp_block ?_
 refine wp_seq ?_
 refine wp_region_lit ?_
 refine wl (d_eql rfl rfl) rfl hF (fun a hF => ?_)
 refine wl (d_assign rfl) rfl hF (fun a hF => ?_)
 refine wl_nil ?_
 refine then_n ?_
 refine wp_if hF rfl (fun h => ?_) (fun h => ?_)
 ·have E := of_decide_eq_true h
  clear h
  have j : low k = 0 := (by simp [low, high, E])
  have g : high k = 0 := (by simp [low, high, E])
  refine wp_seq ?_
  refine wp_region_lit ?_
  refine wl (d_assign rfl) rfl hF (fun a hF => ?_)
  refine wl (d_assign rfl) rfl hF (fun a hF => ?_)
  refine wl_nil ?_
  refine then_n ?_
  refine wp_seq ?_
  refine wp_region_lit ?_
  refine wl (d_fieldAddrQ Tryd.underlying26 (m := 0) sz3 rfl rfl rfl) rfl hF (fun a hF => ?_)
  refine wl (d_load1 Tryd.underlying3 rfl rfl (hM.cell 0 rfl rfl)) rfl hF (fun a hF => ?_)
  refine wl (d_lss rfl rfl) rfl hF (fun a hF => ?_)
  refine wl (d_move rfl) rfl hF (fun a hF => ?_)
  by_cases hnm : nm < 0
  ·have e : decide (nm < 0) = true := decide_eq_true hnm
   rw [e] at hF
   refine wlgs (c := true) rfl rfl rfl hF (fun a hF => ?_)
   refine wlgs (c := true) rfl rfl rfl hF (fun a hF => ?_)
   refine wlgs (c := true) rfl rfl rfl hF (fun a hF => ?_)
   refine wl (d_pick (b := true) rfl rfl) rfl hF (fun a hF => ?_)
   refine wl_nil ?_
   refine then_n ?_
   refine wp_cond_true (hF.eval rfl) ?_
   refine wp_seq ?_
   refine wp_region_lit ?_
   refine wl (d_assign rfl) rfl hF (fun a hF => ?_)
   refine wl_nil ?_
   refine then_n ?_
   refine wp_ret ?_
   refine block_ret ?_
   refine then_ret ?_
   refine body_ret hF (results1 Tryd.results78 (RV.tmp hF rfl)) ?_
   first | exact ⟨by rw [shaped_no1 (by omega)], hM.below⟩ | exact ⟨by rw [shaped_no2 j g (by omega)], hM.below⟩ | exact ⟨by rw [shaped_no3 f], hM.below⟩ | exact ⟨by rw [shaped_yes (by omega) j g (by omega) l], hM.below⟩
  ·have e : decide (nm < 0) = false := decide_eq_false hnm
   rw [e] at hF
   refine wlg rfl (d_fieldAddrQ Tryd.underlying26 (m := 0) sz3 rfl rfl rfl) rfl hF (fun a hF => ?_)
   refine wlg rfl (d_load1 Tryd.underlying3 rfl rfl (hM.cell 0 rfl rfl)) rfl hF (fun a hF => ?_)
   refine wlg rfl (d_gtr rfl rfl) rfl hF (fun a hF => ?_)
   refine wl (d_pick (b := false) rfl rfl) rfl hF (fun a hF => ?_)
   refine wl_nil ?_
   refine then_n ?_
   refine wp_if hF rfl (fun h => ?_) (fun h => ?_)
   ·have J := of_decide_eq_true h
    clear h
    refine wp_seq ?_
    refine wp_region_lit ?_
    refine wl (d_assign rfl) rfl hF (fun a hF => ?_)
    refine wl_nil ?_
    refine then_n ?_
    refine wp_ret ?_
    refine block_ret ?_
    refine then_ret ?_
    refine body_ret hF (results1 Tryd.results78 (RV.tmp hF rfl)) ?_
    first | exact ⟨by rw [shaped_no1 (by omega)], hM.below⟩ | exact ⟨by rw [shaped_no2 j g (by omega)], hM.below⟩ | exact ⟨by rw [shaped_no3 f], hM.below⟩ | exact ⟨by rw [shaped_yes (by omega) j g (by omega) l], hM.below⟩
   ·have J := of_decide_eq_false h
    clear h
    refine wp_skip ?_
    refine block_n ?_
    refine then_n ?_
    refine wp_seq ?_
    refine wp_seq ?_
    refine wp_region_lit ?_
    refine wl (d_move rfl) rfl hF (fun a hF => ?_)
    refine wl (d_geq rfl rfl) rfl hF (fun a hF => ?_)
    refine wl (d_move rfl) rfl hF (fun a hF => ?_)
    by_cases hdd : 100 ≤ (d : Int)
    ·have e : decide (100 ≤ (d : Int)) = true := decide_eq_true hdd
     rw [e] at hF
     refine wlgs (c := true) rfl rfl rfl hF (fun a hF => ?_)
     refine wlgs (c := true) rfl rfl rfl hF (fun a hF => ?_)
     refine wlgs (c := true) rfl rfl rfl hF (fun a hF => ?_)
     refine wlgs (c := true) rfl rfl rfl hF (fun a hF => ?_)
     refine wlgs (c := true) rfl rfl rfl hF (fun a hF => ?_)
     refine wl (d_pick (b := true) rfl rfl) rfl hF (fun a hF => ?_)
     refine wl (d_move rfl) rfl hF (fun a hF => ?_)
     refine wlgs (c := true) rfl rfl rfl hF (fun a hF => ?_)
     refine wlgs (c := true) rfl rfl rfl hF (fun a hF => ?_)
     refine wlgs (c := true) rfl rfl rfl hF (fun a hF => ?_)
     refine wlgs (c := true) rfl rfl rfl hF (fun a hF => ?_)
     refine wlgs (c := true) rfl rfl rfl hF (fun a hF => ?_)
     refine wl (d_pick (b := true) rfl rfl) rfl hF (fun a hF => ?_)
     refine wl_nil ?_
     refine then_n ?_
     refine wp_cond_true (hF.eval rfl) ?_
     refine wp_seq ?_
     refine wp_region_lit ?_
     refine wl (d_assign rfl) rfl hF (fun a hF => ?_)
     refine wl_nil ?_
     refine then_n ?_
     refine wp_ret ?_
     refine then_ret ?_
     refine body_ret hF (results1 Tryd.results78 (RV.tmp hF rfl)) ?_
     first | exact ⟨by rw [shaped_no1 (by omega)], hM.below⟩ | exact ⟨by rw [shaped_no2 j g (by omega)], hM.below⟩ | exact ⟨by rw [shaped_no3 f], hM.below⟩ | exact ⟨by rw [shaped_yes (by omega) j g (by omega) l], hM.below⟩
    ·have e : decide (100 ≤ (d : Int)) = false := decide_eq_false hdd
     rw [e] at hF
     refine wlg rfl (d_fieldAddrQ Tryd.underlying26 (m := 0) sz24 rfl rfl rfl) rfl hF (fun a hF => ?_)
     refine wlg rfl (d_load1 Tryd.underlying24 rfl rfl (hM.cell 0 rfl rfl)) rfl hF (fun a hF => ?_)
     refine wlg rfl (d_len_slice Tryd.underlying24 rfl) rfl hF (fun a hF => ?_)
     refine wlg rfl (d_move rfl) rfl hF (fun a hF => ?_)
     refine wlg rfl (d_lss rfl rfl) rfl hF (fun a hF => ?_)
     refine wl (d_pick (b := false) rfl rfl) rfl hF (fun a hF => ?_)
     refine wl (d_move rfl) rfl hF (fun a hF => ?_)
     by_cases hlow : (ks.length : Int) < 0
     ·have e : decide ((ks.length : Int) < 0) = true := decide_eq_true hlow
      rw [e] at hF
      refine wlgs (c := true) rfl rfl rfl hF (fun a hF => ?_)
      refine wlgs (c := true) rfl rfl rfl hF (fun a hF => ?_)
      refine wlgs (c := true) rfl rfl rfl hF (fun a hF => ?_)
      refine wlgs (c := true) rfl rfl rfl hF (fun a hF => ?_)
      refine wlgs (c := true) rfl rfl rfl hF (fun a hF => ?_)
      refine wl (d_pick (b := true) rfl rfl) rfl hF (fun a hF => ?_)
      refine wl_nil ?_
      refine then_n ?_
      refine wp_cond_true (hF.eval rfl) ?_
      refine wp_seq ?_
      refine wp_region_lit ?_
      refine wl (d_assign rfl) rfl hF (fun a hF => ?_)
      refine wl_nil ?_
      refine then_n ?_
      refine wp_ret ?_
      refine then_ret ?_
      refine body_ret hF (results1 Tryd.results78 (RV.tmp hF rfl)) ?_
      first | exact ⟨by rw [shaped_no1 (by omega)], hM.below⟩ | exact ⟨by rw [shaped_no2 j g (by omega)], hM.below⟩ | exact ⟨by rw [shaped_no3 f], hM.below⟩ | exact ⟨by rw [shaped_yes (by omega) j g (by omega) l], hM.below⟩
     ·have e : decide ((ks.length : Int) < 0) = false := decide_eq_false hlow
      rw [e] at hF
      refine wlg rfl (d_fieldAddrQ Tryd.underlying26 (m := 0) sz24 rfl rfl rfl) rfl hF (fun a hF => ?_)
      refine wlg rfl (d_load1 Tryd.underlying24 rfl rfl (hM.cell 0 rfl rfl)) rfl hF (fun a hF => ?_)
      refine wlg rfl (d_len_slice Tryd.underlying24 rfl) rfl hF (fun a hF => ?_)
      refine wlg rfl (d_move rfl) rfl hF (fun a hF => ?_)
      refine wlg rfl (d_gtr rfl rfl) rfl hF (fun a hF => ?_)
      refine wl (d_pick (b := false) rfl rfl) rfl hF (fun a hF => ?_)
      refine wl_nil ?_
      refine then_n ?_
      refine wp_if hF rfl (fun h => ?_) (fun h => ?_)
      ·have p := of_decide_eq_true h
       clear h
       refine wp_seq ?_
       refine wp_region_lit ?_
       refine wl (d_assign rfl) rfl hF (fun a hF => ?_)
       refine wl_nil ?_
       refine then_n ?_
       refine wp_ret ?_
       refine then_ret ?_
       refine body_ret hF (results1 Tryd.results78 (RV.tmp hF rfl)) ?_
       first | exact ⟨by rw [shaped_no1 (by omega)], hM.below⟩ | exact ⟨by rw [shaped_no2 j g (by omega)], hM.below⟩ | exact ⟨by rw [shaped_no3 f], hM.below⟩ | exact ⟨by rw [shaped_yes (by omega) j g (by omega) l], hM.below⟩
      ·have p := of_decide_eq_false h
       clear h
       refine wp_skip ?_
       refine then_n ?_
       refine wp_seq ?_
       refine wp_seq ?_
       refine wp_region_lit ?_
       refine wl (d_fieldAddrQ Tryd.underlying26 (m := 0) sz24 rfl rfl rfl) rfl hF (fun a hF => ?_)
       refine wl (d_load1 Tryd.underlying24 rfl rfl (hM.cell 0 rfl rfl)) rfl hF (fun a hF => ?_)
       refine wl (d_len_slice Tryd.underlying24 rfl) rfl hF (fun a hF => ?_)
       refine wl (d_move rfl) rfl hF (fun a hF => ?_)
       refine wl_nil ?_
       refine then_n ?_
       refine wp_block ?_
       refine wp_loop_k (fun D a w => ∃ (i : Nat), D = ks.length - i ∧ (i ≤ ks.length) ∧ (shapedL (ks.drop i) (d + 1) = shapedL ks (d + 1)) ∧ Frm a 62 [(1, (vI (d : Int))), (2, (vp b1)), (50, (Value.slice ad ks.length cap)), (51, (vI (ks.length : Int))), (52, (vI (i : Int)))] ∧ Mem w0 w [(b1, #[(vI k), (vI nm), (Value.slice ad ks.length cap)], 26)]) _ ⟨0, rfl, (by omega), rfl, hF.sub ⟨rfl, rfl, rfl, rfl, rfl, trivial⟩, ?_⟩ ?_
       ·exact hM
       rintro _ a w ⟨i, rfl, hl1_0, hl1_1, hF, hM⟩
       have I := hl1_0
       have q := hl1_1
       refine wp_seq ?_
       refine wp_region_lit ?_
       refine wl (d_lss rfl rfl) rfl hF (fun a hF => ?_)
       refine wl_nil ?_
       refine then_n ?_
       refine wp_seq ?_
       refine wp_if hF rfl (fun h => ?_) (fun h => ?_)
       ·have B := of_decide_eq_true h
        clear h
        obtain ⟨b0, o0, C, H, y⟩ := hsl (by omega)
        obtain ⟨t1, hi⟩ : ∃ t, ks[i]? = some t := ⟨_, List.getElem?_eq_getElem (by omega)⟩
        have A : t1 ∈ ks := List.mem_of_getElem? hi
        obtain ⟨a1, r, z⟩ := hks.at y i t1 hi
        obtain ⟨k1, s, u, l1, n, rfl⟩ := r.form
        refine wp_skip ?_
        refine then_n ?_
        refine wp_seq ?_
        refine wp_block ?_
        refine wp_seq ?_
        refine wp_region_lit ?_
        refine wl (d_ixSm (b := b0) (o := o0) Tryd.underlying24 sz26 (by rw [← C]; rfl) rfl rfl (by omega)) rfl hF (fun a hF => ?_)
        refine wl (d_loadC Tryd.underlying26 rfl sz26 rfl (z.mv (Gr.ch hM.below) (by simp)) rfl) rfl hF (fun a hF => ?_)
        refine wlR (ok_alloc z26) rfl hF ?_
        rintro _ w a ⟨b2, rfl, hnb_⟩ hF
        have hM : Mem w0 w [(b1, #[(vI k), (vI nm), (Value.slice ad ks.length cap)], 26), (b2, #[(vI 0), (vI 0), vN], 26)] := hM.alloc hnb_
        refine wl0R (ok_storeA (c' := #[(vI k1), (vI s), (Value.slice u l1 n)]) sz26 rfl rfl rfl (fun v hv => by simp at hv; rcases hv with rfl | rfl | rfl <;> rfl) (hM.at 1 rfl) rfl) hF ?_
        rintro w a hu hF
        have hM : Mem w0 w [(b1, #[(vI k), (vI nm), (Value.slice ad ks.length cap)], 26), (b2, #[(vI k1), (vI s), (Value.slice u l1 n)], 26)] := hM.upd 1 rfl hu
        refine wl_nil ?_
        refine then_n ?_
        refine wp_seq ?_
        refine wp_region_lit ?_
        refine wl (d_loadA Tryd.underlying26 rfl sz26 rfl (hM.at 1 rfl) rfl) rfl hF (fun a hF => ?_)
        refine wl (d_move rfl) rfl hF (fun a hF => ?_)
        refine wl (d_add rfl rfl (wrap_i64 (by omega) (by omega))) rfl hF (fun a hF => ?_)
        refine wlR (ok_call c78 rfl (ih t1 A X _ (d + 1) _ (IsT.mv (Gr.ch hM.below) (by simp) (fun x hx => .inl hx) t1 _ r) (by omega))) rfl hF ?_
        rintro _ w a ⟨rfl, hg⟩ hF
        have hM := hM.call hg
        refine wl (d_not rfl) rfl hF (fun a hF => ?_)
        refine wl_nil ?_
        refine then_n ?_
        refine wp_if hF rfl (fun h => ?_) (fun h => ?_)
        ·have hs := h
         clear h
         have f : shapedL ks (d + 1) = false := by rw [← q, shapedL_drop hi]; simp at hs; simp [hs]
         refine wp_seq ?_
         refine wp_region_lit ?_
         refine wl (d_assign rfl) rfl hF (fun a hF => ?_)
         refine wl_nil ?_
         refine then_n ?_
         refine wp_ret ?_
         refine block_ret ?_
         refine then_ret ?_
         refine then_ret ?_
         refine block_ret ?_
         refine then_ret ?_
         refine body_ret hF (results1 Tryd.results78 (RV.tmp hF rfl)) ?_
         first | exact ⟨by rw [shaped_no1 (by omega)], hM.below⟩ | exact ⟨by rw [shaped_no2 j g (by omega)], hM.below⟩ | exact ⟨by rw [shaped_no3 f], hM.below⟩ | exact ⟨by rw [shaped_yes (by omega) j g (by omega) l], hM.below⟩
        ·have hs := h
         clear h
         have hs : shaped t1 (d + 1) = true := by simpa using hs
         refine wp_skip ?_
         refine block_n ?_
         refine then_n ?_
         refine wp_region_lit ?_
         refine wl (d_add rfl rfl (wrap_i64 (by omega) (by omega))) rfl hF (fun a hF => ?_)
         refine wl (d_move rfl) rfl hF (fun a hF => ?_)
         refine wl_nil ?_
         refine then_n ?_
         refine ⟨_, ?_, i + 1, rfl, (by omega), (by rw [← q, shapedL_drop hi, hs, Bool.true_and]), hF.sub ⟨rfl, rfl, rfl, rfl, rfl, trivial⟩, ?_⟩
         ·omega
         exact hM.sub (by simp)
       ·have B := of_decide_eq_false h
        clear h
        have hi : i = ks.length := by omega
        have l : shapedL ks (d + 1) = true := by rw [← q, hi, List.drop_length]; rfl
        refine wp_exit ?_
        refine then_exit ?_
        refine then_exit ?_
        refine block_exit ?_
        refine then_n ?_
        refine wp_seq ?_
        refine wp_region_lit ?_
        refine wl (d_assign rfl) rfl hF (fun a hF => ?_)
        refine wl_nil ?_
        refine then_n ?_
        refine wp_ret ?_
        refine body_ret hF (results1 Tryd.results78 (RV.tmp hF rfl)) ?_
        first | exact ⟨by rw [shaped_no1 (by omega)], hM.below⟩ | exact ⟨by rw [shaped_no2 j g (by omega)], hM.below⟩ | exact ⟨by rw [shaped_no3 f], hM.below⟩ | exact ⟨by rw [shaped_yes (by omega) j g (by omega) l], hM.below⟩
 ·have E := of_decide_eq_false h
  clear h
  refine wp_seq ?_
  refine wp_region_lit ?_
  refine wl (d_eql rfl rfl) rfl hF (fun a hF => ?_)
  refine wl (d_assign rfl) rfl hF (fun a hF => ?_)
  refine wl_nil ?_
  refine then_n ?_
  refine wp_if hF rfl (fun h => ?_) (fun h => ?_)
  ·have F := of_decide_eq_true h
   clear h
   have j : low k = 1 := (by simp [low, high, F])
   have g : high k = 1 := (by simp [low, high, F])
   refine wp_region_lit ?_
   refine wl (d_assign rfl) rfl hF (fun a hF => ?_)
   refine wl (d_assign rfl) rfl hF (fun a hF => ?_)
   refine wl_nil ?_
   refine block_n ?_
   refine then_n ?_
   refine wp_seq ?_
   refine wp_seq ?_
   refine wp_region_lit ?_
   refine wl (d_move rfl) rfl hF (fun a hF => ?_)
   refine wl (d_geq rfl rfl) rfl hF (fun a hF => ?_)
   refine wl (d_move rfl) rfl hF (fun a hF => ?_)
   by_cases hdd : 100 ≤ (d : Int)
   ·have e : decide (100 ≤ (d : Int)) = true := decide_eq_true hdd
    rw [e] at hF
    refine wlgs (c := true) rfl rfl rfl hF (fun a hF => ?_)
    refine wlgs (c := true) rfl rfl rfl hF (fun a hF => ?_)
    refine wlgs (c := true) rfl rfl rfl hF (fun a hF => ?_)
    refine wlgs (c := true) rfl rfl rfl hF (fun a hF => ?_)
    refine wlgs (c := true) rfl rfl rfl hF (fun a hF => ?_)
    refine wl (d_pick (b := true) rfl rfl) rfl hF (fun a hF => ?_)
    refine wl (d_move rfl) rfl hF (fun a hF => ?_)
    refine wlgs (c := true) rfl rfl rfl hF (fun a hF => ?_)
    refine wlgs (c := true) rfl rfl rfl hF (fun a hF => ?_)
    refine wlgs (c := true) rfl rfl rfl hF (fun a hF => ?_)
    refine wlgs (c := true) rfl rfl rfl hF (fun a hF => ?_)
    refine wlgs (c := true) rfl rfl rfl hF (fun a hF => ?_)
    refine wl (d_pick (b := true) rfl rfl) rfl hF (fun a hF => ?_)
    refine wl_nil ?_
    refine then_n ?_
    refine wp_cond_true (hF.eval rfl) ?_
    refine wp_seq ?_
    refine wp_region_lit ?_
    refine wl (d_assign rfl) rfl hF (fun a hF => ?_)
    refine wl_nil ?_
    refine then_n ?_
    refine wp_ret ?_
    refine then_ret ?_
    refine body_ret hF (results1 Tryd.results78 (RV.tmp hF rfl)) ?_
    first | exact ⟨by rw [shaped_no1 (by omega)], hM.below⟩ | exact ⟨by rw [shaped_no2 j g (by omega)], hM.below⟩ | exact ⟨by rw [shaped_no3 f], hM.below⟩ | exact ⟨by rw [shaped_yes (by omega) j g (by omega) l], hM.below⟩
   ·have e : decide (100 ≤ (d : Int)) = false := decide_eq_false hdd
    rw [e] at hF
    refine wlg rfl (d_fieldAddrQ Tryd.underlying26 (m := 0) sz24 rfl rfl rfl) rfl hF (fun a hF => ?_)
    refine wlg rfl (d_load1 Tryd.underlying24 rfl rfl (hM.cell 0 rfl rfl)) rfl hF (fun a hF => ?_)
    refine wlg rfl (d_len_slice Tryd.underlying24 rfl) rfl hF (fun a hF => ?_)
    refine wlg rfl (d_move rfl) rfl hF (fun a hF => ?_)
    refine wlg rfl (d_lss rfl rfl) rfl hF (fun a hF => ?_)
    refine wl (d_pick (b := false) rfl rfl) rfl hF (fun a hF => ?_)
    refine wl (d_move rfl) rfl hF (fun a hF => ?_)
    by_cases hlow : (ks.length : Int) < 1
    ·have e : decide ((ks.length : Int) < 1) = true := decide_eq_true hlow
     rw [e] at hF
     refine wlgs (c := true) rfl rfl rfl hF (fun a hF => ?_)
     refine wlgs (c := true) rfl rfl rfl hF (fun a hF => ?_)
     refine wlgs (c := true) rfl rfl rfl hF (fun a hF => ?_)
     refine wlgs (c := true) rfl rfl rfl hF (fun a hF => ?_)
     refine wlgs (c := true) rfl rfl rfl hF (fun a hF => ?_)
     refine wl (d_pick (b := true) rfl rfl) rfl hF (fun a hF => ?_)
     refine wl_nil ?_
     refine then_n ?_
     refine wp_cond_true (hF.eval rfl) ?_
     refine wp_seq ?_
     refine wp_region_lit ?_
     refine wl (d_assign rfl) rfl hF (fun a hF => ?_)
     refine wl_nil ?_
     refine then_n ?_
     refine wp_ret ?_
     refine then_ret ?_
     refine body_ret hF (results1 Tryd.results78 (RV.tmp hF rfl)) ?_
     first | exact ⟨by rw [shaped_no1 (by omega)], hM.below⟩ | exact ⟨by rw [shaped_no2 j g (by omega)], hM.below⟩ | exact ⟨by rw [shaped_no3 f], hM.below⟩ | exact ⟨by rw [shaped_yes (by omega) j g (by omega) l], hM.below⟩
    ·have e : decide ((ks.length : Int) < 1) = false := decide_eq_false hlow
     rw [e] at hF
     refine wlg rfl (d_fieldAddrQ Tryd.underlying26 (m := 0) sz24 rfl rfl rfl) rfl hF (fun a hF => ?_)
     refine wlg rfl (d_load1 Tryd.underlying24 rfl rfl (hM.cell 0 rfl rfl)) rfl hF (fun a hF => ?_)
     refine wlg rfl (d_len_slice Tryd.underlying24 rfl) rfl hF (fun a hF => ?_)
     refine wlg rfl (d_move rfl) rfl hF (fun a hF => ?_)
     refine wlg rfl (d_gtr rfl rfl) rfl hF (fun a hF => ?_)
     refine wl (d_pick (b := false) rfl rfl) rfl hF (fun a hF => ?_)
     refine wl_nil ?_
     refine then_n ?_
     refine wp_if hF rfl (fun h => ?_) (fun h => ?_)
     ·have p := of_decide_eq_true h
      clear h
      refine wp_seq ?_
      refine wp_region_lit ?_
      refine wl (d_assign rfl) rfl hF (fun a hF => ?_)
      refine wl_nil ?_
      refine then_n ?_
      refine wp_ret ?_
      refine then_ret ?_
      refine body_ret hF (results1 Tryd.results78 (RV.tmp hF rfl)) ?_
      first | exact ⟨by rw [shaped_no1 (by omega)], hM.below⟩ | exact ⟨by rw [shaped_no2 j g (by omega)], hM.below⟩ | exact ⟨by rw [shaped_no3 f], hM.below⟩ | exact ⟨by rw [shaped_yes (by omega) j g (by omega) l], hM.below⟩
     ·have p := of_decide_eq_false h
      clear h
      refine wp_skip ?_
      refine then_n ?_
      refine wp_seq ?_
      refine wp_seq ?_
      refine wp_region_lit ?_
      refine wl (d_fieldAddrQ Tryd.underlying26 (m := 0) sz24 rfl rfl rfl) rfl hF (fun a hF => ?_)
      refine wl (d_load1 Tryd.underlying24 rfl rfl (hM.cell 0 rfl rfl)) rfl hF (fun a hF => ?_)
      refine wl (d_len_slice Tryd.underlying24 rfl) rfl hF (fun a hF => ?_)
      refine wl (d_move rfl) rfl hF (fun a hF => ?_)
      refine wl_nil ?_
      refine then_n ?_
      refine wp_block ?_
      refine wp_loop_k (fun D a w => ∃ (i : Nat), D = ks.length - i ∧ (i ≤ ks.length) ∧ (shapedL (ks.drop i) (d + 1) = shapedL ks (d + 1)) ∧ Frm a 62 [(1, (vI (d : Int))), (2, (vp b1)), (50, (Value.slice ad ks.length cap)), (51, (vI (ks.length : Int))), (52, (vI (i : Int)))] ∧ Mem w0 w [(b1, #[(vI k), (vI nm), (Value.slice ad ks.length cap)], 26)]) _ ⟨0, rfl, (by omega), rfl, hF.sub ⟨rfl, rfl, rfl, rfl, rfl, trivial⟩, ?_⟩ ?_
      ·exact hM
      rintro _ a w ⟨i, rfl, hl2_0, hl2_1, hF, hM⟩
      have I := hl2_0
      have q := hl2_1
      refine wp_seq ?_
      refine wp_region_lit ?_
      refine wl (d_lss rfl rfl) rfl hF (fun a hF => ?_)
      refine wl_nil ?_
      refine then_n ?_
      refine wp_seq ?_
      refine wp_if hF rfl (fun h => ?_) (fun h => ?_)
      ·have B := of_decide_eq_true h
       clear h
       obtain ⟨b0, o0, C, H, y⟩ := hsl (by omega)
       obtain ⟨t1, hi⟩ : ∃ t, ks[i]? = some t := ⟨_, List.getElem?_eq_getElem (by omega)⟩
       have A : t1 ∈ ks := List.mem_of_getElem? hi
       obtain ⟨a1, r, z⟩ := hks.at y i t1 hi
       obtain ⟨k1, s, u, l1, n, rfl⟩ := r.form
       refine wp_skip ?_
       refine then_n ?_
       refine wp_seq ?_
       refine wp_block ?_
       refine wp_seq ?_
       refine wp_region_lit ?_
       refine wl (d_ixSm (b := b0) (o := o0) Tryd.underlying24 sz26 (by rw [← C]; rfl) rfl rfl (by omega)) rfl hF (fun a hF => ?_)
       refine wl (d_loadC Tryd.underlying26 rfl sz26 rfl (z.mv (Gr.ch hM.below) (by simp)) rfl) rfl hF (fun a hF => ?_)
       refine wlR (ok_alloc z26) rfl hF ?_
       rintro _ w a ⟨b3, rfl, hnb_⟩ hF
       have hM : Mem w0 w [(b1, #[(vI k), (vI nm), (Value.slice ad ks.length cap)], 26), (b3, #[(vI 0), (vI 0), vN], 26)] := hM.alloc hnb_
       refine wl0R (ok_storeA (c' := #[(vI k1), (vI s), (Value.slice u l1 n)]) sz26 rfl rfl rfl (fun v hv => by simp at hv; rcases hv with rfl | rfl | rfl <;> rfl) (hM.at 1 rfl) rfl) hF ?_
       rintro w a hu hF
       have hM : Mem w0 w [(b1, #[(vI k), (vI nm), (Value.slice ad ks.length cap)], 26), (b3, #[(vI k1), (vI s), (Value.slice u l1 n)], 26)] := hM.upd 1 rfl hu
       refine wl_nil ?_
       refine then_n ?_
       refine wp_seq ?_
       refine wp_region_lit ?_
       refine wl (d_loadA Tryd.underlying26 rfl sz26 rfl (hM.at 1 rfl) rfl) rfl hF (fun a hF => ?_)
       refine wl (d_move rfl) rfl hF (fun a hF => ?_)
       refine wl (d_add rfl rfl (wrap_i64 (by omega) (by omega))) rfl hF (fun a hF => ?_)
       refine wlR (ok_call c78 rfl (ih t1 A X _ (d + 1) _ (IsT.mv (Gr.ch hM.below) (by simp) (fun x hx => .inl hx) t1 _ r) (by omega))) rfl hF ?_
       rintro _ w a ⟨rfl, hg⟩ hF
       have hM := hM.call hg
       refine wl (d_not rfl) rfl hF (fun a hF => ?_)
       refine wl_nil ?_
       refine then_n ?_
       refine wp_if hF rfl (fun h => ?_) (fun h => ?_)
       ·have hs := h
        clear h
        have f : shapedL ks (d + 1) = false := by rw [← q, shapedL_drop hi]; simp at hs; simp [hs]
        refine wp_seq ?_
        refine wp_region_lit ?_
        refine wl (d_assign rfl) rfl hF (fun a hF => ?_)
        refine wl_nil ?_
        refine then_n ?_
        refine wp_ret ?_
        refine block_ret ?_
        refine then_ret ?_
        refine then_ret ?_
        refine block_ret ?_
        refine then_ret ?_
        refine body_ret hF (results1 Tryd.results78 (RV.tmp hF rfl)) ?_
        first | exact ⟨by rw [shaped_no1 (by omega)], hM.below⟩ | exact ⟨by rw [shaped_no2 j g (by omega)], hM.below⟩ | exact ⟨by rw [shaped_no3 f], hM.below⟩ | exact ⟨by rw [shaped_yes (by omega) j g (by omega) l], hM.below⟩
       ·have hs := h
        clear h
        have hs : shaped t1 (d + 1) = true := by simpa using hs
        refine wp_skip ?_
        refine block_n ?_
        refine then_n ?_
        refine wp_region_lit ?_
        refine wl (d_add rfl rfl (wrap_i64 (by omega) (by omega))) rfl hF (fun a hF => ?_)
        refine wl (d_move rfl) rfl hF (fun a hF => ?_)
        refine wl_nil ?_
        refine then_n ?_
        refine ⟨_, ?_, i + 1, rfl, (by omega), (by rw [← q, shapedL_drop hi, hs, Bool.true_and]), hF.sub ⟨rfl, rfl, rfl, rfl, rfl, trivial⟩, ?_⟩
        ·omega
        exact hM.sub (by simp)
      ·have B := of_decide_eq_false h
       clear h
       have hi : i = ks.length := by omega
       have l : shapedL ks (d + 1) = true := by rw [← q, hi, List.drop_length]; rfl
       refine wp_exit ?_
       refine then_exit ?_
       refine then_exit ?_
       refine block_exit ?_
       refine then_n ?_
       refine wp_seq ?_
       refine wp_region_lit ?_
       refine wl (d_assign rfl) rfl hF (fun a hF => ?_)
       refine wl_nil ?_
       refine then_n ?_
       refine wp_ret ?_
       refine body_ret hF (results1 Tryd.results78 (RV.tmp hF rfl)) ?_
       first | exact ⟨by rw [shaped_no1 (by omega)], hM.below⟩ | exact ⟨by rw [shaped_no2 j g (by omega)], hM.below⟩ | exact ⟨by rw [shaped_no3 f], hM.below⟩ | exact ⟨by rw [shaped_yes (by omega) j g (by omega) l], hM.below⟩
  ·have F := of_decide_eq_false h
   clear h
   refine wp_seq ?_
   refine wp_region_lit ?_
   refine wl (d_eql rfl rfl) rfl hF (fun a hF => ?_)
   refine wl (d_assign rfl) rfl hF (fun a hF => ?_)
   refine wl_nil ?_
   refine then_n ?_
   refine wp_if hF rfl (fun h => ?_) (fun h => ?_)
   ·have G := of_decide_eq_true h
    clear h
    have j : low k = 1 := (by simp [low, high, G])
    have g : high k = 8 := (by simp [low, high, G])
    refine wp_region_lit ?_
    refine wl (d_assign rfl) rfl hF (fun a hF => ?_)
    refine wl (d_assign rfl) rfl hF (fun a hF => ?_)
    refine wl_nil ?_
    refine block_n ?_
    refine then_n ?_
    refine wp_seq ?_
    refine wp_seq ?_
    refine wp_region_lit ?_
    refine wl (d_move rfl) rfl hF (fun a hF => ?_)
    refine wl (d_geq rfl rfl) rfl hF (fun a hF => ?_)
    refine wl (d_move rfl) rfl hF (fun a hF => ?_)
    by_cases hdd : 100 ≤ (d : Int)
    ·have e : decide (100 ≤ (d : Int)) = true := decide_eq_true hdd
     rw [e] at hF
     refine wlgs (c := true) rfl rfl rfl hF (fun a hF => ?_)
     refine wlgs (c := true) rfl rfl rfl hF (fun a hF => ?_)
     refine wlgs (c := true) rfl rfl rfl hF (fun a hF => ?_)
     refine wlgs (c := true) rfl rfl rfl hF (fun a hF => ?_)
     refine wlgs (c := true) rfl rfl rfl hF (fun a hF => ?_)
     refine wl (d_pick (b := true) rfl rfl) rfl hF (fun a hF => ?_)
     refine wl (d_move rfl) rfl hF (fun a hF => ?_)
     refine wlgs (c := true) rfl rfl rfl hF (fun a hF => ?_)
     refine wlgs (c := true) rfl rfl rfl hF (fun a hF => ?_)
     refine wlgs (c := true) rfl rfl rfl hF (fun a hF => ?_)
     refine wlgs (c := true) rfl rfl rfl hF (fun a hF => ?_)
     refine wlgs (c := true) rfl rfl rfl hF (fun a hF => ?_)
     refine wl (d_pick (b := true) rfl rfl) rfl hF (fun a hF => ?_)
     refine wl_nil ?_
     refine then_n ?_
     refine wp_cond_true (hF.eval rfl) ?_
     refine wp_seq ?_
     refine wp_region_lit ?_
     refine wl (d_assign rfl) rfl hF (fun a hF => ?_)
     refine wl_nil ?_
     refine then_n ?_
     refine wp_ret ?_
     refine then_ret ?_
     refine body_ret hF (results1 Tryd.results78 (RV.tmp hF rfl)) ?_
     first | exact ⟨by rw [shaped_no1 (by omega)], hM.below⟩ | exact ⟨by rw [shaped_no2 j g (by omega)], hM.below⟩ | exact ⟨by rw [shaped_no3 f], hM.below⟩ | exact ⟨by rw [shaped_yes (by omega) j g (by omega) l], hM.below⟩
    ·have e : decide (100 ≤ (d : Int)) = false := decide_eq_false hdd
     rw [e] at hF
     refine wlg rfl (d_fieldAddrQ Tryd.underlying26 (m := 0) sz24 rfl rfl rfl) rfl hF (fun a hF => ?_)
     refine wlg rfl (d_load1 Tryd.underlying24 rfl rfl (hM.cell 0 rfl rfl)) rfl hF (fun a hF => ?_)
     refine wlg rfl (d_len_slice Tryd.underlying24 rfl) rfl hF (fun a hF => ?_)
     refine wlg rfl (d_move rfl) rfl hF (fun a hF => ?_)
     refine wlg rfl (d_lss rfl rfl) rfl hF (fun a hF => ?_)
     refine wl (d_pick (b := false) rfl rfl) rfl hF (fun a hF => ?_)
     refine wl (d_move rfl) rfl hF (fun a hF => ?_)
     by_cases hlow : (ks.length : Int) < 1
     ·have e : decide ((ks.length : Int) < 1) = true := decide_eq_true hlow
      rw [e] at hF
      refine wlgs (c := true) rfl rfl rfl hF (fun a hF => ?_)
      refine wlgs (c := true) rfl rfl rfl hF (fun a hF => ?_)
      refine wlgs (c := true) rfl rfl rfl hF (fun a hF => ?_)
      refine wlgs (c := true) rfl rfl rfl hF (fun a hF => ?_)
      refine wlgs (c := true) rfl rfl rfl hF (fun a hF => ?_)
      refine wl (d_pick (b := true) rfl rfl) rfl hF (fun a hF => ?_)
      refine wl_nil ?_
      refine then_n ?_
      refine wp_cond_true (hF.eval rfl) ?_
      refine wp_seq ?_
      refine wp_region_lit ?_
      refine wl (d_assign rfl) rfl hF (fun a hF => ?_)
      refine wl_nil ?_
      refine then_n ?_
      refine wp_ret ?_
      refine then_ret ?_
      refine body_ret hF (results1 Tryd.results78 (RV.tmp hF rfl)) ?_
      first | exact ⟨by rw [shaped_no1 (by omega)], hM.below⟩ | exact ⟨by rw [shaped_no2 j g (by omega)], hM.below⟩ | exact ⟨by rw [shaped_no3 f], hM.below⟩ | exact ⟨by rw [shaped_yes (by omega) j g (by omega) l], hM.below⟩
     ·have e : decide ((ks.length : Int) < 1) = false := decide_eq_false hlow
      rw [e] at hF
      refine wlg rfl (d_fieldAddrQ Tryd.underlying26 (m := 0) sz24 rfl rfl rfl) rfl hF (fun a hF => ?_)
      refine wlg rfl (d_load1 Tryd.underlying24 rfl rfl (hM.cell 0 rfl rfl)) rfl hF (fun a hF => ?_)
      refine wlg rfl (d_len_slice Tryd.underlying24 rfl) rfl hF (fun a hF => ?_)
      refine wlg rfl (d_move rfl) rfl hF (fun a hF => ?_)
      refine wlg rfl (d_gtr rfl rfl) rfl hF (fun a hF => ?_)
      refine wl (d_pick (b := false) rfl rfl) rfl hF (fun a hF => ?_)
      refine wl_nil ?_
      refine then_n ?_
      refine wp_if hF rfl (fun h => ?_) (fun h => ?_)
      ·have p := of_decide_eq_true h
       clear h
       refine wp_seq ?_
       refine wp_region_lit ?_
       refine wl (d_assign rfl) rfl hF (fun a hF => ?_)
       refine wl_nil ?_
       refine then_n ?_
       refine wp_ret ?_
       refine then_ret ?_
       refine body_ret hF (results1 Tryd.results78 (RV.tmp hF rfl)) ?_
       first | exact ⟨by rw [shaped_no1 (by omega)], hM.below⟩ | exact ⟨by rw [shaped_no2 j g (by omega)], hM.below⟩ | exact ⟨by rw [shaped_no3 f], hM.below⟩ | exact ⟨by rw [shaped_yes (by omega) j g (by omega) l], hM.below⟩
      ·have p := of_decide_eq_false h
       clear h
       refine wp_skip ?_
       refine then_n ?_
       refine wp_seq ?_
       refine wp_seq ?_
       refine wp_region_lit ?_
       refine wl (d_fieldAddrQ Tryd.underlying26 (m := 0) sz24 rfl rfl rfl) rfl hF (fun a hF => ?_)
       refine wl (d_load1 Tryd.underlying24 rfl rfl (hM.cell 0 rfl rfl)) rfl hF (fun a hF => ?_)
       refine wl (d_len_slice Tryd.underlying24 rfl) rfl hF (fun a hF => ?_)
       refine wl (d_move rfl) rfl hF (fun a hF => ?_)
       refine wl_nil ?_
       refine then_n ?_
       refine wp_block ?_
       refine wp_loop_k (fun D a w => ∃ (i : Nat), D = ks.length - i ∧ (i ≤ ks.length) ∧ (shapedL (ks.drop i) (d + 1) = shapedL ks (d + 1)) ∧ Frm a 62 [(1, (vI (d : Int))), (2, (vp b1)), (50, (Value.slice ad ks.length cap)), (51, (vI (ks.length : Int))), (52, (vI (i : Int)))] ∧ Mem w0 w [(b1, #[(vI k), (vI nm), (Value.slice ad ks.length cap)], 26)]) _ ⟨0, rfl, (by omega), rfl, hF.sub ⟨rfl, rfl, rfl, rfl, rfl, trivial⟩, ?_⟩ ?_
       ·exact hM
       rintro _ a w ⟨i, rfl, hl3_0, hl3_1, hF, hM⟩
       have I := hl3_0
       have q := hl3_1
       refine wp_seq ?_
       refine wp_region_lit ?_
       refine wl (d_lss rfl rfl) rfl hF (fun a hF => ?_)
       refine wl_nil ?_
       refine then_n ?_
       refine wp_seq ?_
       refine wp_if hF rfl (fun h => ?_) (fun h => ?_)
       ·have B := of_decide_eq_true h
        clear h
        obtain ⟨b0, o0, C, H, y⟩ := hsl (by omega)
        obtain ⟨t1, hi⟩ : ∃ t, ks[i]? = some t := ⟨_, List.getElem?_eq_getElem (by omega)⟩
        have A : t1 ∈ ks := List.mem_of_getElem? hi
        obtain ⟨a1, r, z⟩ := hks.at y i t1 hi
        obtain ⟨k1, s, u, l1, n, rfl⟩ := r.form
        refine wp_skip ?_
        refine then_n ?_
        refine wp_seq ?_
        refine wp_block ?_
        refine wp_seq ?_
        refine wp_region_lit ?_
        refine wl (d_ixSm (b := b0) (o := o0) Tryd.underlying24 sz26 (by rw [← C]; rfl) rfl rfl (by omega)) rfl hF (fun a hF => ?_)
        refine wl (d_loadC Tryd.underlying26 rfl sz26 rfl (z.mv (Gr.ch hM.below) (by simp)) rfl) rfl hF (fun a hF => ?_)
        refine wlR (ok_alloc z26) rfl hF ?_
        rintro _ w a ⟨b4, rfl, hnb_⟩ hF
        have hM : Mem w0 w [(b1, #[(vI k), (vI nm), (Value.slice ad ks.length cap)], 26), (b4, #[(vI 0), (vI 0), vN], 26)] := hM.alloc hnb_
        refine wl0R (ok_storeA (c' := #[(vI k1), (vI s), (Value.slice u l1 n)]) sz26 rfl rfl rfl (fun v hv => by simp at hv; rcases hv with rfl | rfl | rfl <;> rfl) (hM.at 1 rfl) rfl) hF ?_
        rintro w a hu hF
        have hM : Mem w0 w [(b1, #[(vI k), (vI nm), (Value.slice ad ks.length cap)], 26), (b4, #[(vI k1), (vI s), (Value.slice u l1 n)], 26)] := hM.upd 1 rfl hu
        refine wl_nil ?_
        refine then_n ?_
        refine wp_seq ?_
        refine wp_region_lit ?_
        refine wl (d_loadA Tryd.underlying26 rfl sz26 rfl (hM.at 1 rfl) rfl) rfl hF (fun a hF => ?_)
        refine wl (d_move rfl) rfl hF (fun a hF => ?_)
        refine wl (d_add rfl rfl (wrap_i64 (by omega) (by omega))) rfl hF (fun a hF => ?_)
        refine wlR (ok_call c78 rfl (ih t1 A X _ (d + 1) _ (IsT.mv (Gr.ch hM.below) (by simp) (fun x hx => .inl hx) t1 _ r) (by omega))) rfl hF ?_
        rintro _ w a ⟨rfl, hg⟩ hF
        have hM := hM.call hg
        refine wl (d_not rfl) rfl hF (fun a hF => ?_)
        refine wl_nil ?_
        refine then_n ?_
        refine wp_if hF rfl (fun h => ?_) (fun h => ?_)
        ·have hs := h
         clear h
         have f : shapedL ks (d + 1) = false := by rw [← q, shapedL_drop hi]; simp at hs; simp [hs]
         refine wp_seq ?_
         refine wp_region_lit ?_
         refine wl (d_assign rfl) rfl hF (fun a hF => ?_)
         refine wl_nil ?_
         refine then_n ?_
         refine wp_ret ?_
         refine block_ret ?_
         refine then_ret ?_
         refine then_ret ?_
         refine block_ret ?_
         refine then_ret ?_
         refine body_ret hF (results1 Tryd.results78 (RV.tmp hF rfl)) ?_
         first | exact ⟨by rw [shaped_no1 (by omega)], hM.below⟩ | exact ⟨by rw [shaped_no2 j g (by omega)], hM.below⟩ | exact ⟨by rw [shaped_no3 f], hM.below⟩ | exact ⟨by rw [shaped_yes (by omega) j g (by omega) l], hM.below⟩
        ·have hs := h
         clear h
         have hs : shaped t1 (d + 1) = true := by simpa using hs
         refine wp_skip ?_
         refine block_n ?_
         refine then_n ?_
         refine wp_region_lit ?_
         refine wl (d_add rfl rfl (wrap_i64 (by omega) (by omega))) rfl hF (fun a hF => ?_)
         refine wl (d_move rfl) rfl hF (fun a hF => ?_)
         refine wl_nil ?_
         refine then_n ?_
         refine ⟨_, ?_, i + 1, rfl, (by omega), (by rw [← q, shapedL_drop hi, hs, Bool.true_and]), hF.sub ⟨rfl, rfl, rfl, rfl, rfl, trivial⟩, ?_⟩
         ·omega
         exact hM.sub (by simp)
       ·have B := of_decide_eq_false h
        clear h
        have hi : i = ks.length := by omega
        have l : shapedL ks (d + 1) = true := by rw [← q, hi, List.drop_length]; rfl
        refine wp_exit ?_
        refine then_exit ?_
        refine then_exit ?_
        refine block_exit ?_
        refine then_n ?_
        refine wp_seq ?_
        refine wp_region_lit ?_
        refine wl (d_assign rfl) rfl hF (fun a hF => ?_)
        refine wl_nil ?_
        refine then_n ?_
        refine wp_ret ?_
        refine body_ret hF (results1 Tryd.results78 (RV.tmp hF rfl)) ?_
        first | exact ⟨by rw [shaped_no1 (by omega)], hM.below⟩ | exact ⟨by rw [shaped_no2 j g (by omega)], hM.below⟩ | exact ⟨by rw [shaped_no3 f], hM.below⟩ | exact ⟨by rw [shaped_yes (by omega) j g (by omega) l], hM.below⟩
   ·have G := of_decide_eq_false h
    clear h
    refine wp_seq ?_
    refine wp_region_lit ?_
    refine wl (d_fieldAddrQ Tryd.underlying26 (m := 0) sz3 rfl rfl rfl) rfl hF (fun a hF => ?_)
    refine wl (d_load1 Tryd.underlying3 rfl rfl (hM.cell 0 rfl rfl)) rfl hF (fun a hF => ?_)
    refine wl (d_lss rfl rfl) rfl hF (fun a hF => ?_)
    refine wl (d_move rfl) rfl hF (fun a hF => ?_)
    by_cases hkl : k < 1
    ·have e : decide (k < 1) = true := decide_eq_true hkl
     rw [e] at hF
     refine wlgs (c := true) rfl rfl rfl hF (fun a hF => ?_)
     refine wlgs (c := true) rfl rfl rfl hF (fun a hF => ?_)
     refine wlgs (c := true) rfl rfl rfl hF (fun a hF => ?_)
     refine wl (d_pick (b := true) rfl rfl) rfl hF (fun a hF => ?_)
     refine wl_nil ?_
     refine then_n ?_
     refine wp_cond_true (hF.eval rfl) ?_
     refine wp_seq ?_
     refine wp_region_lit ?_
     refine wl (d_assign rfl) rfl hF (fun a hF => ?_)
     refine wl_nil ?_
     refine then_n ?_
     refine wp_ret ?_
     refine block_ret ?_
     refine then_ret ?_
     refine body_ret hF (results1 Tryd.results78 (RV.tmp hF rfl)) ?_
     first | exact ⟨by rw [shaped_no1 (by omega)], hM.below⟩ | exact ⟨by rw [shaped_no2 j g (by omega)], hM.below⟩ | exact ⟨by rw [shaped_no3 f], hM.below⟩ | exact ⟨by rw [shaped_yes (by omega) j g (by omega) l], hM.below⟩
    ·have e : decide (k < 1) = false := decide_eq_false hkl
     rw [e] at hF
     refine wlg rfl (d_fieldAddrQ Tryd.underlying26 (m := 0) sz3 rfl rfl rfl) rfl hF (fun a hF => ?_)
     refine wlg rfl (d_load1 Tryd.underlying3 rfl rfl (hM.cell 0 rfl rfl)) rfl hF (fun a hF => ?_)
     refine wlg rfl (d_gtr rfl rfl) rfl hF (fun a hF => ?_)
     refine wl (d_pick (b := false) rfl rfl) rfl hF (fun a hF => ?_)
     refine wl_nil ?_
     refine then_n ?_
     refine wp_if hF rfl (fun h => ?_) (fun h => ?_)
     ·have K := of_decide_eq_true h
      clear h
      refine wp_seq ?_
      refine wp_region_lit ?_
      refine wl (d_assign rfl) rfl hF (fun a hF => ?_)
      refine wl_nil ?_
      refine then_n ?_
      refine wp_ret ?_
      refine block_ret ?_
      refine then_ret ?_
      refine body_ret hF (results1 Tryd.results78 (RV.tmp hF rfl)) ?_
      first | exact ⟨by rw [shaped_no1 (by omega)], hM.below⟩ | exact ⟨by rw [shaped_no2 j g (by omega)], hM.below⟩ | exact ⟨by rw [shaped_no3 f], hM.below⟩ | exact ⟨by rw [shaped_yes (by omega) j g (by omega) l], hM.below⟩
     ·have K := of_decide_eq_false h
      clear h
      have j : low k = 2 := (by simp [low, high, E, F, G])
      have g : high k = 2 := (by simp [low, high, E, F, G])
      refine wp_skip ?_
      refine block_n ?_
      refine then_n ?_
      refine wp_seq ?_
      refine wp_seq ?_
      refine wp_region_lit ?_
      refine wl (d_move rfl) rfl hF (fun a hF => ?_)
      refine wl (d_geq rfl rfl) rfl hF (fun a hF => ?_)
      refine wl (d_move rfl) rfl hF (fun a hF => ?_)
      by_cases hdd : 100 ≤ (d : Int)
      ·have e : decide (100 ≤ (d : Int)) = true := decide_eq_true hdd
       rw [e] at hF
       refine wlgs (c := true) rfl rfl rfl hF (fun a hF => ?_)
       refine wlgs (c := true) rfl rfl rfl hF (fun a hF => ?_)
       refine wlgs (c := true) rfl rfl rfl hF (fun a hF => ?_)
       refine wlgs (c := true) rfl rfl rfl hF (fun a hF => ?_)
       refine wlgs (c := true) rfl rfl rfl hF (fun a hF => ?_)
       refine wl (d_pick (b := true) rfl rfl) rfl hF (fun a hF => ?_)
       refine wl (d_move rfl) rfl hF (fun a hF => ?_)
       refine wlgs (c := true) rfl rfl rfl hF (fun a hF => ?_)
       refine wlgs (c := true) rfl rfl rfl hF (fun a hF => ?_)
       refine wlgs (c := true) rfl rfl rfl hF (fun a hF => ?_)
       refine wlgs (c := true) rfl rfl rfl hF (fun a hF => ?_)
       refine wlgs (c := true) rfl rfl rfl hF (fun a hF => ?_)
       refine wl (d_pick (b := true) rfl rfl) rfl hF (fun a hF => ?_)
       refine wl_nil ?_
       refine then_n ?_
       refine wp_cond_true (hF.eval rfl) ?_
       refine wp_seq ?_
       refine wp_region_lit ?_
       refine wl (d_assign rfl) rfl hF (fun a hF => ?_)
       refine wl_nil ?_
       refine then_n ?_
       refine wp_ret ?_
       refine then_ret ?_
       refine body_ret hF (results1 Tryd.results78 (RV.tmp hF rfl)) ?_
       first | exact ⟨by rw [shaped_no1 (by omega)], hM.below⟩ | exact ⟨by rw [shaped_no2 j g (by omega)], hM.below⟩ | exact ⟨by rw [shaped_no3 f], hM.below⟩ | exact ⟨by rw [shaped_yes (by omega) j g (by omega) l], hM.below⟩
      ·have e : decide (100 ≤ (d : Int)) = false := decide_eq_false hdd
       rw [e] at hF
       refine wlg rfl (d_fieldAddrQ Tryd.underlying26 (m := 0) sz24 rfl rfl rfl) rfl hF (fun a hF => ?_)
       refine wlg rfl (d_load1 Tryd.underlying24 rfl rfl (hM.cell 0 rfl rfl)) rfl hF (fun a hF => ?_)
       refine wlg rfl (d_len_slice Tryd.underlying24 rfl) rfl hF (fun a hF => ?_)
       refine wlg rfl (d_move rfl) rfl hF (fun a hF => ?_)
       refine wlg rfl (d_lss rfl rfl) rfl hF (fun a hF => ?_)
       refine wl (d_pick (b := false) rfl rfl) rfl hF (fun a hF => ?_)
       refine wl (d_move rfl) rfl hF (fun a hF => ?_)
       by_cases hlow : (ks.length : Int) < 2
       ·have e : decide ((ks.length : Int) < 2) = true := decide_eq_true hlow
        rw [e] at hF
        refine wlgs (c := true) rfl rfl rfl hF (fun a hF => ?_)
        refine wlgs (c := true) rfl rfl rfl hF (fun a hF => ?_)
        refine wlgs (c := true) rfl rfl rfl hF (fun a hF => ?_)
        refine wlgs (c := true) rfl rfl rfl hF (fun a hF => ?_)
        refine wlgs (c := true) rfl rfl rfl hF (fun a hF => ?_)
        refine wl (d_pick (b := true) rfl rfl) rfl hF (fun a hF => ?_)
        refine wl_nil ?_
        refine then_n ?_
        refine wp_cond_true (hF.eval rfl) ?_
        refine wp_seq ?_
        refine wp_region_lit ?_
        refine wl (d_assign rfl) rfl hF (fun a hF => ?_)
        refine wl_nil ?_
        refine then_n ?_
        refine wp_ret ?_
        refine then_ret ?_
        refine body_ret hF (results1 Tryd.results78 (RV.tmp hF rfl)) ?_
        first | exact ⟨by rw [shaped_no1 (by omega)], hM.below⟩ | exact ⟨by rw [shaped_no2 j g (by omega)], hM.below⟩ | exact ⟨by rw [shaped_no3 f], hM.below⟩ | exact ⟨by rw [shaped_yes (by omega) j g (by omega) l], hM.below⟩
       ·have e : decide ((ks.length : Int) < 2) = false := decide_eq_false hlow
        rw [e] at hF
        refine wlg rfl (d_fieldAddrQ Tryd.underlying26 (m := 0) sz24 rfl rfl rfl) rfl hF (fun a hF => ?_)
        refine wlg rfl (d_load1 Tryd.underlying24 rfl rfl (hM.cell 0 rfl rfl)) rfl hF (fun a hF => ?_)
        refine wlg rfl (d_len_slice Tryd.underlying24 rfl) rfl hF (fun a hF => ?_)
        refine wlg rfl (d_move rfl) rfl hF (fun a hF => ?_)
        refine wlg rfl (d_gtr rfl rfl) rfl hF (fun a hF => ?_)
        refine wl (d_pick (b := false) rfl rfl) rfl hF (fun a hF => ?_)
        refine wl_nil ?_
        refine then_n ?_
        refine wp_if hF rfl (fun h => ?_) (fun h => ?_)
        ·have p := of_decide_eq_true h
         clear h
         refine wp_seq ?_
         refine wp_region_lit ?_
         refine wl (d_assign rfl) rfl hF (fun a hF => ?_)
         refine wl_nil ?_
         refine then_n ?_
         refine wp_ret ?_
         refine then_ret ?_
         refine body_ret hF (results1 Tryd.results78 (RV.tmp hF rfl)) ?_
         first | exact ⟨by rw [shaped_no1 (by omega)], hM.below⟩ | exact ⟨by rw [shaped_no2 j g (by omega)], hM.below⟩ | exact ⟨by rw [shaped_no3 f], hM.below⟩ | exact ⟨by rw [shaped_yes (by omega) j g (by omega) l], hM.below⟩
        ·have p := of_decide_eq_false h
         clear h
         refine wp_skip ?_
         refine then_n ?_
         refine wp_seq ?_
         refine wp_seq ?_
         refine wp_region_lit ?_
         refine wl (d_fieldAddrQ Tryd.underlying26 (m := 0) sz24 rfl rfl rfl) rfl hF (fun a hF => ?_)
         refine wl (d_load1 Tryd.underlying24 rfl rfl (hM.cell 0 rfl rfl)) rfl hF (fun a hF => ?_)
         refine wl (d_len_slice Tryd.underlying24 rfl) rfl hF (fun a hF => ?_)
         refine wl (d_move rfl) rfl hF (fun a hF => ?_)
         refine wl_nil ?_
         refine then_n ?_
         refine wp_block ?_
         refine wp_loop_k (fun D a w => ∃ (i : Nat), D = ks.length - i ∧ (i ≤ ks.length) ∧ (shapedL (ks.drop i) (d + 1) = shapedL ks (d + 1)) ∧ Frm a 62 [(1, (vI (d : Int))), (2, (vp b1)), (50, (Value.slice ad ks.length cap)), (51, (vI (ks.length : Int))), (52, (vI (i : Int)))] ∧ Mem w0 w [(b1, #[(vI k), (vI nm), (Value.slice ad ks.length cap)], 26)]) _ ⟨0, rfl, (by omega), rfl, hF.sub ⟨rfl, rfl, rfl, rfl, rfl, trivial⟩, ?_⟩ ?_
         ·exact hM
         rintro _ a w ⟨i, rfl, hl4_0, hl4_1, hF, hM⟩
         have I := hl4_0
         have q := hl4_1
         refine wp_seq ?_
         refine wp_region_lit ?_
         refine wl (d_lss rfl rfl) rfl hF (fun a hF => ?_)
         refine wl_nil ?_
         refine then_n ?_
         refine wp_seq ?_
         refine wp_if hF rfl (fun h => ?_) (fun h => ?_)
         ·have B := of_decide_eq_true h
          clear h
          obtain ⟨b0, o0, C, H, y⟩ := hsl (by omega)
          obtain ⟨t1, hi⟩ : ∃ t, ks[i]? = some t := ⟨_, List.getElem?_eq_getElem (by omega)⟩
          have A : t1 ∈ ks := List.mem_of_getElem? hi
          obtain ⟨a1, r, z⟩ := hks.at y i t1 hi
          obtain ⟨k1, s, u, l1, n, rfl⟩ := r.form
          refine wp_skip ?_
          refine then_n ?_
          refine wp_seq ?_
          refine wp_block ?_
          refine wp_seq ?_
          refine wp_region_lit ?_
          refine wl (d_ixSm (b := b0) (o := o0) Tryd.underlying24 sz26 (by rw [← C]; rfl) rfl rfl (by omega)) rfl hF (fun a hF => ?_)
          refine wl (d_loadC Tryd.underlying26 rfl sz26 rfl (z.mv (Gr.ch hM.below) (by simp)) rfl) rfl hF (fun a hF => ?_)
          refine wlR (ok_alloc z26) rfl hF ?_
          rintro _ w a ⟨b5, rfl, hnb_⟩ hF
          have hM : Mem w0 w [(b1, #[(vI k), (vI nm), (Value.slice ad ks.length cap)], 26), (b5, #[(vI 0), (vI 0), vN], 26)] := hM.alloc hnb_
          refine wl0R (ok_storeA (c' := #[(vI k1), (vI s), (Value.slice u l1 n)]) sz26 rfl rfl rfl (fun v hv => by simp at hv; rcases hv with rfl | rfl | rfl <;> rfl) (hM.at 1 rfl) rfl) hF ?_
          rintro w a hu hF
          have hM : Mem w0 w [(b1, #[(vI k), (vI nm), (Value.slice ad ks.length cap)], 26), (b5, #[(vI k1), (vI s), (Value.slice u l1 n)], 26)] := hM.upd 1 rfl hu
          refine wl_nil ?_
          refine then_n ?_
          refine wp_seq ?_
          refine wp_region_lit ?_
          refine wl (d_loadA Tryd.underlying26 rfl sz26 rfl (hM.at 1 rfl) rfl) rfl hF (fun a hF => ?_)
          refine wl (d_move rfl) rfl hF (fun a hF => ?_)
          refine wl (d_add rfl rfl (wrap_i64 (by omega) (by omega))) rfl hF (fun a hF => ?_)
          refine wlR (ok_call c78 rfl (ih t1 A X _ (d + 1) _ (IsT.mv (Gr.ch hM.below) (by simp) (fun x hx => .inl hx) t1 _ r) (by omega))) rfl hF ?_
          rintro _ w a ⟨rfl, hg⟩ hF
          have hM := hM.call hg
          refine wl (d_not rfl) rfl hF (fun a hF => ?_)
          refine wl_nil ?_
          refine then_n ?_
          refine wp_if hF rfl (fun h => ?_) (fun h => ?_)
          ·have hs := h
           clear h
           have f : shapedL ks (d + 1) = false := by rw [← q, shapedL_drop hi]; simp at hs; simp [hs]
           refine wp_seq ?_
           refine wp_region_lit ?_
           refine wl (d_assign rfl) rfl hF (fun a hF => ?_)
           refine wl_nil ?_
           refine then_n ?_
           refine wp_ret ?_
           refine block_ret ?_
           refine then_ret ?_
           refine then_ret ?_
           refine block_ret ?_
           refine then_ret ?_
           refine body_ret hF (results1 Tryd.results78 (RV.tmp hF rfl)) ?_
           first | exact ⟨by rw [shaped_no1 (by omega)], hM.below⟩ | exact ⟨by rw [shaped_no2 j g (by omega)], hM.below⟩ | exact ⟨by rw [shaped_no3 f], hM.below⟩ | exact ⟨by rw [shaped_yes (by omega) j g (by omega) l], hM.below⟩
          ·have hs := h
           clear h
           have hs : shaped t1 (d + 1) = true := by simpa using hs
           refine wp_skip ?_
           refine block_n ?_
           refine then_n ?_
           refine wp_region_lit ?_
           refine wl (d_add rfl rfl (wrap_i64 (by omega) (by omega))) rfl hF (fun a hF => ?_)
           refine wl (d_move rfl) rfl hF (fun a hF => ?_)
           refine wl_nil ?_
           refine then_n ?_
           refine ⟨_, ?_, i + 1, rfl, (by omega), (by rw [← q, shapedL_drop hi, hs, Bool.true_and]), hF.sub ⟨rfl, rfl, rfl, rfl, rfl, trivial⟩, ?_⟩
           ·omega
           exact hM.sub (by simp)
         ·have B := of_decide_eq_false h
          clear h
          have hi : i = ks.length := by omega
          have l : shapedL ks (d + 1) = true := by rw [← q, hi, List.drop_length]; rfl
          refine wp_exit ?_
          refine then_exit ?_
          refine then_exit ?_
          refine block_exit ?_
          refine then_n ?_
          refine wp_seq ?_
          refine wp_region_lit ?_
          refine wl (d_assign rfl) rfl hF (fun a hF => ?_)
          refine wl_nil ?_
          refine then_n ?_
          refine wp_ret ?_
          refine body_ret hF (results1 Tryd.results78 (RV.tmp hF rfl)) ?_
          first | exact ⟨by rw [shaped_no1 (by omega)], hM.below⟩ | exact ⟨by rw [shaped_no2 j g (by omega)], hM.below⟩ | exact ⟨by rw [shaped_no3 f], hM.below⟩ | exact ⟨by rw [shaped_yes (by omega) j g (by omega) l], hM.below⟩
theorem shaped_calls (t : Tm) : ∀ (X : List Nat) (vs : List Value) (d : Nat) (w : World), IsT w X t vs → d ≤ 1000 → Calls Tryd.prog 78 (List.toArray [.agg vs.toArray, .int .i64 d]) w (Ret fun v w' => v = .bool (shaped t d) ∧ Gr w w') := by
 refine Tm.ind (p := fun t => ∀ (X : List Nat) (vs : List Value) (d : Nat) (w : World), IsT w X t vs → d ≤ 1000 → Calls Tryd.prog 78 (List.toArray [.agg vs.toArray, .int .i64 d]) w (Ret fun v w' => v = .bool (shaped t d) ∧ Gr w w')) ?_ t
 intro k nm ks ih X vs d w ht hd
 simp only [IsT] at ht
 obtain ⟨sl, xs, rfl, h1, h2⟩ := ht
 obtain ⟨ad, cap, rfl, h3⟩ := h1.form
 exact shaped_step ih d hd w h3 h2
end Go.Mi.Term
namespace Go.Mi.Term
open Go.Mi Go.Proofs Go.RowKit
set_option maxRecDepth 100000 in
theorem May_calls {t : Tm} {X : List Nat} {k nm : Int} {ad : Option Addr} {l cap : Nat} (w0 : World) (ht : IsT w0 X t [.int .i64 k, .int .i64 nm, .slice ad l cap]) : Calls Tryd.prog 42 (List.toArray [.agg #[.int .i64 k, .int .i64 nm, .slice ad l cap]]) w0 (Ret fun v w' => v = .bool (may t) ∧ Gr w0 w') := by
 refine calls_of Tryd.func42 rfl Tryd.ntmps42 rfl fun a hF => ?_
 have hM := Mem.start w0
 have hF := hF.sub (L' := [(0, (Value.agg (#[(vI k), (vI nm), (Value.slice ad l cap)])))]) ⟨rfl, trivial⟩
 refine wp_seq ?_
 refine wp_region_lit ?_
 refine wlR (ok_box rfl) rfl hF ?_
 rintro _ w a ⟨b1, rfl, hnb_⟩ hF
 have hM : Mem w0 w [(b1, #[(vI k), (vI nm), (Value.slice ad l cap)], 26)] := hM.alloc hnb_
 refine wl (d_assign rfl) rfl hF (fun a hF => ?_)
 refine wl_nil ?_
 refine then_n ?_
 refine wp_seq ?_
 refine wp_region_lit ?_
 refine wl (d_loadA Tryd.underlying26 rfl sz26 rfl (hM.at 0 rfl) rfl) rfl hF (fun a hF => ?_)
 refine wlR (ok_call c77 rfl (Size_calls _ (IsT.mv (Gr.ch hM.below) (by simp) (fun x hx => .inl hx) t _ ht))) rfl hF ?_
 rintro _ w a ⟨rfl, hg⟩ hF
 have hM := hM.call hg
 refine wl (d_leq rfl rfl) rfl hF (fun a hF => ?_)
 refine wl (d_move rfl) rfl hF (fun a hF => ?_)
 by_cases hsz : ((size t : Nat) : Int) ≤ 5000
 ·have d : decide (((size t : Nat) : Int) ≤ 5000) = true := decide_eq_true hsz
  rw [d] at hF
  refine wlg rfl (d_loadA Tryd.underlying26 rfl sz26 rfl (hM.at 0 rfl) rfl) rfl hF (fun a hF => ?_)
  refine wlgR rfl (ok_call c78 rfl (shaped_calls t X _ 0 _ (IsT.mv (Gr.ch hM.below) (by simp) (fun x hx => .inl hx) t _ ht) (by omega))) rfl hF ?_
  rintro _ w a ⟨rfl, hg⟩ hF
  have hM := hM.call hg
  refine wl (d_pick (b := true) rfl rfl) rfl hF (fun a hF => ?_)
  refine wl (d_assign rfl) rfl hF (fun a hF => ?_)
  refine wl_nil ?_
  refine then_n ?_
  refine wp_ret ?_
  refine body_ret hF (results1 Tryd.results42 (RV.tmp hF rfl)) ?_
  first | exact ⟨by rw [may_yes (by omega)], hM.below⟩ | exact ⟨by rw [may_no (by omega)], hM.below⟩
 ·have d : decide (((size t : Nat) : Int) ≤ 5000) = false := decide_eq_false hsz
  rw [d] at hF
  refine wlgs (c := false) rfl rfl rfl hF (fun a hF => ?_)
  refine wlgs (c := false) rfl rfl rfl hF (fun a hF => ?_)
  refine wl (d_pick (b := false) rfl rfl) rfl hF (fun a hF => ?_)
  refine wl (d_assign rfl) rfl hF (fun a hF => ?_)
  refine wl_nil ?_
  refine then_n ?_
  refine wp_ret ?_
  refine body_ret hF (results1 Tryd.results42 (RV.tmp hF rfl)) ?_
  first | exact ⟨by rw [may_yes (by omega)], hM.below⟩ | exact ⟨by rw [may_no (by omega)], hM.below⟩
end Go.Mi.Term
namespace Go.Mi.Term
open Go.Mi Go.Proofs Go.RowKit
set_option maxRecDepth 100000 in
theorem word1_calls (w0 : World) : Calls Tryd.prog 97 (List.toArray [.int .i64 1]) w0 (Ret fun v w' => v = .string (bs (word 1)) ∧ Gr w0 w') := by
 refine calls_of Tryd.func97 rfl Tryd.ntmps97 rfl fun a hF => ?_
 have hM := Mem.start w0
 have hF := hF.sub (L' := [(0, (vI 1))]) ⟨rfl, trivial⟩
 refine wp_seq ?_
 refine wp_region_lit ?_
 refine wl (d_assign rfl) rfl hF (fun a hF => ?_)
 refine wl_nil ?_
 refine then_n ?_
 refine wp_seq ?_
 refine wp_region_lit ?_
 refine wlR (ok_buildSlice (cells := #[(vT []), (vT [110]), (vT [112, 117, 98]), (vT [100, 104]), (vT [107, 101, 109]), (vT [99, 116]), (vT [104]), (vT [101, 110, 99]), (vT [115, 105, 103]), (vT [112, 97, 105, 114])]) Tryd.underlying132 zz9 rfl (by decide) (by decide) (by kernel_rfl)) rfl hF ?_
 rintro _ w a ⟨b1, rfl, hnb_⟩ hF
 have hM : Mem w0 w [(b1, #[(vT []), (vT [110]), (vT [112, 117, 98]), (vT [100, 104]), (vT [107, 101, 109]), (vT [99, 116]), (vT [104]), (vT [101, 110, 99]), (vT [115, 105, 103]), (vT [112, 97, 105, 114])], 9)] := hM.alloc hnb_
 refine wl (d_assign rfl) rfl hF (fun a hF => ?_)
 refine wl_nil ?_
 refine then_n ?_
 refine wp_seq ?_
 refine wp_region_lit ?_
 refine wl (d_move rfl) rfl hF (fun a hF => ?_)
 refine wl (d_move rfl) rfl hF (fun a hF => ?_)
 refine wl (d_ixS0 (j := 1) Tryd.underlying132 sz9 rfl rfl rfl (by omega)) rfl hF (fun a hF => ?_)
 refine wl (d_load1 Tryd.underlying9 rfl rfl (hM.cell 0 rfl rfl)) rfl hF (fun a hF => ?_)
 refine wl (d_assign rfl) rfl hF (fun a hF => ?_)
 refine wl_nil ?_
 refine then_n ?_
 refine wp_ret ?_
 refine body_ret hF (results1 Tryd.results97 (RV.tmp hF rfl)) ?_
 exact ⟨rfl, hM.below⟩
set_option maxRecDepth 100000 in
theorem word2_calls (w0 : World) : Calls Tryd.prog 97 (List.toArray [.int .i64 2]) w0 (Ret fun v w' => v = .string (bs (word 2)) ∧ Gr w0 w') := by
 refine calls_of Tryd.func97 rfl Tryd.ntmps97 rfl fun a hF => ?_
 have hM := Mem.start w0
 have hF := hF.sub (L' := [(0, (vI 2))]) ⟨rfl, trivial⟩
 refine wp_seq ?_
 refine wp_region_lit ?_
 refine wl (d_assign rfl) rfl hF (fun a hF => ?_)
 refine wl_nil ?_
 refine then_n ?_
 refine wp_seq ?_
 refine wp_region_lit ?_
 refine wlR (ok_buildSlice (cells := #[(vT []), (vT [110]), (vT [112, 117, 98]), (vT [100, 104]), (vT [107, 101, 109]), (vT [99, 116]), (vT [104]), (vT [101, 110, 99]), (vT [115, 105, 103]), (vT [112, 97, 105, 114])]) Tryd.underlying132 zz9 rfl (by decide) (by decide) (by kernel_rfl)) rfl hF ?_
 rintro _ w a ⟨b1, rfl, hnb_⟩ hF
 have hM : Mem w0 w [(b1, #[(vT []), (vT [110]), (vT [112, 117, 98]), (vT [100, 104]), (vT [107, 101, 109]), (vT [99, 116]), (vT [104]), (vT [101, 110, 99]), (vT [115, 105, 103]), (vT [112, 97, 105, 114])], 9)] := hM.alloc hnb_
 refine wl (d_assign rfl) rfl hF (fun a hF => ?_)
 refine wl_nil ?_
 refine then_n ?_
 refine wp_seq ?_
 refine wp_region_lit ?_
 refine wl (d_move rfl) rfl hF (fun a hF => ?_)
 refine wl (d_move rfl) rfl hF (fun a hF => ?_)
 refine wl (d_ixS0 (j := 2) Tryd.underlying132 sz9 rfl rfl rfl (by omega)) rfl hF (fun a hF => ?_)
 refine wl (d_load1 Tryd.underlying9 rfl rfl (hM.cell 0 rfl rfl)) rfl hF (fun a hF => ?_)
 refine wl (d_assign rfl) rfl hF (fun a hF => ?_)
 refine wl_nil ?_
 refine then_n ?_
 refine wp_ret ?_
 refine body_ret hF (results1 Tryd.results97 (RV.tmp hF rfl)) ?_
 exact ⟨rfl, hM.below⟩
set_option maxRecDepth 100000 in
theorem word3_calls (w0 : World) : Calls Tryd.prog 97 (List.toArray [.int .i64 3]) w0 (Ret fun v w' => v = .string (bs (word 3)) ∧ Gr w0 w') := by
 refine calls_of Tryd.func97 rfl Tryd.ntmps97 rfl fun a hF => ?_
 have hM := Mem.start w0
 have hF := hF.sub (L' := [(0, (vI 3))]) ⟨rfl, trivial⟩
 refine wp_seq ?_
 refine wp_region_lit ?_
 refine wl (d_assign rfl) rfl hF (fun a hF => ?_)
 refine wl_nil ?_
 refine then_n ?_
 refine wp_seq ?_
 refine wp_region_lit ?_
 refine wlR (ok_buildSlice (cells := #[(vT []), (vT [110]), (vT [112, 117, 98]), (vT [100, 104]), (vT [107, 101, 109]), (vT [99, 116]), (vT [104]), (vT [101, 110, 99]), (vT [115, 105, 103]), (vT [112, 97, 105, 114])]) Tryd.underlying132 zz9 rfl (by decide) (by decide) (by kernel_rfl)) rfl hF ?_
 rintro _ w a ⟨b1, rfl, hnb_⟩ hF
 have hM : Mem w0 w [(b1, #[(vT []), (vT [110]), (vT [112, 117, 98]), (vT [100, 104]), (vT [107, 101, 109]), (vT [99, 116]), (vT [104]), (vT [101, 110, 99]), (vT [115, 105, 103]), (vT [112, 97, 105, 114])], 9)] := hM.alloc hnb_
 refine wl (d_assign rfl) rfl hF (fun a hF => ?_)
 refine wl_nil ?_
 refine then_n ?_
 refine wp_seq ?_
 refine wp_region_lit ?_
 refine wl (d_move rfl) rfl hF (fun a hF => ?_)
 refine wl (d_move rfl) rfl hF (fun a hF => ?_)
 refine wl (d_ixS0 (j := 3) Tryd.underlying132 sz9 rfl rfl rfl (by omega)) rfl hF (fun a hF => ?_)
 refine wl (d_load1 Tryd.underlying9 rfl rfl (hM.cell 0 rfl rfl)) rfl hF (fun a hF => ?_)
 refine wl (d_assign rfl) rfl hF (fun a hF => ?_)
 refine wl_nil ?_
 refine then_n ?_
 refine wp_ret ?_
 refine body_ret hF (results1 Tryd.results97 (RV.tmp hF rfl)) ?_
 exact ⟨rfl, hM.below⟩
set_option maxRecDepth 100000 in
theorem word4_calls (w0 : World) : Calls Tryd.prog 97 (List.toArray [.int .i64 4]) w0 (Ret fun v w' => v = .string (bs (word 4)) ∧ Gr w0 w') := by
 refine calls_of Tryd.func97 rfl Tryd.ntmps97 rfl fun a hF => ?_
 have hM := Mem.start w0
 have hF := hF.sub (L' := [(0, (vI 4))]) ⟨rfl, trivial⟩
 refine wp_seq ?_
 refine wp_region_lit ?_
 refine wl (d_assign rfl) rfl hF (fun a hF => ?_)
 refine wl_nil ?_
 refine then_n ?_
 refine wp_seq ?_
 refine wp_region_lit ?_
 refine wlR (ok_buildSlice (cells := #[(vT []), (vT [110]), (vT [112, 117, 98]), (vT [100, 104]), (vT [107, 101, 109]), (vT [99, 116]), (vT [104]), (vT [101, 110, 99]), (vT [115, 105, 103]), (vT [112, 97, 105, 114])]) Tryd.underlying132 zz9 rfl (by decide) (by decide) (by kernel_rfl)) rfl hF ?_
 rintro _ w a ⟨b1, rfl, hnb_⟩ hF
 have hM : Mem w0 w [(b1, #[(vT []), (vT [110]), (vT [112, 117, 98]), (vT [100, 104]), (vT [107, 101, 109]), (vT [99, 116]), (vT [104]), (vT [101, 110, 99]), (vT [115, 105, 103]), (vT [112, 97, 105, 114])], 9)] := hM.alloc hnb_
 refine wl (d_assign rfl) rfl hF (fun a hF => ?_)
 refine wl_nil ?_
 refine then_n ?_
 refine wp_seq ?_
 refine wp_region_lit ?_
 refine wl (d_move rfl) rfl hF (fun a hF => ?_)
 refine wl (d_move rfl) rfl hF (fun a hF => ?_)
 refine wl (d_ixS0 (j := 4) Tryd.underlying132 sz9 rfl rfl rfl (by omega)) rfl hF (fun a hF => ?_)
 refine wl (d_load1 Tryd.underlying9 rfl rfl (hM.cell 0 rfl rfl)) rfl hF (fun a hF => ?_)
 refine wl (d_assign rfl) rfl hF (fun a hF => ?_)
 refine wl_nil ?_
 refine then_n ?_
 refine wp_ret ?_
 refine body_ret hF (results1 Tryd.results97 (RV.tmp hF rfl)) ?_
 exact ⟨rfl, hM.below⟩
set_option maxRecDepth 100000 in
theorem word5_calls (w0 : World) : Calls Tryd.prog 97 (List.toArray [.int .i64 5]) w0 (Ret fun v w' => v = .string (bs (word 5)) ∧ Gr w0 w') := by
 refine calls_of Tryd.func97 rfl Tryd.ntmps97 rfl fun a hF => ?_
 have hM := Mem.start w0
 have hF := hF.sub (L' := [(0, (vI 5))]) ⟨rfl, trivial⟩
 refine wp_seq ?_
 refine wp_region_lit ?_
 refine wl (d_assign rfl) rfl hF (fun a hF => ?_)
 refine wl_nil ?_
 refine then_n ?_
 refine wp_seq ?_
 refine wp_region_lit ?_
 refine wlR (ok_buildSlice (cells := #[(vT []), (vT [110]), (vT [112, 117, 98]), (vT [100, 104]), (vT [107, 101, 109]), (vT [99, 116]), (vT [104]), (vT [101, 110, 99]), (vT [115, 105, 103]), (vT [112, 97, 105, 114])]) Tryd.underlying132 zz9 rfl (by decide) (by decide) (by kernel_rfl)) rfl hF ?_
 rintro _ w a ⟨b1, rfl, hnb_⟩ hF
 have hM : Mem w0 w [(b1, #[(vT []), (vT [110]), (vT [112, 117, 98]), (vT [100, 104]), (vT [107, 101, 109]), (vT [99, 116]), (vT [104]), (vT [101, 110, 99]), (vT [115, 105, 103]), (vT [112, 97, 105, 114])], 9)] := hM.alloc hnb_
 refine wl (d_assign rfl) rfl hF (fun a hF => ?_)
 refine wl_nil ?_
 refine then_n ?_
 refine wp_seq ?_
 refine wp_region_lit ?_
 refine wl (d_move rfl) rfl hF (fun a hF => ?_)
 refine wl (d_move rfl) rfl hF (fun a hF => ?_)
 refine wl (d_ixS0 (j := 5) Tryd.underlying132 sz9 rfl rfl rfl (by omega)) rfl hF (fun a hF => ?_)
 refine wl (d_load1 Tryd.underlying9 rfl rfl (hM.cell 0 rfl rfl)) rfl hF (fun a hF => ?_)
 refine wl (d_assign rfl) rfl hF (fun a hF => ?_)
 refine wl_nil ?_
 refine then_n ?_
 refine wp_ret ?_
 refine body_ret hF (results1 Tryd.results97 (RV.tmp hF rfl)) ?_
 exact ⟨rfl, hM.below⟩
set_option maxRecDepth 100000 in
theorem word6_calls (w0 : World) : Calls Tryd.prog 97 (List.toArray [.int .i64 6]) w0 (Ret fun v w' => v = .string (bs (word 6)) ∧ Gr w0 w') := by
 refine calls_of Tryd.func97 rfl Tryd.ntmps97 rfl fun a hF => ?_
 have hM := Mem.start w0
 have hF := hF.sub (L' := [(0, (vI 6))]) ⟨rfl, trivial⟩
 refine wp_seq ?_
 refine wp_region_lit ?_
 refine wl (d_assign rfl) rfl hF (fun a hF => ?_)
 refine wl_nil ?_
 refine then_n ?_
 refine wp_seq ?_
 refine wp_region_lit ?_
 refine wlR (ok_buildSlice (cells := #[(vT []), (vT [110]), (vT [112, 117, 98]), (vT [100, 104]), (vT [107, 101, 109]), (vT [99, 116]), (vT [104]), (vT [101, 110, 99]), (vT [115, 105, 103]), (vT [112, 97, 105, 114])]) Tryd.underlying132 zz9 rfl (by decide) (by decide) (by kernel_rfl)) rfl hF ?_
 rintro _ w a ⟨b1, rfl, hnb_⟩ hF
 have hM : Mem w0 w [(b1, #[(vT []), (vT [110]), (vT [112, 117, 98]), (vT [100, 104]), (vT [107, 101, 109]), (vT [99, 116]), (vT [104]), (vT [101, 110, 99]), (vT [115, 105, 103]), (vT [112, 97, 105, 114])], 9)] := hM.alloc hnb_
 refine wl (d_assign rfl) rfl hF (fun a hF => ?_)
 refine wl_nil ?_
 refine then_n ?_
 refine wp_seq ?_
 refine wp_region_lit ?_
 refine wl (d_move rfl) rfl hF (fun a hF => ?_)
 refine wl (d_move rfl) rfl hF (fun a hF => ?_)
 refine wl (d_ixS0 (j := 6) Tryd.underlying132 sz9 rfl rfl rfl (by omega)) rfl hF (fun a hF => ?_)
 refine wl (d_load1 Tryd.underlying9 rfl rfl (hM.cell 0 rfl rfl)) rfl hF (fun a hF => ?_)
 refine wl (d_assign rfl) rfl hF (fun a hF => ?_)
 refine wl_nil ?_
 refine then_n ?_
 refine wp_ret ?_
 refine body_ret hF (results1 Tryd.results97 (RV.tmp hF rfl)) ?_
 exact ⟨rfl, hM.below⟩
set_option maxRecDepth 100000 in
theorem word7_calls (w0 : World) : Calls Tryd.prog 97 (List.toArray [.int .i64 7]) w0 (Ret fun v w' => v = .string (bs (word 7)) ∧ Gr w0 w') := by
 refine calls_of Tryd.func97 rfl Tryd.ntmps97 rfl fun a hF => ?_
 have hM := Mem.start w0
 have hF := hF.sub (L' := [(0, (vI 7))]) ⟨rfl, trivial⟩
 refine wp_seq ?_
 refine wp_region_lit ?_
 refine wl (d_assign rfl) rfl hF (fun a hF => ?_)
 refine wl_nil ?_
 refine then_n ?_
 refine wp_seq ?_
 refine wp_region_lit ?_
 refine wlR (ok_buildSlice (cells := #[(vT []), (vT [110]), (vT [112, 117, 98]), (vT [100, 104]), (vT [107, 101, 109]), (vT [99, 116]), (vT [104]), (vT [101, 110, 99]), (vT [115, 105, 103]), (vT [112, 97, 105, 114])]) Tryd.underlying132 zz9 rfl (by decide) (by decide) (by kernel_rfl)) rfl hF ?_
 rintro _ w a ⟨b1, rfl, hnb_⟩ hF
 have hM : Mem w0 w [(b1, #[(vT []), (vT [110]), (vT [112, 117, 98]), (vT [100, 104]), (vT [107, 101, 109]), (vT [99, 116]), (vT [104]), (vT [101, 110, 99]), (vT [115, 105, 103]), (vT [112, 97, 105, 114])], 9)] := hM.alloc hnb_
 refine wl (d_assign rfl) rfl hF (fun a hF => ?_)
 refine wl_nil ?_
 refine then_n ?_
 refine wp_seq ?_
 refine wp_region_lit ?_
 refine wl (d_move rfl) rfl hF (fun a hF => ?_)
 refine wl (d_move rfl) rfl hF (fun a hF => ?_)
 refine wl (d_ixS0 (j := 7) Tryd.underlying132 sz9 rfl rfl rfl (by omega)) rfl hF (fun a hF => ?_)
 refine wl (d_load1 Tryd.underlying9 rfl rfl (hM.cell 0 rfl rfl)) rfl hF (fun a hF => ?_)
 refine wl (d_assign rfl) rfl hF (fun a hF => ?_)
 refine wl_nil ?_
 refine then_n ?_
 refine wp_ret ?_
 refine body_ret hF (results1 Tryd.results97 (RV.tmp hF rfl)) ?_
 exact ⟨rfl, hM.below⟩
set_option maxRecDepth 100000 in
theorem word8_calls (w0 : World) : Calls Tryd.prog 97 (List.toArray [.int .i64 8]) w0 (Ret fun v w' => v = .string (bs (word 8)) ∧ Gr w0 w') := by
 refine calls_of Tryd.func97 rfl Tryd.ntmps97 rfl fun a hF => ?_
 have hM := Mem.start w0
 have hF := hF.sub (L' := [(0, (vI 8))]) ⟨rfl, trivial⟩
 refine wp_seq ?_
 refine wp_region_lit ?_
 refine wl (d_assign rfl) rfl hF (fun a hF => ?_)
 refine wl_nil ?_
 refine then_n ?_
 refine wp_seq ?_
 refine wp_region_lit ?_
 refine wlR (ok_buildSlice (cells := #[(vT []), (vT [110]), (vT [112, 117, 98]), (vT [100, 104]), (vT [107, 101, 109]), (vT [99, 116]), (vT [104]), (vT [101, 110, 99]), (vT [115, 105, 103]), (vT [112, 97, 105, 114])]) Tryd.underlying132 zz9 rfl (by decide) (by decide) (by kernel_rfl)) rfl hF ?_
 rintro _ w a ⟨b1, rfl, hnb_⟩ hF
 have hM : Mem w0 w [(b1, #[(vT []), (vT [110]), (vT [112, 117, 98]), (vT [100, 104]), (vT [107, 101, 109]), (vT [99, 116]), (vT [104]), (vT [101, 110, 99]), (vT [115, 105, 103]), (vT [112, 97, 105, 114])], 9)] := hM.alloc hnb_
 refine wl (d_assign rfl) rfl hF (fun a hF => ?_)
 refine wl_nil ?_
 refine then_n ?_
 refine wp_seq ?_
 refine wp_region_lit ?_
 refine wl (d_move rfl) rfl hF (fun a hF => ?_)
 refine wl (d_move rfl) rfl hF (fun a hF => ?_)
 refine wl (d_ixS0 (j := 8) Tryd.underlying132 sz9 rfl rfl rfl (by omega)) rfl hF (fun a hF => ?_)
 refine wl (d_load1 Tryd.underlying9 rfl rfl (hM.cell 0 rfl rfl)) rfl hF (fun a hF => ?_)
 refine wl (d_assign rfl) rfl hF (fun a hF => ?_)
 refine wl_nil ?_
 refine then_n ?_
 refine wp_ret ?_
 refine body_ret hF (results1 Tryd.results97 (RV.tmp hF rfl)) ?_
 exact ⟨rfl, hM.below⟩
set_option maxRecDepth 100000 in
theorem word9_calls (w0 : World) : Calls Tryd.prog 97 (List.toArray [.int .i64 9]) w0 (Ret fun v w' => v = .string (bs (word 9)) ∧ Gr w0 w') := by
 refine calls_of Tryd.func97 rfl Tryd.ntmps97 rfl fun a hF => ?_
 have hM := Mem.start w0
 have hF := hF.sub (L' := [(0, (vI 9))]) ⟨rfl, trivial⟩
 refine wp_seq ?_
 refine wp_region_lit ?_
 refine wl (d_assign rfl) rfl hF (fun a hF => ?_)
 refine wl_nil ?_
 refine then_n ?_
 refine wp_seq ?_
 refine wp_region_lit ?_
 refine wlR (ok_buildSlice (cells := #[(vT []), (vT [110]), (vT [112, 117, 98]), (vT [100, 104]), (vT [107, 101, 109]), (vT [99, 116]), (vT [104]), (vT [101, 110, 99]), (vT [115, 105, 103]), (vT [112, 97, 105, 114])]) Tryd.underlying132 zz9 rfl (by decide) (by decide) (by kernel_rfl)) rfl hF ?_
 rintro _ w a ⟨b1, rfl, hnb_⟩ hF
 have hM : Mem w0 w [(b1, #[(vT []), (vT [110]), (vT [112, 117, 98]), (vT [100, 104]), (vT [107, 101, 109]), (vT [99, 116]), (vT [104]), (vT [101, 110, 99]), (vT [115, 105, 103]), (vT [112, 97, 105, 114])], 9)] := hM.alloc hnb_
 refine wl (d_assign rfl) rfl hF (fun a hF => ?_)
 refine wl_nil ?_
 refine then_n ?_
 refine wp_seq ?_
 refine wp_region_lit ?_
 refine wl (d_move rfl) rfl hF (fun a hF => ?_)
 refine wl (d_move rfl) rfl hF (fun a hF => ?_)
 refine wl (d_ixS0 (j := 9) Tryd.underlying132 sz9 rfl rfl rfl (by omega)) rfl hF (fun a hF => ?_)
 refine wl (d_load1 Tryd.underlying9 rfl rfl (hM.cell 0 rfl rfl)) rfl hF (fun a hF => ?_)
 refine wl (d_assign rfl) rfl hF (fun a hF => ?_)
 refine wl_nil ?_
 refine then_n ?_
 refine wp_ret ?_
 refine body_ret hF (results1 Tryd.results97 (RV.tmp hF rfl)) ?_
 exact ⟨rfl, hM.below⟩
def JoinOk : Prop := ∀ (lv : Value) (g c : Nat) (l : List Tx) (w : World), lv = .slice (some ⟨g, 0, none⟩) l.length c → g < w.heap.size → l.length ≤ c → At w g 0 (l.map fun x => Value.string (bs x)) → (Lib.join l [44]).length ≤ 1099511627776 → Calls Tryd.prog 99 (List.toArray [lv, .string (bs [44])]) w (Ret fun v w' => v = .string (bs (Lib.join l [44])) ∧ Gr w w')
theorem word_calls {k : Int} (h : 1 ≤ k ∧ k ≤ 9) (w0 : World) : Calls Tryd.prog 97 (List.toArray [.int .i64 k]) w0 (Ret fun v w' => v = .string (bs (word k)) ∧ Gr w0 w') := by
 have : k = 1 ∨ k = 2 ∨ k = 3 ∨ k = 4 ∨ k = 5 ∨ k = 6 ∨ k = 7 ∨ k = 8 ∨ k = 9 := by omega
 rcases this with rfl | rfl | rfl | rfl | rfl | rfl | rfl | rfl | rfl
 ·exact word1_calls w0
 ·exact word2_calls w0
 ·exact word3_calls w0
 ·exact word4_calls w0
 ·exact word5_calls w0
 ·exact word6_calls w0
 ·exact word7_calls w0
 ·exact word8_calls w0
 ·exact word9_calls w0
end Go.Mi.Term
namespace Go.Mi.Term
open Go.Mi Go.Proofs Go.RowKit
set_option maxRecDepth 100000 in
theorem written_atom {T0 : World → Prop} {nb : Nat} (hT : ∀ w w', Below nb w w' → T0 w → T0 w') {n : Int} (hit : ∀ w, T0 w → Calls Tryd.prog 98 (List.toArray [.int .i64 n]) w (Ret fun v w' => v = .string (bs (Lib.itoa n)) ∧ Gr w w')) {sv : Value} (hlen : (Lib.itoa n).length ≤ 1000) (w0 : World) (hnb : nb ≤ w0.heap.size) (hw0 : T0 w0) : Calls Tryd.prog 83 (List.toArray [.int .i64 1, .int .i64 n, sv]) w0 (Ret fun v w' => v = .string (bs (wtn 1 n [])) ∧ Gr w0 w') := by
 refine calls_of Tryd.func83 rfl Tryd.ntmps83 rfl fun a hF => ?_
 have hM := Mem.start w0
 have hF := hF.sub (L' := [(0, (vI 1)), (1, (vI n)), (2, sv)]) ⟨rfl, rfl, rfl, trivial⟩
 refine wp_seq ?_
 refine wp_region_lit ?_
 refine wl (d_assign rfl) rfl hF (fun a hF => ?_)
 refine wl_nil ?_
 refine then_n ?_
 refine wp_seq ?_
 refine wp_seq ?_
 refine wp_region_lit ?_
 refine wl (d_move rfl) rfl hF (fun a hF => ?_)
 refine wl (d_bool (c := true) (d_eql rfl rfl) (by decide)) rfl hF (fun a hF => ?_)
 refine wl_nil ?_
 refine then_n ?_
 refine wp_cond_true (hF.eval rfl) ?_
 refine wp_seq ?_
 refine wp_region_lit ?_
 refine wl (d_move rfl) rfl hF (fun a hF => ?_)
 refine wlR (ok_call c97 rfl (word_calls (by omega) _)) rfl hF ?_
 rintro _ w a ⟨rfl, hg⟩ hF
 have hM := hM.call hg
 refine wl (d_move rfl) rfl hF (fun a hF => ?_)
 refine wlR (ok_call c98 rfl (hit _ (hT _ _ (hM.below.mono hnb) hw0))) rfl hF ?_
 rintro _ w a ⟨rfl, hg⟩ hF
 have hM := hM.call hg
 refine wl (d_addS (s := (word 1)) (u := (Lib.itoa n)) rfl rfl (by have : (word 1).length = 1 := rfl; omega)) rfl hF (fun a hF => ?_)
 refine wl (d_assign rfl) rfl hF (fun a hF => ?_)
 refine wl_nil ?_
 refine then_n ?_
 refine wp_ret ?_
 refine then_ret ?_
 refine body_ret hF (results1 Tryd.results83 (RV.tmp hF rfl)) ?_
 exact ⟨rfl, hM.below⟩
set_option maxRecDepth 100000 in
theorem written_gen {k n : Int} {ks : List Tm} {X : List Nat} {ad : Option Addr} {cap : Nat} {xs : List Value} (hk : 1 ≤ k ∧ k ≤ 9) (hk1 : ¬ k = 1) (hk3 : ¬ k = 3) (w0 : World) (h1 : 0 < ks.length) (h8 : ks.length ≤ 1000) (hlen : (Lib.join (ks.map txt) [44]).length ≤ 1099511627776) (hsl : 0 < ks.length → ∃ b o, ad = some ⟨b, o, none⟩ ∧ b ∉ X ∧ At w0 b o xs) (hks : IsNs w0 X ks xs) (hjoin : JoinOk) :
 Calls Tryd.prog 83 (List.toArray [.int .i64 k, .int .i64 n, .slice ad ks.length cap]) w0 (Ret fun v w' => v = .string (bs (wtn k n (txtL ks))) ∧ Gr w0 w') := by
 refine calls_of Tryd.func83 rfl Tryd.ntmps83 rfl fun a hF => ?_
 have hM := Mem.start w0
 have hF := hF.sub (L' := [(0, (vI k)), (1, (vI n)), (2, (Value.slice ad ks.length cap))]) ⟨rfl, rfl, rfl, trivial⟩
 refine wp_seq ?_
 refine wp_region_lit ?_
 refine wl (d_assign rfl) rfl hF (fun a hF => ?_)
 refine wl_nil ?_
 refine then_n ?_
 refine wp_seq ?_
 refine wp_seq ?_
 refine wp_region_lit ?_
 refine wl (d_move rfl) rfl hF (fun a hF => ?_)
 refine wl (d_bool (c := false) (d_eql rfl rfl) (decide_eq_false hk1)) rfl hF (fun a hF => ?_)
 refine wl_nil ?_
 refine then_n ?_
 refine wp_cond_false (hF.eval rfl) ?_
 refine wp_skip ?_
 refine then_n ?_
 refine wp_seq ?_
 refine wp_region_lit ?_
 refine wl (d_assign rfl) rfl hF (fun a hF => ?_)
 refine wl_nil ?_
 refine then_n ?_
 refine wp_seq ?_
 refine wp_seq ?_
 refine wp_region_lit ?_
 refine wl (d_move rfl) rfl hF (fun a hF => ?_)
 refine wl (d_len_slice Tryd.underlying110 rfl) rfl hF (fun a hF => ?_)
 refine wl (d_move rfl) rfl hF (fun a hF => ?_)
 refine wl_nil ?_
 refine then_n ?_
 refine wp_block ?_
 refine wp_loop_k (fun E a w => ∃ (i : Nat) (lv : Value), E = ks.length - i ∧ (i ≤ ks.length) ∧ (Own w w0.heap.size 9 1 lv i ((ks.take i).map (fun t => Value.string (bs (txt t))))) ∧ Frm a 59 [(0, (vI k)), (7, lv), (17, (Value.slice ad ks.length cap)), (18, (vI (ks.length : Int))), (19, (vI (i : Int)))] ∧ Mem w0 w []) _ ⟨0, Value.slice none 0 0, rfl, (by omega), (Own.nil _ _ _ _), hF.sub ⟨rfl, rfl, rfl, rfl, rfl, trivial⟩, ?_⟩ ?_
 ·exact hM
 rintro _ a w ⟨i, lv, rfl, hl1_0, hl1_1, hF, hM⟩
 have d := hl1_1
 refine wp_seq ?_
 refine wp_region_lit ?_
 refine wl (d_lss rfl rfl) rfl hF (fun a hF => ?_)
 refine wl_nil ?_
 refine then_n ?_
 refine wp_seq ?_
 refine wp_if hF rfl (fun h => ?_) (fun h => ?_)
 ·have A := of_decide_eq_true h
  clear h
  obtain ⟨b0, o0, B, hb0, z⟩ := hsl (by omega)
  obtain ⟨t1, hi⟩ : ∃ t, ks[i]? = some t := ⟨_, List.getElem?_eq_getElem (by omega)⟩
  obtain ⟨v1, F, G⟩ := hks.at i t1 hi
  obtain ⟨bn, kn, nn, sn, rfl, hbn, x⟩ := G.form
  refine wp_skip ?_
  refine then_n ?_
  refine wp_seq ?_
  refine wp_block ?_
  refine wp_seq ?_
  refine wp_region_lit ?_
  refine wl (d_ixS (b := b0) (o := o0) (j := i) Tryd.underlying110 sz83 (by rw [← B]; rfl) rfl rfl (by omega)) rfl hF (fun a hF => ?_)
  refine wl (d_load1 Tryd.underlying83 rfl rfl ((z.mv (Gr.ch hM.below) (by simp)) i _ F)) rfl hF (fun a hF => ?_)
  refine wl (d_assign rfl) rfl hF (fun a hF => ?_)
  refine wl_nil ?_
  refine then_n ?_
  refine wp_region_lit ?_
  refine wl (d_move rfl) rfl hF (fun a hF => ?_)
  refine wl (d_move rfl) rfl hF (fun a hF => ?_)
  refine wl (d_nil rfl) rfl hF (fun a hF => ?_)
  refine wl (d_fieldAddrQ Tryd.underlying112 (m := 0) sz9 rfl rfl rfl) rfl hF (fun a hF => ?_)
  refine wl (d_load1 Tryd.underlying9 rfl rfl ((x.mv (Gr.ch hM.below) (by simp)) 3 _ rfl)) rfl hF (fun a hF => ?_)
  refine wlR (ok_buildSlice (cells := #[(vT (txt t1))]) Tryd.underlying132 zz9 rfl (by decide) (by decide) (by kernel_rfl)) rfl hF ?_
  rintro _ w a ⟨b1, rfl, hnb_⟩ hF
  have hM : Mem w0 w [(b1, #[(vT (txt t1))], 9)] := hM.alloc hnb_
  have C : ∀ y, y ∈ oblk lv → b1 ≠ y := fun y hy => by have h1_ := (d.lt y hy).2; have h2_ := hnb_.num; omega
  have d := d.mv hnb_.ch (by simp)
  have g := d
  refine wlR (ok_append1 (b := b1) (u := Value.string (bs (txt t1))) Tryd.underlying132 ii9 rfl rfl rfl g (At.of_blk (hM.at 0 rfl)) rfl (by omega) (by unfold maxLen; omega) hM.below.size) rfl hF ?_
  rintro lv1 w a ⟨d, hch, hob⟩ hF
  have hM := Mem_chg hM hch (fun y hy => ⟨(g.lt y hy).1, fun e he => by simp at he; subst he; exact C y hy⟩)
  refine wl (d_assign rfl) rfl hF (fun a hF => ?_)
  refine wl_nil ?_
  refine block_n ?_
  refine then_n ?_
  refine wp_region_lit ?_
  refine wl (d_add rfl rfl (wrap_i64 (by omega) (by omega))) rfl hF (fun a hF => ?_)
  refine wl (d_move rfl) rfl hF (fun a hF => ?_)
  refine wl_nil ?_
  refine then_n ?_
  refine ⟨_, ?_, i + 1, lv1, rfl, (by omega), (by rw [map_take_succ hi]; exact d), hF.sub ⟨rfl, rfl, rfl, rfl, rfl, trivial⟩, ?_⟩
  ·omega
  exact hM.sub (by simp)
 ·have A := of_decide_eq_false h
  clear h
  have hi : i = ks.length := by omega
  have d : Own w w0.heap.size 9 1 lv ks.length (ks.map (fun t => Value.string (bs (txt t)))) := by have h_ := d; rw [hi, List.take_length] at h_; exact h_
  refine wp_exit ?_
  refine then_exit ?_
  refine then_exit ?_
  refine block_exit ?_
  refine then_n ?_
  refine wp_seq ?_
  refine wp_seq ?_
  refine region_plan Tt mo (fun f w => Mem w0 w (([[]] : List (List Blk)).getD f []) ∧ Own w w0.heap.size 9 1 lv ks.length (ks.map (fun t => Value.string (bs (txt t))))) [] (rows := [⟨[], [(0, (vI k))], [0], .val (vI k)⟩, ⟨[(0, 31)], [], [0], .val vf⟩, ⟨[(1, 32)], [], [0], .val vf⟩, ⟨[(2, 33)], [(7, lv)], [0], .val undef⟩, ⟨[(3, 34), (2, 33)], [], [0], .val undef⟩, ⟨[(4, 35), (2, 33)], [], [0], .val undef⟩, ⟨[(2, 33)], [(7, lv)], [0], .val undef⟩, ⟨[(6, 37), (2, 33)], [], [0], .val undef⟩, ⟨[(7, 38), (2, 33)], [], [0], .val undef⟩, ⟨[(5, 36), (8, 39), (2, 33)], [], [0], .val undef⟩, ⟨[(2, 33), (9, 40)], [], [0], .val vf⟩]) (by kernel_rfl) hF ⟨hM.drew, d.mv (Ch.drew _) (by simp)⟩ ?_ ?_
  ·refine ⟨?_, ?_, ?_, ?_, ?_, ?_, ?_, ?_, ?_, ?_, ?_, trivial⟩
   ·exact ⟨⟨rfl, trivial⟩, fun f _ vs w hW _ => Det.ob hW (d_move rfl)⟩
   ·exact ⟨trivial, fun f _ vs w hW _ => Det.ob hW (d_bool (c := false) (d_eql rfl rfl) (decide_eq_false hk3))⟩
   ·exact ⟨trivial, fun f _ vs w hW _ => Det.ob hW (d_move rfl)⟩
   ·exact ⟨⟨rfl, trivial⟩, fun f _ vs w hW _ => ⟨false, _, rfl, rfl, rfl, rfl⟩⟩
   ·exact ⟨trivial, fun f _ vs w hW _ => ⟨false, _, rfl, rfl, rfl, rfl⟩⟩
   ·exact ⟨trivial, fun f _ vs w hW _ => ⟨false, _, rfl, rfl, rfl, rfl⟩⟩
   ·exact ⟨⟨rfl, trivial⟩, fun f _ vs w hW _ => ⟨false, _, rfl, rfl, rfl, rfl⟩⟩
   ·exact ⟨trivial, fun f _ vs w hW _ => ⟨false, _, rfl, rfl, rfl, rfl⟩⟩
   ·exact ⟨trivial, fun f _ vs w hW _ => ⟨false, _, rfl, rfl, rfl, rfl⟩⟩
   ·exact ⟨trivial, fun f _ vs w hW _ => ⟨false, _, rfl, rfl, rfl, rfl⟩⟩
   ·exact ⟨trivial, fun f _ vs w hW _ => Det.ob hW (d_pick (b := false) rfl rfl)⟩
  ·intro a w vs hW _ hF
   have hM : Mem w0 w [] := hW.1
   have d := hW.2
   have hF := hF.sub (L' := [(0, (vI k)), (7, lv), (17, (Value.slice ad ks.length cap)), (18, (vI (ks.length : Int))), (19, (vI (i : Int))), (20, (vB (decide ((i : Int) < (ks.length : Int))))), (41, vf)]) ⟨rfl, rfl, rfl, rfl, rfl, rfl, rfl, trivial⟩
   refine then_n ?_
   refine wp_cond_false (hF.eval rfl) ?_
   refine wp_skip ?_
   refine then_n ?_
   refine wp_seq ?_
   have hwl := word_len k
   have p := d.at
   obtain ⟨g1, r, q, D, l⟩ : ∃ b cap, lv = .slice (some ⟨b, 0, none⟩) ks.length cap ∧ ks.length ≤ cap ∧ At _ b 0 (ks.map (fun t => Value.string (bs (txt t)))) := by rcases p with ⟨_, h0, _⟩ | h; omega; exact h
   refine wp_region_lit ?_
   refine wl (d_move rfl) rfl hF (fun a hF => ?_)
   refine wlR (ok_call c97 rfl (word_calls (by omega) _)) rfl hF ?_
   rintro _ w a ⟨rfl, hg⟩ hF
   have hM := hM.call hg
   have d := d.mv (Gr.ch hg) (by simp)
   have l := l.mv (Gr.ch hg) (by simp)
   refine wl (d_addS (s := (word k)) (u := [40]) rfl rfl (by simp; omega)) rfl hF (fun a hF => ?_)
   refine wl (d_move rfl) rfl hF (fun a hF => ?_)
   refine wlR (ok_call c99 rfl (hjoin lv g1 r (ks.map txt) _ (by simpa using q) (d.lt g1 (by rw [q]; simp [oblk])).2 (by simpa using D) (by rw [List.map_map]; exact l) hlen)) rfl hF ?_
   rintro _ w a ⟨rfl, hg⟩ hF
   have hM := hM.call hg
   refine wl (d_addS (s := ((word k) ++ ([40]))) (u := (Lib.join (ks.map txt) [44])) rfl rfl (by simp; omega)) rfl hF (fun a hF => ?_)
   refine wl (d_addS (s := (((word k) ++ ([40])) ++ (Lib.join (ks.map txt) [44]))) (u := [41]) rfl rfl (by simp; omega)) rfl hF (fun a hF => ?_)
   refine wl (d_assign rfl) rfl hF (fun a hF => ?_)
   refine wl_nil ?_
   refine then_n ?_
   refine wp_ret ?_
   refine body_ret hF (results1 Tryd.results83 (RV.tmp hF rfl)) ?_
   exact ⟨by simp only [wtn, hk1, if_false, rowed, hk3, txtL_map], hM.below⟩
end Go.Mi.Term
namespace Go.Mi.Term
open Go.Mi Go.Proofs Go.RowKit
set_option maxRecDepth 100000 in
theorem written_dh {n : Int} {ks : List Tm} {X : List Nat} {ad : Option Addr} {cap : Nat} {xs : List Value} (w0 : World) (h2 : ks.length = 2) (hlen : ((ks.map txt).map List.length).sum ≤ 1099511627000) (hsl : 0 < ks.length → ∃ b o, ad = some ⟨b, o, none⟩ ∧ b ∉ X ∧ At w0 b o xs) (hks : IsNs w0 X ks xs) (hjoin : JoinOk) :
 Calls Tryd.prog 83 (List.toArray [.int .i64 3, .int .i64 n, .slice ad ks.length cap]) w0 (Ret fun v w' => v = .string (bs (wtn 3 n (txtL ks))) ∧ Gr w0 w') := by
 refine calls_of Tryd.func83 rfl Tryd.ntmps83 rfl fun a hF => ?_
 have hM := Mem.start w0
 have hF := hF.sub (L' := [(0, (vI 3)), (1, (vI n)), (2, (Value.slice ad ks.length cap))]) ⟨rfl, rfl, rfl, trivial⟩
 refine wp_seq ?_
 refine wp_region_lit ?_
 refine wl (d_assign rfl) rfl hF (fun a hF => ?_)
 refine wl_nil ?_
 refine then_n ?_
 refine wp_seq ?_
 refine wp_seq ?_
 refine wp_region_lit ?_
 refine wl (d_move rfl) rfl hF (fun a hF => ?_)
 refine wl (d_bool (c := false) (d_eql rfl rfl) (by decide)) rfl hF (fun a hF => ?_)
 refine wl_nil ?_
 refine then_n ?_
 refine wp_cond_false (hF.eval rfl) ?_
 refine wp_skip ?_
 refine then_n ?_
 refine wp_seq ?_
 refine wp_region_lit ?_
 refine wl (d_assign rfl) rfl hF (fun a hF => ?_)
 refine wl_nil ?_
 refine then_n ?_
 refine wp_seq ?_
 refine wp_seq ?_
 refine wp_region_lit ?_
 refine wl (d_move rfl) rfl hF (fun a hF => ?_)
 refine wl (d_len_slice Tryd.underlying110 rfl) rfl hF (fun a hF => ?_)
 refine wl (d_move rfl) rfl hF (fun a hF => ?_)
 refine wl_nil ?_
 refine then_n ?_
 refine wp_block ?_
 refine wp_loop_k (fun O a w => ∃ (i : Nat) (lv : Value), O = ks.length - i ∧ (i ≤ ks.length) ∧ (Own w w0.heap.size 9 1 lv i ((ks.take i).map (fun t => Value.string (bs (txt t))))) ∧ Frm a 59 [(0, (vI 3)), (7, lv), (17, (Value.slice ad ks.length cap)), (18, (vI (ks.length : Int))), (19, (vI (i : Int)))] ∧ Mem w0 w []) _ ⟨0, Value.slice none 0 0, rfl, (by omega), (Own.nil _ _ _ _), hF.sub ⟨rfl, rfl, rfl, rfl, rfl, trivial⟩, ?_⟩ ?_
 ·exact hM
 rintro _ a w ⟨i, lv, rfl, hl1_0, hl1_1, hF, hM⟩
 have g := hl1_1
 refine wp_seq ?_
 refine wp_region_lit ?_
 refine wl (d_lss rfl rfl) rfl hF (fun a hF => ?_)
 refine wl_nil ?_
 refine then_n ?_
 refine wp_seq ?_
 refine wp_if hF rfl (fun h => ?_) (fun h => ?_)
 ·have K := of_decide_eq_true h
  clear h
  obtain ⟨b0, o0, L, hb0, J⟩ := hsl (by omega)
  obtain ⟨t1, hi⟩ : ∃ t, ks[i]? = some t := ⟨_, List.getElem?_eq_getElem (by omega)⟩
  obtain ⟨v1, P, R⟩ := hks.at i t1 hi
  obtain ⟨bn, kn, nn, sn, rfl, hbn, G⟩ := R.form
  refine wp_skip ?_
  refine then_n ?_
  refine wp_seq ?_
  refine wp_block ?_
  refine wp_seq ?_
  refine wp_region_lit ?_
  refine wl (d_ixS (b := b0) (o := o0) (j := i) Tryd.underlying110 sz83 (by rw [← L]; rfl) rfl rfl (by omega)) rfl hF (fun a hF => ?_)
  refine wl (d_load1 Tryd.underlying83 rfl rfl ((J.mv (Gr.ch hM.below) (by simp)) i _ P)) rfl hF (fun a hF => ?_)
  refine wl (d_assign rfl) rfl hF (fun a hF => ?_)
  refine wl_nil ?_
  refine then_n ?_
  refine wp_region_lit ?_
  refine wl (d_move rfl) rfl hF (fun a hF => ?_)
  refine wl (d_move rfl) rfl hF (fun a hF => ?_)
  refine wl (d_nil rfl) rfl hF (fun a hF => ?_)
  refine wl (d_fieldAddrQ Tryd.underlying112 (m := 0) sz9 rfl rfl rfl) rfl hF (fun a hF => ?_)
  refine wl (d_load1 Tryd.underlying9 rfl rfl ((G.mv (Gr.ch hM.below) (by simp)) 3 _ rfl)) rfl hF (fun a hF => ?_)
  refine wlR (ok_buildSlice (cells := #[(vT (txt t1))]) Tryd.underlying132 zz9 rfl (by decide) (by decide) (by kernel_rfl)) rfl hF ?_
  rintro _ w a ⟨b1, rfl, hnb_⟩ hF
  have hM : Mem w0 w [(b1, #[(vT (txt t1))], 9)] := hM.alloc hnb_
  have N : ∀ y, y ∈ oblk lv → b1 ≠ y := fun y hy => by have h1_ := (g.lt y hy).2; have h2_ := hnb_.num; omega
  have g := g.mv hnb_.ch (by simp)
  have p := g
  refine wlR (ok_append1 (b := b1) (u := Value.string (bs (txt t1))) Tryd.underlying132 ii9 rfl rfl rfl p (At.of_blk (hM.at 0 rfl)) rfl (by omega) (by unfold maxLen; omega) hM.below.size) rfl hF ?_
  rintro lv1 w a ⟨g, hch, hob⟩ hF
  have hM := Mem_chg hM hch (fun y hy => ⟨(p.lt y hy).1, fun e he => by simp at he; subst he; exact N y hy⟩)
  refine wl (d_assign rfl) rfl hF (fun a hF => ?_)
  refine wl_nil ?_
  refine block_n ?_
  refine then_n ?_
  refine wp_region_lit ?_
  refine wl (d_add rfl rfl (wrap_i64 (by omega) (by omega))) rfl hF (fun a hF => ?_)
  refine wl (d_move rfl) rfl hF (fun a hF => ?_)
  refine wl_nil ?_
  refine then_n ?_
  refine ⟨_, ?_, i + 1, lv1, rfl, (by omega), (by rw [map_take_succ hi]; exact g), hF.sub ⟨rfl, rfl, rfl, rfl, rfl, trivial⟩, ?_⟩
  ·omega
  exact hM.sub (by simp)
 ·have K := of_decide_eq_false h
  clear h
  have hi : i = ks.length := by omega
  have g : Own w w0.heap.size 9 1 lv ks.length (ks.map (fun t => Value.string (bs (txt t)))) := by have h_ := g; rw [hi, List.take_length] at h_; exact h_
  refine wp_exit ?_
  refine then_exit ?_
  refine then_exit ?_
  refine block_exit ?_
  refine then_n ?_
  refine wp_seq ?_
  refine wp_seq ?_
  obtain ⟨ta, tb, q⟩ : ∃ a b, ks = [a, b] := by match ks, h2 with | [a, b], _ => exact ⟨a, b, rfl⟩
  have D : Own w w0.heap.size 9 1 lv 2 [Value.string (bs (txt ta)), Value.string (bs (txt tb))] := by have h_ := g; rw [q] at h_; exact h_
  obtain ⟨g1, x, f, l, M, H, r, z, A, hcs⟩ := own_two D
  have hM : Mem w0 w [(g1, f, 9)] := Mem_own hM M H
  have B : (Lib.join [txt ta, txt tb] [44]).length ≤ 1099511627776 := by simp [Lib.join, List.intercalate]; rw [q] at hlen; simp at hlen; omega
  have C : (Lib.join [txt tb, txt ta] [44]).length ≤ 1099511627776 := by simp [Lib.join, List.intercalate]; rw [q] at hlen; simp at hlen; omega
  have F : 0 < f.size := by omega
  have I : 1 < f.size := by omega
  refine region_plan Tt mo (fun d w => Mem w0 w (([[(g1, f, 9)]] : List (List Blk)).getD d [])) [] (rows := [⟨[], [(0, (vI 3))], [0], .val (vI 3)⟩, ⟨[(0, 31)], [], [0], .val vt⟩, ⟨[(1, 32)], [], [0], .val vt⟩, ⟨[(2, 33)], [(7, lv)], [0], .val lv⟩, ⟨[(3, 34), (2, 33)], [], [0], .val (vP g1 1)⟩, ⟨[(4, 35), (2, 33)], [], [0], .val (vT (txt tb))⟩, ⟨[(2, 33)], [(7, lv)], [0], .val lv⟩, ⟨[(6, 37), (2, 33)], [], [0], .val (vp g1)⟩, ⟨[(7, 38), (2, 33)], [], [0], .val (vT (txt ta))⟩, ⟨[(5, 36), (8, 39), (2, 33)], [], [0], .val (vB (lessTx (txt tb) (txt ta)))⟩, ⟨[(2, 33), (9, 40)], [], [0], .val (vB (lessTx (txt tb) (txt ta)))⟩]) (by kernel_rfl) hF hM.drew ?_ ?_
  ·refine ⟨?_, ?_, ?_, ?_, ?_, ?_, ?_, ?_, ?_, ?_, ?_, trivial⟩
   ·exact ⟨⟨rfl, trivial⟩, fun d _ vs w hW _ => Det.ob hW (d_move rfl)⟩
   ·exact ⟨trivial, fun d _ vs w hW _ => Det.ob hW (d_bool (c := true) (d_eql rfl rfl) (by decide))⟩
   ·exact ⟨trivial, fun d _ vs w hW _ => Det.ob hW (d_move rfl)⟩
   ·exact ⟨⟨rfl, trivial⟩, fun d _ vs w hW _ => ⟨true, _, rfl, rfl, Det.ob hW (d_move rfl)⟩⟩
   ·exact ⟨trivial, fun d _ vs w hW _ => ⟨true, _, rfl, rfl, Det.ob hW (d_ixS0 (j := 1) Tryd.underlying132 sz9 (by rw [← l]; rfl) rfl rfl (by omega))⟩⟩
   ·refine ⟨trivial, fun d k vs w hW _ => ?_⟩
    obtain rfl := memN_one k
    have hM : Mem w0 w [(g1, f, 9)] := hW
    exact ⟨true, _, rfl, rfl, Det.ob hW (d_load1 Tryd.underlying9 rfl rfl (hM.cell 0 rfl A))⟩
   ·exact ⟨⟨rfl, trivial⟩, fun d _ vs w hW _ => ⟨true, _, rfl, rfl, Det.ob hW (d_move rfl)⟩⟩
   ·exact ⟨trivial, fun d _ vs w hW _ => ⟨true, _, rfl, rfl, Det.ob hW (d_ixS0 (j := 0) Tryd.underlying132 sz9 (by rw [← l]; rfl) rfl rfl (by omega))⟩⟩
   ·refine ⟨trivial, fun d k vs w hW _ => ?_⟩
    obtain rfl := memN_one k
    have hM : Mem w0 w [(g1, f, 9)] := hW
    exact ⟨true, _, rfl, rfl, Det.ob hW (d_load1 Tryd.underlying9 rfl rfl (hM.cell 0 rfl z))⟩
   ·exact ⟨trivial, fun d _ vs w hW _ => ⟨true, _, rfl, rfl, Det.ob hW (d_lssS (s := (txt tb)) (u := (txt ta)) rfl rfl)⟩⟩
   ·exact ⟨trivial, fun d _ vs w hW _ => Det.ob hW (d_pick (b := true) rfl rfl)⟩
  ·intro a w vs hW _ hF
   have hM : Mem w0 w [(g1, f, 9)] := hW
   have hF := hF.sub (L' := [(0, (vI 3)), (7, lv), (17, (Value.slice ad ks.length cap)), (18, (vI (ks.length : Int))), (19, (vI (i : Int))), (20, (vB (decide ((i : Int) < (ks.length : Int))))), (41, (vB (lessTx (txt tb) (txt ta))))]) ⟨rfl, rfl, rfl, rfl, rfl, rfl, rfl, trivial⟩
   refine then_n ?_
   refine wp_if hF rfl (fun h => ?_) (fun h => ?_)
   ·have E := h
    clear h
    refine region_plan Tt mo (fun d w => Mem w0 w (([[(g1, f, 9)], [(g1, (f.setIfInBounds 0 (vT (txt tb))), 9)], [(g1, ((f.setIfInBounds 0 (vT (txt tb))).setIfInBounds 1 (vT (txt ta))), 9)]] : List (List Blk)).getD d [])) [9, 11] (rows := [⟨[], [(7, lv)], [0], .val lv⟩, ⟨[], [(7, lv)], [0, 1], .val lv⟩, ⟨[], [(7, lv)], [0], .val lv⟩, ⟨[(2, 44)], [], [0], .val (vP g1 1)⟩, ⟨[(3, 45)], [], [0], .val (vT (txt tb))⟩, ⟨[], [(7, lv)], [0], .val lv⟩, ⟨[(5, 47)], [], [0], .val (vp g1)⟩, ⟨[(6, 48)], [], [0], .val (vT (txt ta))⟩, ⟨[(0, 42)], [], [0], .val (vp g1)⟩, ⟨[(8, 50), (4, 46)], [], [0], .rel (fun _ _ => True) (fun _ _ _ _ _ => trivial)⟩, ⟨[(1, 43)], [], [1], .val (vP g1 1)⟩, ⟨[(10, 51), (7, 49)], [], [1], .rel (fun _ _ => True) (fun _ _ _ _ _ => trivial)⟩]) (by kernel_rfl) hF hM.drew ?_ ?_
    ·refine ⟨?_, ?_, ?_, ?_, ?_, ?_, ?_, ?_, ?_, ?_, ?_, ?_, trivial⟩
     ·exact ⟨⟨rfl, trivial⟩, fun d _ vs w hW _ => Det.ob hW (d_move rfl)⟩
     ·exact ⟨⟨rfl, trivial⟩, fun d _ vs w hW _ => Det.ob hW (d_move rfl)⟩
     ·exact ⟨⟨rfl, trivial⟩, fun d _ vs w hW _ => Det.ob hW (d_move rfl)⟩
     ·exact ⟨trivial, fun d _ vs w hW _ => Det.ob hW (d_ixS0 (j := 1) Tryd.underlying132 sz9 (by rw [← l]; rfl) rfl rfl (by omega))⟩
     ·refine ⟨trivial, fun d k vs w hW _ => ?_⟩
      obtain rfl := memN_one k
      have hM : Mem w0 w [(g1, f, 9)] := hW
      exact Det.ob hW (d_load1 Tryd.underlying9 rfl rfl (hM.cell 0 rfl A))
     ·exact ⟨⟨rfl, trivial⟩, fun d _ vs w hW _ => Det.ob hW (d_move rfl)⟩
     ·exact ⟨trivial, fun d _ vs w hW _ => Det.ob hW (d_ixS0 (j := 0) Tryd.underlying132 sz9 (by rw [← l]; rfl) rfl rfl (by omega))⟩
     ·refine ⟨trivial, fun d k vs w hW _ => ?_⟩
      obtain rfl := memN_one k
      have hM : Mem w0 w [(g1, f, 9)] := hW
      exact Det.ob hW (d_load1 Tryd.underlying9 rfl rfl (hM.cell 0 rfl z))
     ·exact ⟨trivial, fun d _ vs w hW _ => Det.ob hW (d_ixS0 (j := 0) Tryd.underlying132 sz9 (by rw [← l]; rfl) rfl rfl (by omega))⟩
     ·refine ⟨trivial, fun d k vs w hW _ => ?_⟩
      obtain rfl := memN_one k
      have hM : Mem w0 w [(g1, f, 9)] := hW
      exact Ok1.obs (fun w' hu => by exact hM.upd 0 rfl hu) (ok_store1 (v := (vT (txt tb))) sz9 rfl rfl rfl (hM.at 0 rfl) (by first | omega | (simp; omega)))
     ·exact ⟨trivial, fun d _ vs w hW _ => Det.ob hW (d_ixS0 (j := 1) Tryd.underlying132 sz9 (by rw [← l]; rfl) rfl rfl (by omega))⟩
     ·refine ⟨trivial, fun d k vs w hW _ => ?_⟩
      obtain rfl := memN_one k
      have hM : Mem w0 w [(g1, (f.setIfInBounds 0 (vT (txt tb))), 9)] := hW
      exact Ok1.obs (fun w' hu => by exact hM.upd 0 rfl hu) (ok_store1 (v := (vT (txt ta))) sz9 rfl rfl rfl (hM.at 0 rfl) (by first | omega | (simp; omega)))
    ·intro a w vs hW _ hF
     have hM : Mem w0 w [(g1, ((f.setIfInBounds 0 (vT (txt tb))).setIfInBounds 1 (vT (txt ta))), 9)] := hW
     have hF := hF.sub (L' := [(0, (vI 3)), (7, lv), (17, (Value.slice ad ks.length cap)), (18, (vI (ks.length : Int))), (19, (vI (i : Int))), (20, (vB (decide ((i : Int) < (ks.length : Int))))), (41, (vB (lessTx (txt tb) (txt ta))))]) ⟨rfl, rfl, rfl, rfl, rfl, rfl, rfl, trivial⟩
     refine then_n ?_
     refine wp_seq ?_
     have Q := word_len 3
     refine wp_region_lit ?_
     refine wl (d_move rfl) rfl hF (fun a hF => ?_)
     refine wlR (ok_call c97 rfl (word_calls (by omega) _)) rfl hF ?_
     rintro _ w a ⟨rfl, hg⟩ hF
     have hM := hM.call hg
     refine wl (d_addS (s := (word 3)) (u := [40]) rfl rfl (by simp; omega)) rfl hF (fun a hF => ?_)
     refine wl (d_move rfl) rfl hF (fun a hF => ?_)
     refine wlR (ok_call c99 rfl (hjoin lv g1 x [txt tb, txt ta] _ l (hM.lt (List.mem_cons_self ..)) r (at_two (hM.at 0 rfl) (by simp [F]) (by simp [I])) C)) rfl hF ?_
     rintro _ w a ⟨rfl, hg⟩ hF
     have hM := hM.call hg
     refine wl (d_addS (s := ((word 3) ++ ([40]))) (u := (Lib.join [txt tb, txt ta] [44])) rfl rfl (by simp; omega)) rfl hF (fun a hF => ?_)
     refine wl (d_addS (s := (((word 3) ++ ([40])) ++ (Lib.join [txt tb, txt ta] [44]))) (u := [41]) rfl rfl (by simp; omega)) rfl hF (fun a hF => ?_)
     refine wl (d_assign rfl) rfl hF (fun a hF => ?_)
     refine wl_nil ?_
     refine then_n ?_
     refine wp_ret ?_
     refine body_ret hF (results1 Tryd.results83 (RV.tmp hF rfl)) ?_
     first | exact ⟨by rw [q]; simp [wtn, rowed, txtL, E], hM.below⟩
   ·have E := h
    clear h
    refine wp_skip ?_
    refine then_n ?_
    refine wp_seq ?_
    have Q := word_len 3
    refine wp_region_lit ?_
    refine wl (d_move rfl) rfl hF (fun a hF => ?_)
    refine wlR (ok_call c97 rfl (word_calls (by omega) _)) rfl hF ?_
    rintro _ w a ⟨rfl, hg⟩ hF
    have hM := hM.call hg
    refine wl (d_addS (s := (word 3)) (u := [40]) rfl rfl (by simp; omega)) rfl hF (fun a hF => ?_)
    refine wl (d_move rfl) rfl hF (fun a hF => ?_)
    refine wlR (ok_call c99 rfl (hjoin lv g1 x [txt ta, txt tb] _ l (hM.lt (List.mem_cons_self ..)) r (at_two (hM.at 0 rfl) z A) B)) rfl hF ?_
    rintro _ w a ⟨rfl, hg⟩ hF
    have hM := hM.call hg
    refine wl (d_addS (s := ((word 3) ++ ([40]))) (u := (Lib.join [txt ta, txt tb] [44])) rfl rfl (by simp; omega)) rfl hF (fun a hF => ?_)
    refine wl (d_addS (s := (((word 3) ++ ([40])) ++ (Lib.join [txt ta, txt tb] [44]))) (u := [41]) rfl rfl (by simp; omega)) rfl hF (fun a hF => ?_)
    refine wl (d_assign rfl) rfl hF (fun a hF => ?_)
    refine wl_nil ?_
    refine then_n ?_
    refine wp_ret ?_
    refine body_ret hF (results1 Tryd.results83 (RV.tmp hF rfl)) ?_
    first | exact ⟨by rw [q]; simp [wtn, rowed, txtL, E], hM.below⟩
end Go.Mi.Term
namespace Go.Mi.Term
open Go.Mi Go.Proofs Go.RowKit
section
variable {P : Program} {n : Nat} {L : List (Nat × Value)} {w : World} {ds : Option Nat} {ty : TypeId} {pos : String} {af : Array Edge} {gu : Option (Nat × Bool)}
theorem d_buildS {t : TypeId} {fs : Array Field} {z : Value} {pl : Array (Nat × Nat)} {parts : Array (Nat × Operand)} {ps : List (Nat × Value)} {cells : Array Value} (ht : P.underlying t = some (.struct fs)) (hz : (P.info? t).bind (·.zero) = some z)
    (hpl : ∀ w, (fs.mapM fun f => (do pure (f.offset, ← sizeOf f.type) : Sem (Nat × Nat))).run P w = .ok pl w) (hp : evp L parts.toList = some ps) (hf : Instr.fill (pl[·]?) z.cells ps = some cells) : Det P ⟨ds, .build t parts, ty, pos, af, gu⟩ n L w (.agg cells) w :=
  Det.of_run fun a hF => by
    obtain ⟨inf, hi, hz'⟩ := Option.bind_eq_some_iff.1 hz
    have he : (parts.map fun p => (p.1, a.eval p.2)).toList = ps := by rw [Array.toList_map]; exact evp_eval hF hp
    have hzr : (zeroValue t).run P w = .ok z w := by simp [zeroValue, typeInfo, hi, hz']
    simp only [execOp, Instr.build, Sem.run_bind, hzr, run_underlying' ht, Result.andThen_ok, hpl w, he, hf]
    rfl
end
theorem fill4 {z0 z1 z2 z3 a b c d : Value} (ha : a.cells = #[a]) (hb : b.cells = #[b]) (hc : c.cells = #[c]) (hd : d.cells = #[d]) :
    Instr.fill ((#[(0, 1), (1, 1), (2, 1), (3, 1)] : Array (Nat × Nat))[·]?) #[z0, z1, z2, z3] [(0, a), (1, b), (2, c), (3, d)] = some #[a, b, c, d] := by
  simp [Instr.fill, ha, hb, hc, hd]
theorem pl112 (w : World) : ∀ fs, Tryd.prog.underlying 112 = some (.struct fs) → (fs.mapM fun f => (do pure (f.offset, ← sizeOf f.type) : Sem (Nat × Nat))).run Tryd.prog w = .ok #[(0, 1), (1, 1), (2, 1), (3, 1)] w := by
  intro fs h
  rw [Tryd.underlying112] at h
  cases h
  obtain ⟨i3, h3, e3⟩ := Option.map_eq_some_iff.1 sz3
  obtain ⟨i110, h110, e110⟩ := Option.map_eq_some_iff.1 sz110
  obtain ⟨i9, h9, e9⟩ := Option.map_eq_some_iff.1 sz9
  simp [sizeOf, typeInfo, h3, h110, h9, e3, e110, e9]
theorem IsN.cell1 {w : World} {X : List Nat} {t : Tm} {v : Value} (h : IsN w X t v) : v.oneCell' = true := by
  obtain ⟨b, k, n, sl, rfl, _⟩ := h.form
  rfl
theorem IsN.cellsv {w : World} {X : List Nat} {t : Tm} {v : Value} (h : IsN w X t v) : v.cells = #[v] := by
  obtain ⟨b, k, n, sl, rfl, _⟩ := h.form
  rfl
theorem fill1 {z a : Value} (ha : a.cells = #[a]) : Instr.fill (fun i => some (i * 1, 1)) ((Array.range (1 * 1)).map (z.cells[· % z.cells.size]!)) [(0, a)] = some #[a] := by
  simp [Instr.fill, ha]
  apply Array.ext'
  simp [Array.toList_setIfInBounds, Array.toList_map, Array.toList_range, List.range_succ]
theorem nrmL_map (ks : List Tm) : nrmL ks = ks.map nrm := by
  induction ks with
  | nil => rfl
  | cons k ks ih => simp [nrmL, ih]
mutual
theorem txt_nrm : (t : Tm) → txt (nrm t) = txt t
  | .mk k n ks => by
    simp only [nrm, txt, txtL_nrm ks]
    by_cases h : k = 1
    · simp [h]
    · simp only [h, if_false, wtn]
theorem txtL_nrm : (ks : List Tm) → txtL (nrmL ks) = txtL ks
  | [] => rfl
  | k :: ks => by simp only [nrmL, txtL, txt_nrm k, txtL_nrm ks]
end
def ItOk (T0 : World → Prop) (n : Int) : Prop := (∀ w, T0 w → Calls Tryd.prog 98 (List.toArray [.int .i64 n]) w (Ret fun v w' => v = .string (bs (Lib.itoa n)) ∧ Gr w w')) ∧ (Lib.itoa n).length ≤ 1000
def WrK (T0 : World → Prop) (k n : Int) (ks : List Tm) : Prop := (1 ≤ k ∧ k ≤ 9) ∧ (k = 1 → ItOk T0 n ∧ ks = []) ∧ (k ≠ 1 → 0 < ks.length ∧ ks.length ≤ 1000) ∧ (k = 3 → ks.length = 2) ∧ ((ks.map txt).map List.length).sum + ks.length ≤ 1099511627000
theorem join_len (l : List Tx) : (Lib.join l [44]).length ≤ (l.map List.length).sum + l.length := by
  induction l with
  | nil => simp [Lib.join]
  | cons x l ih =>
    cases l with
    | nil => simp [Lib.join, List.intercalate]
    | cons y l =>
      have h1 := Lib.join_cons x (y :: l) [44]
      have h2 := Lib.join_cons y l [44]
      rw [h2] at ih
      rw [h1]
      simp only [List.length_append, Lib.joinTail, List.map_cons, List.flatten_cons, List.length_cons, List.sum_cons, List.length_nil] at ih ⊢
      omega
theorem written_calls {T0 : World → Prop} {nb : Nat} (hT : ∀ w w', Below nb w w' → T0 w → T0 w') (hjoin : JoinOk) {k n : Int} {ks : List Tm} (hw : WrK T0 k n ks) {X : List Nat} {ad : Option Addr} {cap : Nat} {xs : List Value} (w0 : World) (hnb : nb ≤ w0.heap.size) (hw0 : T0 w0)
    (hsl : 0 < ks.length → ∃ b o, ad = some ⟨b, o, none⟩ ∧ b ∉ X ∧ At w0 b o xs) (hks : IsNs w0 X ks xs) :
    Calls Tryd.prog 83 (List.toArray [.int .i64 k, .int .i64 n, .slice ad ks.length cap]) w0 (Ret fun v w' => v = .string (bs (txt (.mk k n ks))) ∧ Gr w0 w') := by
  obtain ⟨h1, h2, h3, h4, h5⟩ := hw
  simp only [txt]
  by_cases hk : k = 1
  · subst hk
    obtain ⟨h6, rfl⟩ := h2 rfl
    exact written_atom hT h6.1 h6.2 w0 hnb hw0
  · by_cases hk3 : k = 3
    · subst hk3
      exact written_dh w0 (h4 rfl) (by omega) hsl hks hjoin
    · have := join_len (ks.map txt)
      simp only [List.length_map] at this
      exact written_gen h1 hk hk3 w0 (h3 hk).1 (h3 hk).2 (by omega) hsl hks hjoin
mutual
def WrT (T0 : World → Prop) : Tm → Prop
  | .mk k nm ks => WrK T0 k (if k = 1 then nm else 0) (ks.map nrm) ∧ ks.length ≤ 1000 ∧ WrTs T0 ks
def WrTs (T0 : World → Prop) : List Tm → Prop
  | [] => True
  | t :: ts => WrT T0 t ∧ WrTs T0 ts
end
theorem WrTs.at {T0 : World → Prop} : ∀ {ts : List Tm}, WrTs T0 ts → ∀ t, t ∈ ts → WrT T0 t
  | [], _, t, ht => by simp at ht
  | u :: ts, h, t, ht => by
    simp only [WrTs] at h
    rcases List.mem_cons.1 ht with rfl | ht
    · exact h.1
    · exact WrTs.at h.2 t ht
theorem Own.cells1 {w : World} {base m n : Nat} {e : TypeId} {v : Value} {xs : List Value} (h : Own w base e m v n xs) : v.cells = #[v] := by
  rcases h.at with ⟨rfl, _⟩ | ⟨b, cap, rfl, _⟩ <;> rfl
theorem written_own {T0 : World → Prop} {nb : Nat} (hT : ∀ w w', Below nb w w' → T0 w → T0 w') (hjoin : JoinOk) {k n : Int} {ks : List Tm} (hw : WrK T0 k n ks) {X : List Nat} {base m : Nat} {e : TypeId} {lv : Value} {ps : List Value} (w0 : World) (hnb : nb ≤ w0.heap.size) (hw0 : T0 w0)
    (hown : Own w0 base e 1 lv m ps) (hm : m = ks.length) (hks : IsNs w0 X ks ps) :
    Calls Tryd.prog 83 (List.toArray [.int .i64 k, .int .i64 n, lv]) w0 (Ret fun v w' => v = .string (bs (txt (.mk k n ks))) ∧ Gr w0 w') := by
  subst hm
  have h0 : IsNs w0 [] ks ps := IsNs.mv (Ch.refl [] w0) (by simp) (by simp) ks ps hks
  rcases hown.at with ⟨rfl, h1, h2⟩ | ⟨b, cap, rfl, _, hat⟩
  · have h3 : ks = [] := List.eq_nil_of_length_eq_zero h1
    subst h3
    exact written_calls hT hjoin hw (ad := none) (cap := 0) w0 hnb hw0 (by simp) h0
  · exact written_calls hT hjoin hw (ad := some ⟨b, 0, none⟩) (cap := cap) w0 hnb hw0 (fun _ => ⟨b, 0, rfl, by simp, hat⟩) h0
theorem IsN.mk' {w : World} {X : List Nat} {b base : Nat} {k nm n0 : Int} {ks : List Tm} {lv : Value} {ps : List Value} {e t : TypeId} {f : Nat × Nat} (hb : b ∉ X) (hat : w.heap[b]? = some (.cells #[.int .i64 k, .int .i64 n0, lv, .string (bs (txt (.mk k n0 (ks.map nrm))))] t f))
    (hn : n0 = if k = 1 then nm else 0) (hown : Own w base e 1 lv ks.length ps) (hlo : ∀ y, y ∈ oblk lv → y ∉ X) (hns : IsNs w X (ks.map nrm) ps) : IsN w X (nrm (.mk k nm ks)) (.pointer (some ⟨b, 0, none⟩)) := by
  simp only [nrm, nrmL_map, ← hn, IsN]
  refine ⟨b, lv, ps, rfl, hb, At.of_blk hat, ?_, hns⟩
  simp only [List.length_map]
  have hl := hown.lt
  rcases hown.at with ⟨h1, h2, h3⟩ | ⟨g, cap, rfl, _, ha⟩
  · exact .inl ⟨.inl h1, h2, h3⟩
  · exact .inr ⟨g, 0, cap, rfl, hlo g (by simp [oblk]), (hl g (by simp [oblk])).2, ha⟩
end Go.Mi.Term
