/- 'missivelaw18.SymbolClean': the law returns true for every input, the tables of numerals laid as the program's text lays them (tied). No other conditions. -/
import Derived.Test.YtoefhjabaanokaaDoorY29
import Derived.Test.YtoefhjabaanokaaDoorF3
import Derived.Test.YtoefhjabaanokaaDoorTie
import Derived.Test.YtoefhjabaanokaaDoorCards
import Derived.WalkKit
import Derived.ProofKit
import Derived.Handy
import Derived.Lay
import Derived.OpenShut
import Derived.SevenTiedAt
set_option linter.unusedSimpArgs false
set_option linter.unusedVariables false
set_option linter.unnecessarySimpa false
namespace Go.Proofs.YtoefhjabaanokaaDoor.symbolClean
open Go.ChangeShapes Go.WideShapes Go.ChangeAt Go.RowKit
open Go.Mi Go.Mi.Term
set_option linter.unusedVariables false
theorem laidOut : laidOutB Tryd.prog = true := by kernel_rfl
theorem own : ownKnob Tryd.prog.godebug = none := by kernel_rfl
theorem tabs {W : World} (h : laidMetH Tryd.prog Rows.symbolCleanRow.laid W) : T0 W :=
 T0.of_laid (a := ("math/bits.deBruijn32tab", Rows.laid_math_bits_deBruijn32tab)) (b := ("math/bits.deBruijn64tab", Rows.laid_math_bits_deBruijn64tab)) h (by rw [MakeChecks.laidMetH_plain _ _ _ (by kernel_rfl)])
set_option maxRecDepth 100000 in
theorem lifted (os : Os) (started : os.Started) (H : Type) (enc : TypeId × Value → H) :
  ReturnsInHanded {} Tryd.checked os 12 .any (fun w args => (Rows.symbolCleanSpec.pre enc Tryd.prog Tryd.f12 [] false w args ∧ laidMetH Tryd.prog Rows.symbolCleanRow.laid w) ∧ sizedMet enc Tryd.prog Tryd.f12 (OpenSpec.ofChange Rows.symbolCleanSpec) false w args)
   (Rows.symbolCleanSpec.post enc Tryd.prog Tryd.f12 false true false false) := by
 refine returnsInHanded_of_change_and (C := Tryd.checked) (X := fun w _ => laidMetH Tryd.prog Rows.symbolCleanRow.laid w) (fun _ _ _ hh h => h.of_heap hh) own started (by kernel_rfl) Tryd.func12
  (ChangeSpec.witness_shaped (enc := enc) (C := Tryd.checked) (os := os) (X := fun w _ => laidMetH Tryd.prog Rows.symbolCleanRow.laid w) false (World.laidAll Tryd.prog os Rows.symbolCleanRow.laid) #[.bool false, .slice none 0 0] 8 (World.laidAll_os _ _ _)
   (World.shaped_of_ZipB (by kernel_rfl) (by kernel_rfl)) (by kernel_rfl) (by kernel_rfl) (by kernel_rfl)
   (by rw [MakeChecks.laidMetH_plain _ _ _ (by kernel_rfl)]; exact laidMet_laidAll _ (by kernel_rfl) (by kernel_rfl))) ?_
 intro W f args ds gs before b hW _ _ hL _
 have a : ∀ (j : Nat) t v, Tryd.f12.params[j]? = some t → args[j]? = some v → Value.okWide Tryd.prog W .any f t v := b
 have d := hW
 obtain ⟨p, q, c, hV, rfl, hfz, hnd⟩ := hW
 have hA : DataW.TrodAll enc Tryd.prog W 0 (fun _ => true) true Tryd.f12.params.toList args.toList ds p := c
 rw [Tryd.params12] at hA a
 obtain ⟨v0, vs0, d0, ds0, p0, q0, hargs, rfl, rfl, h0, r0⟩ := trodAll_cons hA
 obtain ⟨v1, vs1, d1, ds1, p1, q1, rfl, rfl, rfl, h1, r1⟩ := trodAll_cons r0
 obtain ⟨rfl, rfl, rfl⟩ := trodAll_nil r1
 obtain rfl : args = #[v0, v1] := by cases args; simp_all
 obtain ⟨rfl, rfl⟩ := trodVars_none hV
 obtain ⟨a0, rfl, rfl, rfl⟩ := open_bool Tryd.underlying4 (a 0 4 v0 rfl rfl) h0
 obtain ⟨a1, len1, cap1, rfl⟩ := okWide_slice Tryd.underlying51 (a 1 51 v1 rfl rfl)
 have k1 := h1
 have g : ∀ x ∈ p1, x.block < W.heap.size := by obtain ⟨m, hm⟩ := k1; exact DataW.trod_lt m _ _ _ hm
 obtain ⟨l1, x1⟩ := oX h1 rfl
 clear c b
 simp only [List.append_nil] at d
 refine (nI W (tabs hL) x1).mono fun e W' ⟨v, he, hv, hg⟩ => ?_
 subst he hv
 exact ⟨_, rfl, _, _, _, [], _, [], d, trodAll_mk1 (shut_bool Tryd.underlying4 _), (trodAll_cons_mk (shut_bool Tryd.underlying4 _) (trodAll_cons_mk (Below.trod laidOut (by kernel_rfl) (of_decide_eq_true (by kernel_rfl)) k1 hg g) trodAll_mk0)), rfl, hg.frame _, fun h => by cases h⟩
theorem over : Rows.SymbolCleanSaid :=
 OpenClaim.holds_of_wide 12 Tryd.f12 rfl rfl rfl rfl rfl rfl rfl ⟨rfl, rfl, rfl, rfl, rfl⟩ rfl rfl rfl rfl rfl (by kernel_rfl) Tryd.func12 (by kernel_rfl)
  (of_decide_eq_true (by kernel_rfl)) (by unfold Func.isWrapper; first | (rw [if_pos (by decide +kernel)]; kernel_rfl) | (rw [if_neg (by decide +kernel)]; exact ⟨rfl, rfl⟩))
  (fun os started H enc _ => lifted os started H enc)
theorem proved : Rows.SymbolCleanCardSaid :=
 Claim7.holds_tied_plain_at .later [] [.data, .data, .data] true (true, "55fd016c42503bf1be4062d5e21427a93878c87667ff21400da54f0a0321f930") true over (fun _ h => by cases h) (by kernel_rfl) (fun _ h => by cases h) symbolClean_row_tie rfl ⟨rfl, rfl⟩ (by kernel_rfl) rfl
  (fun f fn hf hfn => by
   obtain rfl : f = 12 := Option.some.inj ((show Tryd.prog.funcNamed "missive/missivelaw18.SymbolClean" = some 12 by kernel_rfl).symm.trans hf) |>.symm
   obtain rfl : fn = Tryd.f12 := (Option.some.inj (Tryd.func12.symm.trans hfn)).symm
   exact ⟨by kernel_rfl, fun j t ht => by
    rw [Tryd.params12] at ht
    have hm : t ∈ [4, 51] := by have := Array.mem_of_getElem? ht; simp at this ⊢; first | omega | (rcases this with rfl | rfl <;> simp) | (rcases this with rfl | rfl | rfl <;> simp) | (rcases this with rfl | rfl | rfl | rfl <;> simp)
    have hall : ([4, 51].all fun u => !Tryd.prog.wantsStandIn u) = true := by kernel_rfl
    exact (show Tryd.prog.wantsStandIn t = false by simpa using List.all_eq_true.1 hall t hm)⟩)
  (by kernel_rfl)
end Go.Proofs.YtoefhjabaanokaaDoor.symbolClean
