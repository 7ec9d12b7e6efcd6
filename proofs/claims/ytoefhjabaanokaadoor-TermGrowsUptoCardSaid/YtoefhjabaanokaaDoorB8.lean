/- Texts that belong together: F0, H12, H13, H14, V1. General lemmas and walks; no conditions. -/
import Derived.Test.YtoefhjabaanokaaDoorRows
import Derived.Test.YtoefhjabaanokaaDoorB5
import Derived.Test.YtoefhjabaanokaaDoorK1
import Derived.Test.YtoefhjabaanokaaDoorB7
import Derived.Lib.LaidTab
import Derived.Handy
import Derived.KernelRfl
import Derived.ArgAppend
set_option linter.unusedSimpArgs false
set_option linter.unusedVariables false
set_option linter.unnecessarySimpa false
namespace Go.Mi.Term
open Go.Mi Go.Proofs Go.RowKit
def T0 (w : World) : Prop := Lib.TabIs Tryd.prog w "internal/strconv.uint64pow10" .u64 Lib.pow10Tab
theorem gPow : Tryd.prog.globalNamed "internal/strconv.uint64pow10" = some 0 := by kernel_rfl
theorem hT0 : ∀ w w' : World, Below 1 w w' → T0 w → T0 w' := by
  intro w w' h h0
  unfold T0 Lib.TabIs World.var? at h0 ⊢
  rw [gPow] at h0 ⊢
  simp only [Option.bind_some] at h0 ⊢
  rw [h.block 0 (by omega)]
  exact h0
theorem T0.size {w : World} (h : T0 w) : 1 ≤ w.heap.size := by
  unfold T0 Lib.TabIs World.var? at h
  rw [gPow] at h
  simp only [Option.bind_some] at h
  rcases Nat.eq_zero_or_pos w.heap.size with h0 | h0
  · rw [Array.getElem?_eq_none (by omega)] at h; cases h
  · exact h0
theorem itAll : ItAll T0 := by
  intro n h0 h1
  refine ⟨fun w hw => ?_, ?_⟩
  · refine (Tryd.strconv_Itoa n (by omega) (by omega) w hw).mono fun e w' ⟨he, k, os, hw'⟩ => ⟨_, he, rfl, ?_⟩
    subst hw'
    refine ⟨rfl, rfl, rfl, by simp [«Sort».grow, World.drewN], fun b hb => ?_⟩
    simp only [«Sort».grow, World.drewN]
    rw [Array.getElem?_append_left hb]
  · rw [Lib.itoa, if_neg (by omega)]
    have := dec_len 9 n.toNat (by omega)
    omega
/-- what is known of terms, as it is told, in a world that bears the table -/
theorem Knows_at {W : Wd} {known : List Tm} {t : Tm} {k nm : Int} {ad ad2 : Option Addr} {cap l2 cap2 : Nat} {xs : List Value} (w0 : World) (hw0 : T0 w0) (hkl : known.length ≤ 100000000)
    (hsl : 0 < known.length → ∃ b o, ad = some ⟨b, o, none⟩ ∧ b ∉ ([] : List Nat) ∧ At w0 b o xs) (hks : IsTs w0 [] known xs) (ht : IsT w0 [] t [.int .i64 k, .int .i64 nm, .slice ad2 l2 cap2]) :
    ∃ b : Bool, (b = true ↔ may t = true ∧ Der W (Kn known) (nrm t)) ∧ Calls Tryd.prog 19 (List.toArray [.agg #[.bool W.dh, .bool W.kem], .slice ad known.length cap, .agg #[.int .i64 k, .int .i64 nm, .slice ad2 l2 cap2]]) w0 (Ret fun v w' => v = .bool b ∧ Gr w0 w') :=
  Knows_law hT0 joinOk cloneOk itAll w0 hw0.size hw0 hkl hsl hks ht
theorem Knows_ev {W : Wd} {f g : Nat} {known : List Tm} {t : Tm} {b : Bool} (hkn : knows W f g known t = some b) {k nm : Int} {ad ad2 : Option Addr} {cap l2 cap2 : Nat} {xs : List Value} (w0 : World) (hw0 : T0 w0) (hkl : known.length ≤ 100000000)
    (hsl : 0 < known.length → ∃ b o, ad = some ⟨b, o, none⟩ ∧ b ∉ ([] : List Nat) ∧ At w0 b o xs) (hks : IsTs w0 [] known xs) (ht : IsT w0 [] t [.int .i64 k, .int .i64 nm, .slice ad2 l2 cap2]) :
    Calls Tryd.prog 19 (List.toArray [.agg #[.bool W.dh, .bool W.kem], .slice ad known.length cap, .agg #[.int .i64 k, .int .i64 nm, .slice ad2 l2 cap2]]) w0 (Ret fun v w' => v = .bool b ∧ Gr w0 w') :=
  Knows_calls hT0 joinOk cloneOk hkn w0 hw0.size hw0 (by omega) (fun r hr => by have := opens_len hr; have := univ_len known; omega) (fun t _ hm => may_wr itAll hm) (first_fit _ _ (by simp [AllFit])) (fun hm => may_wr itAll hm) (fun hm => may_fit hm) hsl hks ht
theorem Text_at {t : Tm} {k nm : Int} {ad2 : Option Addr} {l2 cap2 : Nat} (w0 : World) (hw0 : T0 w0) (ht : IsT w0 [] t [.int .i64 k, .int .i64 nm, .slice ad2 l2 cap2]) : Calls Tryd.prog 41 (List.toArray [.agg #[.int .i64 k, .int .i64 nm, .slice ad2 l2 cap2]]) w0 (Ret fun v w' => v = .string (bs (if may t then txt t else [])) ∧ Gr w0 w') :=
  Text_calls hT0 joinOk w0 hw0.size hw0 (fun hm => may_wr itAll hm) ht
set_option maxRecDepth 100000 in
/-- what the rows condition gives -/
theorem T0.of_laid {W : World} {a b : String × DataW Unit} (h : laidMetH Tryd.prog [a, b, ("internal/strconv.uint64pow10", Lib.tabData .u64 Lib.pow10Tab)] W) (hp : laidMetH Tryd.prog [a, b, ("internal/strconv.uint64pow10", Lib.tabData .u64 Lib.pow10Tab)] W = laidMet Tryd.prog [a, b, ("internal/strconv.uint64pow10", Lib.tabData .u64 Lib.pow10Tab)] W) : T0 W := by
  rw [hp] at h
  obtain ⟨ps, ⟨g0, t0, cs0, f0, p0, q0, hg0, ht0, hv0, hd0, ⟨g1, t1, cs1, f1, p1, q1, hg1, ht1, hv1, hd1, ⟨g2, t2, cs2, f2, p2, q2, hg2, ht2, hv2, hd2, _⟩, _⟩, _⟩, _⟩ := h
  obtain rfl := Option.some.inj (gPow.symm.trans hg2)
  obtain rfl := Option.some.inj ((show (Tryd.prog.globals[0]?).map (·.type) = some 162 by kernel_rfl).symm.trans ht2)
  unfold T0 Lib.TabIs
  rw [hv2, ← Lib.cells_of_tab Tryd.underlying162 Tryd.underlying152 (by kernel_rfl) (by kernel_rfl) hd2]
end Go.Mi.Term
namespace Go.Mi
open Go.RowKit
/-- what an operation leaves that is done just where a bool says so -/
def gsel (x : Value) (b : Bool) (v : Value) : Value := bif vb x == some b then v else undef
def psel (c x y : Value) : Value := bif vb c == some true then x else y
theorem RV.cellC {P : Program} {a : Act} {n : Nat} {L : List (Nat × Value)} {w : World} {x : Tmp} {t : TypeId} {d : TypeDesc} {b o m : Nat} {vs : List Value} (ht : P.underlying t = some d) (hf : TypeDesc.flat d = false) (hs : (P.info? t).map (·.size) = some m) (hF : Frm a n L) (hx : lk L x = some (.pointer (some ⟨b, o, none⟩)))
    (hb : At w b o vs) (hl : vs.length = m) : RV P a w (.cell x t) (.agg vs.toArray) := by
  have hx' := hF.get x _ hx
  obtain ⟨inf, hi, hz⟩ := Option.map_eq_some_iff.1 hs
  have hag : (isAgg t).run P w = .ok true w := by
    simp only [isAgg, Sem.run_bind, run_underlying' ht, Result.andThen_ok]
    cases d <;> simp_all [TypeDesc.flat]
  have hr := run_loadCells_list (P := P) w ⟨b, o, none⟩ vs (fun j v hj => by rw [add_none]; exact hb j v hj)
  subst hl
  simp only [RV, rv, hx', asAddr, loadVar, Sem.run_bind, Sem.run_pure, Result.andThen_ok, hag]
  simp [sizeOf, typeInfo, hi, hz, hr]
section
variable {P : Program} {n : Nat} {L : List (Nat × Value)} {w : World} {ds : Option Nat} {ty : TypeId} {pos : String} {af : Array Edge} {gu : Option (Nat × Bool)}
/-- a slice without elements that is written out -/
theorem ok_buildSlice0 {t e : TypeId} {m : Nat} (hT : P.underlying t = some (.slice e)) (hs : (P.info? e).map (·.size) = some m) :
    Ok1 P ⟨ds, .buildSlice t 0 #[], ty, pos, af, gu⟩ n L w fun v' w' => ∃ b, v' = .slice (some ⟨b, 0, none⟩) 0 0 ∧ NewB w w' b #[] e := by
  obtain ⟨inf, hi, hz⟩ := Option.map_eq_some_iff.1 hs
  have hd : Det P ⟨ds, .buildSlice t 0 #[], ty, pos, af, gu⟩ n L w (.slice (some ⟨w.heap.size, 0, none⟩) 0 0) (w.alloc (.cells #[] e)) := Det.of_run fun a hF => by
    have hz0 : Array.range 0 = #[] := by apply Array.ext'; simp
    simp [execOp, Instr.buildSlice, run_underlying' hT, sizeOf, typeInfo, hi, Instr.fill, newRow, hz0]
  exact hd.mono fun v' w' ⟨h1, h2⟩ => ⟨_, h1, rfl, h2⟩
/-- append of some elements of several cells -/
theorem ok_appendm {s x : Operand} {t e : TypeId} {z : Value} {base m bytes n' k c b o : Nat} {v : Value} {xs news : List Value} (ht : P.underlying t = some (.slice e)) (hi : (P.info? e).map (fun i => (i.size, i.bytes, i.zero)) = some (m, bytes, some z))
    (hzs : z.cells.size = m) (hm0 : 0 < m) (hs : ev L s = some v) (hx : ev L x = some (.slice (some ⟨b, o, none⟩) k c)) (hown : Own w base e m v n' xs)
    (hl : news.length = k * m) (hn : At w b o news) (h1 : ∀ u ∈ news, u.oneCell' = true) (hby : (n' + k) * bytes ≤ 140737488355328) (h63 : n' + k ≤ maxLen) (hbase : base ≤ w.heap.size) :
    Ok1 P ⟨ds, .call ⟨.builtin .append, #[s, x], #[t, t]⟩, ty, pos, af, gu⟩ n L w fun v' w' => Own w' base e m v' (n' + k) (xs ++ news) ∧ Ch (oblk v) w w' ∧ (oblk v' = oblk v ∨ oblk v' = [w.heap.size]) := by
  obtain ⟨inf, hi1, hz⟩ := Option.map_eq_some_iff.1 hi
  simp only [Prod.mk.injEq] at hz
  exact ok_append ht hi1 hz.2.2 hz.1 hz.2.1 hzs hm0 hs hx hown hl hn h1 h63 hby hbase
/-- append of nothing -/
theorem d_append0 {s x : Operand} {t e : TypeId} {m : Nat} {v : Value} {base n' : Nat} {xs : List Value} (ht : P.underlying t = some (.slice e)) (hz : (P.info? e).map (·.size) = some m) (hs : ev L s = some v) (hx : ev L x = some (.slice none 0 0)) (hown : Own w base e m v n' xs) :
    Det P ⟨ds, .call ⟨.builtin .append, #[s, x], #[t, t]⟩, ty, pos, af, gu⟩ n L w v w :=
  Det.of_run fun a hF => by
    obtain ⟨inf, hi, hzz⟩ := Option.map_eq_some_iff.1 hz
    have hr : (Builtin.append_ #[t, t] ty #[v, .slice none 0 0]).run P w = .ok v w := by
      rcases hown.at with ⟨rfl, _⟩ | ⟨b, cap, rfl, hc, _⟩
      · simp [Builtin.append_, run_underlying ht, sizeOf, typeInfo, hi, Builtin.lenOf, Builtin.firstCells, loadCells, loadCellsFrom]
      · simp [Builtin.append_, run_underlying ht, sizeOf, typeInfo, hi, Builtin.lenOf, Builtin.firstCells, loadCells, loadCellsFrom, hc, storeCells]
    simp [execOp, hF.eval hs, hF.eval hx, resolve, invoke, builtin, hr]
end
end Go.Mi
namespace Go.Mi.Term
open Go.Mi Go.Proofs Go.RowKit
theorem own_fresh {w : World} {base b n m : Nat} {vs : List Value} {e : TypeId} (hb : w.heap[b]? = some (.cells vs.toArray e (0, 0))) (hl : vs.length = n * m) (hn : n ≤ maxLen) (h : base ≤ b) : Own w base e m (.slice (some ⟨b, 0, none⟩) n n) n vs := by
  refine ⟨hl, .inr ⟨b, n, vs.toArray, rfl, h, hb, Nat.le_refl _, hn, by simpa using hl, ?_⟩⟩
  rw [List.take_of_length_le (by simp [hl])]
theorem IsT.sub {w : World} {X X' : List Nat} {t : Tm} {vs : List Value} (h : IsT w X t vs) (hx : ∀ x, x ∈ X' → x ∈ X) : IsT w X' t vs := IsT.mv (Ch.refl [] w) (by simp) (fun x hm => .inl (hx x hm)) t vs h
theorem IsTs.sub {w : World} {X X' : List Nat} {t : List Tm} {vs : List Value} (h : IsTs w X t vs) (hx : ∀ x, x ∈ X' → x ∈ X) : IsTs w X' t vs := IsTs.mv (Ch.refl [] w) (by simp) (fun x hm => .inl (hx x hm)) t vs h
theorem IsTs.one {w : World} {X : List Nat} {t : Tm} {vs : List Value} (h : IsT w X t vs) : IsTs w X [t] vs := by
  simp only [IsTs]
  exact ⟨vs, [], by simp, h, rfl⟩
theorem IsTs.two {w : World} {X : List Nat} {a b : Tm} {us vs : List Value} (h : IsT w X a us) (k : IsT w X b vs) : IsTs w X [a, b] (us ++ vs) := by
  simp only [IsTs]
  exact ⟨us, vs, rfl, h, vs, [], by simp, k, rfl⟩
theorem isT_atom (w : World) (X : List Nat) (n : Int) : IsT w X (.mk 1 n []) [.int .i64 1, .int .i64 n, .slice none 0 0] := by
  simp only [IsT, IsTs]
  exact ⟨_, [], rfl, .inl ⟨.inl rfl, rfl, rfl⟩, rfl⟩
theorem isT_mk {w : World} {X : List Nat} {k : Int} {ks : List Tm} {b l : Nat} {xs : List Value} (hl : l = ks.length) (hb : b ∉ X) (hlt : b < w.heap.size) (ha : At w b 0 xs) (hk : IsTs w X ks xs) : IsT w X (.mk k 0 ks) [.int .i64 k, .int .i64 0, .slice (some ⟨b, 0, none⟩) l l] := by
  subst hl
  simp only [IsT]
  exact ⟨_, xs, rfl, .inr ⟨b, 0, _, rfl, hb, hlt, ha⟩, hk⟩
theorem IsT.cells1 {w : World} {X : List Nat} {t : Tm} {vs : List Value} (h : IsT w X t vs) : ∀ u ∈ vs, u.oneCell' = true := by
  cases t
  simp only [IsT] at h
  obtain ⟨sl, xs, rfl, h1, _⟩ := h
  intro u hu
  simp at hu
  rcases hu with rfl | rfl | rfl
  · rfl
  · rfl
  · rcases h1 with ⟨rfl | ⟨a, cap, rfl⟩, _⟩ | ⟨b, o, cap, rfl, _⟩ <;> rfl
/-- Knows, of a list that the call owns -/
theorem Knows_own {W : Wd} {f g : Nat} {known : List Tm} {t : Tm} {b : Bool} (hkn : knows W f g known t = some b) {base : Nat} {X X' : List Nat} {lv : Value} {xs : List Value} {k nm : Int} {ad2 : Option Addr} {l2 cap2 : Nat} (w0 : World) (hw0 : T0 w0) (hkl : known.length ≤ 100000000)
    (hown : Own w0 base 26 3 lv known.length xs) (hks : IsTs w0 X known xs) (ht : IsT w0 X' t [.int .i64 k, .int .i64 nm, .slice ad2 l2 cap2]) :
    Calls Tryd.prog 19 (List.toArray [.agg #[.bool W.dh, .bool W.kem], lv, .agg #[.int .i64 k, .int .i64 nm, .slice ad2 l2 cap2]]) w0 (Ret fun v w' => v = .bool b ∧ Gr w0 w') := by
  rcases hown.at with ⟨rfl, h1, h2⟩ | ⟨b', cap, rfl, _, ha⟩
  · have : known = [] := List.eq_nil_of_length_eq_zero h1
    subst this
    exact Knows_ev hkn (ad := none) (cap := 0) w0 hw0 hkl (by simp) (hks.sub (by simp)) (ht.sub (by simp))
  · exact Knows_ev hkn (ad := some ⟨b', 0, none⟩) (cap := cap) w0 hw0 hkl (fun _ => ⟨b', 0, rfl, by simp, ha⟩) (hks.sub (by simp)) (ht.sub (by simp))
theorem Knows_at_own {W : Wd} {known : List Tm} {t : Tm} {base : Nat} {X X' : List Nat} {lv : Value} {xs : List Value} {k nm : Int} {ad2 : Option Addr} {l2 cap2 : Nat} (w0 : World) (hw0 : T0 w0) (hkl : known.length ≤ 100000000)
    (hown : Own w0 base 26 3 lv known.length xs) (hks : IsTs w0 X known xs) (ht : IsT w0 X' t [.int .i64 k, .int .i64 nm, .slice ad2 l2 cap2]) :
    ∃ b : Bool, (b = true ↔ may t = true ∧ Der W (Kn known) (nrm t)) ∧ Calls Tryd.prog 19 (List.toArray [.agg #[.bool W.dh, .bool W.kem], lv, .agg #[.int .i64 k, .int .i64 nm, .slice ad2 l2 cap2]]) w0 (Ret fun v w' => v = .bool b ∧ Gr w0 w') := by
  obtain ⟨f, g, b, h1, h2, _⟩ := knows_all W known t
  exact ⟨b, h2, Knows_own h1 w0 hw0 hkl hown hks ht⟩
/-- Knows, of a list that was written out -/
theorem Knows_sl {W : Wd} {f g : Nat} {known : List Tm} {t : Tm} {b : Bool} (hkn : knows W f g known t = some b) {X X' : List Nat} {g1 o cap l : Nat} {xs : List Value} {k nm : Int} {ad2 : Option Addr} {l2 cap2 : Nat} (w0 : World) (hw0 : T0 w0) (hl : l = known.length) (hkl : known.length ≤ 100000000)
    (hat : At w0 g1 o xs) (hks : IsTs w0 X known xs) (ht : IsT w0 X' t [.int .i64 k, .int .i64 nm, .slice ad2 l2 cap2]) :
    Calls Tryd.prog 19 (List.toArray [.agg #[.bool W.dh, .bool W.kem], .slice (some ⟨g1, o, none⟩) l cap, .agg #[.int .i64 k, .int .i64 nm, .slice ad2 l2 cap2]]) w0 (Ret fun v w' => v = .bool b ∧ Gr w0 w') := by
  subst hl
  exact Knows_ev hkn w0 hw0 hkl (fun _ => ⟨g1, o, rfl, by simp, hat⟩) (hks.sub (by simp)) (ht.sub (by simp))
end Go.Mi.Term
namespace Go.Mi.Term
open Go.Mi Go.Proofs Go.RowKit
section
variable {P : Program} {n : Nat} {L : List (Nat × Value)} {w : World} {ds : Option Nat} {ty : TypeId} {pos : String} {af : Array Edge} {gu : Option (Nat × Bool)}
/-- append of all of another list -/
theorem ok_appendOwn {s x : Operand} {t e : TypeId} {z : Value} {base base2 m bytes n' k : Nat} {v lv : Value} {xs news : List Value} (ht : P.underlying t = some (.slice e)) (hi : (P.info? e).map (fun i => (i.size, i.bytes, i.zero)) = some (m, bytes, some z))
    (hzs : z.cells.size = m) (hm0 : 0 < m) (hs : ev L s = some v) (hx : ev L x = some lv) (hown : Own w base e m v n' xs) (hown2 : Own w base2 e m lv k news)
    (h1 : ∀ u ∈ news, u.oneCell' = true) (hby : (n' + k) * bytes ≤ 140737488355328) (h63 : n' + k ≤ maxLen) (hbase : base ≤ w.heap.size) :
    Ok1 P ⟨ds, .call ⟨.builtin .append, #[s, x], #[t, t]⟩, ty, pos, af, gu⟩ n L w fun v' w' => Own w' base e m v' (n' + k) (xs ++ news) ∧ Ch (oblk v) w w' ∧ (oblk v' = oblk v ∨ oblk v' = [w.heap.size]) := by
  rcases hown2.at with ⟨rfl, rfl, rfl⟩ | ⟨b, cap, rfl, hc, ha⟩
  · have hi' : (P.info? e).map (·.size) = some m := by
      obtain ⟨inf, h1, h2⟩ := Option.map_eq_some_iff.1 hi
      simp only [Prod.mk.injEq] at h2
      rw [h1]; simp [h2.1]
    exact (d_append0 ht hi' hs hx hown).mono fun v' w' ⟨e1, e2⟩ => by subst e1; subst e2; exact ⟨by simpa using hown, Ch.refl _ _, .inl rfl⟩
  · exact ok_appendm ht hi hzs hm0 hs hx hown (by have := hown2.1; omega) ha h1 hby h63 hbase
end
theorem IsTs.cells1 {w : World} {X : List Nat} : ∀ {ts : List Tm} {xs : List Value}, IsTs w X ts xs → ∀ u ∈ xs, u.oneCell' = true
  | [], _, h => by simp only [IsTs] at h; subst h; simp
  | t :: ts, _, h => by
    simp only [IsTs] at h
    obtain ⟨a, r, rfl, h2, h3⟩ := h
    intro u hu
    rcases List.mem_append.1 hu with hu | hu
    · exact h2.cells1 u hu
    · exact IsTs.cells1 h3 u hu
end Go.Mi.Term
namespace Go.Mi
open Go.RowKit
section
variable {P : Program} {n : Nat} {L : List (Nat × Value)} {w : World} {ds : Option Nat} {ty : TypeId} {pos : String} {af : Array Edge} {gu : Option (Nat × Bool)}
theorem Ch.of_grown {w w' : World} (h : w.grownBy w' none) : Ch [] w w' := ⟨h.os, h.tape, h.output, h.size, fun g hg _ => h.block g hg (by simp)⟩
/-- append of all of another list to an empty one without room: nothing of before is changed -/
theorem ok_append00g {s x : Operand} {t e : TypeId} {z : Value} {base m bytes k b : Nat} {lv : Value} {news : List Value} (ht : P.underlying t = some (.slice e)) (hi : (P.info? e).map (fun i => (i.size, i.bytes, i.zero)) = some (m, bytes, some z))
    (hzs : z.cells.size = m) (hm0 : 0 < m) (hs : ev L s = some (.slice (some ⟨b, 0, none⟩) 0 0)) (hx : ev L x = some lv) (hb : w.heap[b]? = some (.cells #[] e (0, 0))) (hbb : base ≤ b) (hl : news.length = k * m)
    (hsrc : (lv = .slice none 0 0 ∧ k = 0 ∧ news = []) ∨ ∃ a cap, lv = .slice (some a) k cap ∧ ∀ j u, news[j]? = some u → w.cell? (a.add j) = some u)
    (h1 : ∀ u ∈ news, u.oneCell' = true) (hby : k * bytes ≤ 140737488355328) (h63 : k ≤ maxLen) (hbase : base ≤ w.heap.size) :
    Ok1 P ⟨ds, .call ⟨.builtin .append, #[s, x], #[t, t]⟩, ty, pos, af, gu⟩ n L w fun v' w' => Own w' base e m v' k news ∧ Ch [] w w' ∧ (oblk v' = [b] ∨ oblk v' = [w.heap.size]) := by
  have hown : Own w base e m (.slice (some ⟨b, 0, none⟩) 0 0) 0 [] := ⟨by simp, .inr ⟨b, 0, #[], rfl, hbb, hb, Nat.le_refl _, by simp, by simp, by simp⟩⟩
  obtain ⟨inf, hi1, hz⟩ := Option.map_eq_some_iff.1 hi
  simp only [Prod.mk.injEq] at hz
  rcases hsrc with ⟨rfl, rfl, rfl⟩ | ⟨a2, cap, rfl, hat⟩
  · have hi' : (P.info? e).map (·.size) = some m := by rw [hi1]; simp [hz.1]
    exact (d_append0 ht hi' hs hx hown).mono fun v' w' ⟨e1, e2⟩ => by subst e1; subst e2; exact ⟨by simpa using hown, Ch.refl _ _, .inl rfl⟩
  · obtain ⟨v', w', hr, h2, _, _, h5⟩ := run_append_own_at (P := P) w base t ty e inf z m bytes ht hi1 hz.2.2 hz.1 hz.2.1 hzs hm0 _ 0 [] hown a2 k cap news hl hat h1 (by omega) (by rw [Nat.zero_add]; exact hby) hbase
    have hch : Ch [] w w' := by
      rcases Nat.eq_zero_or_pos k with hk | hk
      · subst hk
        have hn : news = [] := List.eq_nil_of_length_eq_zero (by omega)
        subst hn
        have hr2 := run_append_room_cells (P := P) w t ty e inf ht hi1 b 0 0 0 a2 0 cap [] (by simp) (by simp) (by simp) (by omega) (by simp) (by simp)
        rw [hr2] at hr
        injection hr with e1 e2
        rw [← e2]
        exact Ch.refl _ _
      · obtain ⟨v2, w2, hr2, _, hg⟩ := run_append_arg_grows (P := P) w t ty e inf z m bytes ht hi1 hz.2.2 hz.1 hz.2.1 hzs hm0 ⟨b, 0, none⟩ 0 0 [] (by simp) (by simp) a2 k cap news hl hat (by omega) (by omega) (by rw [Nat.zero_add]; exact hby)
        rw [hr2] at hr
        injection hr with e1 e2
        rw [← e2]
        exact Ch.of_grown hg
    have hd : Det P ⟨ds, .call ⟨.builtin .append, #[s, x], #[t, t]⟩, ty, pos, af, gu⟩ n L w v' w' := Det.of_run fun a hF => by
      simp [execOp, hF.eval hs, hF.eval hx, resolve, invoke, builtin, hr]
    refine hd.mono fun v'' w'' ⟨q1, q2⟩ => ?_
    subst q1; subst q2
    refine ⟨by simpa using h2, hch, ?_⟩
    have ob : ∀ g, v''.ownBlock = some g → oblk v'' = [g] := by
      intro g
      cases v'' with
      | slice a _ _ => cases a <;> simp [Value.ownBlock, oblk]
      | _ => simp [Value.ownBlock]
    rcases h5 with h5 | h5
    · exact .inl (ob _ h5)
    · exact .inr (ob _ h5)
theorem ok_append00 {s x : Operand} {t e : TypeId} {z : Value} {base base2 m bytes k b : Nat} {lv : Value} {news : List Value} (ht : P.underlying t = some (.slice e)) (hi : (P.info? e).map (fun i => (i.size, i.bytes, i.zero)) = some (m, bytes, some z))
    (hzs : z.cells.size = m) (hm0 : 0 < m) (hs : ev L s = some (.slice (some ⟨b, 0, none⟩) 0 0)) (hx : ev L x = some lv) (hb : w.heap[b]? = some (.cells #[] e (0, 0))) (hbb : base ≤ b) (hown2 : Own w base2 e m lv k news)
    (h1 : ∀ u ∈ news, u.oneCell' = true) (hby : k * bytes ≤ 140737488355328) (h63 : k ≤ maxLen) (hbase : base ≤ w.heap.size) :
    Ok1 P ⟨ds, .call ⟨.builtin .append, #[s, x], #[t, t]⟩, ty, pos, af, gu⟩ n L w fun v' w' => Own w' base e m v' k news ∧ Ch [] w w' ∧ (oblk v' = [b] ∨ oblk v' = [w.heap.size]) :=
  ok_append00g ht hi hzs hm0 hs hx hb hbb hown2.1 (by
    rcases hown2.at with h | ⟨b2, cap, h, _, ha⟩
    · exact .inl h
    · exact .inr ⟨_, cap, h, fun j u hu => by rw [add_none]; exact ha j u hu⟩) h1 hby h63 hbase
end
end Go.Mi
namespace Go.Mi.Term
open Go.Mi Go.Proofs Go.RowKit
section
variable {w : World} {base e : Nat} {v : Value}
theorem own_some {n m : Nat} {xs : List Value} (h : Own w base e m v n xs) (hn : 0 < n) : ∃ b cap, v = .slice (some ⟨b, 0, none⟩) n cap ∧ n ≤ cap ∧ At w b 0 xs ∧ base ≤ b ∧ b < w.heap.size := by
  rcases h.at with ⟨_, h0, _⟩ | ⟨b, cap, rfl, h1, h2⟩
  · omega
  · have := h.lt b (by simp [oblk])
    exact ⟨b, cap, rfl, h1, h2, this.1, this.2⟩
theorem sla_own {X : List Nat} {n m : Nat} {xs : List Value} (h : Own w base e m v n xs) (hx : ∀ b, b ∈ oblk v → b ∉ X) : SlA w X v n xs := by
  rcases h.at with ⟨h1, h2, h3⟩ | ⟨b, cap, rfl, h1, h2⟩
  · exact .inl ⟨.inl h1, h2, h3⟩
  · exact .inr ⟨b, 0, cap, rfl, hx b (by simp [oblk]), (h.lt b (by simp [oblk])).2, h2⟩
theorem SlA.sub {X X' : List Nat} {n : Nat} {xs : List Value} (h : SlA w X v n xs) (hx : ∀ x, x ∈ X' → x ∈ X) : SlA w X' v n xs := SlA.mv h (Ch.refl [] w) (by simp) (fun x hm => .inl (hx x hm))
/-- Knows, by what may be derived -/
theorem Knows_own_is {W : Wd} {known : List Tm} {t : Tm} {b : Bool} (hb : b = true ↔ may t = true ∧ Der W (Kn known) (nrm t)) {base : Nat} {X X' : List Nat} {lv : Value} {xs : List Value} {k nm : Int} {ad2 : Option Addr} {l2 cap2 : Nat} (w0 : World) (hw0 : T0 w0) (hkl : known.length ≤ 100000000)
    (hown : Own w0 base 26 3 lv known.length xs) (hks : IsTs w0 X known xs) (ht : IsT w0 X' t [.int .i64 k, .int .i64 nm, .slice ad2 l2 cap2]) :
    Calls Tryd.prog 19 (List.toArray [.agg #[.bool W.dh, .bool W.kem], lv, .agg #[.int .i64 k, .int .i64 nm, .slice ad2 l2 cap2]]) w0 (Ret fun v w' => v = .bool b ∧ Gr w0 w') := by
  obtain ⟨b', h1, h2⟩ := Knows_at_own (W := W) w0 hw0 hkl hown hks ht
  have : b = b' := by rw [Bool.eq_iff_iff, hb, h1]
  subst this
  exact h2
theorem Knows_sla_is {W : Wd} {known : List Tm} {t : Tm} {b : Bool} (hb : b = true ↔ may t = true ∧ Der W (Kn known) (nrm t)) {n : Nat} {X X' X2 : List Nat} {lv : Value} {xs : List Value} {k nm : Int} {ad2 : Option Addr} {l2 cap2 : Nat} (w0 : World) (hw0 : T0 w0) (hkl : known.length ≤ 100000000)
    (hn : n = known.length) (hsl : SlA w0 X2 lv n xs) (hks : IsTs w0 X known xs) (ht : IsT w0 X' t [.int .i64 k, .int .i64 nm, .slice ad2 l2 cap2]) :
    Calls Tryd.prog 19 (List.toArray [.agg #[.bool W.dh, .bool W.kem], lv, .agg #[.int .i64 k, .int .i64 nm, .slice ad2 l2 cap2]]) w0 (Ret fun v w' => v = .bool b ∧ Gr w0 w') := by
  subst hn
  obtain ⟨ad, cap, rfl, h3⟩ := hsl.form
  obtain ⟨b', h1, h2⟩ := Knows_at (W := W) w0 hw0 hkl (fun h => by obtain ⟨b, o, e, _, h4⟩ := h3 h; exact ⟨b, o, e, by simp, h4⟩) (hks.sub (by simp)) (ht.sub (by simp))
  have : b = b' := by rw [Bool.eq_iff_iff, hb, h1]
  subst this
  exact h2
end
section
variable {P : Program} {n : Nat} {L : List (Nat × Value)} {w : World} {ds : Option Nat} {ty : TypeId} {pos : String} {af : Array Edge} {gu : Option (Nat × Bool)}
theorem ok_append00S {s x : Operand} {t e : TypeId} {z : Value} {base m bytes k b : Nat} {lv : Value} {news : List Value} {X : List Nat} (ht : P.underlying t = some (.slice e)) (hi : (P.info? e).map (fun i => (i.size, i.bytes, i.zero)) = some (m, bytes, some z))
    (hzs : z.cells.size = m) (hm0 : 0 < m) (hs : ev L s = some (.slice (some ⟨b, 0, none⟩) 0 0)) (hx : ev L x = some lv) (hb : w.heap[b]? = some (.cells #[] e (0, 0))) (hbb : base ≤ b) (hsl : SlA w X lv k news) (hl : news.length = k * m)
    (h1 : ∀ u ∈ news, u.oneCell' = true) (hby : k * bytes ≤ 140737488355328) (h63 : k ≤ maxLen) (hbase : base ≤ w.heap.size) :
    Ok1 P ⟨ds, .call ⟨.builtin .append, #[s, x], #[t, t]⟩, ty, pos, af, gu⟩ n L w fun v' w' => Own w' base e m v' k news ∧ Ch [] w w' ∧ (oblk v' = [b] ∨ oblk v' = [w.heap.size]) :=
  ok_append00g ht hi hzs hm0 hs hx hb hbb hl (by
    rcases hsl with ⟨h | ⟨a2, cap, h⟩, h2, h3⟩ | ⟨b2, o2, cap, h, _, _, ha⟩
    · exact .inl ⟨h, h2, h3⟩
    · subst h2; subst h3; exact .inr ⟨a2, cap, h, fun j u hu => by simp at hu⟩
    · exact .inr ⟨_, cap, h, fun j u hu => by rw [add_none]; exact ha j u hu⟩) h1 hby h63 hbase
end
end Go.Mi.Term
namespace Go.Mi.Term
open Go.Mi Go.Proofs Go.RowKit
set_option linter.unusedVariables false
theorem pl26 (w : World) : ∀ fs, Tryd.prog.underlying 26 = some (.struct fs) → (fs.mapM fun f => (do pure (f.offset, ← sizeOf f.type) : Sem (Nat × Nat))).run Tryd.prog w = .ok #[(0, 1), (1, 1), (2, 1)] w := by
 intro fs h
 rw [Tryd.underlying26] at h
 cases h
 obtain ⟨i1, h1, e1⟩ := Option.map_eq_some_iff.1 sz3
 obtain ⟨i3, h3, e3⟩ := Option.map_eq_some_iff.1 sz24
 simp [sizeOf, typeInfo, h1, h3, e1, e3]
theorem pl31 (w : World) : ∀ fs, Tryd.prog.underlying 31 = some (.struct fs) → (fs.mapM fun f => (do pure (f.offset, ← sizeOf f.type) : Sem (Nat × Nat))).run Tryd.prog w = .ok #[(0, 1), (1, 1)] w := by
 intro fs h
 rw [Tryd.underlying31] at h
 cases h
 obtain ⟨i1, h1, e1⟩ := Option.map_eq_some_iff.1 sz4
 simp [sizeOf, typeInfo, h1, e1]
theorem fillT1 {z : Value} {a b : Int} {ad : Option Addr} {l c : Nat} : Instr.fill (fun i => some (i * 3, 3)) ((Array.range (1 * 3)).map (z.cells[· % z.cells.size]!)) [(0, .agg #[.int .i64 a, .int .i64 b, .slice ad l c])] = some #[.int .i64 a, .int .i64 b, .slice ad l c] := by
 simp [Instr.fill, Value.cells]
 apply Array.ext'
 simp [Array.toList_setIfInBounds, Array.toList_map, Array.toList_range, List.range_succ]
theorem fillT2 {z : Value} {a b a' b' : Int} {ad ad' : Option Addr} {l c l' c' : Nat} : Instr.fill (fun i => some (i * 3, 3)) ((Array.range (2 * 3)).map (z.cells[· % z.cells.size]!)) [(0, .agg #[.int .i64 a, .int .i64 b, .slice ad l c]), (1, .agg #[.int .i64 a', .int .i64 b', .slice ad' l' c'])] = some #[.int .i64 a, .int .i64 b, .slice ad l c, .int .i64 a', .int .i64 b', .slice ad' l' c'] := by
 simp [Instr.fill, Value.cells]
 apply Array.ext'
 simp [Array.toList_setIfInBounds, Array.toList_map, Array.toList_range, List.range_succ]

set_option maxRecDepth 100000 in
set_option maxHeartbeats 4000000 in
theorem atom_calls {n : Int} (w0 : World) : Calls Tryd.prog 16 (List.toArray [.int .i64 n]) w0 (Ret fun v w' => v = .agg #[.int .i64 1, .int .i64 n, .slice none 0 0] ∧ Gr w0 w') := by
 refine calls_of Tryd.func16 rfl Tryd.ntmps16 rfl fun ac hF => ?_
 have hC : Ch [] w0 w0 := Ch.refl _ _
 have hF := hF.sub (L' := [(0, (vI n))]) ⟨rfl, trivial⟩
 refine wp_seq ?_
 refine wp_region_lit ?_
 refine wlR (ok_alloc z26) rfl hF ?_
 rintro _ w ac ⟨b1, rfl, hnb_⟩ hF
 have hch_ : Ch [] _ w := hnb_.ch
 have lo_ := hnb_.lo hC.size
 have hC := hC.trans' hch_ (fun z hz => .inr (absurd hz (by simp)))
 have hib1 : b1 < w.heap.size := hnb_.lt
 have lob1 : w0.heap.size ≤ b1 := lo_
 have hb1 : w.heap[b1]? = some (.cells #[(vI 0), (vI 0), vN] 26 (0, 0)) := hnb_.blk
 refine wl_nil ?_
 refine then_n ?_
 refine wp_seq ?_
 refine wp_region_lit ?_
 refine wl (d_move rfl) rfl hF (fun ac hF => ?_)
 refine wl (d_buildS (cells := #[(vI 1), (vI n), vN]) Tryd.underlying26 z26 (fun w => pl26 w _ Tryd.underlying26) rfl (by simp [Instr.fill, Value.cells])) rfl hF (fun ac hF => ?_)
 refine wl0R (ok_storeA (c' := #[(vI 1), (vI n), vN]) sz26 rfl rfl rfl (fun v hv => by simp at hv; rcases hv with rfl | rfl | rfl <;> rfl) hb1 rfl) hF ?_
 rintro w ac hu_ hF
 have hch_ : Ch [b1] _ w := hu_.ch
 have hC := hC.trans' hch_ (fun z hz => .inr ((by simp at hz; subst hz; assumption)))
 have hib1 := hch_.lt hib1
 have hb1 : w.heap[b1]? = some (.cells #[(vI 1), (vI n), vN] 26 (0, 0)) := hu_.blk
 refine wl_nil ?_
 refine then_n ?_
 refine wp_ret ?_
 refine body_ret hF (results1 Tryd.results16 (RV.cellC Tryd.underlying26 rfl sz26 hF rfl (At.of_blk hb1) rfl)) ?_
 exact ⟨rfl, hC.gr⟩

set_option maxRecDepth 100000 in
set_option maxHeartbeats 4000000 in
theorem two_calls {X : List Nat} {a b : Tm} {k k1 k2 n1 n2 : Int} {ad1 ad2 : Option Addr} {l1 l2 c1 c2 : Nat} (w0 : World) (hX : ∀ x, x ∈ X → x < w0.heap.size) (ha : IsT w0 X a [.int .i64 k1, .int .i64 n1, .slice ad1 l1 c1]) (hb : IsT w0 X b [.int .i64 k2, .int .i64 n2, .slice ad2 l2 c2]) : Calls Tryd.prog 18 (List.toArray [.int .i64 k, .agg #[.int .i64 k1, .int .i64 n1, .slice ad1 l1 c1], .agg #[.int .i64 k2, .int .i64 n2, .slice ad2 l2 c2]]) w0 (Ret fun v w' => ∃ g, v = .agg #[.int .i64 k, .int .i64 0, .slice (some ⟨g, 0, none⟩) 2 2] ∧ IsT w' X (.mk k 0 [a, b]) [.int .i64 k, .int .i64 0, .slice (some ⟨g, 0, none⟩) 2 2] ∧ Gr w0 w') := by
 refine calls_of Tryd.func18 rfl Tryd.ntmps18 rfl fun ac hF => ?_
 have hC : Ch [] w0 w0 := Ch.refl _ _
 have hF := hF.sub (L' := [(0, (vI k)), (1, (Value.agg #[(vI k1), (vI n1), (Value.slice ad1 l1 c1)])), (2, (Value.agg #[(vI k2), (vI n2), (Value.slice ad2 l2 c2)]))]) ⟨rfl, rfl, rfl, trivial⟩
 refine wp_seq ?_
 refine wp_region_lit ?_
 refine wlR (ok_box rfl) rfl hF ?_
 rintro _ w ac ⟨b1, rfl, hnb_⟩ hF
 have hch_ : Ch [] _ w := hnb_.ch
 have lo_ := hnb_.lo hC.size
 have hC := hC.trans' hch_ (fun z hz => .inr (absurd hz (by simp)))
 have hib1 : b1 < w.heap.size := hnb_.lt
 have lob1 : w0.heap.size ≤ b1 := lo_
 have hb1 : At w b1 0 [(vI k1), (vI n1), (Value.slice ad1 l1 c1)] := hnb_.at
 refine wlR (ok_box rfl) rfl hF ?_
 rintro _ w ac ⟨b2, rfl, hnb_⟩ hF
 have hch_ : Ch [] _ w := hnb_.ch
 have lo_ := hnb_.lo hC.size
 have ne_b1_b2 := hnb_.gt hib1
 have hC := hC.trans' hch_ (fun z hz => .inr (absurd hz (by simp)))
 have hib1 := hch_.lt hib1
 have hb1 := hb1.mv hch_ (by simp <;> omega)
 have hib2 : b2 < w.heap.size := hnb_.lt
 have lob2 : w0.heap.size ≤ b2 := lo_
 have hb2 : At w b2 0 [(vI k2), (vI n2), (Value.slice ad2 l2 c2)] := hnb_.at
 have ne_b1_b2 : b1 < b2 := ne_b1_b2
 refine wlR (ok_alloc z26) rfl hF ?_
 rintro _ w ac ⟨b3, rfl, hnb_⟩ hF
 have hch_ : Ch [] _ w := hnb_.ch
 have lo_ := hnb_.lo hC.size
 have ne_b1_b3 := hnb_.gt hib1
 have ne_b2_b3 := hnb_.gt hib2
 have hC := hC.trans' hch_ (fun z hz => .inr (absurd hz (by simp)))
 have hib1 := hch_.lt hib1
 have hb1 := hb1.mv hch_ (by simp <;> omega)
 have hib2 := hch_.lt hib2
 have hb2 := hb2.mv hch_ (by simp <;> omega)
 have hib3 : b3 < w.heap.size := hnb_.lt
 have lob3 : w0.heap.size ≤ b3 := lo_
 have hb3 : w.heap[b3]? = some (.cells #[(vI 0), (vI 0), vN] 26 (0, 0)) := hnb_.blk
 have ne_b1_b3 : b1 < b3 := ne_b1_b3
 have ne_b2_b3 : b2 < b3 := ne_b2_b3
 refine wl_nil ?_
 refine then_n ?_
 refine wp_seq ?_
 refine wp_region_lit ?_
 refine wl (d_move rfl) rfl hF (fun ac hF => ?_)
 refine wl (d_loadC Tryd.underlying26 rfl sz26 rfl (hb1) rfl) rfl hF (fun ac hF => ?_)
 refine wl (d_loadC Tryd.underlying26 rfl sz26 rfl (hb2) rfl) rfl hF (fun ac hF => ?_)
 refine wlR (ok_buildSlice (cells := #[(vI k1), (vI n1), (Value.slice ad1 l1 c1), (vI k2), (vI n2), (Value.slice ad2 l2 c2)]) Tryd.underlying24 zz26 rfl (by decide) (by decide) (by exact fillT2)) rfl hF ?_
 rintro _ w ac ⟨b4, rfl, hnb_⟩ hF
 have hch_ : Ch [] _ w := hnb_.ch
 have lo_ := hnb_.lo hC.size
 have ne_b1_b4 := hnb_.gt hib1
 have ne_b2_b4 := hnb_.gt hib2
 have ne_b3_b4 := hnb_.gt hib3
 have hC := hC.trans' hch_ (fun z hz => .inr (absurd hz (by simp)))
 have hib1 := hch_.lt hib1
 have hb1 := hb1.mv hch_ (by simp <;> omega)
 have hib2 := hch_.lt hib2
 have hb2 := hb2.mv hch_ (by simp <;> omega)
 have hib3 := hch_.lt hib3
 have hb3 := Ch.blk0 hch_ hb3 (by simp <;> omega)
 have hib4 : b4 < w.heap.size := hnb_.lt
 have lob4 : w0.heap.size ≤ b4 := lo_
 have hb4 : At w b4 0 [(vI k1), (vI n1), (Value.slice ad1 l1 c1), (vI k2), (vI n2), (Value.slice ad2 l2 c2)] := hnb_.at
 have ne_b1_b4 : b1 < b4 := ne_b1_b4
 have ne_b2_b4 : b2 < b4 := ne_b2_b4
 have ne_b3_b4 : b3 < b4 := ne_b3_b4
 refine wl (d_buildS (cells := #[(vI k), (vI 0), (vS b4 0 2 2)]) Tryd.underlying26 z26 (fun w => pl26 w _ Tryd.underlying26) rfl (by simp [Instr.fill, Value.cells])) rfl hF (fun ac hF => ?_)
 refine wl0R (ok_storeA (c' := #[(vI k), (vI 0), (vS b4 0 2 2)]) sz26 rfl rfl rfl (fun v hv => by simp at hv; rcases hv with rfl | rfl | rfl <;> rfl) hb3 rfl) hF ?_
 rintro w ac hu_ hF
 have hch_ : Ch [b3] _ w := hu_.ch
 have hC := hC.trans' hch_ (fun z hz => .inr ((by simp at hz; subst hz; assumption)))
 have hib1 := hch_.lt hib1
 have hb1 := hb1.mv hch_ (by simp <;> omega)
 have hib2 := hch_.lt hib2
 have hb2 := hb2.mv hch_ (by simp <;> omega)
 have hib3 := hch_.lt hib3
 have hib4 := hch_.lt hib4
 have hb4 := hb4.mv hch_ (by simp <;> omega)
 have hb3 : w.heap[b3]? = some (.cells #[(vI k), (vI 0), (vS b4 0 2 2)] 26 (0, 0)) := hu_.blk
 refine wl_nil ?_
 refine then_n ?_
 refine wp_ret ?_
 refine body_ret hF (results1 Tryd.results18 (RV.cellC Tryd.underlying26 rfl sz26 hF rfl (At.of_blk hb3) rfl)) ?_
 exact ⟨b4, rfl, isT_mk (ks := [a, b]) rfl (fun hm => by have := hX _ hm; omega) hib4 hb4 (IsTs.two (IsT.mv hC (by simp) (fun x hx => .inl hx) _ _ ha) (IsT.mv hC (by simp) (fun x hx => .inl hx) _ _ hb)), hC.gr⟩

set_option maxRecDepth 100000 in
set_option maxHeartbeats 4000000 in
theorem pubL_calls {X : List Nat} {a : Tm} {k1 n1 : Int} {ad1 : Option Addr} {l1 c1 : Nat} (w0 : World) (hX : ∀ x, x ∈ X → x < w0.heap.size) (ha : IsT w0 X a [.int .i64 k1, .int .i64 n1, .slice ad1 l1 c1]) : Calls Tryd.prog 20 (List.toArray [.agg #[.int .i64 k1, .int .i64 n1, .slice ad1 l1 c1]]) w0 (Ret fun v w' => ∃ g, v = .agg #[.int .i64 2, .int .i64 0, .slice (some ⟨g, 0, none⟩) 1 1] ∧ IsT w' X (pubOf a) [.int .i64 2, .int .i64 0, .slice (some ⟨g, 0, none⟩) 1 1] ∧ Gr w0 w') := by
 refine calls_of Tryd.func20 rfl Tryd.ntmps20 rfl fun ac hF => ?_
 have hC : Ch [] w0 w0 := Ch.refl _ _
 have hF := hF.sub (L' := [(0, (Value.agg #[(vI k1), (vI n1), (Value.slice ad1 l1 c1)]))]) ⟨rfl, trivial⟩
 refine wp_seq ?_
 refine wp_region_lit ?_
 refine wlR (ok_box rfl) rfl hF ?_
 rintro _ w ac ⟨b1, rfl, hnb_⟩ hF
 have hch_ : Ch [] _ w := hnb_.ch
 have lo_ := hnb_.lo hC.size
 have hC := hC.trans' hch_ (fun z hz => .inr (absurd hz (by simp)))
 have hib1 : b1 < w.heap.size := hnb_.lt
 have lob1 : w0.heap.size ≤ b1 := lo_
 have hb1 : At w b1 0 [(vI k1), (vI n1), (Value.slice ad1 l1 c1)] := hnb_.at
 refine wlR (ok_alloc z26) rfl hF ?_
 rintro _ w ac ⟨b2, rfl, hnb_⟩ hF
 have hch_ : Ch [] _ w := hnb_.ch
 have lo_ := hnb_.lo hC.size
 have ne_b1_b2 := hnb_.gt hib1
 have hC := hC.trans' hch_ (fun z hz => .inr (absurd hz (by simp)))
 have hib1 := hch_.lt hib1
 have hb1 := hb1.mv hch_ (by simp <;> omega)
 have hib2 : b2 < w.heap.size := hnb_.lt
 have lob2 : w0.heap.size ≤ b2 := lo_
 have hb2 : w.heap[b2]? = some (.cells #[(vI 0), (vI 0), vN] 26 (0, 0)) := hnb_.blk
 have ne_b1_b2 : b1 < b2 := ne_b1_b2
 refine wl_nil ?_
 refine then_n ?_
 refine wp_seq ?_
 refine wp_region_lit ?_
 refine wl (d_loadC Tryd.underlying26 rfl sz26 rfl (hb1) rfl) rfl hF (fun ac hF => ?_)
 refine wlR (ok_buildSlice (cells := #[(vI k1), (vI n1), (Value.slice ad1 l1 c1)]) Tryd.underlying24 zz26 rfl (by decide) (by decide) (by exact fillT1)) rfl hF ?_
 rintro _ w ac ⟨b3, rfl, hnb_⟩ hF
 have hch_ : Ch [] _ w := hnb_.ch
 have lo_ := hnb_.lo hC.size
 have ne_b1_b3 := hnb_.gt hib1
 have ne_b2_b3 := hnb_.gt hib2
 have hC := hC.trans' hch_ (fun z hz => .inr (absurd hz (by simp)))
 have hib1 := hch_.lt hib1
 have hb1 := hb1.mv hch_ (by simp <;> omega)
 have hib2 := hch_.lt hib2
 have hb2 := Ch.blk0 hch_ hb2 (by simp <;> omega)
 have hib3 : b3 < w.heap.size := hnb_.lt
 have lob3 : w0.heap.size ≤ b3 := lo_
 have hb3 : At w b3 0 [(vI k1), (vI n1), (Value.slice ad1 l1 c1)] := hnb_.at
 have ne_b1_b3 : b1 < b3 := ne_b1_b3
 have ne_b2_b3 : b2 < b3 := ne_b2_b3
 refine wl (d_buildS (cells := #[(vI 2), (vI 0), (vS b3 0 1 1)]) Tryd.underlying26 z26 (fun w => pl26 w _ Tryd.underlying26) rfl (by simp [Instr.fill, Value.cells])) rfl hF (fun ac hF => ?_)
 refine wl0R (ok_storeA (c' := #[(vI 2), (vI 0), (vS b3 0 1 1)]) sz26 rfl rfl rfl (fun v hv => by simp at hv; rcases hv with rfl | rfl | rfl <;> rfl) hb2 rfl) hF ?_
 rintro w ac hu_ hF
 have hch_ : Ch [b2] _ w := hu_.ch
 have hC := hC.trans' hch_ (fun z hz => .inr ((by simp at hz; subst hz; assumption)))
 have hib1 := hch_.lt hib1
 have hb1 := hb1.mv hch_ (by simp <;> omega)
 have hib2 := hch_.lt hib2
 have hib3 := hch_.lt hib3
 have hb3 := hb3.mv hch_ (by simp <;> omega)
 have hb2 : w.heap[b2]? = some (.cells #[(vI 2), (vI 0), (vS b3 0 1 1)] 26 (0, 0)) := hu_.blk
 refine wl_nil ?_
 refine then_n ?_
 refine wp_ret ?_
 refine body_ret hF (results1 Tryd.results20 (RV.cellC Tryd.underlying26 rfl sz26 hF rfl (At.of_blk hb2) rfl)) ?_
 exact ⟨b3, rfl, isT_mk (ks := [a]) rfl (fun hm => by have := hX _ hm; omega) hib3 hb3 (IsTs.one (IsT.mv hC (by simp) (fun x hx => .inl hx) _ _ ha)), hC.gr⟩
end Go.Mi.Term
