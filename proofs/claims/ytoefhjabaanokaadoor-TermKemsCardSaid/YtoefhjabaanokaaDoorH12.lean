/- Lists of terms in a walk; choices by bools. -/
import Derived.Test.YtoefhjabaanokaaDoorF0
namespace Go.Mi
open Go.RowKit
/-- what an operation leaves that is done just where a bool says so -/
def gsel (x : Value) (b : Bool) (v : Value) : Value := bif vb x == some b then v else undef
def psel (c x y : Value) : Value := bif vb c == some true then x else y
theorem RV.cellC {P : Program} {a : Act} {n : Nat} {L : List (Nat × Value)} {w : World} {x : Tmp} {t : TypeId} {d : TypeDesc} {b o m : Nat} {vs : List Value} (ht : P.underlying t = some d) (hf : TypeDesc.flat d = false) (hs : (P.info? t).map (·.size) = some m) (hF : Frm a n L) (hx : lk L x = some (.pointer (some ⟨b, o, none⟩)))
    (hb : At w b o vs) (hl : vs.length = m) : RV P a w (.cell x t) (.agg vs.toArray) := by
  have hx' := hF.get x _ hx
  obtain ⟨inf, hi, hz⟩ := Option.map_eq_some_iff.1 hs
  have hag : (isAgg t).run P w = .ok true w := by
    simp only [isAgg, Sem.run_bind, run_underlying' ht, Result.andThen_ok]
    cases d <;> simp_all [TypeDesc.flat]
  have hr := run_loadCells_list (P := P) w ⟨b, o, none⟩ vs (fun j v hj => by rw [add_none]; exact hb j v hj)
  subst hl
  simp only [RV, rv, hx', asAddr, loadVar, Sem.run_bind, Sem.run_pure, Result.andThen_ok, hag]
  simp [sizeOf, typeInfo, hi, hz, hr]
section
variable {P : Program} {n : Nat} {L : List (Nat × Value)} {w : World} {ds : Option Nat} {ty : TypeId} {pos : String} {af : Array Edge} {gu : Option (Nat × Bool)}
/-- a slice without elements that is written out -/
theorem ok_buildSlice0 {t e : TypeId} {m : Nat} (hT : P.underlying t = some (.slice e)) (hs : (P.info? e).map (·.size) = some m) :
    Ok1 P ⟨ds, .buildSlice t 0 #[], ty, pos, af, gu⟩ n L w fun v' w' => ∃ b, v' = .slice (some ⟨b, 0, none⟩) 0 0 ∧ NewB w w' b #[] e := by
  obtain ⟨inf, hi, hz⟩ := Option.map_eq_some_iff.1 hs
  have hd : Det P ⟨ds, .buildSlice t 0 #[], ty, pos, af, gu⟩ n L w (.slice (some ⟨w.heap.size, 0, none⟩) 0 0) (w.alloc (.cells #[] e)) := Det.of_run fun a hF => by
    have hz0 : Array.range 0 = #[] := by apply Array.ext'; simp
    simp [execOp, Instr.buildSlice, run_underlying' hT, sizeOf, typeInfo, hi, Instr.fill, newRow, hz0]
  exact hd.mono fun v' w' ⟨h1, h2⟩ => ⟨_, h1, rfl, h2⟩
/-- append of some elements of several cells -/
theorem ok_appendm {s x : Operand} {t e : TypeId} {z : Value} {base m bytes n' k c b o : Nat} {v : Value} {xs news : List Value} (ht : P.underlying t = some (.slice e)) (hi : (P.info? e).map (fun i => (i.size, i.bytes, i.zero)) = some (m, bytes, some z))
    (hzs : z.cells.size = m) (hm0 : 0 < m) (hs : ev L s = some v) (hx : ev L x = some (.slice (some ⟨b, o, none⟩) k c)) (hown : Own w base e m v n' xs)
    (hl : news.length = k * m) (hn : At w b o news) (h1 : ∀ u ∈ news, u.oneCell' = true) (hby : (n' + k) * bytes ≤ 140737488355328) (h63 : n' + k ≤ maxLen) (hbase : base ≤ w.heap.size) :
    Ok1 P ⟨ds, .call ⟨.builtin .append, #[s, x], #[t, t]⟩, ty, pos, af, gu⟩ n L w fun v' w' => Own w' base e m v' (n' + k) (xs ++ news) ∧ Ch (oblk v) w w' ∧ (oblk v' = oblk v ∨ oblk v' = [w.heap.size]) := by
  obtain ⟨inf, hi1, hz⟩ := Option.map_eq_some_iff.1 hi
  simp only [Prod.mk.injEq] at hz
  exact ok_append ht hi1 hz.2.2 hz.1 hz.2.1 hzs hm0 hs hx hown hl hn h1 h63 hby hbase
/-- append of nothing -/
theorem d_append0 {s x : Operand} {t e : TypeId} {m : Nat} {v : Value} {base n' : Nat} {xs : List Value} (ht : P.underlying t = some (.slice e)) (hz : (P.info? e).map (·.size) = some m) (hs : ev L s = some v) (hx : ev L x = some (.slice none 0 0)) (hown : Own w base e m v n' xs) :
    Det P ⟨ds, .call ⟨.builtin .append, #[s, x], #[t, t]⟩, ty, pos, af, gu⟩ n L w v w :=
  Det.of_run fun a hF => by
    obtain ⟨inf, hi, hzz⟩ := Option.map_eq_some_iff.1 hz
    have hr : (Builtin.append_ #[t, t] ty #[v, .slice none 0 0]).run P w = .ok v w := by
      rcases hown.at with ⟨rfl, _⟩ | ⟨b, cap, rfl, hc, _⟩
      · simp [Builtin.append_, run_underlying ht, sizeOf, typeInfo, hi, Builtin.lenOf, Builtin.firstCells, loadCells, loadCellsFrom]
      · simp [Builtin.append_, run_underlying ht, sizeOf, typeInfo, hi, Builtin.lenOf, Builtin.firstCells, loadCells, loadCellsFrom, hc, storeCells]
    simp [execOp, hF.eval hs, hF.eval hx, resolve, invoke, builtin, hr]
end
end Go.Mi
namespace Go.Mi.Term
open Go.Mi Go.Proofs Go.RowKit
theorem own_fresh {w : World} {base b n m : Nat} {vs : List Value} {e : TypeId} (hb : w.heap[b]? = some (.cells vs.toArray e (0, 0))) (hl : vs.length = n * m) (hn : n ≤ maxLen) (h : base ≤ b) : Own w base e m (.slice (some ⟨b, 0, none⟩) n n) n vs := by
  refine ⟨hl, .inr ⟨b, n, vs.toArray, rfl, h, hb, Nat.le_refl _, hn, by simpa using hl, ?_⟩⟩
  rw [List.take_of_length_le (by simp [hl])]
theorem IsT.sub {w : World} {X X' : List Nat} {t : Tm} {vs : List Value} (h : IsT w X t vs) (hx : ∀ x, x ∈ X' → x ∈ X) : IsT w X' t vs := IsT.mv (Ch.refl [] w) (by simp) (fun x hm => .inl (hx x hm)) t vs h
theorem IsTs.sub {w : World} {X X' : List Nat} {t : List Tm} {vs : List Value} (h : IsTs w X t vs) (hx : ∀ x, x ∈ X' → x ∈ X) : IsTs w X' t vs := IsTs.mv (Ch.refl [] w) (by simp) (fun x hm => .inl (hx x hm)) t vs h
theorem IsTs.one {w : World} {X : List Nat} {t : Tm} {vs : List Value} (h : IsT w X t vs) : IsTs w X [t] vs := by
  simp only [IsTs]
  exact ⟨vs, [], by simp, h, rfl⟩
theorem IsTs.two {w : World} {X : List Nat} {a b : Tm} {us vs : List Value} (h : IsT w X a us) (k : IsT w X b vs) : IsTs w X [a, b] (us ++ vs) := by
  simp only [IsTs]
  exact ⟨us, vs, rfl, h, vs, [], by simp, k, rfl⟩
theorem isT_atom (w : World) (X : List Nat) (n : Int) : IsT w X (.mk 1 n []) [.int .i64 1, .int .i64 n, .slice none 0 0] := by
  simp only [IsT, IsTs]
  exact ⟨_, [], rfl, .inl ⟨rfl, rfl, rfl⟩, rfl⟩
theorem isT_mk {w : World} {X : List Nat} {k : Int} {ks : List Tm} {b l : Nat} {xs : List Value} (hl : l = ks.length) (hb : b ∉ X) (hlt : b < w.heap.size) (ha : At w b 0 xs) (hk : IsTs w X ks xs) : IsT w X (.mk k 0 ks) [.int .i64 k, .int .i64 0, .slice (some ⟨b, 0, none⟩) l l] := by
  subst hl
  simp only [IsT]
  exact ⟨_, xs, rfl, .inr ⟨b, 0, _, rfl, hb, hlt, ha⟩, hk⟩
theorem IsT.cells1 {w : World} {X : List Nat} {t : Tm} {vs : List Value} (h : IsT w X t vs) : ∀ u ∈ vs, u.oneCell' = true := by
  cases t
  simp only [IsT] at h
  obtain ⟨sl, xs, rfl, h1, _⟩ := h
  intro u hu
  simp at hu
  rcases hu with rfl | rfl | rfl
  · rfl
  · rfl
  · rcases h1 with ⟨rfl, _⟩ | ⟨b, o, cap, rfl, _⟩ <;> rfl
/-- Knows, of a list that the call owns -/
theorem Knows_own {W : Wd} {f g : Nat} {known : List Tm} {t : Tm} {b : Bool} (hkn : knows W f g known t = some b) {base : Nat} {X X' : List Nat} {lv : Value} {xs : List Value} {k nm : Int} {ad2 : Option Addr} {l2 cap2 : Nat} (w0 : World) (hw0 : T0 w0) (hkl : known.length ≤ 100000000)
    (hown : Own w0 base 26 3 lv known.length xs) (hks : IsTs w0 X known xs) (ht : IsT w0 X' t [.int .i64 k, .int .i64 nm, .slice ad2 l2 cap2]) :
    Calls Tryd.prog 19 (List.toArray [.agg #[.bool W.dh, .bool W.kem], lv, .agg #[.int .i64 k, .int .i64 nm, .slice ad2 l2 cap2]]) w0 (Ret fun v w' => v = .bool b ∧ Gr w0 w') := by
  rcases hown.at with ⟨rfl, h1, h2⟩ | ⟨b', cap, rfl, _, ha⟩
  · have : known = [] := List.eq_nil_of_length_eq_zero h1
    subst this
    exact Knows_ev hkn (ad := none) (cap := 0) w0 hw0 hkl (by simp) (hks.sub (by simp)) (ht.sub (by simp))
  · exact Knows_ev hkn (ad := some ⟨b', 0, none⟩) (cap := cap) w0 hw0 hkl (fun _ => ⟨b', 0, rfl, by simp, ha⟩) (hks.sub (by simp)) (ht.sub (by simp))
theorem Knows_at_own {W : Wd} {known : List Tm} {t : Tm} {base : Nat} {X X' : List Nat} {lv : Value} {xs : List Value} {k nm : Int} {ad2 : Option Addr} {l2 cap2 : Nat} (w0 : World) (hw0 : T0 w0) (hkl : known.length ≤ 100000000)
    (hown : Own w0 base 26 3 lv known.length xs) (hks : IsTs w0 X known xs) (ht : IsT w0 X' t [.int .i64 k, .int .i64 nm, .slice ad2 l2 cap2]) :
    ∃ b : Bool, (b = true ↔ may t = true ∧ Der W (Kn known) (nrm t)) ∧ Calls Tryd.prog 19 (List.toArray [.agg #[.bool W.dh, .bool W.kem], lv, .agg #[.int .i64 k, .int .i64 nm, .slice ad2 l2 cap2]]) w0 (Ret fun v w' => v = .bool b ∧ Gr w0 w') := by
  obtain ⟨f, g, b, h1, h2, _⟩ := knows_all W known t
  exact ⟨b, h2, Knows_own h1 w0 hw0 hkl hown hks ht⟩
/-- Knows, of a list that was written out -/
theorem Knows_sl {W : Wd} {f g : Nat} {known : List Tm} {t : Tm} {b : Bool} (hkn : knows W f g known t = some b) {X X' : List Nat} {g1 o cap l : Nat} {xs : List Value} {k nm : Int} {ad2 : Option Addr} {l2 cap2 : Nat} (w0 : World) (hw0 : T0 w0) (hl : l = known.length) (hkl : known.length ≤ 100000000)
    (hat : At w0 g1 o xs) (hks : IsTs w0 X known xs) (ht : IsT w0 X' t [.int .i64 k, .int .i64 nm, .slice ad2 l2 cap2]) :
    Calls Tryd.prog 19 (List.toArray [.agg #[.bool W.dh, .bool W.kem], .slice (some ⟨g1, o, none⟩) l cap, .agg #[.int .i64 k, .int .i64 nm, .slice ad2 l2 cap2]]) w0 (Ret fun v w' => v = .bool b ∧ Gr w0 w') := by
  subst hl
  exact Knows_ev hkn w0 hw0 hkl (fun _ => ⟨g1, o, rfl, by simp, hat⟩) (hks.sub (by simp)) (ht.sub (by simp))
end Go.Mi.Term
namespace Go.Mi.Term
open Go.Mi Go.Proofs Go.RowKit
section
variable {P : Program} {n : Nat} {L : List (Nat × Value)} {w : World} {ds : Option Nat} {ty : TypeId} {pos : String} {af : Array Edge} {gu : Option (Nat × Bool)}
/-- append of all of another list -/
theorem ok_appendOwn {s x : Operand} {t e : TypeId} {z : Value} {base base2 m bytes n' k : Nat} {v lv : Value} {xs news : List Value} (ht : P.underlying t = some (.slice e)) (hi : (P.info? e).map (fun i => (i.size, i.bytes, i.zero)) = some (m, bytes, some z))
    (hzs : z.cells.size = m) (hm0 : 0 < m) (hs : ev L s = some v) (hx : ev L x = some lv) (hown : Own w base e m v n' xs) (hown2 : Own w base2 e m lv k news)
    (h1 : ∀ u ∈ news, u.oneCell' = true) (hby : (n' + k) * bytes ≤ 140737488355328) (h63 : n' + k ≤ maxLen) (hbase : base ≤ w.heap.size) :
    Ok1 P ⟨ds, .call ⟨.builtin .append, #[s, x], #[t, t]⟩, ty, pos, af, gu⟩ n L w fun v' w' => Own w' base e m v' (n' + k) (xs ++ news) ∧ Ch (oblk v) w w' ∧ (oblk v' = oblk v ∨ oblk v' = [w.heap.size]) := by
  rcases hown2.at with ⟨rfl, rfl, rfl⟩ | ⟨b, cap, rfl, hc, ha⟩
  · have hi' : (P.info? e).map (·.size) = some m := by
      obtain ⟨inf, h1, h2⟩ := Option.map_eq_some_iff.1 hi
      simp only [Prod.mk.injEq] at h2
      rw [h1]; simp [h2.1]
    exact (d_append0 ht hi' hs hx hown).mono fun v' w' ⟨e1, e2⟩ => by subst e1; subst e2; exact ⟨by simpa using hown, Ch.refl _ _, .inl rfl⟩
  · exact ok_appendm ht hi hzs hm0 hs hx hown (by have := hown2.1; omega) ha h1 hby h63 hbase
end
theorem IsTs.cells1 {w : World} {X : List Nat} : ∀ {ts : List Tm} {xs : List Value}, IsTs w X ts xs → ∀ u ∈ xs, u.oneCell' = true
  | [], _, h => by simp only [IsTs] at h; subst h; simp
  | t :: ts, _, h => by
    simp only [IsTs] at h
    obtain ⟨a, r, rfl, h2, h3⟩ := h
    intro u hu
    rcases List.mem_append.1 hu with hu | hu
    · exact h2.cells1 u hu
    · exact IsTs.cells1 h3 u hu
end Go.Mi.Term
