/- Comparisons of bools, strings and arrays; slices that came in. General lemmas. -/
import Derived.Test.YtoefhjabaanokaaDoorA7
import Derived.Laws.StructEq
import Derived.Laws.BytesString
import Derived.ChangeKeysEq
namespace Go.Mi
open Go.RowKit
section
variable {P : Program} {w w0 : World} {n : Nat} {L : List (Nat × Value)} {ds : Option Tmp} {ty : TypeId} {pos : String} {af : Array Edge} {gu : Option (Nat × Bool)}

theorem run_equalIn_bool (d : Nat) {a b : Bool} {t : TypeId} (ht : P.underlying t = some .bool) : (Op.equalIn (d + 1) t (.bool a) (.bool b)).run P w = .ok (a == b) w := by
  simp [Op.equalIn, run_underlying' ht]
theorem run_equal_bool {a b : Bool} {t : TypeId} (ht : P.underlying t = some .bool) : (Op.equal t (.bool a) (.bool b)).run P w = .ok (a == b) w :=
  run_equalIn_bool 9999 ht
theorem d_eqlB {x y : Operand} {a b : Bool} {t t' : TypeId} (ht : P.underlying t = some .bool) (hx : ev L x = some (.bool a)) (hy : ev L y = some (.bool b)) : Det P ⟨ds, .binOp .eql t x y t', ty, pos, af, gu⟩ n L w (.bool (a == b)) w :=
  Det.of_run fun a' hF => by
    have h1 : (binOp .eql t (.bool a) (.bool b)).run P w = .ok (.bool (a == b)) w := by
      show (Op.equal t (.bool a) (.bool b) >>= fun r => pure (Value.bool r)).run P w = _
      rw [Sem.run_bind, run_equal_bool ht]; rfl
    simp [execOp, hF.eval hx, hF.eval hy, eqGuard, h1]
theorem d_neqB {x y : Operand} {a b : Bool} {t t' : TypeId} (ht : P.underlying t = some .bool) (hx : ev L x = some (.bool a)) (hy : ev L y = some (.bool b)) : Det P ⟨ds, .binOp .neq t x y t', ty, pos, af, gu⟩ n L w (.bool (!(a == b))) w :=
  Det.of_run fun a' hF => by
    have h1 : (binOp .neq t (.bool a) (.bool b)).run P w = .ok (.bool (!(a == b))) w := by
      show (Op.equal t (.bool a) (.bool b) >>= fun r => pure (Value.bool !r)).run P w = _
      rw [Sem.run_bind, run_equal_bool ht]; rfl
    simp [execOp, hF.eval hx, hF.eval hy, eqGuard, h1]
theorem d_eqlS {x y : Operand} {a b : ByteArray} {t t' : TypeId} (hx : ev L x = some (.string a)) (hy : ev L y = some (.string b)) : Det P ⟨ds, .binOp .eql t x y t', ty, pos, af, gu⟩ n L w (.bool (a.toList == b.toList)) w :=
  Det.of_run fun a' hF => by simp [execOp, hF.eval hx, hF.eval hy, eqGuard, binOp, Op.stringOp]
theorem d_neqS {x y : Operand} {a b : ByteArray} {t t' : TypeId} (hx : ev L x = some (.string a)) (hy : ev L y = some (.string b)) : Det P ⟨ds, .binOp .neq t x y t', ty, pos, af, gu⟩ n L w (.bool (!(a.toList == b.toList))) w :=
  Det.of_run fun a' hF => by simp [execOp, hF.eval hx, hF.eval hy, eqGuard, binOp, Op.stringOp]

/-- a slice of numbers that came in -/
structure Sl (w : World) (ad : Option Addr) (n : Nat) (k : IntKind) (X : Nat → Int) : Prop where
  h : n = 0 ∨ ∃ b o, ad = some ⟨b, o, none⟩ ∧ ∀ j, j < n → w.cell? ⟨b, o + j, none⟩ = some (.int k (X j))
theorem Sl.mem {ad : Option Addr} {m : Nat} {k : IntKind} {X : Nat → Int} {M : List Blk} (h : Sl w0 ad m k X) (hM : Mem w0 w M) : Sl w ad m k X := by
  refine ⟨h.h.imp id ?_⟩
  rintro ⟨b, o, h1, h2⟩
  exact ⟨b, o, h1, fun j hj => hM.old (h2 j hj)⟩


/-- two arrays of numbers, alike -/
theorem d_eqlA {x y : Operand} {t t' e : TypeId} {k : IntKind} {len : Nat} {F G : Nat → Int} (ht : P.underlying t = some (.array len e)) (he : P.underlying e = some (.int k)) (hs : (P.info? e).map (·.size) = some 1) (hg : P.eqGuardType P.depth t = false)
    (hx : ev L x = some (.agg (cl k len F))) (hy : ev L y = some (.agg (cl k len G))) (h : ∀ i, i < len → F i = G i) : Det P ⟨ds, .binOp .eql t x y t', ty, pos, af, gu⟩ n L w (.bool true) w :=
  Det.of_run fun a' hF => by
    obtain ⟨inf, hi, hz⟩ := Option.map_eq_some_iff.1 hs
    have hc : P.cellsOf e = 1 := by simp [Program.cellsOf, hi, hz]
    have key : ∀ (l : List Nat), (∀ i ∈ l, i < len) → (Op.eqItems 9999 e 1 (cl k len F) (cl k len G) l).run P w = .ok true w := by
      intro l
      induction l with
      | nil => intro _; rfl
      | cons i l ih =>
        intro hl
        have hil := hl i (List.mem_cons_self ..)
        have hp : ∀ H : Nat → Int, (part e (cl k len H) (i * 1)).run P w = .ok (.int k (H i)) w := by
          intro H
          simp only [part, Sem.run_bind, run_isAgg_flat he rfl, Result.andThen_ok, Bool.false_eq_true, if_false, Nat.mul_one, cl_get hil, Sem.run_pure]
        have hq : (Op.equalIn 9999 e (.int k (F i)) (.int k (G i))).run P w = .ok true w := by
          rw [run_equalIn_int w 9998 e k k _ _ he, h i hil]; simp
        simp only [Op.eqItems, Sem.run_bind, hp, Result.andThen_ok, hq]
        simp only [Bool.not_true, Bool.false_eq_true, if_false]
        exact ih fun j hj => hl j (List.mem_cons_of_mem _ hj)
    have h1 : (binOp .eql t (.agg (cl k len F)) (.agg (cl k len G))).run P w = .ok (.bool true) w := by
      rw [run_eql_struct, run_equalIn_array w 9999 _ _ ht hi, hc, key _ (fun i hi => by simpa using hi)]; rfl
    simp [execOp, hF.eval hx, hF.eval hy, run_eqGuard_agg w _ t x y _ _ hg, h1]

/-- bytes as a text -/
def bytesOf (len : Nat) (X : Nat → Int) : ByteArray := ((List.range len).map X).foldl (fun r n => r.push (UInt8.ofNat n.toNat)) ByteArray.empty
theorem run_loadCells_each {b o : Nat} {V : Nat → Value} : ∀ (m i : Nat) (acc : Array Value), (∀ j, i ≤ j → j < i + m → w.cell? ⟨b, o + j, none⟩ = some (V j)) →
    (loadCellsFrom ⟨b, o, none⟩ i m acc).run P w = .ok (acc ++ ((List.range' i m).map V).toArray) w
  | 0, i, acc, h => by simp [loadCellsFrom]
  | m + 1, i, acc, h => by
    simp only [loadCellsFrom, add_none, Sem.run_bind, run_load, h i (Nat.le_refl _) (by omega), Result.andThen_ok]
    rw [run_loadCells_each m (i + 1) _ fun j h1 h2 => h j (by omega) (by omega)]
    congr 1
    apply Array.ext'
    simp [List.range'_succ]
theorem d_bytes_string {x : Operand} {s t e : TypeId} {ad : Option Addr} {len cap : Nat} {X : Nat → Int} (hs : P.underlying s = some (.slice e)) (he : P.underlying e = some (.int .u8)) (ht : P.underlying t = some .string)
    (hx : ev L x = some (.slice ad len cap)) (hsl : Sl w ad len .u8 X) (hnil : ad = none → len = 0) : Det P ⟨ds, .convert s t x, ty, pos, af, gu⟩ n L w (.string (bytesOf len X)) w :=
  Det.of_run fun a' hF => by
    have h1 : (Conv.bytesToString (.slice ad len cap)).run P w = .ok (.string (bytesOf len X)) w := by
      cases ad with
      | none => obtain rfl := hnil rfl; rfl
      | some a =>
        have hl : (loadCells a len).run P w = .ok (((List.range len).map X).map (Value.int .u8)).toArray w := by
          rcases hsl.h with h0 | ⟨b, o, h1, h2⟩
          · subst h0; rfl
          · cases h1
            have := run_loadCells_each (P := P) (V := fun j => Value.int .u8 (X j)) len 0 #[] fun j _ hj => h2 j (by omega)
            rw [loadCells, this]
            simp [List.range_eq_range']
        exact run_bytesToString w a len cap _ hl
    simp [execOp, hF.eval hx, run_convert_bytes_string w s t e ad len cap hs he ht, h1]
theorem bytesOf_congr {len : Nat} {X Y : Nat → Int} (h : ∀ i, i < len → X i = Y i) : bytesOf len X = bytesOf len Y := by
  unfold bytesOf
  rw [List.map_congr_left fun i hi => h i (by simpa using hi)]
theorem Sl.of_mem {M : List Blk} {b m : Nat} {k : IntKind} {X : Nat → Int} {t : TypeId} (hM : Mem w0 w M) (i : Nat) (hi : M[i]? = some (b, cl k m X, t)) : Sl w (some ⟨b, 0, none⟩) m k X :=
  ⟨.inr ⟨b, 0, rfl, fun j hj => by rw [Nat.zero_add]; exact hM.cell i hi (cl_get hj)⟩⟩
end
end Go.Mi
