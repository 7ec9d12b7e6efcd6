/- Go's operations on numbers, bools, arrays and slices of plain cells, one lemma an operation. No conditions: general lemmas. -/
import Derived.Test.YtoefhjabaanokaaDoorA1
import Derived.Laws.Cells
namespace Go.Mi
open Go.RowKit

theorem add_none (b o i : Nat) : (⟨b, o, none⟩ : Addr).add i = ⟨b, o + i, none⟩ := by
  unfold Addr.add
  split <;> simp_all

theorem wrap_i64 {x : Int} (h1 : -9223372036854775808 ≤ x) (h2 : x ≤ 9223372036854775807) : IntKind.wrap .i64 x = x := by
  simp [IntKind.wrap, IntKind.bits, IntKind.signed]; split <;> omega
theorem wrap_i32 {x : Int} (h1 : -2147483648 ≤ x) (h2 : x ≤ 2147483647) : IntKind.wrap .i32 x = x := by
  simp [IntKind.wrap, IntKind.bits, IntKind.signed]; split <;> omega
theorem wrap_u64 {x : Int} (h1 : 0 ≤ x) (h2 : x ≤ 18446744073709551615) : IntKind.wrap .u64 x = x := by
  simp [IntKind.wrap, IntKind.bits, IntKind.signed]; omega
theorem wrap_u32 {x : Int} (h1 : 0 ≤ x) (h2 : x ≤ 4294967295) : IntKind.wrap .u32 x = x := by
  simp [IntKind.wrap, IntKind.bits, IntKind.signed]; omega
theorem wrap_u16 {x : Int} (h1 : 0 ≤ x) (h2 : x ≤ 65535) : IntKind.wrap .u16 x = x := by
  simp [IntKind.wrap, IntKind.bits, IntKind.signed]; omega
theorem wrap_u8 {x : Int} (h1 : 0 ≤ x) (h2 : x ≤ 255) : IntKind.wrap .u8 x = x := by
  simp [IntKind.wrap, IntKind.bits, IntKind.signed]; omega
theorem wrap_u16m (x : Int) : IntKind.wrap .u16 x = x % 65536 := by
  simp [IntKind.wrap, IntKind.bits, IntKind.signed]
theorem wrap_u8m (x : Int) : IntKind.wrap .u8 x = x % 256 := by
  simp [IntKind.wrap, IntKind.bits, IntKind.signed]
theorem wrap_u32m (x : Int) : IntKind.wrap .u32 x = x % 4294967296 := by
  simp [IntKind.wrap, IntKind.bits, IntKind.signed]
theorem tmod_pos {x y : Int} (h : 0 ≤ x) : x.tmod y = x % y := Int.tmod_eq_emod_of_nonneg h
theorem tdiv_pos {x y : Int} (h : 0 ≤ x) : x.tdiv y = x / y := Int.tdiv_eq_ediv_of_nonneg h

theorem take_set' {α : Type} : ∀ (l : List α) (i : Nat) (v : α), i < l.length → (l.set i v).take (i + 1) = l.take i ++ [v]
  | [], i, v, h => by simp at h
  | x :: l, 0, v, h => by simp
  | x :: l, i + 1, v, h => by simp at h; simp [take_set' l i v h]
theorem drop_set' {α : Type} : ∀ (l : List α) (i : Nat) (v : α) (j : Nat), i < j → (l.set i v).drop j = l.drop j
  | [], i, v, j, h => by simp
  | x :: l, 0, v, j + 1, h => by simp
  | x :: l, i + 1, v, j + 1, h => by simp [drop_set' l i v j (by omega)]

section
variable {P : Program} {w : World} {n : Nat} {L : List (Nat × Value)} {ds : Option Tmp} {ty : TypeId} {pos : String} {af : Array Edge} {gu : Option (Nat × Bool)}

theorem d_move {x : Operand} {v : Value} (hx : ev L x = some v) : Det P ⟨ds, .move x, ty, pos, af, gu⟩ n L w v w :=
  Det.of_run fun a hF => by simp [execOp, hF.eval hx]

theorem d_assign {x : Operand} {v : Value} (hx : ev L x = some v) : Det P ⟨ds, .assign x, ty, pos, af, gu⟩ n L w v w :=
  Det.of_run fun a hF => by simp [execOp, hF.eval hx]

theorem d_pick {c x y : Operand} {b : Bool} {v : Value} (hc : ev L c = some (.bool b)) (hv : ev L (bif b then x else y) = some v) : Det P ⟨ds, .pick c x y, ty, pos, af, gu⟩ n L w v w :=
  Det.of_run fun a hF => by
    cases b <;> simp at hv <;> simp [execOp, hF.eval hc, hF.eval hv, asBool]

/-- 'pick c x false' where x is known if c is true, and 'pick c true y' -/
theorem d_not {x : Operand} {b : Bool} {t : TypeId} (hx : ev L x = some (.bool b)) : Det P ⟨ds, .unOp .not t x, ty, pos, af, gu⟩ n L w (.bool !b) w :=
  Det.of_run fun a hF => by simp [execOp, hF.eval hx, Op.unary]

theorem d_neg {x : Operand} {k : IntKind} {p r : Int} {t : TypeId} (hx : ev L x = some (.int k p)) (hr : k.wrap (0 - p) = r) : Det P ⟨ds, .unOp .neg t x, ty, pos, af, gu⟩ n L w (.int k r) w :=
  Det.of_run fun a hF => by subst hr; simp [execOp, hF.eval hx, Op.unary, Op.intArith]

section
variable {x y : Operand} {k : IntKind} {p q r : Int} {t t' : TypeId}

theorem d_add (hx : ev L x = some (.int k p)) (hy : ev L y = some (.int k q)) (hr : k.wrap (p + q) = r) : Det P ⟨ds, .binOp .add t x y t', ty, pos, af, gu⟩ n L w (.int k r) w :=
  Det.of_run fun a hF => by subst hr; simp [execOp, hF.eval hx, hF.eval hy, eqGuard, binOp, Op.intArith]

theorem d_sub (hx : ev L x = some (.int k p)) (hy : ev L y = some (.int k q)) (hr : k.wrap (p - q) = r) : Det P ⟨ds, .binOp .sub t x y t', ty, pos, af, gu⟩ n L w (.int k r) w :=
  Det.of_run fun a hF => by subst hr; simp [execOp, hF.eval hx, hF.eval hy, eqGuard, binOp, Op.intArith]

theorem d_mul (hx : ev L x = some (.int k p)) (hy : ev L y = some (.int k q)) (hr : k.wrap (p * q) = r) : Det P ⟨ds, .binOp .mul t x y t', ty, pos, af, gu⟩ n L w (.int k r) w :=
  Det.of_run fun a hF => by subst hr; simp [execOp, hF.eval hx, hF.eval hy, eqGuard, binOp, Op.intArith]

theorem d_quo (hx : ev L x = some (.int k p)) (hy : ev L y = some (.int k q)) (h0 : q ≠ 0) (hr : k.wrap (p.tdiv q) = r) : Det P ⟨ds, .binOp .quo t x y t', ty, pos, af, gu⟩ n L w (.int k r) w :=
  Det.of_run fun a hF => by subst hr; simp [execOp, hF.eval hx, hF.eval hy, eqGuard, binOp, Op.intDiv, h0]

theorem d_rem (hx : ev L x = some (.int k p)) (hy : ev L y = some (.int k q)) (h0 : q ≠ 0) (hr : p.tmod q = r) : Det P ⟨ds, .binOp .rem t x y t', ty, pos, af, gu⟩ n L w (.int k r) w :=
  Det.of_run fun a hF => by subst hr; simp [execOp, hF.eval hx, hF.eval hy, eqGuard, binOp, Op.intDiv, h0]

theorem d_and (hx : ev L x = some (.int k p)) (hy : ev L y = some (.int k q)) (hr : k.wrap (BitVec.ofInt k.bits p &&& BitVec.ofInt k.bits q).toNat = r) : Det P ⟨ds, .binOp .and t x y t', ty, pos, af, gu⟩ n L w (.int k r) w :=
  Det.of_run fun a hF => by subst hr; simp [execOp, hF.eval hx, hF.eval hy, eqGuard, binOp, Op.intBits]

theorem d_or (hx : ev L x = some (.int k p)) (hy : ev L y = some (.int k q)) (hr : k.wrap (BitVec.ofInt k.bits p ||| BitVec.ofInt k.bits q).toNat = r) : Det P ⟨ds, .binOp .or t x y t', ty, pos, af, gu⟩ n L w (.int k r) w :=
  Det.of_run fun a hF => by subst hr; simp [execOp, hF.eval hx, hF.eval hy, eqGuard, binOp, Op.intBits]

theorem d_xor (hx : ev L x = some (.int k p)) (hy : ev L y = some (.int k q)) (hr : k.wrap (BitVec.ofInt k.bits p ^^^ BitVec.ofInt k.bits q).toNat = r) : Det P ⟨ds, .binOp .xor t x y t', ty, pos, af, gu⟩ n L w (.int k r) w :=
  Det.of_run fun a hF => by subst hr; simp [execOp, hF.eval hx, hF.eval hy, eqGuard, binOp, Op.intBits]

theorem d_shl {k' : IntKind} (hx : ev L x = some (.int k p)) (hy : ev L y = some (.int k' q)) (h0 : 0 ≤ q) (hr : k.wrap (p * 2 ^ (min q.toNat k.bits)) = r) : Det P ⟨ds, .binOp .shl t x y t', ty, pos, af, gu⟩ n L w (.int k r) w :=
  Det.of_run fun a hF => by subst hr; have : ¬ q < 0 := by omega
                            simp [execOp, hF.eval hx, hF.eval hy, eqGuard, binOp, Op.shift, this]

theorem d_shr {k' : IntKind} (hx : ev L x = some (.int k p)) (hy : ev L y = some (.int k' q)) (h0 : 0 ≤ q) (hr : p.fdiv (2 ^ (min q.toNat k.bits)) = r) : Det P ⟨ds, .binOp .shr t x y t', ty, pos, af, gu⟩ n L w (.int k r) w :=
  Det.of_run fun a hF => by subst hr; have : ¬ q < 0 := by omega
                            simp [execOp, hF.eval hx, hF.eval hy, eqGuard, binOp, Op.shift, this]

theorem d_lss (hx : ev L x = some (.int k p)) (hy : ev L y = some (.int k q)) : Det P ⟨ds, .binOp .lss t x y t', ty, pos, af, gu⟩ n L w (.bool (decide (p < q))) w :=
  Det.of_run fun a hF => by simp [execOp, hF.eval hx, hF.eval hy, eqGuard, binOp, Op.intCmp]
theorem d_leq (hx : ev L x = some (.int k p)) (hy : ev L y = some (.int k q)) : Det P ⟨ds, .binOp .leq t x y t', ty, pos, af, gu⟩ n L w (.bool (decide (p ≤ q))) w :=
  Det.of_run fun a hF => by simp [execOp, hF.eval hx, hF.eval hy, eqGuard, binOp, Op.intCmp]
theorem d_gtr (hx : ev L x = some (.int k p)) (hy : ev L y = some (.int k q)) : Det P ⟨ds, .binOp .gtr t x y t', ty, pos, af, gu⟩ n L w (.bool (decide (q < p))) w :=
  Det.of_run fun a hF => by simp [execOp, hF.eval hx, hF.eval hy, eqGuard, binOp, Op.intCmp]
theorem d_geq (hx : ev L x = some (.int k p)) (hy : ev L y = some (.int k q)) : Det P ⟨ds, .binOp .geq t x y t', ty, pos, af, gu⟩ n L w (.bool (decide (q ≤ p))) w :=
  Det.of_run fun a hF => by simp [execOp, hF.eval hx, hF.eval hy, eqGuard, binOp, Op.intCmp]
theorem d_eql (hx : ev L x = some (.int k p)) (hy : ev L y = some (.int k q)) : Det P ⟨ds, .binOp .eql t x y t', ty, pos, af, gu⟩ n L w (.bool (decide (p = q))) w :=
  Det.of_run fun a hF => by simp [execOp, hF.eval hx, hF.eval hy, eqGuard, binOp, Op.intCmp]; rfl
theorem d_neq (hx : ev L x = some (.int k p)) (hy : ev L y = some (.int k q)) : Det P ⟨ds, .binOp .neq t x y t', ty, pos, af, gu⟩ n L w (.bool (!decide (p = q))) w :=
  Det.of_run fun a hF => by simp [execOp, hF.eval hx, hF.eval hy, eqGuard, binOp, Op.intCmp]; rfl
end

theorem run_underlying' {t : TypeId} {d : TypeDesc} (h : P.underlying t = some d) : (underlying t).run P w = .ok d w := by
  simp [underlying, h]

theorem d_conv {x : Operand} {k k' : IntKind} {p r : Int} {s t : TypeId} {d : TypeDesc} (hs : P.underlying s = some d) (ht : P.underlying t = some (.int k')) (hx : ev L x = some (.int k p)) (hr : k'.wrap p = r) :
    Det P ⟨ds, .convert s t x, ty, pos, af, gu⟩ n L w (.int k' r) w :=
  Det.of_run fun a hF => by
    subst hr
    simp [execOp, hF.eval hx, convert, run_underlying' hs, run_underlying' ht, Conv.intToInt]

theorem d_extract {x : Operand} {vs : Array Value} {i : Nat} {v : Value} (hx : ev L x = some (.tuple vs)) (hv : vs[i]? = some v) : Det P ⟨ds, .extract x i, ty, pos, af, gu⟩ n L w v w :=
  Det.of_run fun a hF => by simp [execOp, hF.eval hx, Instr.extract, hv]

theorem d_len_slice {x : Operand} {T e : TypeId} {ad : Option Addr} {l c : Nat} (hT : P.underlying T = some (.slice e)) (hx : ev L x = some (.slice ad l c)) :
    Det P ⟨ds, .call ⟨.builtin .len, #[x], #[T]⟩, ty, pos, af, gu⟩ n L w (.int .i64 l) w :=
  Det.of_run fun a hF => by simp [execOp, hF.eval hx, resolve, invoke, builtin, Builtin.len_, run_underlying' hT, goInt]

theorem d_len_string {x : Operand} {T : TypeId} {s : ByteArray} (hT : P.underlying T = some .string) (hx : ev L x = some (.string s)) :
    Det P ⟨ds, .call ⟨.builtin .len, #[x], #[T]⟩, ty, pos, af, gu⟩ n L w (.int .i64 s.size) w :=
  Det.of_run fun a hF => by simp [execOp, hF.eval hx, resolve, invoke, builtin, Builtin.len_, run_underlying' hT, goInt]

theorem d_min {x y : Operand} {T : Array TypeId} {k : IntKind} {p q r : Int} (hx : ev L x = some (.int k p)) (hy : ev L y = some (.int k q)) (hr : (if q < p then q else p) = r) :
    Det P ⟨ds, .call ⟨.builtin .min, #[x, y], T⟩, ty, pos, af, gu⟩ n L w (.int k r) w :=
  Det.of_run fun a hF => by subst hr; simp [execOp, hF.eval hx, hF.eval hy, resolve, invoke, builtin, Builtin.min_, Builtin.min2]

/-- the address of an array's element -/
theorem d_ixArr {x y : Operand} {k : IntKind} {T e : TypeId} {len b o : Nat} {i : Int} (hT : P.underlying T = some (.array len e)) (hs : (P.info? e).map (·.size) = some 1) (hx : ev L x = some (.pointer (some ⟨b, o, none⟩))) (hy : ev L y = some (.int k i))
    (h0 : 0 ≤ i) (h1 : i < len) : Det P ⟨ds, .indexAddr T x y, ty, pos, af, gu⟩ n L w (.pointer (some ⟨b, o + i.toNat, none⟩)) w :=
  Det.of_run fun a hF => by
    obtain ⟨inf, hi, hz⟩ := Option.map_eq_some_iff.1 hs
    simp [execOp, hF.eval hx, hF.eval hy, Instr.indexAt, asIntOf, run_underlying' hT, Instr.sureAddr, h0, h1, sizeOf, typeInfo, hi, hz, add_none]

/-- .. of a slice's -/
theorem d_ixSl {x y : Operand} {k : IntKind} {T e : TypeId} {len cap b o : Nat} {i : Int} (hT : P.underlying T = some (.slice e)) (hs : (P.info? e).map (·.size) = some 1) (hx : ev L x = some (.slice (some ⟨b, o, none⟩) len cap)) (hy : ev L y = some (.int k i))
    (h0 : 0 ≤ i) (h1 : i < len) : Det P ⟨ds, .indexAddr T x y, ty, pos, af, gu⟩ n L w (.pointer (some ⟨b, o + i.toNat, none⟩)) w :=
  Det.of_run fun a hF => by
    obtain ⟨inf, hi, hz⟩ := Option.map_eq_some_iff.1 hs
    simp [execOp, hF.eval hx, hF.eval hy, Instr.indexAt, asIntOf, run_underlying' hT, h0, h1, sizeOf, typeInfo, hi, hz, add_none]

/-- types of one cell -/
def TypeDesc.flat : TypeDesc → Bool
  | .struct _ | .array _ _ => false
  | _ => true

theorem run_isAgg_flat {t : TypeId} {d : TypeDesc} (h : P.underlying t = some d) (hf : TypeDesc.flat d = true) : (isAgg t).run P w = .ok false w := by
  simp only [isAgg, Sem.run_bind, run_underlying' h, Result.andThen_ok]
  cases d <;> simp_all [TypeDesc.flat]

/-- a cell that is read -/
theorem d_load1 {x : Operand} {t : TypeId} {d : TypeDesc} {ad : Addr} {v : Value} (ht : P.underlying t = some d) (hf : TypeDesc.flat d = true) (hx : ev L x = some (.pointer (some ad))) (hc : w.cell? ad = some v) :
    Det P ⟨ds, .load t x, ty, pos, af, gu⟩ n L w v w :=
  Det.of_run fun a hF => by
    simp [execOp, hF.eval hx, Instr.loadAt, Instr.sureAddr, loadVar, run_isAgg_flat ht hf, hc]

/-- element of an array that is a value -/
theorem d_index {x y : Operand} {k : IntKind} {T e : TypeId} {d : TypeDesc} {len : Nat} {cs : Array Value} {i : Int} {v : Value} (hT : P.underlying T = some (.array len e)) (he : P.underlying e = some d) (hf : TypeDesc.flat d = true) (hs : (P.info? e).map (·.size) = some 1)
    (hx : ev L x = some (.agg cs)) (hy : ev L y = some (.int k i)) (h0 : 0 ≤ i) (h1 : i < len) (hv : cs[i.toNat]? = some v) : Det P ⟨ds, .index T x y, ty, pos, af, gu⟩ n L w v w :=
  Det.of_run fun a hF => by
    obtain ⟨inf, hi, hz⟩ := Option.map_eq_some_iff.1 hs
    simp [execOp, hF.eval hx, hF.eval hy, Instr.index, asIntOf, run_underlying' hT, h0, h1, sizeOf, typeInfo, hi, hz, part, run_isAgg_flat he hf, hv]

/-- the zero value of a type, written out in the text: 'T{}' -/
theorem d_build0 {t e : TypeId} {len : Nat} {z : Array Value} (hT : P.underlying t = some (.array len e)) (hs : ((P.info? e).map (·.size)).isSome = true) (hz : (P.info? t).bind (·.zero) = some (.agg z)) : Det P ⟨ds, .build t #[], ty, pos, af, gu⟩ n L w (.agg z) w :=
  Det.of_run fun a hF => by
    obtain ⟨inf, hi, hz'⟩ := Option.bind_eq_some_iff.1 hz
    obtain ⟨s, hs'⟩ := Option.isSome_iff_exists.1 hs
    obtain ⟨inf', hi', _⟩ := Option.map_eq_some_iff.1 hs'
    simp [execOp, Instr.build, zeroValue, typeInfo, hi, hz', run_underlying' hT, sizeOf, hi', Instr.fill, Value.cells]
end

/-- a new block -/
structure NewB (w w' : World) (b : Nat) (c : Array Value) (t : TypeId) : Prop where
  num : b = w.heap.size
  eq : w' = w.alloc (.cells c t)

/-- a block written -/
structure Upd (w w' : World) (b : Nat) (c : Array Value) (t : TypeId) : Prop where
  os : w'.os = w.os
  tape : w'.tape = w.tape
  output : w'.output = w.output
  size : w'.heap.size = w.heap.size
  blk : w'.heap[b]? = some (.cells c t (0, 0))
  other : ∀ k, k ≠ b → w'.heap[k]? = w.heap[k]?

theorem Upd.refl {w : World} {b : Nat} {c : Array Value} {t : TypeId} (h : w.heap[b]? = some (.cells c t (0, 0))) : Upd w w b c t := ⟨rfl, rfl, rfl, rfl, h, fun _ _ => rfl⟩

theorem Upd.trans {w w1 w2 : World} {b : Nat} {c c' : Array Value} {t : TypeId} (h : Upd w w1 b c t) (h' : Upd w1 w2 b c' t) : Upd w w2 b c' t :=
  ⟨h'.os.trans h.os, h'.tape.trans h.tape, h'.output.trans h.output, h'.size.trans h.size, h'.blk, fun k hk => (h'.other k hk).trans (h.other k hk)⟩

theorem cell_blk {w : World} {b o : Nat} {c : Array Value} {t : TypeId} {f : Nat × Nat} (h : w.heap[b]? = some (.cells c t f)) : w.cell? ⟨b, o, none⟩ = c[o]? := by
  simp [World.cell?, h]

theorem frozen_blk {w : World} {b o : Nat} {c : Array Value} {t : TypeId} (h : w.heap[b]? = some (.cells c t (0, 0))) : w.frozen? ⟨b, o, none⟩ = false := by
  simp [World.frozen?, h]

theorem upd_setCell {w : World} {b o : Nat} {c : Array Value} {t : TypeId} (h : w.heap[b]? = some (.cells c t (0, 0))) (v : Value) : Upd w (w.setCell ⟨b, o, none⟩ v) b (c.setIfInBounds o v) t := by
  refine ⟨rfl, rfl, rfl, by simp, ?_, fun k hk => Below.heap_setCell _ _ _ _ hk⟩
  simp [World.setCell, Array.getElem?_modify, h]

section
variable {P : Program} {w : World} {n : Nat} {L : List (Nat × Value)} {ds : Option Tmp} {ty : TypeId} {pos : String} {af : Array Edge} {gu : Option (Nat × Bool)}

theorem run_store1 {b o : Nat} {c : Array Value} {t : TypeId} {v : Value} (hb : w.heap[b]? = some (.cells c t (0, 0))) (ho : o < c.size) (hv : v.oneCell' = true) : (store ⟨b, o, none⟩ v).run P w = .ok () (w.setCell ⟨b, o, none⟩ v) := by
  rw [run_store _ _ _ _ _ hv]
  simp [cell_blk hb, ho, frozen_blk hb]

/-- a cell of a block that is written -/
theorem ok_store1 {x y : Operand} {t T : TypeId} {b o : Nat} {c : Array Value} {v : Value} (hs : (P.info? t).map (·.size) = some 1) (hx : ev L x = some (.pointer (some ⟨b, o, none⟩))) (hy : ev L y = some v) (hv : v.oneCell' = true)
    (hb : w.heap[b]? = some (.cells c T (0, 0))) (ho : o < c.size) : Ok1 P ⟨ds, .store t x y, ty, pos, af, gu⟩ n L w fun _ w' => Upd w w' b (c.setIfInBounds o v) T := by
  obtain ⟨inf, hi, hz⟩ := Option.map_eq_some_iff.1 hs
  have hd : Det P ⟨ds, .store t x y, ty, pos, af, gu⟩ n L w undef (w.setCell ⟨b, o, none⟩ v) := Det.of_skip fun a hF => by
    have hcs : v.cells = #[v] := by cases v <;> simp_all [Value.cells, Value.oneCell']
    simp [execOp, hF.eval hx, hF.eval hy, Instr.storeAt, Instr.sureAddr, storeVar, sizeOf, typeInfo, hi, hz, hcs, storeCells, Addr.add, run_store1 hb ho hv]
  exact hd.mono fun v' w' ⟨_, hw⟩ => by subst hw; exact upd_setCell hb v

theorem run_storeCells {b : Nat} {T : TypeId} : ∀ (vs : List Value) (i : Nat) (w : World) (c : Array Value), w.heap[b]? = some (.cells c T (0, 0)) → i + vs.length ≤ c.size → (∀ v ∈ vs, v.oneCell' = true) →
    ∃ w', (storeCells ⟨b, 0, none⟩ vs i).run P w = .ok () w' ∧ Upd w w' b ((c.toList.take i ++ vs ++ c.toList.drop (i + vs.length)).toArray) T
  | [], i, w, c, hb, hl, hv => by
    refine ⟨w, by simp [storeCells], ?_⟩
    simp
    exact Upd.refl hb
  | v :: vs, i, w, c, hb, hl, hv => by
    simp at hl
    have ha : (⟨b, 0, none⟩ : Addr).add i = ⟨b, i, none⟩ := by
      unfold Addr.add
      split <;> simp_all
    have hu := upd_setCell (o := i) hb v
    obtain ⟨w', h1, h2⟩ := run_storeCells vs (i + 1) (w.setCell ⟨b, i, none⟩ v) _ hu.blk (by simp; omega) fun u hu => hv u (List.mem_cons_of_mem _ hu)
    refine ⟨w', ?_, ?_⟩
    · simp only [storeCells, ha, Sem.run_bind, run_store1 hb (by omega : i < c.size) (hv v (List.mem_cons_self ..)), Result.andThen_ok, h1]
    · have h3 := hu.trans h2
      have he : ((c.setIfInBounds i v).toList.take (i + 1) ++ vs ++ (c.setIfInBounds i v).toList.drop (i + 1 + vs.length)).toArray = (c.toList.take i ++ v :: vs ++ c.toList.drop (i + (v :: vs).length)).toArray := by
        congr 1
        simp only [Array.toList_setIfInBounds, List.length_cons]
        have hlt : i < c.toList.length := by simp only [Array.length_toList]; omega
        rw [take_set' _ _ _ hlt, drop_set' _ _ _ _ (by omega)]
        simp [show i + 1 + vs.length = i + (vs.length + 1) by omega]
      rw [he] at h3
      exact h3

/-- a whole array (a struct) that is written -/
theorem ok_storeA {x y : Operand} {t T : TypeId} {b m : Nat} {c c' : Array Value} (hs : (P.info? t).map (·.size) = some m) (hx : ev L x = some (.pointer (some ⟨b, 0, none⟩))) (hy : ev L y = some (.agg c')) (hc' : c'.size = m) (hv : ∀ v ∈ c'.toList, v.oneCell' = true)
    (hb : w.heap[b]? = some (.cells c T (0, 0))) (hc : c.size = m) : Ok1 P ⟨ds, .store t x y, ty, pos, af, gu⟩ n L w fun _ w' => Upd w w' b c' T := by
  obtain ⟨inf, hi, hz⟩ := Option.map_eq_some_iff.1 hs
  obtain ⟨w', h1, h2⟩ := run_storeCells (P := P) c'.toList 0 w c hb (by simp; omega) hv
  have hd : Det P ⟨ds, .store t x y, ty, pos, af, gu⟩ n L w undef w' := Det.of_skip fun a hF => by
    simp [execOp, hF.eval hx, hF.eval hy, Instr.storeAt, Instr.sureAddr, storeVar, sizeOf, typeInfo, hi, hz, Value.cells, hc', h1]
  refine hd.mono fun v' w'' ⟨_, hw⟩ => ?_
  subst hw
  have he : (c.toList.take 0 ++ c'.toList ++ c.toList.drop (0 + c'.toList.length)).toArray = c' := by
    simp [List.drop_of_length_le (show c.toList.length ≤ c'.size by simp; omega)]
  rw [he] at h2
  exact h2

theorem run_loadCells {b : Nat} {T : TypeId} {c : Array Value} {f : Nat × Nat} (hb : w.heap[b]? = some (.cells c T f)) (o : Nat) : ∀ (m i : Nat) (acc : Array Value), o + i + m ≤ c.size →
    (loadCellsFrom ⟨b, o, none⟩ i m acc).run P w = .ok (acc ++ c.extract (o + i) (o + i + m)) w
  | 0, i, acc, h => by simp [loadCellsFrom]; omega
  | m + 1, i, acc, h => by
    have ha : (⟨b, o, none⟩ : Addr).add i = ⟨b, o + i, none⟩ := by
      unfold Addr.add
      split <;> simp_all
    have hi : o + i < c.size := by omega
    simp only [loadCellsFrom, ha, Sem.run_bind, run_load, cell_blk hb, Array.getElem?_eq_getElem hi, Result.andThen_ok]
    rw [run_loadCells hb o m (i + 1) _ (by omega)]
    congr 1
    apply Array.ext'
    simp only [Array.toList_append, Array.toList_push, Array.toList_extract, List.extract_eq_take_drop, List.append_assoc, List.append_cancel_left_eq]
    rw [show o + (i + 1) = (o + i) + 1 by omega, show (o + i) + 1 + m - ((o + i) + 1) = m by omega, show o + i + (m + 1) - (o + i) = m + 1 by omega]
    rw [List.drop_eq_getElem_cons (i := o + i) (by simpa using hi), List.take_succ_cons]
    simp

/-- a whole array (a struct) that is read -/
theorem d_loadA {x : Operand} {t T : TypeId} {d : TypeDesc} {b m : Nat} {c : Array Value} {f : Nat × Nat} (ht : P.underlying t = some d) (hf : TypeDesc.flat d = false) (hs : (P.info? t).map (·.size) = some m) (hx : ev L x = some (.pointer (some ⟨b, 0, none⟩)))
    (hb : w.heap[b]? = some (.cells c T f)) (hc : c.size = m) : Det P ⟨ds, .load t x, ty, pos, af, gu⟩ n L w (.agg c) w :=
  Det.of_run fun a hF => by
    obtain ⟨inf, hi, hz⟩ := Option.map_eq_some_iff.1 hs
    have hag : (isAgg t).run P w = .ok true w := by
      simp only [isAgg, Sem.run_bind, run_underlying' ht, Result.andThen_ok]
      cases d <;> simp_all [TypeDesc.flat]
    have hl := run_loadCells (P := P) hb 0 m 0 #[] (by omega)
    simp [execOp, hF.eval hx, Instr.loadAt, Instr.sureAddr, loadVar, hag, sizeOf, typeInfo, hi, hz, loadCells, hl]
    subst hc
    simp

theorem ok_box {x : Operand} {t : TypeId} {v : Value} (hx : ev L x = some v) : Ok1 P ⟨ds, .box t x, ty, pos, af, gu⟩ n L w fun v' w' => ∃ b, v' = .pointer (some ⟨b, 0, none⟩) ∧ NewB w w' b v.cells t := by
  have hd : Det P ⟨ds, .box t x, ty, pos, af, gu⟩ n L w (.pointer (some ⟨w.heap.size, 0, none⟩)) (w.alloc (.cells v.cells t)) := Det.of_run fun a hF => by
    simp [execOp, hF.eval hx, Instr.box, newVar, newRow]
  exact hd.mono fun v' w' ⟨h1, h2⟩ => ⟨_, h1, rfl, h2⟩

theorem ok_alloc {t : TypeId} {z : Value} (hz : (P.info? t).bind (·.zero) = some z) : Ok1 P ⟨ds, .alloc t, ty, pos, af, gu⟩ n L w fun v' w' => ∃ b, v' = .pointer (some ⟨b, 0, none⟩) ∧ NewB w w' b z.cells t := by
  obtain ⟨inf, hi, hz'⟩ := Option.bind_eq_some_iff.1 hz
  have hd : Det P ⟨ds, .alloc t, ty, pos, af, gu⟩ n L w (.pointer (some ⟨w.heap.size, 0, none⟩)) (w.alloc (.cells z.cells t)) := Det.of_run fun a hF => by
    simp [execOp, Instr.alloc, zeroValue, typeInfo, hi, hz', newVar, newRow]
  exact hd.mono fun v' w' ⟨h1, h2⟩ => ⟨_, h1, rfl, h2⟩

/-- make of a slice whose elements are of one cell -/
theorem ok_make {x : Operand} {t e : TypeId} {m bytes : Nat} {z : Value} (hT : P.underlying t = some (.slice e)) (hs : (P.info? e).map (fun i => (i.size, i.bytes, i.zero)) = some (1, bytes, some z)) (hx : ev L x = some (.int .i64 m)) (hz : z.oneCell' = true)
    (hm : bytes * m ≤ 2 ^ 48) (hm' : m < 2 ^ 63) : Ok1 P ⟨ds, .makeSlice t x x, ty, pos, af, gu⟩ n L w fun v' w' => ∃ b, v' = .slice (some ⟨b, 0, none⟩) m m ∧ NewB w w' b ((Array.range m).map fun _ => z) e := by
  obtain ⟨inf, hi, hz'⟩ := Option.map_eq_some_iff.1 hs
  simp only [Prod.mk.injEq] at hz'
  obtain ⟨h1, h2, h3⟩ := hz'
  have hzc : z.cells = #[z] := by cases z <;> simp_all [Value.cells, Value.oneCell']
  have hw : IntKind.wrap .i64 (m : Int) = m := by
    have : (m : Int) < 2 ^ 63 := by exact_mod_cast hm'
    exact wrap_i64 (by omega) (by omega)
  have hb : ¬ ((bytes : Int) * (m : Int) > 2 ^ 48) := by
    have : ((bytes * m : Nat) : Int) ≤ 2 ^ 48 := by exact_mod_cast hm
    rw [Int.natCast_mul] at this
    omega
  have hd : Det P ⟨ds, .makeSlice t x x, ty, pos, af, gu⟩ n L w (.slice (some ⟨w.heap.size, 0, none⟩) m m) (w.alloc (.cells ((Array.range m).map fun _ => z) e)) := Det.of_run fun a hF => by
    have hn : ¬ ((m : Int) < 0) := by omega
    have hti : ∀ w, (typeInfo e).run P w = .ok inf w := fun w => by simp [typeInfo, hi]
    simp only [execOp, hF.eval hx, Instr.makeSlice, Sem.run_bind, run_underlying' hT, Result.andThen_ok, asInt, asIntOf, hti, Sem.run_pure, h2, hw, sizeOf]
    have hc1 : (decide ((m : Int) < 0) || decide ((bytes : Int) * (m : Int) > 2 ^ 48)) = false := by simp only [hn, hb, decide_false, Bool.or_false]
    simp only [hc1]
    by_cases h0 : m = 0
    · subst h0
      have hz0 : Array.range 0 = #[] := by apply Array.ext'; simp
      simp [newRow, hti, hz0]
    · have hn' : ¬ ((m : Int) < 0) := by omega
      rw [if_neg (by simp)]
      simp [newRow, zeroValue, hti, h3, hzc, h0, h1, Nat.mod_one]
  exact hd.mono fun v' w' ⟨h1, h2⟩ => ⟨_, h1, rfl, h2⟩

/-- functions that can be called -/
structure Callee (P : Program) (f : FuncId) : Prop where
  ok : ∃ fn, P.funcs[f]? = some fn ∧ (fn.name == "runtime.NumGoroutine") = false ∧ fn.body.isNone = false

/-- how a call ends -/
def Ret (R : Value → World → Prop) : Ending → World → Prop := fun e w' => ∃ v, e = .returned v ∧ R v w'

theorem ok_callv {x : Operand} {xs : Array Operand} {ts : Array TypeId} {f : FuncId} {first captured : Array Value} {vs : List Value} {R : Value → World → Prop} (hx : ev L x = some (.func (.func f) first captured)) (hc : Callee P f) (ha : evs L xs.toList = some vs)
    (h : Calls P f ((first ++ vs.toArray) ++ captured) w (Ret R)) : Ok1 P ⟨ds, .call ⟨.value x, xs, ts⟩, ty, pos, af, gu⟩ n L w R := by
  intro a K Q hF k
  obtain ⟨fn, h1, h2, h3⟩ := hc.ok
  have hxs : xs.map a.eval = vs.toArray := by
    have := hF.evals ha
    rw [← this, ← List.map_toArray]
  simp only [Oper.wp, execOp, resolve, hF.eval hx, Deferred.ofValue, Sem.run_bind, Sem.run_pure, Result.andThen_ok, invoke, callFunc, run_program, h1, h2, h3, hxs]
  simp only [Bool.false_eq_true, if_false, Sem.run_pure, Oper.upon_enter]
  refine h.mono fun e w' he => ?_
  obtain ⟨v, rfl, hr⟩ := he
  exact k v w' hr

theorem ok_call {xs : Array Operand} {ts : Array TypeId} {f : FuncId} {vs : List Value} {R : Value → World → Prop} (hc : Callee P f) (ha : evs L xs.toList = some vs)
    (h : Calls P f vs.toArray w (Ret R)) : Ok1 P ⟨ds, .call ⟨.value (.func f), xs, ts⟩, ty, pos, af, gu⟩ n L w R :=
  ok_callv (first := #[]) (captured := #[]) rfl hc ha (by simpa using h)
end
end Go.Mi
