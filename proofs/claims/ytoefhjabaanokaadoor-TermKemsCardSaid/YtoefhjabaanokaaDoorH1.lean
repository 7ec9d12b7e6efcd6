/- Structures, slices of structures, strings and maps in a walk; facts of the heap that avoid blocks. General lemmas. -/
import Derived.Test.YtoefhjabaanokaaDoorA8
import Derived.MapKept
import Derived.Maps.AppendAt
import Derived.Laws.Strings
namespace Go.Mi
open Go.RowKit

/-- some blocks change, the others are as they were -/
structure Ch (Y : List Nat) (w w' : World) : Prop where
  os : w'.os = w.os
  tape : w'.tape = w.tape
  output : w'.output = w.output
  size : w.heap.size ≤ w'.heap.size
  blk : ∀ b, b < w.heap.size → b ∉ Y → w'.heap[b]? = w.heap[b]?

theorem Ch.refl (Y : List Nat) (w : World) : Ch Y w w := ⟨rfl, rfl, rfl, Nat.le_refl _, fun _ _ _ => rfl⟩
theorem Ch.trans {Y : List Nat} {a b c : World} (h : Ch Y a b) (k : Ch Y b c) : Ch Y a c :=
  ⟨k.os.trans h.os, k.tape.trans h.tape, k.output.trans h.output, Nat.le_trans h.size k.size, fun i hi hn => (k.blk i (Nat.lt_of_lt_of_le hi h.size) hn).trans (h.blk i hi hn)⟩
theorem Ch.mono {Y Y' : List Nat} {a b : World} (h : Ch Y a b) (hs : ∀ y, y ∈ Y → y ∈ Y') : Ch Y' a b :=
  ⟨h.os, h.tape, h.output, h.size, fun i hi hn => h.blk i hi fun hm => hn (hs i hm)⟩
/-- of what came after, nothing is said -/
theorem Ch.drop {Y Y' : List Nat} {a b : World} (h : Ch Y a b) (hs : ∀ y, y ∈ Y → y ∈ Y' ∨ a.heap.size ≤ y) : Ch Y' a b :=
  ⟨h.os, h.tape, h.output, h.size, fun i hi hn => h.blk i hi fun hm => by rcases hs i hm with h | h; exact hn h; omega⟩
theorem Gr.ch {w w' : World} (h : Gr w w') : Ch [] w w' := ⟨h.os, h.tape, h.output, h.size, fun b hb _ => h.block b hb⟩
theorem Ch.gr {w w' : World} (h : Ch [] w w') : Gr w w' := ⟨h.os, h.tape, h.output, h.size, fun b hb => h.blk b hb (by simp)⟩
theorem Ch.below {Y : List Nat} {n : Nat} {w w' : World} (h : Ch Y w w') (hn : n ≤ w.heap.size) (hy : ∀ y, y ∈ Y → n ≤ y) : Below n w w' :=
  ⟨h.os, h.tape, h.output, h.size, fun b hb => h.blk b (by omega) fun hm => by have := hy b hm; omega⟩
theorem NewB.ch {w w' : World} {b : Nat} {c : Array Value} {t : TypeId} (h : NewB w w' b c t) : Ch [] w w' := by
  obtain ⟨rfl, rfl⟩ := h
  exact Gr.ch ((Below.refl w.heap.size w).alloc (Nat.le_refl _) _)
theorem Upd.ch {w w' : World} {b : Nat} {c : Array Value} {t : TypeId} (h : Upd w w' b c t) : Ch [b] w w' :=
  ⟨h.os, h.tape, h.output, by rw [h.size]; exact Nat.le_refl _, fun k _ hn => h.other k (by simpa using hn)⟩

/-- what is at a place, one cell behind the other -/
def At (w : World) (b o : Nat) (vs : List Value) : Prop := ∀ i u, vs[i]? = some u → w.cell? ⟨b, o + i, none⟩ = some u
theorem At.mv {w w' : World} {Y : List Nat} {b o : Nat} {vs : List Value} (h : At w b o vs) (k : Ch Y w w') (hb : b ∉ Y) : At w' b o vs := fun i u hu => by
  have h1 := h i u hu
  have h2 := World.block_lt_of_cell? w _ h1
  have h3 := k.blk b h2 hb
  simpa [World.cell?, h3] using h1
theorem At.of_blk {w : World} {b : Nat} {c : Array Value} {t : TypeId} {f : Nat × Nat} (h : w.heap[b]? = some (.cells c t f)) : At w b 0 c.toList := fun i u hu => by
  rw [cell_blk h, Nat.zero_add]
  simpa using hu
theorem At.app {w : World} {b o : Nat} {xs ys : List Value} : At w b o (xs ++ ys) ↔ At w b o xs ∧ At w b (o + xs.length) ys := by
  constructor
  · intro h
    refine ⟨fun i u hu => h i u ?_, fun i u hu => ?_⟩
    · have hl : i < xs.length := by
        rcases Nat.lt_or_ge i xs.length with h' | h'
        · exact h'
        · simp [List.getElem?_eq_none h'] at hu
      rw [List.getElem?_append_left hl]; exact hu
    · have := h (xs.length + i) u (by rw [List.getElem?_append_right (by omega), Nat.add_sub_cancel_left]; exact hu)
      rwa [← Nat.add_assoc] at this
  · rintro ⟨h1, h2⟩ i u hu
    rcases Nat.lt_or_ge i xs.length with h' | h'
    · rw [List.getElem?_append_left h'] at hu; exact h1 i u hu
    · rw [List.getElem?_append_right h'] at hu
      have := h2 (i - xs.length) u hu
      rwa [show o + xs.length + (i - xs.length) = o + i by omega] at this
theorem At.lt {w : World} {b o : Nat} {v : Value} {vs : List Value} (h : At w b o (v :: vs)) : b < w.heap.size := World.block_lt_of_cell? w _ (h 0 v rfl)

section
variable {P : Program} {n : Nat} {L : List (Nat × Value)} {w : World} {ds : Option Nat} {ty : TypeId} {pos : String} {af : Array Edge} {gu : Option (Nat × Bool)}

/-- a structure or an array is read -/
theorem d_loadC {x : Operand} {t : TypeId} {d : TypeDesc} {b o m : Nat} {vs : List Value} (ht : P.underlying t = some d) (hf : TypeDesc.flat d = false) (hs : (P.info? t).map (·.size) = some m) (hx : ev L x = some (.pointer (some ⟨b, o, none⟩)))
    (hb : At w b o vs) (hc : vs.length = m) : Det P ⟨ds, .load t x, ty, pos, af, gu⟩ n L w (.agg vs.toArray) w :=
  Det.of_run fun a hF => by
    obtain ⟨inf, hi, hz⟩ := Option.map_eq_some_iff.1 hs
    have hag : (isAgg t).run P w = .ok true w := by
      simp only [isAgg, Sem.run_bind, run_underlying' ht, Result.andThen_ok]
      cases d <;> simp_all [TypeDesc.flat]
    have hl := run_loadCells_list (P := P) w ⟨b, o, none⟩ vs (fun j v hj => by rw [add_none]; exact hb j v hj)
    subst hc
    simp [execOp, hF.eval hx, Instr.loadAt, Instr.sureAddr, loadVar, hag, sizeOf, typeInfo, hi, hz, hl]

/-- the address of a field -/
theorem d_fieldAddr {x : Operand} {s : TypeId} {fs : Array Field} {f : Nat} {fd : Field} {b o m : Nat} (hs : P.underlying s = some (.struct fs)) (hf : fs[f]? = some fd) (hm : (P.info? fd.type).map (·.size) = some (m + 1)) (hx : ev L x = some (.pointer (some ⟨b, o, none⟩))) :
    Det P ⟨ds, .fieldAddr s x f, ty, pos, af, gu⟩ n L w (.pointer (some ⟨b, o + fd.offset, none⟩)) w :=
  Det.of_run fun a hF => by
    obtain ⟨inf, hi, hz⟩ := Option.map_eq_some_iff.1 hm
    simp [execOp, hF.eval hx, Instr.fieldAt, Instr.sureAddr, run_underlying' hs, hf, fieldPlace, sizeOf, typeInfo, hi, hz, add_none]

theorem run_part1 {t : TypeId} {d : TypeDesc} {cs : Array Value} {off : Nat} {v : Value} (ht : P.underlying t = some d) (hf : TypeDesc.flat d = true) (hv : cs[off]? = some v) : (part t cs off).run P w = .ok v w := by
  simp [part, run_isAgg_flat ht hf, hv]

/-- a field that is one cell, of a structure at hand -/
theorem d_field1 {x : Operand} {s : TypeId} {fs : Array Field} {f : Nat} {fd : Field} {d : TypeDesc} {cs : Array Value} {v : Value} (hs : P.underlying s = some (.struct fs)) (hf : fs[f]? = some fd) (ht : P.underlying fd.type = some d) (hfl : TypeDesc.flat d = true)
    (hx : ev L x = some (.agg cs)) (hv : cs[fd.offset]? = some v) : Det P ⟨ds, .field s x f, ty, pos, af, gu⟩ n L w v w :=
  Det.of_run fun a hF => by
    simp [execOp, hF.eval hx, Instr.field, run_underlying' hs, hf, asAgg, run_part1 ht hfl hv]

/-- the address of an element of a slice whose elements have m cells -/
theorem d_ixSm {x y : Operand} {k : IntKind} {T e : TypeId} {len cap b o m : Nat} {i : Int} {j : Nat} (hT : P.underlying T = some (.slice e)) (hs : (P.info? e).map (·.size) = some m) (hx : ev L x = some (.slice (some ⟨b, o, none⟩) len cap)) (hy : ev L y = some (.int k i))
    (hj : i = j) (h1 : j < len) : Det P ⟨ds, .indexAddr T x y, ty, pos, af, gu⟩ n L w (.pointer (some ⟨b, o + j * m, none⟩)) w :=
  Det.of_run fun a hF => by
    subst hj
    obtain ⟨inf, hi, hz⟩ := Option.map_eq_some_iff.1 hs
    simp [execOp, hF.eval hx, hF.eval hy, Instr.indexAt, asIntOf, run_underlying' hT, sizeOf, typeInfo, hi, hz, add_none, h1]

theorem upd_setRow {w : World} {b : Nat} {c : Array Value} {t : TypeId} (h : w.heap[b]? = some (.cells c t (0, 0))) (c' : Array Value) : Upd w (w.setRow b c') b c' t :=
  ⟨rfl, rfl, rfl, by simp [World.setRow], setRow_heap w b c c' t _ h, fun k hk => setRow_other w b k c' hk⟩

/-- cells from a place on, turned -/
def put (c : Array Value) (o : Nat) (vs : List Value) : Array Value := (c.toList.take o ++ vs ++ c.toList.drop (o + vs.length)).toArray
theorem put_size {c : Array Value} {o : Nat} {vs : List Value} (h : o + vs.length ≤ c.size) : (put c o vs).size = c.size := by
  simp [put]; omega

/-- a structure is written into an own block, from a place on -/
theorem ok_storeC {x y : Operand} {t T : TypeId} {b o m : Nat} {c : Array Value} {u : Value} (hs : (P.info? t).map (·.size) = some m) (hx : ev L x = some (.pointer (some ⟨b, o, none⟩))) (hy : ev L y = some u) (hc' : u.cells.size = m) (hv : ∀ v ∈ u.cells.toList, v.oneCell' = true)
    (hb : w.heap[b]? = some (.cells c T (0, 0))) (hc : o + m ≤ c.size) : Ok1 P ⟨ds, .store t x y, ty, pos, af, gu⟩ n L w fun _ w' => Upd w w' b (put c o u.cells.toList) T := by
  obtain ⟨inf, hi, hz⟩ := Option.map_eq_some_iff.1 hs
  have h1 := run_storeCells_at (P := P) b o T u.cells.toList 0 c w hb (by simp; omega) hv
  have hd : Det P ⟨ds, .store t x y, ty, pos, af, gu⟩ n L w undef (w.setRow b (put c o u.cells.toList)) := Det.of_skip fun a hF => by
    simp only [Nat.add_zero] at h1
    simp [execOp, hF.eval hx, hF.eval hy, Instr.storeAt, Instr.sureAddr, storeVar, sizeOf, typeInfo, hi, hz, hc', put, h1]
  refine hd.mono fun v' w'' ⟨_, hw⟩ => ?_
  subst hw
  exact upd_setRow hb _

/-- a slice that the call owns, and what is behind it -/
abbrev Own (w : World) (base : Nat) (e : TypeId) (m : Nat) (v : Value) (n : Nat) (xs : List Value) : Prop := w.ownsRow base e m v n xs
def oblk : Value → List Nat
  | .slice (some a) _ _ => [a.block]
  | _ => []
theorem Own.mv {w w' : World} {Y : List Nat} {base m n : Nat} {e : TypeId} {v : Value} {xs : List Value} (h : Own w base e m v n xs) (k : Ch Y w w') (hy : ∀ b, b ∈ oblk v → b ∉ Y) : Own w' base e m v n xs := by
  refine ⟨h.1, ?_⟩
  rcases h.2 with h2 | ⟨g, cap, cur, rfl, hg, hb, h3⟩
  · exact .inl h2
  · have hlt : g < w.heap.size := by
      rcases Nat.lt_or_ge g w.heap.size with h' | h'
      · exact h'
      · simp [Array.getElem?_eq_none h'] at hb
    exact .inr ⟨g, cap, cur, rfl, hg, by rw [k.blk g hlt (hy g (by simp [oblk]))]; exact hb, h3⟩
theorem Own.lt {w : World} {base m n : Nat} {e : TypeId} {v : Value} {xs : List Value} (h : Own w base e m v n xs) : ∀ b, b ∈ oblk v → base ≤ b ∧ b < w.heap.size := by
  intro b hb
  rcases h.2 with ⟨rfl, _⟩ | ⟨g, cap, cur, rfl, hg, hk, h3⟩
  · simp [oblk] at hb
  · simp only [oblk, List.mem_singleton] at hb
    subst hb
    refine ⟨hg, ?_⟩
    rcases Nat.lt_or_ge b w.heap.size with h' | h'
    · exact h'
    · rw [Array.getElem?_eq_none h'] at hk; cases hk
theorem Own.at {w : World} {base m n : Nat} {e : TypeId} {v : Value} {xs : List Value} (h : Own w base e m v n xs) : (v = .slice none 0 0 ∧ n = 0 ∧ xs = []) ∨ ∃ b cap, v = .slice (some ⟨b, 0, none⟩) n cap ∧ n ≤ cap ∧ At w b 0 xs := by
  rcases h.2 with ⟨rfl, rfl⟩ | ⟨g, cap, cur, rfl, hg, hk, h3, h4, h5, h6⟩
  · exact .inl ⟨rfl, rfl, List.eq_nil_of_length_eq_zero (by simpa using h.1)⟩
  · refine .inr ⟨g, cap, rfl, h3, fun i u hu => ?_⟩
    rw [cell_blk hk, Nat.zero_add, ← Array.getElem?_toList]
    rw [← h6, List.getElem?_take] at hu
    split at hu
    · exact hu
    · simp at hu

/-- append to a slice that the call owns -/
theorem ok_append {s x : Operand} {t e : TypeId} {i : TypeInfo} {z : Value} {base m bytes n' k c b o : Nat} {v : Value} {xs news : List Value} (ht : P.underlying t = some (.slice e)) (hi : P.info? e = some i) (hz : i.zero = some z)
    (hm : i.size = m) (hy : i.bytes = bytes) (hzs : z.cells.size = m) (hm0 : 0 < m) (hs : ev L s = some v) (hx : ev L x = some (.slice (some ⟨b, o, none⟩) k c)) (hown : Own w base e m v n' xs)
    (hl : news.length = k * m) (hn : At w b o news) (h1 : ∀ u ∈ news, u.oneCell' = true) (h63 : n' + k ≤ maxLen) (hby : (n' + k) * bytes ≤ 140737488355328) (hbase : base ≤ w.heap.size) :
    Ok1 P ⟨ds, .call ⟨.builtin .append, #[s, x], #[t, t]⟩, ty, pos, af, gu⟩ n L w fun v' w' => Own w' base e m v' (n' + k) (xs ++ news) ∧ Ch (oblk v) w w' ∧ (oblk v' = oblk v ∨ oblk v' = [w.heap.size]) := by
  obtain ⟨v', w', hr, h2, h3, _, h5⟩ := run_append_own_at (P := P) w base t ty e i z m bytes ht hi hz hm hy hzs hm0 v n' xs hown ⟨b, o, none⟩ k c news hl (fun j u hu => by rw [add_none]; exact hn j u hu) h1 h63 hby hbase
  have hd : Det P ⟨ds, .call ⟨.builtin .append, #[s, x], #[t, t]⟩, ty, pos, af, gu⟩ n L w v' w' := Det.of_run fun a hF => by
    simp [execOp, hF.eval hs, hF.eval hx, resolve, invoke, builtin, hr]
  refine hd.mono fun v'' w'' ⟨ha, hb⟩ => ?_
  subst ha; subst hb
  have ob : ∀ u : Value, ∀ g, u.ownBlock = some g ↔ oblk u = [g] := by
    intro u g
    cases u with
    | slice a _ _ => cases a <;> simp [Value.ownBlock, oblk]
    | _ => simp [Value.ownBlock, oblk]
  have ob0 : ∀ u : Value, u.ownBlock = none ↔ oblk u = [] := by
    intro u
    cases u with
    | slice a _ _ => cases a <;> simp [Value.ownBlock, oblk]
    | _ => simp [Value.ownBlock, oblk]
  refine ⟨h2, ⟨h3.os, h3.tape, h3.output, h3.size, fun g hg hn => h3.block g hg fun he => hn ?_⟩, ?_⟩
  · rw [(ob v g).1 he.symm]; simp
  · rcases h5 with h5 | h5
    · left
      cases hv : v.ownBlock with
      | none => rw [(ob0 v).1 hv, (ob0 v'').1 (h5.trans hv)]
      | some g => rw [(ob v g).1 hv, (ob v'' g).1 (h5.trans hv)]
    · right; exact (ob v'' _).1 h5
end
end Go.Mi
