/- Small rules that the walks use. General lemmas. -/
import Derived.Test.YtoefhjabaanokaaDoorA6
namespace Go.Mi
open Go.RowKit
section
variable {P : Program} {n : Nat} {w w' w1 : World} {Q : Exit → Act → World → Prop} {K M : Act → World → Prop} {a : Act} {L : List (Nat × Value)} {v : Value} {o : Oper}

theorem memN_one {p x : Nat} (h : memN p [x] = true) : p = x := by
  have := memN_iff.1 h
  simpa using this

theorem then_n (h : K a w) : Exit.then K Q .normal a w := h
theorem then_exit {id : Nat} (h : Q (.exit id) a w) : Exit.then K Q (.exit id) a w := h
theorem then_ret (h : Q .ret a w) : Exit.then K Q .ret a w := h
theorem block_n {id : Nat} (h : Q .normal a w) : Exit.inBlock id Q .normal a w := h
theorem block_ret {id : Nat} (h : Q .ret a w) : Exit.inBlock id Q .ret a w := h
theorem block_exit {id : Nat} (h : Q .normal a w) : Exit.inBlock id Q (.exit id) a w := by simp only [Exit.inBlock, if_true]; exact h
theorem block_exit_ne {id id' : Nat} (hn : id' ≠ id) (h : Q (.exit id') a w) : Exit.inBlock id Q (.exit id') a w := by simp only [Exit.inBlock, hn, if_false]; exact h

theorem wp_join {x : Code} (M : Act → World → Prop) (h1 : x.wp P (Exit.then M Q) a w) (h2 : ∀ a w, M a w → K a w) : x.wp P (Exit.then K Q) a w :=
  Code.wp_mono (fun e a w q => by cases e <;> first | exact h2 _ _ q | exact q) h1

theorem wl0R {ops : Array Oper} {rest : List Oper} {op : Op} {ty : TypeId} {pos : String} {af : Array Edge} {R : World → Prop} (h : Ok1 P ⟨none, op, ty, pos, af, none⟩ n L w fun _ w' => R w') (hF : Frm a n L)
    (k : ∀ w' a', R w' → Frm a' n L → wpList P ops Q rest a' w') : wpList P ops Q (⟨none, op, ty, pos, af, none⟩ :: rest) a w :=
  wl_step h rfl hF fun _ w' hr => k w' _ hr (hF.put_none _)

section
variable {ds : Option Tmp} {ty : TypeId} {pos : String} {af : Array Edge} {gu : Option (Nat × Bool)}
theorem d_ixA0 {x y : Operand} {k : IntKind} {T e : TypeId} {len b j : Nat} {i : Int} (hT : P.underlying T = some (.array len e)) (hs : (P.info? e).map (·.size) = some 1) (hx : ev L x = some (.pointer (some ⟨b, 0, none⟩))) (hy : ev L y = some (.int k i))
    (hj : i = (j : Int)) (h1 : j < len) : Det P ⟨ds, .indexAddr T x y, ty, pos, af, gu⟩ n L w (.pointer (some ⟨b, j, none⟩)) w := by
  subst hj
  have := d_ixArr (w := w) (n := n) (ds := ds) (ty := ty) (pos := pos) (af := af) (gu := gu) hT hs hx hy (by omega) (by omega)
  simpa using this
theorem d_ixS0 {x y : Operand} {k : IntKind} {T e : TypeId} {len cap b j : Nat} {i : Int} (hT : P.underlying T = some (.slice e)) (hs : (P.info? e).map (·.size) = some 1) (hx : ev L x = some (.slice (some ⟨b, 0, none⟩) len cap)) (hy : ev L y = some (.int k i))
    (hj : i = (j : Int)) (h1 : j < len) : Det P ⟨ds, .indexAddr T x y, ty, pos, af, gu⟩ n L w (.pointer (some ⟨b, j, none⟩)) w := by
  subst hj
  have := d_ixSl (w := w) (n := n) (ds := ds) (ty := ty) (pos := pos) (af := af) (gu := gu) hT hs hx hy (by omega) (by omega)
  simpa using this
theorem d_ixS {x y : Operand} {k : IntKind} {T e : TypeId} {len cap b o j : Nat} {i : Int} (hT : P.underlying T = some (.slice e)) (hs : (P.info? e).map (·.size) = some 1) (hx : ev L x = some (.slice (some ⟨b, o, none⟩) len cap)) (hy : ev L y = some (.int k i))
    (hj : i = (j : Int)) (h1 : j < len) : Det P ⟨ds, .indexAddr T x y, ty, pos, af, gu⟩ n L w (.pointer (some ⟨b, o + j, none⟩)) w := by
  subst hj
  have := d_ixSl (w := w) (n := n) (ds := ds) (ty := ty) (pos := pos) (af := af) (gu := gu) hT hs hx hy (by omega) (by omega)
  simpa using this
theorem d_indexN {x y : Operand} {k : IntKind} {T e : TypeId} {d : TypeDesc} {len j : Nat} {cs : Array Value} {i : Int} (hT : P.underlying T = some (.array len e)) (he : P.underlying e = some d) (hf : TypeDesc.flat d = true) (hs : (P.info? e).map (·.size) = some 1)
    (hx : ev L x = some (.agg cs)) (hy : ev L y = some (.int k i)) (hj : i = (j : Int)) (h1 : j < len) (hv : cs[j]? = some v) : Det P ⟨ds, .index T x y, ty, pos, af, gu⟩ n L w v w := by
  subst hj
  exact d_index hT he hf hs hx hy (by omega) (by omega) (by simpa using hv)
theorem ok_makeN {x : Operand} {t e : TypeId} {m bytes : Nat} {i : Int} {z : Value} (hT : P.underlying t = some (.slice e)) (hs : (P.info? e).map (fun i => (i.size, i.bytes, i.zero)) = some (1, bytes, some z)) (hx : ev L x = some (.int .i64 i)) (hi : i = (m : Int)) (hz : z.oneCell' = true)
    (hm : bytes * m ≤ 2 ^ 48 ∧ m < 2 ^ 63) : Ok1 P ⟨ds, .makeSlice t x x, ty, pos, af, gu⟩ n L w fun v' w' => ∃ b, v' = .slice (some ⟨b, 0, none⟩) m m ∧ NewB w w' b ((Array.range m).map fun _ => z) e := by
  subst hi
  exact ok_make hT hs hx hz hm.1 hm.2
end

theorem quo_i64 {p q : Int} (h : 0 ≤ p) (hq : 0 ≤ q) (h' : p ≤ 9223372036854775807) : IntKind.wrap .i64 (p.tdiv q) = p / q := by
  rw [tdiv_pos h]
  have h1 : 0 ≤ p / q := Int.ediv_nonneg h hq
  have h2 : p / q ≤ p := Int.ediv_le_self _ h
  exact wrap_i64 (by omega) (by omega)
theorem quo_u32 {p q : Int} (h : 0 ≤ p) (hq : 0 ≤ q) (h' : p ≤ 4294967295) : IntKind.wrap .u32 (p.tdiv q) = p / q := by
  rw [tdiv_pos h]
  have h1 : 0 ≤ p / q := Int.ediv_nonneg h hq
  have h2 : p / q ≤ p := Int.ediv_le_self _ h
  exact wrap_u32 h1 (by omega)
theorem quo_u16 {p q : Int} (h : 0 ≤ p) (hq : 0 ≤ q) (h' : p ≤ 65535) : IntKind.wrap .u16 (p.tdiv q) = p / q := by
  rw [tdiv_pos h]
  have h1 : 0 ≤ p / q := Int.ediv_nonneg h hq
  have h2 : p / q ≤ p := Int.ediv_le_self _ h
  exact wrap_u16 h1 (by omega)

theorem upd_same {F : Nat → Int} {i : Nat} {v : Int} : upd F i v i = v := by simp [upd]
theorem upd_ne {F : Nat → Int} {i j : Nat} {v : Int} (h : j ≠ i) : upd F i v j = F j := by simp [upd, h]
theorem upd_comm {F : Nat → Int} {i j : Nat} {u v : Int} (h : i ≠ j) : upd (upd F i u) j v = upd (upd F j v) i u := by
  funext k
  simp only [upd]
  by_cases h1 : k = j <;> by_cases h2 : k = i <;> simp_all
end
end Go.Mi
namespace Go.Mi
theorem memN_or {p x : Nat} {r : List Nat} (h : memN p (x :: r) = true) : p = x ∨ memN p r = true := by
  rcases List.mem_cons.1 (memN_iff.1 h) with h | h
  · exact .inl h
  · exact .inr (memN_iff.2 h)
theorem d_bool {P : Program} {o : Oper} {n : Nat} {L : List (Nat × Value)} {w : World} {b c : Bool} (h : Det P o n L w (.bool b) w) (e : b = c) : Det P o n L w (.bool c) w := e ▸ h
theorem d_val {P : Program} {o : Oper} {n : Nat} {L : List (Nat × Value)} {w w2 : World} {k : IntKind} {x y : Int} (h : Det P o n L w (.int k x) w2) (e : x = y) : Det P o n L w (.int k y) w2 := e ▸ h
theorem round_neg {k n : Int} (hn : 0 < n) (h : k.tmod n < 0) : k.tmod n + n = k % n := by
  rw [Int.tmod_eq_emod] at h ⊢
  have h1 := Int.emod_nonneg k (show n ≠ 0 by omega)
  have h2 := Int.emod_lt_of_pos k hn
  split at h <;> rename_i hc
  · omega
  · rw [if_neg hc]; omega
theorem round_pos {k n : Int} (hn : 0 < n) (h : ¬ k.tmod n < 0) : k.tmod n = k % n := by
  rw [Int.tmod_eq_emod] at h ⊢
  have h1 := Int.emod_nonneg k (show n ≠ 0 by omega)
  have h2 := Int.emod_lt_of_pos k hn
  split at h <;> rename_i hc
  · rw [if_pos hc]; omega
  · omega
theorem tmod_b {k n : Int} (hn : 0 < n) : - n < k.tmod n ∧ k.tmod n < n := by
  rw [Int.tmod_eq_emod]
  have h1 := Int.emod_nonneg k (show n ≠ 0 by omega)
  have h2 := Int.emod_lt_of_pos k hn
  split
  · omega
  · rename_i hc
    have : k % n ≠ 0 := fun e => hc (.inr (Int.dvd_of_emod_eq_zero e))
    omega
end Go.Mi
namespace Go.Mi
theorem Mem.ge {w0 w : World} {M : List Blk} (h : Mem w0 w M) (i : Nat) {b : Nat} {c : Array Value} {t : TypeId} (hi : M[i]? = some (b, c, t)) : w0.heap.size ≤ b := h.new _ (List.mem_of_getElem? hi)
end Go.Mi
namespace Go.Mi
theorem ndec_true {p : Prop} [Decidable p] (h : (!decide p) = true) : ¬ p := by simpa using h
theorem ndec_false {p : Prop} [Decidable p] (h : (!decide p) = false) : p := by simpa using h
end Go.Mi
