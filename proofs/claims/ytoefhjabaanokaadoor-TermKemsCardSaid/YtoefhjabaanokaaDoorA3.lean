/- What is known of the blocks that a call has made; arrays of numbers as functions; loops; regions whose order is open. General lemmas. -/
import Derived.Test.YtoefhjabaanokaaDoorA2
namespace Go.Mi
open Go.RowKit

abbrev Blk := Nat × Array Value × TypeId

/-- below the heap of w0 all is as it was; the blocks of the list hold what it says -/
structure Mem (w0 w : World) (M : List Blk) : Prop where
  below : Below w0.heap.size w0 w
  blk : ∀ e, e ∈ M → w.heap[e.1]? = some (.cells e.2.1 e.2.2 (0, 0))
  new : ∀ e, e ∈ M → w0.heap.size ≤ e.1
  apart : (M.map (·.1)).Nodup

theorem Mem.start (w : World) : Mem w w [] := ⟨Below.refl _ _, by simp, by simp, by simp⟩

theorem Mem.lt {w0 w : World} {M : List Blk} (h : Mem w0 w M) {e : Blk} (he : e ∈ M) : e.1 < w.heap.size := by
  have := h.blk e he
  rcases Nat.lt_or_ge e.1 w.heap.size with h' | h'
  · exact h'
  · simp [Array.getElem?_eq_none h'] at this

theorem Mem.alloc {w0 w w' : World} {M : List Blk} (h : Mem w0 w M) {b : Nat} {c : Array Value} {t : TypeId} (hn : NewB w w' b c t) : Mem w0 w' (M ++ [(b, c, t)]) := by
  obtain ⟨rfl, rfl⟩ := hn
  refine ⟨h.below.alloc (h.below.size) _, fun e he => ?_, fun e he => ?_, ?_⟩
  · rcases List.mem_append.1 he with he | he
    · rw [Below.heap_alloc _ _ _ (h.lt he)]; exact h.blk e he
    · simp at he; subst he; show (w.heap.push _)[w.heap.size]? = _; simp
  · rcases List.mem_append.1 he with he | he
    · exact h.new e he
    · simp at he; subst he; exact h.below.size
  · simp only [List.map_append, List.map_cons, List.map_nil]
    refine List.nodup_append.2 ⟨h.apart, by simp, fun x hx y hy => ?_⟩
    obtain rfl := List.mem_singleton.1 hy
    obtain ⟨e, he, rfl⟩ := List.mem_map.1 hx
    have := h.lt he
    omega

theorem Mem.upd {w0 w w' : World} {M : List Blk} (h : Mem w0 w M) (i : Nat) {b : Nat} {c c' : Array Value} {t : TypeId} (hi : M[i]? = some (b, c, t)) (hu : Upd w w' b c' t) : Mem w0 w' (M.set i (b, c', t)) := by
  have hlt : i < M.length := by
    rcases Nat.lt_or_ge i M.length with h' | h'
    · exact h'
    · simp [List.getElem?_eq_none h'] at hi
  have hmi : M[i] = (b, c, t) := by simpa [List.getElem?_eq_getElem hlt] using hi
  have hmem : (b, c, t) ∈ M := hmi ▸ List.getElem_mem hlt
  have hB := h.new _ hmem
  have hmap : (M.set i (b, c', t)).map (·.1) = M.map (·.1) := by
    rw [List.map_set]
    apply List.ext_getElem?
    intro j
    simp only [List.getElem?_set, List.length_map, List.getElem?_map]
    split
    · rename_i e; subst e; simp [hlt, hmi]
    · rfl
  refine ⟨h.below.trans ⟨hu.os, hu.tape, hu.output, by rw [hu.size]; exact Nat.le_refl _, fun k hk => hu.other k (by simp at hB; omega)⟩, fun e he => ?_, fun e he => ?_, by rw [hmap]; exact h.apart⟩
  · obtain ⟨j, hj, rfl⟩ := List.mem_iff_getElem.1 he
    simp only [List.getElem_set]
    split
    · exact hu.blk
    · rename_i hne
      have hj' : j < M.length := by simpa using hj
      have hd : (M[j]'hj').1 ≠ b := by
        intro heq
        have := h.apart
        rw [List.nodup_iff_pairwise_ne, List.pairwise_iff_getElem] at this
        rcases Nat.lt_or_gt_of_ne hne with h1 | h1
        · have := this i j (by simpa using hlt) (by simpa using hj') h1; simp [hmi] at this; exact this heq.symm
        · have := this j i (by simpa using hj') (by simpa using hlt) h1; simp [hmi] at this; exact this heq
      rw [hu.other _ hd]
      exact h.blk _ (List.getElem_mem _)
  · have : e.1 ∈ (M.set i (b, c', t)).map (·.1) := List.mem_map_of_mem he
    rw [hmap] at this
    obtain ⟨e', he', heq⟩ := List.mem_map.1 this
    have := h.new e' he'
    omega

/-- behind a call that leaves what was there -/
theorem Mem.call {w0 w w' : World} {M : List Blk} (h : Mem w0 w M) (hb : Below w.heap.size w w') : Mem w0 w' M :=
  ⟨h.below.trans (hb.mono h.below.size), fun e he => by rw [hb.block _ (h.lt he)]; exact h.blk e he, h.new, h.apart⟩

theorem Mem.drew {w0 w : World} {M : List Blk} (h : Mem w0 w M) : Mem w0 { w with drawn := w.drawn + 1 } M :=
  ⟨h.below.drew, h.blk, h.new, h.apart⟩

/-- a block that a call has made comes into the list -/
theorem Mem.adopt {w0 w w' : World} {M : List Blk} (h : Mem w0 w M) {b : Nat} {c : Array Value} {t : TypeId} (hb : Below w.heap.size w w') (hn : w.heap.size ≤ b) (hc : w'.heap[b]? = some (.cells c t (0, 0))) : Mem w0 w' (M ++ [(b, c, t)]) := by
  have h' := h.call hb
  refine ⟨h'.below, fun e he => ?_, fun e he => ?_, ?_⟩
  · rcases List.mem_append.1 he with he | he
    · exact h'.blk e he
    · simp at he; subst he; exact hc
  · rcases List.mem_append.1 he with he | he
    · exact h.new e he
    · simp at he; subst he; exact Nat.le_trans h.below.size hn
  · simp only [List.map_append, List.map_cons, List.map_nil]
    refine List.nodup_append.2 ⟨h.apart, by simp, fun x hx y hy => ?_⟩
    obtain rfl := List.mem_singleton.1 hy
    obtain ⟨e, he, rfl⟩ := List.mem_map.1 hx
    have := h.lt he
    omega

theorem Mem.at {w0 w : World} {M : List Blk} (h : Mem w0 w M) (i : Nat) {b : Nat} {c : Array Value} {t : TypeId} (hi : M[i]? = some (b, c, t)) : w.heap[b]? = some (.cells c t (0, 0)) :=
  h.blk _ (List.mem_of_getElem? hi)

theorem Mem.cell {w0 w : World} {M : List Blk} (h : Mem w0 w M) (i : Nat) {b o : Nat} {c : Array Value} {t : TypeId} {v : Value} (hi : M[i]? = some (b, c, t)) (hv : c[o]? = some v) : w.cell? ⟨b, o, none⟩ = some v := by
  rw [cell_blk (h.at i hi), hv]

theorem Mem.old {w0 w : World} {M : List Blk} (h : Mem w0 w M) {ad : Addr} {v : Value} (hv : w0.cell? ad = some v) : w.cell? ad = some v := by
  rw [h.below.cell (World.block_lt_of_cell? w0 ad hv), hv]

theorem Mem.sub {w0 w : World} {M M' : List Blk} (h : Mem w0 w M) (hs : List.Sublist M' M) : Mem w0 w M' :=
  ⟨h.below, fun e he => h.blk e (hs.subset he), fun e he => h.new e (hs.subset he), (hs.map _).nodup h.apart⟩

/-- the memory of the call that made this one -/
theorem Mem.under {w0 w w1 : World} {M M' : List Blk} (h : Mem w0 w M) (h' : Mem w w1 M') : Mem w0 w1 M := h.call h'.below

/-- a row of numbers -/
def cl (k : IntKind) (n : Nat) (F : Nat → Int) : Array Value := ((List.range n).map fun i => Value.int k (F i)).toArray
def upd (F : Nat → Int) (i : Nat) (v : Int) : Nat → Int := fun j => if j = i then v else F j

theorem cl_size (k : IntKind) (n : Nat) (F : Nat → Int) : (cl k n F).size = n := by simp [cl]
theorem cl_get {k : IntKind} {n : Nat} {F : Nat → Int} {i : Nat} (h : i < n) : (cl k n F)[i]? = some (.int k (F i)) := by simp [cl, h]
theorem cl_getz {k : IntKind} {n : Nat} {F : Nat → Int} {i : Nat} (h : i < n) : (cl k n F)[0 + i]? = some (.int k (F i)) := by rw [Nat.zero_add]; exact cl_get h
theorem cl_set (k : IntKind) (n : Nat) (F : Nat → Int) (i : Nat) (v : Int) : (cl k n F).setIfInBounds i (.int k v) = cl k n (upd F i v) := by
  apply Array.ext'
  simp only [cl, Array.toList_setIfInBounds]
  apply List.ext_getElem?
  intro j
  simp only [List.getElem?_set, List.length_map, List.length_range, List.getElem?_map, upd]
  by_cases h : i = j
  · subst h
    by_cases h2 : i < n <;> simp [h2]
  · have h3 : ¬ j = i := fun e => h e.symm
    simp only [h, if_false]
    by_cases h2 : j < n <;> simp [h2, h3]
theorem cl_setz (k : IntKind) (n : Nat) (F : Nat → Int) (i : Nat) (v : Int) : (cl k n F).setIfInBounds (0 + i) (.int k v) = cl k n (upd F i v) := by rw [Nat.zero_add]; exact cl_set k n F i v
theorem cl_congr {k : IntKind} {n : Nat} {F G : Nat → Int} (h : ∀ i, i < n → F i = G i) : cl k n F = cl k n G := by
  unfold cl
  congr 1
  apply List.map_congr_left
  intro i hi
  rw [h i (by simpa using hi)]
theorem cl_one (k : IntKind) (n : Nat) (F : Nat → Int) : ∀ v ∈ (cl k n F).toList, v.oneCell' = true := by
  intro v hv
  simp [cl] at hv
  obtain ⟨i, _, rfl⟩ := hv
  rfl
theorem cl_const (k : IntKind) (n : Nat) (x : Int) : ((Array.range n).map fun _ => Value.int k x) = cl k n fun _ => x := by
  apply Array.ext'
  simp [cl, Array.toList_range]

section
variable {P : Program} {ops : Array Oper} {Q : Exit → Act → World → Prop} {a : Act} {w : World} {n : Nat} {L : List (Nat × Value)}

/-- a loop with a number that every round lowers -/
theorem wp_loop_k {c : Code} (I : Nat → Act → World → Prop) (k0 : Nat) (h0 : I k0 a w)
    (round : ∀ k a w, I k a w → c.wp P (Exit.then (fun a' w' => ∃ k', k' < k ∧ I k' a' w') Q) a w) : (Code.loop c).wp P Q a w := by
  intro b k cs
  have key : ∀ m a w, I m a w → ∃ e a' w', Q e a' w' ∧ Arrives P (lone (b.at a (.code c :: .inLoop c :: k)) cs w) b k cs e a' w' := by
    intro m
    induction m using Nat.strongRecOn with
    | _ m ih =>
      intro a w hI
      obtain ⟨e, a₁, w₁, hq, harr⟩ := round m a w hI b (.inLoop c :: k) cs
      cases e with
      | normal =>
        obtain ⟨m', hlt, hI'⟩ := hq
        obtain ⟨e₂, a₂, w₂, hq₂, harr₂⟩ := ih m' hlt a₁ w₁ hI'
        exact ⟨e₂, a₂, w₂, hq₂, .of_steps (Steps.trans harr (.one step_inLoop)) harr₂⟩
      | exit id => exact ⟨_, a₁, w₁, hq, .pass (x := .inLoop c) rfl (fun _ _ => .inl (by simp)) harr⟩
      | goto l => exact ⟨_, a₁, w₁, hq, .pass (x := .inLoop c) rfl (fun _ _ => .inl (by simp)) harr⟩
      | ret => exact ⟨_, a₁, w₁, hq, .pass (x := .inLoop c) rfl (fun _ _ => .inl (by simp)) harr⟩
      | panic ch => exact ⟨_, a₁, w₁, hq, .pass (x := .inLoop c) rfl (fun _ _ => .inl (by simp)) harr⟩
      | outgrown => exact ⟨_, a₁, w₁, hq, .pass (x := .inLoop c) rfl (fun _ _ => .inl (by simp)) harr⟩
  obtain ⟨e, a', w', hq, harr⟩ := key k0 a w h0
  exact ⟨e, a', w', hq, .of_steps (.one step_loop) harr⟩

theorem wp_if {c : Operand} {x y : Code} {t : Bool} (hF : Frm a n L) (hc : ev L c = some (.bool t)) (ht : t = true → x.wp P Q a w) (hf : t = false → y.wp P Q a w) : (Code.cond c x y).wp P Q a w :=
  wp_cond_split (hF.eval hc) ht hf

theorem wp_seq_n {x y : Code} (h : x.wp P (Exit.then (y.wp P Q) Q) a w) : (Code.seq x y).wp P Q a w := wp_seq h

/-- a function's body -/
theorem calls_of {f : FuncId} {fn : Func} {c : Code} {vs : List Value} {R : Ending → World → Prop} {n : Nat} (hf : P.funcs[f]? = some fn) (hb : fn.body = some c) (hn : fn.ntmps = n) (hl : Nat.ble vs.length n = true)
    (h : ∀ a, Frm a n (vs.zipIdx.map fun p => (p.2, p.1)) → c.wp P (bodyPost P fn R) a w) : Calls P f vs.toArray w R :=
  calls_of_wp hf hb (h _ (by subst hn; exact Frm.enter (by simpa [Nat.ble_eq] using hl)))

/-- a result variable's value -/
def rv (tmps : Array Value) : ResultVar → Sem Value
  | .tmp t => pure (tmps.getD t undef)
  | .cell x t => do loadVar t (← asAddr (tmps.getD x undef))

theorem results_eq (fn : Func) (tmps : Array Value) : results fn tmps = (do
    let vs ← fn.results.mapM (rv tmps)
    pure (if h : vs.size = 1 then vs[0] else .tuple vs)) := by
  have : (fun (r : ResultVar) => (match r with | .tmp t => pure (tmps.getD t undef) | .cell a t => do loadVar t (← asAddr (tmps.getD a undef)) : Sem Value)) = rv tmps := by
    funext r
    cases r <;> rfl
  unfold results
  rw [← this]
  rfl

def RV (P : Program) (a : Act) (w : World) (r : ResultVar) (v : Value) : Prop := (rv a.tmps r).run P w = .ok v w

theorem RV.tmp {t : Tmp} {v : Value} (hF : Frm a n L) (hv : lk L t = some v) : RV P a w (.tmp t) v := by
  have := hF.get t v hv
  simp only [RV, rv, this, Sem.run_pure]

theorem RV.cell1 {x : Tmp} {t : TypeId} {d : TypeDesc} {ad : Addr} {v : Value} (ht : P.underlying t = some d) (hf : TypeDesc.flat d = true) (hF : Frm a n L) (hx : lk L x = some (.pointer (some ad))) (hc : w.cell? ad = some v) : RV P a w (.cell x t) v := by
  have := hF.get x _ hx
  simp only [RV, rv, this, asAddr, Sem.run_bind, Sem.run_pure, Result.andThen_ok, loadVar, run_isAgg_flat ht hf]
  simp [hc]

theorem RV.cellA {x : Tmp} {t T : TypeId} {d : TypeDesc} {b m : Nat} {c : Array Value} {f : Nat × Nat} (ht : P.underlying t = some d) (hf : TypeDesc.flat d = false) (hs : (P.info? t).map (·.size) = some m) (hF : Frm a n L) (hx : lk L x = some (.pointer (some ⟨b, 0, none⟩)))
    (hb : w.heap[b]? = some (.cells c T f)) (hc : c.size = m) : RV P a w (.cell x t) (.agg c) := by
  have hx' := hF.get x _ hx
  obtain ⟨inf, hi, hz⟩ := Option.map_eq_some_iff.1 hs
  have hag : (isAgg t).run P w = .ok true w := by
    simp only [isAgg, Sem.run_bind, run_underlying' ht, Result.andThen_ok]
    cases d <;> simp_all [TypeDesc.flat]
  have hl := run_loadCells (P := P) hb 0 m 0 #[] (by omega)
  simp only [RV, rv, hx', asAddr, loadVar, Sem.run_bind, Sem.run_pure, Result.andThen_ok, hag]
  simp [sizeOf, typeInfo, hi, hz, loadCells, hl]
  subst hc
  simp

theorem results1 {fn : Func} {r : ResultVar} {v : Value} (h : fn.results = #[r]) (h1 : RV P a w r v) : (results fn a.tmps).run P w = .ok v w := by
  unfold RV at h1
  rw [results_eq, h]
  simp [h1]

theorem results2 {fn : Func} {r s : ResultVar} {v u : Value} (h : fn.results = #[r, s]) (h1 : RV P a w r v) (h2 : RV P a w s u) : (results fn a.tmps).run P w = .ok (.tuple #[v, u]) w := by
  unfold RV at h1 h2
  rw [results_eq, h]
  simp [h1, h2]

theorem results3 {fn : Func} {r s t : ResultVar} {v u x : Value} (h : fn.results = #[r, s, t]) (h1 : RV P a w r v) (h2 : RV P a w s u) (h3 : RV P a w t x) : (results fn a.tmps).run P w = .ok (.tuple #[v, u, x]) w := by
  unfold RV at h1 h2 h3
  rw [results_eq, h]
  simp [h1, h2, h3]

/-- the end of a body -/
theorem body_ret {fn : Func} {R : Value → World → Prop} {v : Value} (hF : Frm a n L) (hr : (results fn a.tmps).run P w = .ok v w) (h : R v w) : bodyPost P fn (Ret R) .ret a w :=
  ⟨hF.defers, v, hr, v, rfl, h⟩
theorem body_end {fn : Func} {R : Value → World → Prop} {v : Value} (hF : Frm a n L) (hr : (results fn a.tmps).run P w = .ok v w) (h : R v w) : bodyPost P fn (Ret R) .normal a w :=
  ⟨hF.defers, v, hr, v, rfl, h⟩
end
end Go.Mi
