/- Terms, nodes and maps on the heap: facts that avoid blocks. -/
import Derived.Test.YtoefhjabaanokaaDoorH1
import Derived.Test.YtoefhjabaanokaaDoorT0
import Derived.Laws.StructEq
namespace Go.Mi.Term
open Go.Mi Go.RowKit
def bs (x : Tx) : ByteArray := ⟨x.toArray⟩
theorem bs_inj {x y : Tx} (h : bs x = bs y) : x = y := by
  have := congrArg (fun b => b.data.toList) h
  simpa [bs] using this

/-- a slice and the cells of its elements; its block is none of some -/
def SlA (w : World) (X : List Nat) (v : Value) (n : Nat) (xs : List Value) : Prop :=
  (v = .slice none 0 0 ∧ n = 0 ∧ xs = []) ∨ ∃ b o cap, v = .slice (some ⟨b, o, none⟩) n cap ∧ b ∉ X ∧ b < w.heap.size ∧ At w b o xs
theorem SlA.mv {w w' : World} {X X' Y : List Nat} {v : Value} {n : Nat} {xs : List Value} (h : SlA w X v n xs) (k : Ch Y w w') (hy : ∀ y, y ∈ Y → y ∈ X) (hx : ∀ x, x ∈ X' → x ∈ X ∨ w.heap.size ≤ x) : SlA w' X' v n xs := by
  rcases h with h | ⟨b, o, cap, rfl, hb, hl, ha⟩
  · exact .inl h
  · refine .inr ⟨b, o, cap, rfl, fun hm => ?_, Nat.lt_of_lt_of_le hl k.size, ha.mv k fun hm => hb (hy b hm)⟩
    rcases hx b hm with h | h
    · exact hb h
    · omega

mutual
def IsT (w : World) (X : List Nat) : Tm → List Value → Prop
  | .mk k n ks, vs => ∃ sl xs, vs = [.int .i64 k, .int .i64 n, sl] ∧ SlA w X sl ks.length xs ∧ IsTs w X ks xs
def IsTs (w : World) (X : List Nat) : List Tm → List Value → Prop
  | [], xs => xs = []
  | t :: ts, xs => ∃ a r, xs = a ++ r ∧ IsT w X t a ∧ IsTs w X ts r
end
mutual
def IsN (w : World) (X : List Nat) : Tm → Value → Prop
  | .mk k n ks, v => ∃ b sl xs, v = .pointer (some ⟨b, 0, none⟩) ∧ b ∉ X ∧ At w b 0 [.int .i64 k, .int .i64 n, sl, .string (bs (txt (.mk k n ks)))] ∧ SlA w X sl ks.length xs ∧ IsNs w X ks xs
def IsNs (w : World) (X : List Nat) : List Tm → List Value → Prop
  | [], xs => xs = []
  | t :: ts, xs => ∃ v r, xs = v :: r ∧ IsN w X t v ∧ IsNs w X ts r
end
section
variable {w w' : World} {X X' Y : List Nat}
mutual
theorem IsT.mv (k : Ch Y w w') (hy : ∀ y, y ∈ Y → y ∈ X) (hx : ∀ x, x ∈ X' → x ∈ X ∨ w.heap.size ≤ x) : (t : Tm) → (vs : List Value) → IsT w X t vs → IsT w' X' t vs
  | .mk _ _ ks, _, h => by
    simp only [IsT] at h ⊢
    obtain ⟨sl, xs, h1, h2, h3⟩ := h
    exact ⟨sl, xs, h1, h2.mv k hy hx, IsTs.mv k hy hx ks xs h3⟩
theorem IsTs.mv (k : Ch Y w w') (hy : ∀ y, y ∈ Y → y ∈ X) (hx : ∀ x, x ∈ X' → x ∈ X ∨ w.heap.size ≤ x) : (ts : List Tm) → (xs : List Value) → IsTs w X ts xs → IsTs w' X' ts xs
  | [], _, h => by simpa only [IsTs] using h
  | t :: ts, _, h => by
    simp only [IsTs] at h ⊢
    obtain ⟨a, r, h1, h2, h3⟩ := h
    exact ⟨a, r, h1, IsT.mv k hy hx t a h2, IsTs.mv k hy hx ts r h3⟩
end
mutual
theorem IsN.mv (k : Ch Y w w') (hy : ∀ y, y ∈ Y → y ∈ X) (hx : ∀ x, x ∈ X' → x ∈ X ∨ w.heap.size ≤ x) : (t : Tm) → (v : Value) → IsN w X t v → IsN w' X' t v
  | .mk _ _ ks, _, h => by
    simp only [IsN] at h ⊢
    obtain ⟨b, sl, xs, h1, h2, h3, h4, h5⟩ := h
    refine ⟨b, sl, xs, h1, fun hm => ?_, h3.mv k fun hm => h2 (hy b hm), h4.mv k hy hx, IsNs.mv k hy hx ks xs h5⟩
    rcases hx b hm with h | h
    · exact h2 h
    · have := h3.lt; omega
theorem IsNs.mv (k : Ch Y w w') (hy : ∀ y, y ∈ Y → y ∈ X) (hx : ∀ x, x ∈ X' → x ∈ X ∨ w.heap.size ≤ x) : (ts : List Tm) → (xs : List Value) → IsNs w X ts xs → IsNs w' X' ts xs
  | [], _, h => by simpa only [IsNs] using h
  | t :: ts, _, h => by
    simp only [IsNs] at h ⊢
    obtain ⟨a, r, h1, h2, h3⟩ := h
    exact ⟨a, r, h1, IsN.mv k hy hx t a h2, IsNs.mv k hy hx ts r h3⟩
end
end
theorem IsT.len {w : World} {X : List Nat} {t : Tm} {vs : List Value} (h : IsT w X t vs) : vs.length = 3 := by
  cases t
  simp only [IsT] at h
  obtain ⟨sl, xs, rfl, _⟩ := h
  rfl
theorem IsTs.len {w : World} {X : List Nat} : ∀ {ts : List Tm} {xs : List Value}, IsTs w X ts xs → xs.length = 3 * ts.length
  | [], _, h => by simp only [IsTs] at h; subst h; rfl
  | t :: ts, _, h => by
    simp only [IsTs] at h
    obtain ⟨a, r, rfl, h2, h3⟩ := h
    rw [List.length_append, h2.len, IsTs.len h3, List.length_cons]; omega
theorem IsNs.len {w : World} {X : List Nat} : ∀ {ts : List Tm} {xs : List Value}, IsNs w X ts xs → xs.length = ts.length
  | [], _, h => by simp only [IsNs] at h; subst h; rfl
  | t :: ts, _, h => by
    simp only [IsNs] at h
    obtain ⟨a, r, rfl, h2, h3⟩ := h
    rw [List.length_cons, IsNs.len h3, List.length_cons]
/-- one of a row of terms -/
theorem IsTs.at {w : World} {X : List Nat} {b : Nat} : ∀ {ts : List Tm} {xs : List Value} {o : Nat}, IsTs w X ts xs → At w b o xs → ∀ (i : Nat) (t : Tm), ts[i]? = some t → ∃ a, IsT w X t a ∧ At w b (o + i * 3) a
  | [], _, _, _, _, i, t, hi => by simp at hi
  | t :: ts, _, o, h, ha, i, u, hi => by
    simp only [IsTs] at h
    obtain ⟨a, r, rfl, h2, h3⟩ := h
    rw [At.app] at ha
    cases i with
    | zero =>
      simp at hi
      subst hi
      exact ⟨a, h2, by simpa using ha.1⟩
    | succ i =>
      obtain ⟨c, h4, h5⟩ := IsTs.at h3 ha.2 i u (by simpa using hi)
      refine ⟨c, h4, ?_⟩
      rw [h2.len] at h5
      rwa [show o + 3 + i * 3 = o + (i + 1) * 3 by omega] at h5
theorem IsNs.at {w : World} {X : List Nat} : ∀ {ts : List Tm} {xs : List Value}, IsNs w X ts xs → ∀ (i : Nat) (t : Tm), ts[i]? = some t → ∃ v, xs[i]? = some v ∧ IsN w X t v
  | [], _, _, i, t, hi => by simp at hi
  | t :: ts, _, h, i, u, hi => by
    simp only [IsNs] at h
    obtain ⟨a, r, rfl, h2, h3⟩ := h
    cases i with
    | zero =>
      simp at hi
      subst hi
      exact ⟨a, rfl, h2⟩
    | succ i =>
      obtain ⟨v, h4, h5⟩ := IsNs.at h3 i u (by simpa using hi)
      exact ⟨v, by simpa using h4, h5⟩
theorem IsNs.app {w : World} {X : List Nat} : ∀ {ts us : List Tm} {xs ys : List Value}, IsNs w X ts xs → IsNs w X us ys → IsNs w X (ts ++ us) (xs ++ ys)
  | [], us, _, ys, h, h' => by simp only [IsNs] at h; subst h; simpa using h'
  | t :: ts, us, _, ys, h, h' => by
    simp only [IsNs] at h
    obtain ⟨a, r, rfl, h2, h3⟩ := h
    simp only [List.cons_append, IsNs]
    exact ⟨a, r ++ ys, by simp, h2, IsNs.app h3 h'⟩
theorem IsNs.one {w : World} {X : List Nat} {t : Tm} {v : Value} (h : IsN w X t v) : IsNs w X [t] [v] := by
  simp only [IsNs]
  exact ⟨v, [], rfl, h, rfl⟩
theorem IsTs.app {w : World} {X : List Nat} : ∀ {ts us : List Tm} {xs ys : List Value}, IsTs w X ts xs → IsTs w X us ys → IsTs w X (ts ++ us) (xs ++ ys)
  | [], us, _, ys, h, h' => by simp only [IsTs] at h; subst h; simpa using h'
  | t :: ts, us, _, ys, h, h' => by
    simp only [IsTs] at h
    obtain ⟨a, r, rfl, h2, h3⟩ := h
    simp only [List.cons_append, IsTs]
    exact ⟨a, r ++ ys, by simp, h2, IsTs.app h3 h'⟩

/-! ### maps of texts to numbers -/
def MapIs (w : World) (b : Nat) (m : Told) : Prop := ∃ es clock, w.heap[b]? = some (.map es clock) ∧ es.toList.map (fun e => (e.key, e.val)) = m.map fun p => (Value.string (bs p.1), Value.int .i64 p.2)
theorem MapIs.mv {w w' : World} {Y : List Nat} {b : Nat} {m : Told} (h : MapIs w b m) (k : Ch Y w w') (hb : b ∉ Y) : MapIs w' b m := by
  obtain ⟨es, c, h1, h2⟩ := h
  have hl : b < w.heap.size := by
    rcases Nat.lt_or_ge b w.heap.size with h' | h'
    · exact h'
    · rw [Array.getElem?_eq_none h'] at h1; cases h1
  exact ⟨es, c, by rw [k.blk b hl hb]; exact h1, h2⟩
/-- the place of a text -/
def place : Told → Tx → Nat → Option (Nat × Int)
  | [], _, _ => none
  | (y, v) :: m, x, i => if y = x then some (i, v) else place m x (i + 1)
theorem place_tl (m : Told) (x : Tx) (i : Nat) : tl m x = ((place m x i).map (·.2)).getD 0 := by
  induction m generalizing i with
  | nil => rfl
  | cons p m ih =>
    obtain ⟨y, v⟩ := p
    simp only [tl, place]
    split
    · rfl
    · exact ih (i + 1)
theorem beq_bs (x y : Tx) : (bs x == bs y) = decide (x = y) := by
  rw [beq_toListBytes]
  simp only [bs, ByteArray.toList_mk]
  by_cases h : x = y
  · subst h; simp
  · rw [decide_eq_false h]; simpa using h
theorem findNow_place {m : Told} {x : Tx} : ∀ {es : List MapEntry} {i : Nat}, es.map (fun e => (e.key, e.val)) = m.map (fun p => (Value.string (bs p.1), Value.int .i64 p.2)) →
    Instr.findNow .string (.string (bs x)) es i = some ((place m x i).map fun q => (q.1, .int .i64 q.2)) := by
  induction m with
  | nil =>
    intro es i h
    simp at h
    subst h
    rfl
  | cons p m ih =>
    intro es i h
    obtain ⟨y, v⟩ := p
    cases es with
    | nil => simp at h
    | cons e es =>
      simp only [List.map_cons, List.cons.injEq, Prod.mk.injEq] at h
      obtain ⟨⟨hk, hv⟩, hr⟩ := h
      simp only [Instr.findNow, Instr.sameNow, hk, beq_bs, place]
      by_cases he : x = y
      · subst he; simp [hv]
      · rw [decide_eq_false he, if_neg (fun e => he e.symm)]
        exact ih hr
theorem place_lt {m : Told} {x : Tx} {i j : Nat} {v : Int} (h : place m x i = some (j, v)) : i ≤ j ∧ j < i + m.length := by
  induction m generalizing i with
  | nil => simp [place] at h
  | cons p m ih =>
    obtain ⟨y, u⟩ := p
    simp only [place] at h
    split at h
    · simp at h; simp; omega
    · have := ih h; simp; omega
theorem st_place {m : Told} {x : Tx} {i j : Nat} {u v : Int} (h : place m x i = some (j, u)) : st m x v = m.set (j - i) (x, v) := by
  induction m generalizing i with
  | nil => simp [place] at h
  | cons p m ih =>
    obtain ⟨y, u'⟩ := p
    simp only [place] at h
    simp only [st]
    split at h
    · rename_i e
      simp at h
      obtain ⟨rfl, rfl⟩ := h
      simp [e]
    · rename_i e
      have hl := place_lt h
      rw [if_neg e, ih h, show j - i = (j - (i + 1)) + 1 by omega]
      rfl
theorem st_none {m : Told} {x : Tx} {i : Nat} {v : Int} (h : place m x i = none) : st m x v = m ++ [(x, v)] := by
  induction m generalizing i with
  | nil => rfl
  | cons p m ih =>
    obtain ⟨y, u'⟩ := p
    simp only [place] at h
    simp only [st]
    split at h
    · simp at h
    · rename_i e
      rw [if_neg e, ih h]
      rfl
section
variable {P : Program} {n : Nat} {L : List (Nat × Value)} {w : World} {ds : Option Nat} {ty : TypeId} {pos : String} {af : Array Edge} {gu : Option (Nat × Bool)}
theorem d_lookup {x y : Operand} {t kt et : TypeId} {b : Nat} {m : Told} {k : Tx} (ht : P.underlying t = some (.map kt et)) (hk : P.underlying kt = some .string) (hz : (P.info? et).bind (·.zero) = some (.int .i64 0))
    (hx : ev L x = some (.map (some b))) (hy : ev L y = some (.string (bs k))) (hm : MapIs w b m) : Det P ⟨ds, .lookup t x y false, ty, pos, af, gu⟩ n L w (.int .i64 (tl m k)) w :=
  Det.of_run fun a hF => by
    obtain ⟨es, c, h1, h2⟩ := hm
    obtain ⟨inf, hi, hz'⟩ := Option.bind_eq_some_iff.1 hz
    have hf := findNow_place (x := k) (i := 0) h2
    have hck : (Instr.checkKey es.isEmpty 10000 kt (.string (bs k))).run P w = .ok () w := MapKept.run_checkKey (k := .string (bs k)) hk trivial _ 9999
    have hfk := MapKept.run_findKey (P := P) (w := w) hk hf
    simp only [execOp, hF.eval hx, hF.eval hy, Instr.lookup, Sem.run_bind, run_underlying' ht, Result.andThen_ok, MapKept.run_getObj_map h1, Sem.run_pure, hck, hfk]
    rw [place_tl m k 0]
    cases hp : place m k 0 with
    | none => simp [zeroValue, typeInfo, hi, hz']
    | some q => simp

theorem ok_mapUpdate {x y z : Operand} {t kt et : TypeId} {b : Nat} {m : Told} {k : Tx} {v : Int} (ht : P.underlying t = some (.map kt et)) (hk : P.underlying kt = some .string)
    (hx : ev L x = some (.map (some b))) (hy : ev L y = some (.string (bs k))) (hz : ev L z = some (.int .i64 v)) (hm : MapIs w b m) : Ok1 P ⟨ds, .mapUpdate t x y z, ty, pos, af, gu⟩ n L w fun _ w' => MapIs w' b (st m k v) ∧ Ch [b] w w' := by
  obtain ⟨es, c, h1, h2⟩ := hm
  have hf := findNow_place (x := k) (i := 0) h2
  have hck : (Instr.checkKey false 10000 kt (.string (bs k))).run P w = .ok () w := MapKept.run_checkKey (k := .string (bs k)) hk trivial _ 9999
  have hfk := MapKept.run_findKey (P := P) (w := w) hk hf
  have hlt : b < w.heap.size := by
    rcases Nat.lt_or_ge b w.heap.size with h' | h'
    · exact h'
    · rw [Array.getElem?_eq_none h'] at h1; cases h1
  have hset : ∀ o : Obj, (setObj b o).run P w = .ok () { w with heap := w.heap.setIfInBounds b o } := fun o => MapKept.run_setObj_map o h1
  have hch : ∀ o : Obj, Ch [b] w { w with heap := w.heap.setIfInBounds b o } := fun o =>
    ⟨rfl, rfl, rfl, by simp, fun i _ hn => by
      have : b ≠ i := fun e => hn (by simp [e])
      simp [Array.getElem?_setIfInBounds_ne this]⟩
  have hnew : ∀ (es' : Array MapEntry) (c' : Nat), (World.mk (w.heap.setIfInBounds b (.map es' c')) w.tape w.drawn w.os w.output).heap[b]? = some (.map es' c') := fun es' c' => by
    simp [hlt]
  cases hp : place m k 0 with
  | none =>
    rw [hp] at hfk
    have hd : Det P ⟨ds, .mapUpdate t x y z, ty, pos, af, gu⟩ n L w undef { w with heap := w.heap.setIfInBounds b (.map (es.push { key := .string (bs k), val := .int .i64 v, born := c }) (c + 1)) } := Det.of_skip fun a hF => by
      simp [execOp, hF.eval hx, hF.eval hy, hF.eval hz, Instr.mapUpdate, run_underlying' ht, MapKept.run_getObj_map h1, hck, hfk, hset]
    refine hd.mono fun v' w' ⟨_, hw⟩ => ?_
    subst hw
    refine ⟨⟨_, _, hnew _ _, ?_⟩, hch _⟩
    rw [st_none hp]
    simp [h2]
  | some q =>
    obtain ⟨j, u⟩ := q
    rw [hp] at hfk
    obtain ⟨_, hjl⟩ := place_lt hp
    have hlen : es.toList.length = m.length := by simpa using congrArg List.length h2
    have hj : j < es.size := by rw [← Array.length_toList, hlen]; omega
    have hkey : (es[j]).key = .string (bs k) := by
      have h3 := congrArg (fun l => l[j]?) h2
      have hpk : ∀ (m : Told) (i j : Nat) (u : Int), place m k i = some (j, u) → m[j - i]? = some (k, u) := by
        intro m
        induction m with
        | nil => intro i j u h; simp [place] at h
        | cons p m ih =>
          intro i j u h
          obtain ⟨y, u'⟩ := p
          simp only [place] at h
          split at h
          · rename_i e
            simp at h
            obtain ⟨rfl, rfl⟩ := h
            simp [e]
          · have hl := place_lt h
            have := ih _ _ _ h
            rw [show j - i = (j - (i + 1)) + 1 by omega]
            simpa using this
      have h4 := hpk m 0 j u hp
      simp only [List.getElem?_map, Nat.sub_zero] at h3 h4
      rw [h4] at h3
      simp [hj] at h3
      exact h3.1
    have hd : Det P ⟨ds, .mapUpdate t x y z, ty, pos, af, gu⟩ n L w undef { w with heap := w.heap.setIfInBounds b (.map (es.modify j fun e => { e with key := .string (bs k), val := .int .i64 v }) c) } := Det.of_skip fun a hF => by
      have hkt : (Instr.keyThatStays (.string (bs k)) (.string (bs k))).run P w = .ok (.string (bs k)) w := by
        have : Instr.sameBits 10000 (.string (bs k)) (.string (bs k)) = true := by
          simp [Instr.sameBits, beq_bs]
        simp [Instr.keyThatStays, this]
      simp [execOp, hF.eval hx, hF.eval hy, hF.eval hz, Instr.mapUpdate, run_underlying' ht, MapKept.run_getObj_map h1, hck, hfk, hset, hj, hkey, hkt]
    refine hd.mono fun v' w' ⟨_, hw⟩ => ?_
    subst hw
    refine ⟨⟨_, _, hnew _ _, ?_⟩, hch _⟩
    rw [st_place hp, Nat.sub_zero]
    apply List.ext_getElem?
    intro i
    have h3 := congrArg (fun l => l[i]?) h2
    simp only [List.getElem?_map, Array.getElem?_toList, Array.getElem?_modify, List.getElem?_set] at h3 ⊢
    by_cases hij : j = i
    · subst hij
      have hjl' : j < m.length := by omega
      simp only [if_true, hjl', Array.getElem?_eq_getElem hj, Option.map_some]
    · simp only [hij, if_false]
      simpa using h3
end
end Go.Mi.Term
