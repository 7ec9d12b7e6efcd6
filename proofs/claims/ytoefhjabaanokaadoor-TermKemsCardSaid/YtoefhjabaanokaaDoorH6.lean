/- Structures that are built; what texts and nodes want. -/
import Derived.Test.YtoefhjabaanokaaDoorW6
namespace Go.Mi.Term
open Go.Mi Go.Proofs Go.RowKit
section
variable {P : Program} {n : Nat} {L : List (Nat × Value)} {w : World} {ds : Option Nat} {ty : TypeId} {pos : String} {af : Array Edge} {gu : Option (Nat × Bool)}
theorem d_buildS {t : TypeId} {fs : Array Field} {z : Value} {pl : Array (Nat × Nat)} {parts : Array (Nat × Operand)} {ps : List (Nat × Value)} {cells : Array Value} (ht : P.underlying t = some (.struct fs)) (hz : (P.info? t).bind (·.zero) = some z)
    (hpl : ∀ w, (fs.mapM fun f => (do pure (f.offset, ← sizeOf f.type) : Sem (Nat × Nat))).run P w = .ok pl w) (hp : evp L parts.toList = some ps) (hf : Instr.fill (pl[·]?) z.cells ps = some cells) : Det P ⟨ds, .build t parts, ty, pos, af, gu⟩ n L w (.agg cells) w :=
  Det.of_run fun a hF => by
    obtain ⟨inf, hi, hz'⟩ := Option.bind_eq_some_iff.1 hz
    have he : (parts.map fun p => (p.1, a.eval p.2)).toList = ps := by rw [Array.toList_map]; exact evp_eval hF hp
    have hzr : (zeroValue t).run P w = .ok z w := by simp [zeroValue, typeInfo, hi, hz']
    simp only [execOp, Instr.build, Sem.run_bind, hzr, run_underlying' ht, Result.andThen_ok, hpl w, he, hf]
    rfl
end
theorem fill4 {z0 z1 z2 z3 a b c d : Value} (ha : a.cells = #[a]) (hb : b.cells = #[b]) (hc : c.cells = #[c]) (hd : d.cells = #[d]) :
    Instr.fill ((#[(0, 1), (1, 1), (2, 1), (3, 1)] : Array (Nat × Nat))[·]?) #[z0, z1, z2, z3] [(0, a), (1, b), (2, c), (3, d)] = some #[a, b, c, d] := by
  simp [Instr.fill, ha, hb, hc, hd]
theorem pl112 (w : World) : ∀ fs, Tryd.prog.underlying 112 = some (.struct fs) → (fs.mapM fun f => (do pure (f.offset, ← sizeOf f.type) : Sem (Nat × Nat))).run Tryd.prog w = .ok #[(0, 1), (1, 1), (2, 1), (3, 1)] w := by
  intro fs h
  rw [Tryd.underlying112] at h
  cases h
  obtain ⟨i3, h3, e3⟩ := Option.map_eq_some_iff.1 sz3
  obtain ⟨i110, h110, e110⟩ := Option.map_eq_some_iff.1 sz110
  obtain ⟨i9, h9, e9⟩ := Option.map_eq_some_iff.1 sz9
  simp [sizeOf, typeInfo, h3, h110, h9, e3, e110, e9]
theorem IsN.cell1 {w : World} {X : List Nat} {t : Tm} {v : Value} (h : IsN w X t v) : v.oneCell' = true := by
  obtain ⟨b, k, n, sl, rfl, _⟩ := h.form
  rfl
theorem IsN.cellsv {w : World} {X : List Nat} {t : Tm} {v : Value} (h : IsN w X t v) : v.cells = #[v] := by
  obtain ⟨b, k, n, sl, rfl, _⟩ := h.form
  rfl
theorem fill1 {z a : Value} (ha : a.cells = #[a]) : Instr.fill (fun i => some (i * 1, 1)) ((Array.range (1 * 1)).map (z.cells[· % z.cells.size]!)) [(0, a)] = some #[a] := by
  simp [Instr.fill, ha]
  apply Array.ext'
  simp [Array.toList_setIfInBounds, Array.toList_map, Array.toList_range, List.range_succ]
theorem nrmL_map (ks : List Tm) : nrmL ks = ks.map nrm := by
  induction ks with
  | nil => rfl
  | cons k ks ih => simp [nrmL, ih]
mutual
theorem txt_nrm : (t : Tm) → txt (nrm t) = txt t
  | .mk k n ks => by
    simp only [nrm, txt, txtL_nrm ks]
    by_cases h : k = 1
    · simp [h]
    · simp only [h, if_false, wtn]
theorem txtL_nrm : (ks : List Tm) → txtL (nrmL ks) = txtL ks
  | [] => rfl
  | k :: ks => by simp only [nrmL, txtL, txt_nrm k, txtL_nrm ks]
end
/-- what strconv.Itoa must give at a number -/
def ItOk (T0 : World → Prop) (n : Int) : Prop := (∀ w, T0 w → Calls Tryd.prog 98 (List.toArray [.int .i64 n]) w (Ret fun v w' => v = .string (bs (Lib.itoa n)) ∧ Gr w w')) ∧ (Lib.itoa n).length ≤ 1000
/-- a kind, a name and kids whose text can be written -/
def WrK (T0 : World → Prop) (k n : Int) (ks : List Tm) : Prop := (1 ≤ k ∧ k ≤ 9) ∧ (k = 1 → ItOk T0 n ∧ ks = []) ∧ (k ≠ 1 → 0 < ks.length ∧ ks.length ≤ 1000) ∧ (k = 3 → ks.length = 2) ∧ ((ks.map txt).map List.length).sum + ks.length ≤ 1099511627000
theorem join_len (l : List Tx) : (Lib.join l [44]).length ≤ (l.map List.length).sum + l.length := by
  induction l with
  | nil => simp [Lib.join]
  | cons x l ih =>
    cases l with
    | nil => simp [Lib.join, List.intercalate]
    | cons y l =>
      have h1 := Lib.join_cons x (y :: l) [44]
      have h2 := Lib.join_cons y l [44]
      rw [h2] at ih
      rw [h1]
      simp only [List.length_append, Lib.joinTail, List.map_cons, List.flatten_cons, List.length_cons, List.sum_cons, List.length_nil] at ih ⊢
      omega
theorem written_calls {T0 : World → Prop} {nb : Nat} (hT : ∀ w w', Below nb w w' → T0 w → T0 w') (hjoin : JoinOk) {k n : Int} {ks : List Tm} (hw : WrK T0 k n ks) {X : List Nat} {ad : Option Addr} {cap : Nat} {xs : List Value} (w0 : World) (hnb : nb ≤ w0.heap.size) (hw0 : T0 w0)
    (hsl : 0 < ks.length → ∃ b o, ad = some ⟨b, o, none⟩ ∧ b ∉ X ∧ At w0 b o xs) (hks : IsNs w0 X ks xs) :
    Calls Tryd.prog 83 (List.toArray [.int .i64 k, .int .i64 n, .slice ad ks.length cap]) w0 (Ret fun v w' => v = .string (bs (txt (.mk k n ks))) ∧ Gr w0 w') := by
  obtain ⟨h1, h2, h3, h4, h5⟩ := hw
  simp only [txt]
  by_cases hk : k = 1
  · subst hk
    obtain ⟨h6, rfl⟩ := h2 rfl
    exact written_atom hT h6.1 h6.2 w0 hnb hw0
  · by_cases hk3 : k = 3
    · subst hk3
      exact written_dh w0 (h4 rfl) (by omega) hsl hks hjoin
    · have := join_len (ks.map txt)
      simp only [List.length_map] at this
      exact written_gen h1 hk hk3 w0 (h3 hk).1 (h3 hk).2 (by omega) hsl hks hjoin
mutual
def WrT (T0 : World → Prop) : Tm → Prop
  | .mk k nm ks => WrK T0 k (if k = 1 then nm else 0) (ks.map nrm) ∧ ks.length ≤ 1000 ∧ WrTs T0 ks
def WrTs (T0 : World → Prop) : List Tm → Prop
  | [] => True
  | t :: ts => WrT T0 t ∧ WrTs T0 ts
end
theorem WrTs.at {T0 : World → Prop} : ∀ {ts : List Tm}, WrTs T0 ts → ∀ t, t ∈ ts → WrT T0 t
  | [], _, t, ht => by simp at ht
  | u :: ts, h, t, ht => by
    simp only [WrTs] at h
    rcases List.mem_cons.1 ht with rfl | ht
    · exact h.1
    · exact WrTs.at h.2 t ht
theorem Own.cells1 {w : World} {base m n : Nat} {e : TypeId} {v : Value} {xs : List Value} (h : Own w base e m v n xs) : v.cells = #[v] := by
  rcases h.at with ⟨rfl, _⟩ | ⟨b, cap, rfl, _⟩ <;> rfl
theorem written_own {T0 : World → Prop} {nb : Nat} (hT : ∀ w w', Below nb w w' → T0 w → T0 w') (hjoin : JoinOk) {k n : Int} {ks : List Tm} (hw : WrK T0 k n ks) {X : List Nat} {base m : Nat} {e : TypeId} {lv : Value} {ps : List Value} (w0 : World) (hnb : nb ≤ w0.heap.size) (hw0 : T0 w0)
    (hown : Own w0 base e 1 lv m ps) (hm : m = ks.length) (hks : IsNs w0 X ks ps) :
    Calls Tryd.prog 83 (List.toArray [.int .i64 k, .int .i64 n, lv]) w0 (Ret fun v w' => v = .string (bs (txt (.mk k n ks))) ∧ Gr w0 w') := by
  subst hm
  have h0 : IsNs w0 [] ks ps := IsNs.mv (Ch.refl [] w0) (by simp) (by simp) ks ps hks
  rcases hown.at with ⟨rfl, h1, h2⟩ | ⟨b, cap, rfl, _, hat⟩
  · have h3 : ks = [] := List.eq_nil_of_length_eq_zero h1
    subst h3
    exact written_calls hT hjoin hw (ad := none) (cap := 0) w0 hnb hw0 (by simp) h0
  · exact written_calls hT hjoin hw (ad := some ⟨b, 0, none⟩) (cap := cap) w0 hnb hw0 (fun _ => ⟨b, 0, rfl, by simp, hat⟩) h0
theorem IsN.mk' {w : World} {X : List Nat} {b base : Nat} {k nm n0 : Int} {ks : List Tm} {lv : Value} {ps : List Value} {e t : TypeId} {f : Nat × Nat} (hb : b ∉ X) (hat : w.heap[b]? = some (.cells #[.int .i64 k, .int .i64 n0, lv, .string (bs (txt (.mk k n0 (ks.map nrm))))] t f))
    (hn : n0 = if k = 1 then nm else 0) (hown : Own w base e 1 lv ks.length ps) (hlo : ∀ y, y ∈ oblk lv → y ∉ X) (hns : IsNs w X (ks.map nrm) ps) : IsN w X (nrm (.mk k nm ks)) (.pointer (some ⟨b, 0, none⟩)) := by
  simp only [nrm, nrmL_map, ← hn, IsN]
  refine ⟨b, lv, ps, rfl, hb, At.of_blk hat, ?_, hns⟩
  simp only [List.length_map]
  have hl := hown.lt
  rcases hown.at with ⟨h1, h2, h3⟩ | ⟨g, cap, rfl, _, ha⟩
  · exact .inl ⟨h1, h2, h3⟩
  · exact .inr ⟨g, 0, cap, rfl, hlo g (by simp [oblk]), (hl g (by simp [oblk])).2, ha⟩
end Go.Mi.Term
