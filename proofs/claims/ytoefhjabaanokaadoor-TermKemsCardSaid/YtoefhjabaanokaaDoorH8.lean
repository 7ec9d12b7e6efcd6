/- Small rules for walks over a heap. General lemmas. -/
import Derived.Test.YtoefhjabaanokaaDoorH5
namespace Go.Mi
open Go.RowKit
theorem Ch.blk0 {Y : List Nat} {w w' : World} {b : Nat} {x : Obj} (k : Ch Y w w') (h : w.heap[b]? = some x) (hb : b ∉ Y) : w'.heap[b]? = some x := by
  rw [k.blk b _ hb]
  · exact h
  · rcases Nat.lt_or_ge b w.heap.size with h' | h'
    · exact h'
    · rw [Array.getElem?_eq_none h'] at h; cases h
theorem NewB.lt {w w' : World} {b : Nat} {c : Array Value} {t : TypeId} (h : NewB w w' b c t) : b < w'.heap.size := by
  obtain ⟨rfl, rfl⟩ := h
  show w.heap.size < (w.heap.push _).size
  simp
theorem NewB.lo {w w' : World} {b m : Nat} {c : Array Value} {t : TypeId} (h : NewB w w' b c t) (hm : m ≤ w.heap.size) : m ≤ b := by rw [h.num]; exact hm
theorem NewB.gt {w w' : World} {b m : Nat} {c : Array Value} {t : TypeId} (h : NewB w w' b c t) (hm : m < w.heap.size) : m < b := by rw [h.num]; exact hm
theorem NewB.blk {w w' : World} {b : Nat} {c : Array Value} {t : TypeId} (h : NewB w w' b c t) : w'.heap[b]? = some (.cells c t (0, 0)) := by
  obtain ⟨rfl, rfl⟩ := h
  show (w.heap.push _)[w.heap.size]? = _
  simp
theorem NewB.at {w w' : World} {b : Nat} {c : Array Value} {t : TypeId} (h : NewB w w' b c t) : At w' b 0 c.toList := At.of_blk h.blk
theorem Ok1.sub {P : Program} {o : Oper} {n : Nat} {L L' : List (Nat × Value)} {w : World} {R : Value → World → Prop} (hs : subL L L') (h : Ok1 P o n L' w R) : Ok1 P o n L w R :=
  fun a K Q hF k => h a K Q (hF.sub hs) k
def blk : Value → Nat
  | .pointer (some a) => a.block
  | .slice (some a) _ _ => a.block
  | .map (some b) => b
  | .agg cs => match cs.toList with
    | [_, _, .slice (some a) _ _] => a.block
    | _ => 0
  | _ => 0
theorem fin_ {c : Bool} {X Y : Prop} (hc : c = true) (h : X) : bif c then X else Y := by subst hc; exact h
theorem At.part {w : World} {b o : Nat} {vs : List Value} (h : At w b o vs) (i : Nat) {us : List Value} (hu : (vs.drop i).take us.length = us) : At w b (o + i) us := fun j u hj => by
  have : vs[i + j]? = some u := by
    rw [← hu] at hj
    rw [List.getElem?_take] at hj
    split at hj
    · rw [List.getElem?_drop] at hj; exact hj
    · cases hj
  have := h (i + j) u this
  rwa [← Nat.add_assoc] at this
section
variable {P : Program} {n : Nat} {L : List (Nat × Value)} {w : World} {ds : Option Nat} {ty : TypeId} {pos : String} {af : Array Edge} {gu : Option (Nat × Bool)}
theorem d_ixSQ {x y : Operand} {k : IntKind} {T e : TypeId} {len cap b o j q : Nat} {i : Int} (hT : P.underlying T = some (.slice e)) (hs : (P.info? e).map (·.size) = some 1) (hx : ev L x = some (.slice (some ⟨b, o, none⟩) len cap)) (hy : ev L y = some (.int k i))
    (hj : i = (j : Int)) (h1 : j < len) (hq : o + j = q) : Det P ⟨ds, .indexAddr T x y, ty, pos, af, gu⟩ n L w (.pointer (some ⟨b, q, none⟩)) w := hq ▸ d_ixS hT hs hx hy hj h1
theorem d_ixSmQ {x y : Operand} {k : IntKind} {T e : TypeId} {len cap b o m j q : Nat} {i : Int} (hT : P.underlying T = some (.slice e)) (hs : (P.info? e).map (·.size) = some m) (hx : ev L x = some (.slice (some ⟨b, o, none⟩) len cap)) (hy : ev L y = some (.int k i))
    (hj : i = (j : Int)) (h1 : j < len) (hq : o + j * m = q) : Det P ⟨ds, .indexAddr T x y, ty, pos, af, gu⟩ n L w (.pointer (some ⟨b, q, none⟩)) w := hq ▸ d_ixSm hT hs hx hy hj h1
theorem run_makeFunc {f : FuncId} {first captured : Array Value} : (pure (Value.func (.func f) first captured) : Sem Value).run P w = .ok (.func (.func f) first captured) w := rfl
/-- a row of an operation that changes nothing -/
theorem Det.ohc {o : Oper} {c : Bool} {X : Value → World → Prop} {Wd : World → Prop} {v : Value} (hc : c = false) (hW : Wd w) (h : Det P o n L w v w) : Ok1 P o n L w fun v' w' => bif c then X v' w' else Wd w' ∧ v' = v := by
  subst hc
  exact h.mono fun _ _ ⟨h1, h2⟩ => ⟨h2 ▸ hW, h1⟩
end
/-! rows of a region, said shortly -/
def hr_ (us : List (Nat × Nat)) (zs : List (Nat × Value)) (ph : List Nat) (v : Value) : HRow := ⟨us, zs, ph, [], fun _ => v, fun _ _ _ => rfl⟩
section
variable {P : Program} {n : Nat} {Wd : Nat → (Nat → Value) → World → Prop} {ss : List Nat} {L0 : List (Nat × Value)} {rows : List HRow} {i : Nat} {o : Oper} {r rj : HRow}
theorem HOb.pure (hz : subL L0 r.zs) (hg : o.guard = none) (hm : memN i ss = false) (h : ∀ H w, Det P o n (r.fr rows H) w (r.out H) w) : HOb P n Wd ss L0 rows i o r :=
  ⟨hz, fun p _ H w hW => by simp only [hg]; exact Det.ohc hm hW (h H w)⟩
theorem HOb.pureG {j : Nat} {b : Bool} (hz : subL L0 r.zs) (hg : o.guard = some (j, b)) (hr : rows[j]? = some rj) (hv : ∀ H, vb (rj.out H) = some b) (hm : memN i ss = false) (h : ∀ H w, Det P o n (r.fr rows H) w (r.out H) w) : HOb P n Wd ss L0 rows i o r :=
  ⟨hz, fun p _ H w hW => by simp only [hg]; exact ⟨some b, rj, hr, hv H, by rw [if_pos rfl]; exact Det.ohc hm hW (h H w)⟩⟩
theorem HOb.skip {j : Nat} {b : Bool} {c : Option Bool} (hz : subL L0 r.zs) (hg : o.guard = some (j, b)) (hr : rows[j]? = some rj) (hv : ∀ H, vb (rj.out H) = c) (hc : c ≠ some b) (hm : memN i ss = false) (h : ∀ H, undef = r.out H) : HOb P n Wd ss L0 rows i o r :=
  ⟨hz, fun p _ H w hW => by simp only [hg]; exact ⟨c, rj, hr, hv H, by rw [if_neg hc]; exact ⟨hm, h H⟩⟩⟩
theorem HOb.fact {A F : (Nat → Value) → World → Prop} {p0 : Nat} (hA : A = F) (hz : subL L0 r.zs) (hp : r.ph = [p0]) (hw : Wd p0 = A) (hg : o.guard = none) (hm : memN i ss = false) (h : ∀ H w, F H w → Det P o n (r.fr rows H) w (r.out H) w) : HOb P n Wd ss L0 rows i o r :=
  ⟨hz, fun p hp' H w hW => by
    rw [hp] at hp'
    obtain rfl := memN_one hp'
    have hW' : F H w := by rw [← hA, ← hw]; exact hW
    simp only [hg]; exact Det.ohc hm hW (h H w hW')⟩
theorem HOb.factG {A F : (Nat → Value) → World → Prop} {p0 j : Nat} {b : Bool} (hA : A = F) (hz : subL L0 r.zs) (hp : r.ph = [p0]) (hw : Wd p0 = A) (hg : o.guard = some (j, b)) (hr : rows[j]? = some rj) (hv : ∀ H, vb (rj.out H) = some b) (hm : memN i ss = false) (h : ∀ H w, F H w → Det P o n (r.fr rows H) w (r.out H) w) : HOb P n Wd ss L0 rows i o r :=
  ⟨hz, fun p hp' H w hW => by
    rw [hp] at hp'
    obtain rfl := memN_one hp'
    have hW' : F H w := by rw [← hA, ← hw]; exact hW
    simp only [hg]; exact ⟨some b, rj, hr, hv H, by rw [if_pos rfl]; exact Det.ohc hm hW (h H w hW')⟩⟩
end
theorem Det.sub {P : Program} {o : Oper} {n : Nat} {L L' : List (Nat × Value)} {w w2 : World} {v : Value} (hs : subL L L') (h : Det P o n L' w v w2) : Det P o n L w v w2 := Ok1.sub hs h
end Go.Mi
