/- Own slices in a walk; rows of a region. -/
import Derived.Test.YtoefhjabaanokaaDoorH4
import Derived.Test.YtoefhjabaanokaaDoorA9
namespace Go.Mi.Term
open Go.Mi Go.RowKit
theorem Mem_chg {w0 w w' : World} {M : List Blk} {Y : List Nat} (h : Mem w0 w M) (k : Ch Y w w') (hy : ∀ y, y ∈ Y → w0.heap.size ≤ y ∧ ∀ e, e ∈ M → e.1 ≠ y) : Mem w0 w' M := by
  have h1 : Below w0.heap.size w w' := k.below h.below.size fun y hm => (hy y hm).1
  refine ⟨h.below.trans h1, fun e he => ?_, h.new, h.apart⟩
  rw [k.blk e.1 (h.lt he) fun hm => (hy _ hm).2 e he rfl]
  exact h.blk e he
theorem word_len (k : Int) : (word k).length ≤ 4 := by
  unfold word
  repeat' split
  all_goals simp
theorem Own.nil (w : World) (base m : Nat) (e : TypeId) : Own w base e m (.slice none 0 0) 0 [] := ⟨by simp, .inl ⟨rfl, rfl⟩⟩
theorem Ch.drew (w : World) : Ch [] w { w with drawn := w.drawn + 1 } := ⟨rfl, rfl, rfl, Nat.le_refl _, fun _ _ _ => rfl⟩
theorem map_take_succ {β : Type} {f : Tm → β} {ks : List Tm} {i : Nat} {t : Tm} (h : ks[i]? = some t) : (ks.take (i + 1)).map f = (ks.take i).map f ++ [f t] := by
  rw [List.take_add_one, h]; simp
theorem IsN.form {w : World} {X : List Nat} {t : Tm} {v : Value} (h : IsN w X t v) : ∃ b k n sl, v = .pointer (some ⟨b, 0, none⟩) ∧ b ∉ X ∧ At w b 0 [.int .i64 k, .int .i64 n, sl, .string (bs (txt t))] := by
  cases t
  simp only [IsN] at h
  obtain ⟨b, sl, xs, h1, h2, h3, _, _⟩ := h
  exact ⟨b, _, _, sl, h1, h2, h3⟩
theorem own_two {w : World} {base : Nat} {e : TypeId} {v a b : Value} (h : Own w base e 1 v 2 [a, b]) : ∃ g cap cur, v = .slice (some ⟨g, 0, none⟩) 2 cap ∧ base ≤ g ∧ w.heap[g]? = some (.cells cur e (0, 0)) ∧ 2 ≤ cap ∧ cur[0]? = some a ∧ cur[1]? = some b ∧ 2 ≤ cur.size := by
  rcases h.2 with ⟨_, h2⟩ | ⟨g, cap, cur, rfl, hg, hb, h3, _, h5, h6⟩
  · omega
  · have hs : 2 ≤ cur.size := by omega
    have h7 : ∀ i, i < 2 → cur[i]? = [a, b][i]? := fun i hi => by
      rw [← h6, List.getElem?_take, if_pos (by omega), Array.getElem?_toList]
    exact ⟨g, cap, cur, rfl, hg, hb, h3, h7 0 (by omega), h7 1 (by omega), hs⟩
theorem Mem_own {w0 w : World} {g : Nat} {cur : Array Value} {e : TypeId} (h : Mem w0 w []) (hg : w0.heap.size ≤ g) (hb : w.heap[g]? = some (.cells cur e (0, 0))) : Mem w0 w [(g, cur, e)] :=
  ⟨h.below, fun q hq => by simp at hq; subst hq; exact hb, fun q hq => by simp at hq; subst hq; exact hg, by simp⟩
/-- two cells of a block -/
theorem at_two {w : World} {g : Nat} {c : Array Value} {e : TypeId} {f : Nat × Nat} {a b : Value} (h : w.heap[g]? = some (.cells c e f)) (h0 : c[0]? = some a) (h1 : c[1]? = some b) : At w g 0 [a, b] := fun i u hu => by
  rw [cell_blk h, Nat.zero_add]
  match i, hu with
  | 0, hu => simp at hu; subst hu; exact h0
  | 1, hu => simp at hu; subst hu; exact h1
section
variable {P : Program} {n : Nat} {L : List (Nat × Value)} {w : World} {ds : Option Nat} {ty : TypeId} {pos : String} {af : Array Edge} {gu : Option (Nat × Bool)}
theorem d_fieldAddrQ {x : Operand} {s : TypeId} {fs : Array Field} {f : Nat} {fd : Field} {b o m q : Nat} (hs : P.underlying s = some (.struct fs)) (hm : (P.info? fd.type).map (·.size) = some (m + 1)) (hf : fs[f]? = some fd) (hx : ev L x = some (.pointer (some ⟨b, o, none⟩))) (hq : o + fd.offset = q) :
    Det P ⟨ds, .fieldAddr s x f, ty, pos, af, gu⟩ n L w (.pointer (some ⟨b, q, none⟩)) w := hq ▸ d_fieldAddr hs hf hm hx
/-- one more behind a slice that the call owns -/
theorem ok_append1 {s x : Operand} {t e : TypeId} {z : Value} {base bytes n' c b : Nat} {v u : Value} {xs : List Value} (ht : P.underlying t = some (.slice e)) (hi : (P.info? e).map (fun i => (i.size, i.bytes, i.zero)) = some (1, bytes, some z))
    (hzs : z.cells.size = 1) (hs : ev L s = some v) (hx : ev L x = some (.slice (some ⟨b, 0, none⟩) 1 c)) (hown : Own w base e 1 v n' xs)
    (hn : At w b 0 [u]) (h1 : u.oneCell' = true) (hby : (n' + 1) * bytes ≤ 140737488355328) (h63 : n' + 1 ≤ maxLen) (hbase : base ≤ w.heap.size) :
    Ok1 P ⟨ds, .call ⟨.builtin .append, #[s, x], #[t, t]⟩, ty, pos, af, gu⟩ n L w fun v' w' => Own w' base e 1 v' (n' + 1) (xs ++ [u]) ∧ Ch (oblk v) w w' ∧ (oblk v' = oblk v ∨ oblk v' = [w.heap.size]) := by
  obtain ⟨inf, hi1, hz⟩ := Option.map_eq_some_iff.1 hi
  simp only [Prod.mk.injEq] at hz
  exact ok_append ht hi1 hz.2.2 hz.1 hz.2.1 hzs (by omega) hs hx hown rfl hn (fun q hq => by simp at hq; subst hq; exact h1) h63 hby hbase
/-- a row of an operation that changes nothing -/
theorem Det.oh {o : Oper} {A B : Prop} {Wd : World → Prop} {v : Value} (hW : Wd w) (h : Det P o n L w v w) : Ok1 P o n L w fun v' w' => bif false then (A ∧ B) else Wd w' ∧ v' = v :=
  h.mono fun _ _ ⟨h1, h2⟩ => ⟨h2 ▸ hW, h1⟩
end
end Go.Mi.Term
