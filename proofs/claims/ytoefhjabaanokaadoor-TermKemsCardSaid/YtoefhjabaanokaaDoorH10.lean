/- Rows of nodes on the heap; append that leaves what was read. -/
import Derived.Test.YtoefhjabaanokaaDoorW13
namespace Go.Mi
open Go.RowKit
/-- two changes, the second one also of new blocks -/
theorem Ch.trans' {Y Z : List Nat} {a b c : World} (h : Ch Y a b) (k : Ch Z b c) (hz : ∀ z, z ∈ Z → z ∈ Y ∨ a.heap.size ≤ z) : Ch Y a c :=
  ⟨k.os.trans h.os, k.tape.trans h.tape, k.output.trans h.output, Nat.le_trans h.size k.size, fun i hi hn => (k.blk i (Nat.lt_of_lt_of_le hi h.size) fun hm => by rcases hz i hm with h | h; exact hn h; omega).trans (h.blk i hi hn)⟩
section
variable {P : Program} {n : Nat} {L : List (Nat × Value)} {w : World} {ds : Option Nat} {ty : TypeId} {pos : String} {af : Array Edge} {gu : Option (Nat × Bool)}
/-- one more behind a slice that the call owns: the cells that were there stay, in the old block too -/
theorem ok_append1k {s x : Operand} {t e : TypeId} {z : Value} {base bytes n' c b o : Nat} {v u : Value} {xs : List Value} (ht : P.underlying t = some (.slice e)) (hi : (P.info? e).map (fun i => (i.size, i.bytes, i.zero)) = some (1, bytes, some z))
    (hzs : z.cells.size = 1) (hs : ev L s = some v) (hx : ev L x = some (.slice (some ⟨b, o, none⟩) 1 c)) (hown : Own w base e 1 v n' xs)
    (hn : At w b o [u]) (h1 : u.oneCell' = true) (hby : (n' + 1) * bytes ≤ 140737488355328) (h63 : n' + 1 ≤ maxLen) (hbase : base ≤ w.heap.size) :
    Ok1 P ⟨ds, .call ⟨.builtin .append, #[s, x], #[t, t]⟩, ty, pos, af, gu⟩ n L w fun v' w' => Own w' base e 1 v' (n' + 1) (xs ++ [u]) ∧ Ch (oblk v) w w' ∧ (oblk v' = oblk v ∨ oblk v' = [w.heap.size]) ∧ (∀ g, g ∈ oblk v → At w' g 0 xs) := by
  obtain ⟨inf, hi1, hz⟩ := Option.map_eq_some_iff.1 hi
  simp only [Prod.mk.injEq] at hz
  obtain ⟨hz1, hz2, hz3⟩ := hz
  have hl : [u].length = 1 * 1 := rfl
  have hnn : ∀ (j : Nat) (q : Value), [u][j]? = some q → w.cell? ((⟨b, o, none⟩ : Addr).add j) = some q := fun j q hq => by rw [add_none]; exact hn j q hq
  have h11 : ∀ q ∈ [u], q.oneCell' = true := fun q hq => by simp at hq; subst hq; exact h1
  obtain ⟨v', w', hr, h2, h3, h4, h5⟩ := run_append_own_at (P := P) w base t ty e inf z 1 bytes ht hi1 hz3 hz1 hz2 hzs (by omega) v n' xs hown ⟨b, o, none⟩ 1 c [u] hl hnn h11 h63 hby hbase
  have hkeep : ∀ g, g ∈ oblk v → At w' g 0 xs := by
    intro g hg
    rcases hown.2 with ⟨rfl, rfl⟩ | ⟨g', cap, cur, rfl, hbg, hgb, hnc, hcm, hcs, htake⟩
    · simp [oblk] at hg
    · simp only [oblk, List.mem_singleton] at hg
      subst hg
      have hat0 : At w g 0 xs := by
        rcases hown.at with ⟨h, _⟩ | ⟨b', cap', h, _, ha⟩
        · cases h
        · cases h; exact ha
      by_cases hroom : n' + 1 ≤ cap
      · have hr2 := run_append_room (P := P) w t ty e inf ht hi1 g n' cap cur hgb ⟨b, o, none⟩ 1 c [u] (by rw [hz1]; rfl) hnn h11 hroom (by rw [hz1, hcs]; simp; omega)
        rw [hr] at hr2
        cases hr2
        rcases Own.at h2 with ⟨h, _⟩ | ⟨b', cap', h, _, ha⟩
        · cases h
        · cases h
          exact (At.app.1 ha).1
      · have holds : ∀ (j : Nat) (q : Value), xs[j]? = some q → w.cell? ((⟨g, 0, none⟩ : Addr).add j) = some q := fun j q hq => by rw [add_none]; exact hat0 j q hq
        have hr2 := run_append_grow (P := P) w t ty e inf z ht hi1 hz3 ⟨g, 0, none⟩ n' cap xs (by rw [hz1]; exact hown.1) holds ⟨b, o, none⟩ 1 c [u] (by rw [hz1]; rfl) hnn (by omega) (by simp only [maxLen] at h63; omega) (by rw [hz2]; exact growslice_fits (by simp only [maxLen] at h63; omega) hby)
        rw [hr] at hr2
        cases hr2
        have hg' : g < w.heap.size := by
          rcases Nat.lt_or_ge g w.heap.size with h' | h'
          · exact h'
          · rw [Array.getElem?_eq_none h'] at hgb; cases hgb
        refine hat0.mv (Y := []) ⟨rfl, rfl, rfl, by simp, fun k hk _ => heap_alloc_old w.drew _ k hk⟩ (by simp)
  have hd : Det P ⟨ds, .call ⟨.builtin .append, #[s, x], #[t, t]⟩, ty, pos, af, gu⟩ n L w v' w' := Det.of_run fun a hF => by
    simp [execOp, hF.eval hs, hF.eval hx, resolve, invoke, builtin, hr]
  refine hd.mono fun v'' w'' ⟨ha, hb⟩ => ?_
  subst ha; subst hb
  have ob : ∀ u : Value, ∀ g, u.ownBlock = some g ↔ oblk u = [g] := by
    intro u g
    cases u with
    | slice a _ _ => cases a <;> simp [Value.ownBlock, oblk]
    | _ => simp [Value.ownBlock, oblk]
  have ob0 : ∀ u : Value, u.ownBlock = none ↔ oblk u = [] := by
    intro u
    cases u with
    | slice a _ _ => cases a <;> simp [Value.ownBlock, oblk]
    | _ => simp [Value.ownBlock, oblk]
  refine ⟨h2, ⟨h3.os, h3.tape, h3.output, h3.size, fun g hg hn => h3.block g hg fun he => hn ?_⟩, ?_, hkeep⟩
  · rw [(ob v g).1 he.symm]; simp
  · rcases h5 with h5 | h5
    · left
      cases hv : v.ownBlock with
      | none => rw [(ob0 v).1 hv, (ob0 v'').1 (h5.trans hv)]
      | some g => rw [(ob v g).1 hv, (ob v'' g).1 (h5.trans hv)]
    · right; exact (ob v'' _).1 h5
end
end Go.Mi
namespace Go.Mi.Term
open Go.Mi Go.Proofs Go.RowKit
/-- a row of nodes on the heap: its struct at br, its map at bm, its slice lv -/
structure RwIs (w : World) (base : Nat) (X : List Nat) (br bm : Nat) (lv : Value) (r : Rw) : Prop where
  st : w.heap[br]? = some (.cells #[lv, .map (some bm)] 118 (0, 0))
  met : MapIs w bm r.met
  own : ∃ xs, Own w base 83 1 lv r.l.length xs ∧ IsNs w (oblk lv ++ X) r.l xs
  nr : br ∉ oblk lv
  nm : bm ∉ oblk lv
  ne : br ≠ bm
theorem RwIs.lt {w : World} {base : Nat} {X : List Nat} {br bm : Nat} {lv : Value} {r : Rw} (h : RwIs w base X br bm lv r) : br < w.heap.size := by
  rcases Nat.lt_or_ge br w.heap.size with h' | h'
  · exact h'
  · have := h.st; rw [Array.getElem?_eq_none h'] at this; cases this
theorem RwIs.mv {w w' : World} {base : Nat} {X Y : List Nat} {br bm : Nat} {lv : Value} {r : Rw} (h : RwIs w base X br bm lv r) (k : Ch Y w w') (hy : ∀ y, y ∈ Y → y ∈ X) (h1 : br ∉ Y) (h2 : bm ∉ Y) (h3 : ∀ y, y ∈ oblk lv → y ∉ Y) : RwIs w' base X br bm lv r := by
  obtain ⟨xs, h4, h5⟩ := h.own
  exact ⟨k.blk0 h.st h1, h.met.mv k h2, ⟨xs, h4.mv k h3, IsNs.mv k (fun y hm => List.mem_append_right _ (hy y hm)) (fun x hx => .inl hx) _ _ h5⟩, h.nr, h.nm, h.ne⟩
/-- what a call on a row leaves of it -/
def RwTo (w w' : World) (base : Nat) (X : List Nat) (br bm : Nat) (lv : Value) (r r' : Rw) (lv' : Value) : Prop :=
  RwIs w' base X br bm lv' r' ∧ Ch (br :: bm :: oblk lv) w w' ∧ (oblk lv' = oblk lv ∨ ∀ y, y ∈ oblk lv' → w.heap.size ≤ y) ∧ r.l.length ≤ r'.l.length ∧
    (∀ g xs0, g ≠ br → g ≠ bm → (g ∈ oblk lv → xs0.length ≤ r.l.length) → At w g 0 xs0 → At w' g 0 xs0)
theorem RwTo.refl {w : World} {base : Nat} {X : List Nat} {br bm : Nat} {lv : Value} {r : Rw} (h : RwIs w base X br bm lv r) : RwTo w w base X br bm lv r r lv :=
  ⟨h, Ch.refl _ _, .inl rfl, Nat.le_refl _, fun _ _ _ _ _ h => h⟩
theorem RwTo.trans {w w1 w2 : World} {base : Nat} {X : List Nat} {br bm : Nat} {lv lv1 lv2 : Value} {r r1 r2 : Rw} (h : RwTo w w1 base X br bm lv r r1 lv1) (k : RwTo w1 w2 base X br bm lv1 r1 r2 lv2) : RwTo w w2 base X br bm lv r r2 lv2 := by
  obtain ⟨_, h2, h3, h4, h5⟩ := h
  obtain ⟨k1, k2, k3, k4, k5⟩ := k
  refine ⟨k1, h2.trans' k2 fun y hy => ?_, ?_, by omega, fun g xs0 hg1 hg2 hl ha => ?_⟩
  · simp only [List.mem_cons] at hy ⊢
    rcases hy with hy | hy | hy
    · exact .inl (.inl hy)
    · exact .inl (.inr (.inl hy))
    · rcases h3 with h3 | h3
      · rw [h3] at hy; exact .inl (.inr (.inr hy))
      · exact .inr (h3 y hy)
  · rcases k3 with k3 | k3
    · rw [k3]; exact h3
    · exact .inr fun y hy => Nat.le_trans h2.size (k3 y hy)
  · refine k5 g xs0 hg1 hg2 (fun hm => ?_) (h5 g xs0 hg1 hg2 hl ha)
    rcases h3 with h3 | h3
    · rw [h3] at hm; have := hl hm; omega
    · have := h3 g hm
      cases xs0 with
      | nil => simp
      | cons x xs0 => have := ha.lt; omega
/-- nodes of elsewhere, behind a call on a row -/
theorem RwTo.ns {w w' : World} {base : Nat} {X : List Nat} {br bm : Nat} {lv lv' : Value} {r r' : Rw} (h : RwTo w w' base X br bm lv r r' lv') (hr : br ∈ X) (hm : bm ∈ X) {ts : List Tm} {xs : List Value} (hn : IsNs w (oblk lv ++ X) ts xs) : IsNs w' (oblk lv' ++ X) ts xs := by
  refine IsNs.mv h.2.1 (fun y hy => ?_) (fun x hx => ?_) _ _ hn
  · simp only [List.mem_cons, List.mem_append] at hy ⊢
    rcases hy with rfl | rfl | hy
    · exact .inr hr
    · exact .inr hm
    · exact .inl hy
  · simp only [List.mem_append] at hx ⊢
    rcases hx with hx | hx
    · rcases h.2.2.1 with h3 | h3
      · rw [h3] at hx; exact .inl (.inl hx)
      · exact .inr (h3 x hx)
    · exact .inl (.inr hx)
theorem RwTo.n {w w' : World} {base : Nat} {X : List Nat} {br bm : Nat} {lv lv' : Value} {r r' : Rw} (h : RwTo w w' base X br bm lv r r' lv') (hr : br ∈ X) (hm : bm ∈ X) {t : Tm} {v : Value} (hn : IsN w (oblk lv ++ X) t v) : IsN w' (oblk lv' ++ X) t v := by
  have := h.ns hr hm (IsNs.one hn)
  simp only [IsNs] at this
  obtain ⟨v', _, h1, h2, rfl⟩ := this
  cases h1
  exact h2
theorem own_keep {w w' : World} {g : Nat} {xs xs0 : List Value} (h : At w g 0 xs) (h' : At w' g 0 xs) (hl : xs0.length ≤ xs.length) (h0 : At w g 0 xs0) : At w' g 0 xs0 := fun i u hu => by
  have hi : i < xs.length := by
    rcases Nat.lt_or_ge i xs0.length with h | h
    · omega
    · rw [List.getElem?_eq_none h] at hu; cases hu
  have h1 := h i _ (List.getElem?_eq_getElem hi)
  rw [h0 i u hu] at h1
  cases h1
  exact h' i _ (List.getElem?_eq_getElem hi)
end Go.Mi.Term
namespace Go.Mi
open Go.RowKit
theorem results0 {P : Program} {a : Act} {w : World} {fn : Func} (h : fn.results = #[]) : (results fn a.tmps).run P w = .ok (.tuple #[]) w := by
  rw [results_eq, h]
  simp
end Go.Mi
