/- Lists that the reference gU: copies with more behind; all but the first. General lemmas. -/
import Derived.Test.YtoefhjabaanokaaDoorY26
import Derived.Test.YtoefhjabaanokaaDoorY27
set_option linter.unusedSimpArgs false
set_option linter.unusedVariables false
set_option linter.unnecessarySimpa false
namespace Go.Mi.Term
open Go.Mi Go.Proofs Go.RowKit
def loY (base : Nat) : RY := ⟨fun g w => base ≤ w.heap.size ∧ ∀ y, y ∈ g.Y → y < base, fun {g g'} _ _ _ ⟨h1, h2⟩ k _ hy _ => ⟨Nat.le_trans h1 k.size, by rw [hy]; exact h2⟩⟩
def mA (base k : Nat) : RX := ⟨fun g w => base ≤ w.heap.size ∧ (∀ y, y ∈ g.Y → y < base) ∧ ∃ b, base ≤ b ∧ g.N[k]? = some (.slice (some ⟨b, 0, none⟩) 0 0) ∧ g.F = [b] ∧ w.heap[b]? = some (.cells #[] 26 (0, 0)), fun {g g'} _ _ _ ⟨h1, h2, b, h3, h4, h5, h6⟩ k hc hf hy hx hN => ⟨Nat.le_trans h1 k.size, by rw [hy]; exact h2, b, h3, hN _ _ h4, hf.trans h5, by rw [k.blk b (da h6) fun hm => (hc b hm).2.1 (by rw [h5]; simp)]; exact h6⟩⟩
section
variable {w : World} {base : Nat} {e : TypeId} {v : Value}
theorem rV {X : List Nat} {n m : Nat} {xs : List Value} (h : Own w base e m v n xs) (hx : ∀ b, b ∈ bE v → b ∉ X) : SlA w X v n xs := by
 rcases h.at with ⟨h1, h2, h3⟩ | ⟨b, cap, rfl, h1, h2⟩
 ·exact .inl ⟨.inl h1, h2, h3⟩
 ·obtain ⟨cap, rfl⟩ := Nat.le.dest h1
  exact .inr ⟨b, 0, cap, rfl, hx b (by simp [bE]), (h.lt b (by simp [bE])).2, h2⟩
end
section
variable {P : Program} {n : Nat} {L : List (Nat × Value)} {w : World} {ds : Option Nat} {ty : TypeId} {pos : String} {af : Array Edge} {gu : Option (Nat × Bool)}
theorem kW {s x : Operand} {t e : TypeId} {z : Value} {base m bytes k b : Nat} {lv : Value} {news : List Value} {X : List Nat} (ht : P.underlying t = some (.slice e)) (hi : (P.info? e).map (fun i => (i.size, i.bytes, i.zero)) = some (m, bytes, some z))
  (hzs : z.cells.size = m) (hm0 : 0 < m) (hs : ev L s = some (.slice (some ⟨b, 0, none⟩) 0 0)) (hx : ev L x = some lv) (hb : w.heap[b]? = some (.cells #[] e (0, 0))) (hbb : base ≤ b) (hsl : SlA w X lv k news) (hl : news.length = k * m)
  (h1 : ∀ u ∈ news, u.oneCell' = true) (hby : k * bytes ≤ 140737488355328) (h63 : k ≤ maxLen) (hbase : base ≤ w.heap.size) :
  Ok1 P ⟨ds, .call ⟨.builtin .append, #[s, x], #[t, t]⟩, ty, pos, af, gu⟩ n L w fun v' w' => Own w' base e m v' k news ∧ Ch [] w w' ∧ (bE v' = [b] ∨ bE v' = [w.heap.size]) :=
 kV ht hi hzs hm0 hs hx hb hbb hl (by
  rcases hsl with ⟨h | ⟨a2, cap, h⟩, h2, h3⟩ | ⟨b2, o2, cap, h, _, _, ha⟩
  ·exact .inl ⟨h, h2, h3⟩
  ·subst h2; subst h3; exact .inr ⟨a2, cap, h, fun j u hu => by simp at hu⟩
  ·exact .inr ⟨_, _, h, fun j u hu => by rw [dq]; exact ha j u hu⟩) h1 hby h63 hbase
variable {x l : Operand} {t e : TypeId}
theorem mC {b o cap q : Nat} (ht : P.underlying t = some (.slice e)) (hs : (P.info? e).map (·.size) = some q) (hx : ev L x = some (.slice (some ⟨b, o, none⟩) 2 (2 + cap))) (hl : ev L l = some (.int .i64 1)) : Det P ⟨ds, .slice t x (some l) none none, ty, pos, af, gu⟩ n L w (.slice (some ⟨b, o + 1 * q, none⟩) 1 (1 + cap)) w :=
 Det.of_run fun a hF => by
  obtain ⟨inf, hi, hz⟩ := Option.map_eq_some_iff.1 hs
  have h1 : ¬ 2 + cap = 1 := by omega
  have h2 : 2 + cap - 1 = 1 + cap := by omega
  simp [execOp, hF.eval hx, hF.eval hl, Instr.sliceAt, Instr.slice, bN ht, Instr.sliceBounds, Instr.sliceBound, asIntOf, sizeOf, typeInfo, hi, hz, h1, h2, Addr.add]
end
section
set_option maxRecDepth 100000
variable {ops : List Oper} {n : Nat} {B : Nat → BX XX} {i p b k o base : Nat} {L : TL TT} {ph : List Nat} {ρ : RX} {ns : List (Nat × Sp TT)} {ds : Option Tmp} {ty : TypeId} {pos : String} {af : Array Edge} {gu : Option (Nat × Bool)} {t : TypeId} {x y : Operand} {ts us : List Tm} {ta tb : Tm}
theorem t8 (hop : ops.getD i default = ⟨ds, .assign (.const (.slice none 0 0)), t, pos, af, gu⟩) : EOb Tryd.prog n ops XX B ⟨i, L, tkS [], ph, false⟩ p := bL fun ξ g w hB hH => by
 rw [hop]
 exact ⟨_, ⟨[], .inl ⟨.inl rfl, rfl, rfl⟩, rfl⟩, bA rfl⟩
theorem tc (hop : ops.getD i default = ⟨ds, .slice 24 x (some y) none none, t, pos, af, gu⟩) (hx : spO L x = some (tkS [ta, tb])) (hy : spO L y = some (eI 1)) : EOb Tryd.prog n ops XX B ⟨i, L, tkS [tb], ph, false⟩ p := bL fun ξ g w hB hH => by
 rw [hop]
 obtain ⟨v, h1, xs, h2, h3⟩ := bI hx hH
 rcases h2 with ⟨_, h, _⟩ | ⟨b, o, cap, rfl, h4, h5, h6⟩
 ·simp at h
 obtain ⟨us, q1, q2, q3⟩ := IsTs.pick h3 (j := 1) rfl
 exact ⟨_, ⟨us, .inr ⟨b, o + 1 * 3, cap, rfl, h4, h5, h6.part (1 * 3) q3⟩, by simp only [IsTs]; exact ⟨us, [], by simp, q1, rfl⟩⟩, mC u24 bV h1 (bJ hy)⟩
theorem xu (hB0 : B p = stB (loY base).rx ns) (hB1 : B (p + 1) = stB (mA base k) (ns ++ [(0, bM)])) (hop : ops.getD i default = ⟨ds, .buildSlice 24 0 #[], t, pos, af, gu⟩) (hk : ns.length = k) : EOb Tryd.prog n ops XX B ⟨i, L, nwS k, ph, true⟩ p := by
 subst hk
 intro ξ g w hB hH
 rw [hB0] at hB
 have hB : StB (loY base).rx ns g w := hB
 show Ok1 Tryd.prog (ops.getD i default) _ _ _ _
 rw [hop]
 obtain ⟨hF, h1, h2⟩ := hB.run
 refine (jB u24 bV).mono ?_
 rintro v w' ⟨b, rfl, hn⟩
 have hb := hn.num
 have hlen : g.N.length = ns.length := hB.len
 obtain ⟨t1, t2⟩ := hB.run' (ρ' := mA base ns.length) (g' := ⟨[b], g.M, g.Y, g.N ++ [.slice (some ⟨b, 0, none⟩) 0 0]⟩) (w' := w') (l := [.slice (some ⟨b, 0, none⟩) 0 0]) (l' := [(0, bM)]) (by rw [hF]; exact hn.ch) (fun x hx => .inr (by rw [List.mem_singleton.1 hx]; omega)) (fun x hx => by rw [List.mem_singleton.1 hx]; exact hn.lt) rfl rfl rfl rfl (fun u hu b' => by rw [List.mem_singleton.1 hu]; simp) (fun u hu => by rw [List.mem_singleton.1 hu]) ⟨Nat.le_trans h1 hn.ch.size, h2, b, by omega, by simp [← hlen], rfl, hn.blk⟩
 exact ⟨_, ⟨t1, by show (B (p + 1)).P _ _; rw [hB1]; exact t2⟩, by show (g.N ++ [_])[ns.length]? = some _; simp [← hlen]⟩
theorem ww {k' : Nat} (hB0 : B p = stB (mA base k) ns) (hB1 : B (p + 1) = stB (fj (loY base) base 26 3 k' ts.length (dC ts)) (ns ++ [(0, bM)])) (hop : ops.getD i default = ⟨ds, .call ⟨.builtin .append, #[x, y], #[24, 24]⟩, t, pos, af, gu⟩) (hx : spO L x = some (nwS k)) (hy : spO L y = some (tkS ts)) (hk : ns.length = k') (hsz : ts.length ≤ 1000000) : EOb Tryd.prog n ops XX B ⟨i, L, nwS k', ph, true⟩ p := by
 subst hk
 intro ξ g w hB hH
 rw [hB0] at hB
 have hB : StB (mA base k) ns g w := hB
 show Ok1 Tryd.prog (ops.getD i default) _ _ _ _
 rw [hop]
 obtain ⟨h1, h2, b, h3, h4, h5, h6⟩ := hB.run
 obtain ⟨vx, e0, a⟩ := bI hx hH
 have a : g.N[k]? = some vx := a
 rw [h4] at a
 cases a
 obtain ⟨vy, e1, ys, h, f⟩ := bI hy hH
 have c : g.N.length = ns.length := hB.len
 refine (kW u24 ll rfl (by decide) e0 e1 h6 h3 h ((IsTs.len f).trans (Nat.mul_comm _ _)) (IsTs.cells1 f) (by omega) (by unfold maxLen; omega) h1).mono ?_
 rintro v' w' ⟨hown, hch, ho⟩
 have d : ∀ z, z ∈ bE v' → z ∈ g.F ∨ w.heap.size ≤ z := fun z hz => by
  rcases ho with e | e
  ·rw [e] at hz; exact .inl (by rw [h5]; exact hz)
  ·rw [e] at hz; exact .inr (by rw [List.mem_singleton.1 hz]; exact Nat.le_refl _)
 have hX : ∀ z, z ∈ bE v' ++ (g.M ++ g.Y) → z ∈ g.X ∨ w.heap.size ≤ z := fun z hz => by
  rcases List.mem_append.1 hz with hz | hz
  ·rcases d z hz with h3 | h3
   ·exact .inl (by simp [Gh.X, h3])
   ·exact .inr h3
  ·exact .inl (by simp only [Gh.X, List.mem_append] at hz ⊢; exact .inr hz)
 obtain ⟨t1, t2⟩ := hB.run' (ρ' := fj (loY base) base 26 3 ns.length ts.length (dC ts)) (g' := ⟨bE v', g.M, g.Y, g.N ++ [v']⟩) (w' := w') (l := [v']) (l' := [(0, bM)]) (hch.mono (by simp)) d (fun z hz => (Own.lt hown z hz).2) rfl rfl rfl rfl (fun u hu b' => by
  rw [List.mem_singleton.1 hu]
  rcases Own.at hown with ⟨rfl, _⟩ | ⟨_, _, rfl, _⟩ <;> simp) (fun u hu => by rw [List.mem_singleton.1 hu]) ⟨v', by simp [← c], ⟨Nat.le_trans h1 hch.size, h2⟩, Nat.le_trans h1 hch.size, h2, rfl, ys, hown, IsTs.mv hch (by simp) hX _ _ f⟩
 exact ⟨_, ⟨t1, by show (B (p + 1)).P _ _; rw [hB1]; exact t2⟩, by show (g.N ++ [v'])[ns.length]? = some v'; simp [← c]⟩
theorem wu {k' : Nat} (hB0 : B p = stB (fj (loY base) base 26 3 k ts.length (dC ts)) ns) (hB1 : B (p + 1) = stB (fj (loY base) base 26 3 k' (ts.length + 1) (dC (ts ++ [ta]))) (ns ++ [(0, bM)])) (hop : ops.getD i default = ⟨ds, .call ⟨.builtin .append, #[x, y], #[24, 24]⟩, t, pos, af, gu⟩) (hx : spO L x = some (nwS k)) (hy : spO L y = some (tfS [ta])) (hk : ns.length = k') (hsz : ts.length ≤ 1000000) : EOb Tryd.prog n ops XX B ⟨i, L, nwS k', ph, true⟩ p := by
 subst hk
 intro ξ g w hB hH
 rw [hB0] at hB
 have hB : StB (fj (loY base) base 26 3 k ts.length (dC ts)) ns g w := hB
 show Ok1 Tryd.prog (ops.getD i default) _ _ _ _
 rw [hop]
 obtain ⟨v, h0, ⟨h1, h2⟩, _, _, h4, xs, h5, h6⟩ := hB.run
 obtain ⟨vx, e0, a⟩ := bI hx hH
 have a : g.N[k]? = some vx := a
 rw [h0] at a
 cases a
 obtain ⟨vy, e1, k1⟩ := bI hy hH
 obtain ⟨b1, o1, c1, ys, rfl, m, h, d, j⟩ := lz _ _ _ k1
 have b : g.N.length = ns.length := hB.len
 refine (dR u24 ll rfl (by decide) e0 e1 h5 h m d (by omega) (by unfold maxLen; omega) h1).mono ?_
 rintro v' w' ⟨hown, hch, ho⟩
 have c : ∀ z, z ∈ bE v' → z ∈ g.F ∨ w.heap.size ≤ z := fun z hz => by
  rcases ho with e | e
  ·rw [e] at hz; exact .inl (by rw [h4]; exact hz)
  ·rw [e] at hz; exact .inr (by rw [List.mem_singleton.1 hz]; exact Nat.le_refl _)
 have hX : ∀ z, z ∈ bE v' ++ (g.M ++ g.Y) → z ∈ g.X ∨ w.heap.size ≤ z := fun z hz => by
  rcases List.mem_append.1 hz with hz | hz
  ·rcases c z hz with h3 | h3
   ·exact .inl (by simp [Gh.X, h3])
   ·exact .inr h3
  ·exact .inl (by simp only [Gh.X, List.mem_append] at hz ⊢; exact .inr hz)
 have f : ∀ z, z ∈ bE v → z ∈ g.X := fun z hz => by simp [Gh.X, h4, hz]
 obtain ⟨t1, t2⟩ := hB.run' (ρ' := fj (loY base) base 26 3 ns.length (ts.length + 1) (dC (ts ++ [ta]))) (g' := ⟨bE v', g.M, g.Y, g.N ++ [v']⟩) (w' := w') (l := [v']) (l' := [(0, bM)]) (by rw [h4]; exact hch) c (fun z hz => (Own.lt hown z hz).2) rfl rfl rfl rfl (fun u hu b' => by
  rw [List.mem_singleton.1 hu]
  rcases Own.at hown with ⟨rfl, _⟩ | ⟨_, _, rfl, _⟩ <;> simp) (fun u hu => by rw [List.mem_singleton.1 hu]) ⟨v', by simp [← b], ⟨Nat.le_trans h1 hch.size, h2⟩, Nat.le_trans h1 hch.size, h2, rfl, xs ++ ys, hown, IsTs.app (IsTs.mv hch f hX _ _ h6) (IsTs.mv hch f hX _ _ j)⟩
 exact ⟨_, ⟨t1, by show (B (p + 1)).P _ _; rw [hB1]; exact t2⟩, by show (g.N ++ [v'])[ns.length]? = some v'; simp [← b]⟩
end
theorem wE {κ : RY} {l : Nat} {ts : List Tm} {v : Value} {base : Nat} {g : Gh} {w : World} (h : (cW κ base 26 3 v l (dC ts)).P g w) (hl : l = ts.length) : fZ w [] ts v := by
 subst hl
 obtain ⟨_, _, _, _, xs, h5, h6⟩ := h
 exact ⟨xs, rV h5 (by simp), IsTs.mv (Ch.refl [] w) (by simp) (by simp) _ _ h6⟩
theorem tK {w : World} {X X' : List Nat} {ts : List Tm} {v : Value} (h : fZ w X ts v) (hs : ∀ x, x ∈ X' → x ∈ X) : fZ w X' ts v := mX (R := dC ts) h hs
def fsl (known : List Tm) (i : Nat) : List Tm := (known.take i).foldl gK []
section
variable {W : Wd} {l lf cm cur ks known : List Tm} {q i : Nat} {x y : Tm} {k n : Int}
theorem tS (h : dA W q l = some lf) : ∃ p, q = p + 1 := by
 cases q with
 | zero => simp [dA] at h
 | succ p => exact ⟨p, rfl⟩
theorem tR (h : dA W (q + 1) l = some lf) (e : (cv W l l l).length = l.length) : cv W l l l = lf := by
 simp only [dA, if_pos e] at h
 exact Option.some.inj h
theorem vJ (h : dA W (q + 1) l = some lf) (e : ¬ (cv W l l l).length = l.length) : dA W q (cv W l l l) = some lf := by
 simpa only [dA, if_neg e] using h
theorem uM (hx : known[i]? = some x) (h : ci (fsl known i) x = false) : fsl known (i + 1) = fsl known i ++ [x] := by
 unfold fsl at h ⊢
 rw [cY hx, List.foldl_append]
 simp only [List.foldl_cons, List.foldl_nil, gK]
 rw [if_neg (by simp [h])]
theorem sF (hx : known[i]? = some x) (h : ci (fsl known i) x = true) : fsl known (i + 1) = fsl known i := by
 unfold fsl at h ⊢
 rw [cY hx, List.foldl_append]
 simp only [List.foldl_cons, List.foldl_nil, gK]
 rw [if_pos h]
def adj (cm cur : List Tm) (j : Nat) : List Tm := (cm.take j).foldl gK cur
theorem vm (hx : cm[i]? = some x) (h : ci (adj cm cur i) x = false) : adj cm cur (i + 1) = adj cm cur i ++ [x] := by
 unfold adj at h ⊢
 rw [cY hx, List.foldl_append]
 simp only [List.foldl_cons, List.foldl_nil, gK]
 rw [if_neg (by simp [h])]
theorem sU (hx : cm[i]? = some x) (h : ci (adj cm cur i) x = true) : adj cm cur (i + 1) = adj cm cur i := by
 unfold adj at h ⊢
 rw [cY hx, List.foldl_append]
 simp only [List.foldl_cons, List.foldl_nil, gK]
 rw [if_pos h]
theorem qf (hx : l[i]? = some x) (hc : cm = come W l x) : cv W l (l.take (i + 1)) l = adj cm (cv W l (l.take i) l) cm.length := by
 subst hc
 unfold cv adj
 rw [cY hx, List.foldl_append, List.take_length]
 rfl
theorem u8 {a b : Tm} : [a, b] = come W l (.mk 9 n [a, b]) := rfl
theorem u_ {a b : Tm} : [b] = come W l (.mk 8 n [a, b]) := rfl
theorem sK {a b : Tm} (h : rb W l a = true) : [b] = come W l (.mk 7 n [a, b]) := by simp [come, h]
theorem sL {a b : Tm} (h : rb W l a = false) : [] = come W l (.mk 7 n [a, b]) := by simp [come, h]
theorem u7 (h9 : k ≠ 9) (h8 : k ≠ 8) (h7 : k ≠ 7) : [] = come W l (.mk k n ks) := by simp only [come]; split <;> simp [h9, h8, h7]
theorem q_ : (come W l x).length ≤ 2 := by
 cases x with
 | mk k n ks =>
  simp only [come]
  split
  ·repeat' split
   all_goals simp
  ·simp
theorem rP {X : List Nat} {w : World} {v : Value} (h : ∃ xs, SlA w X v (l.length + 1) xs ∧ IsTs w X (l ++ [y]) xs) : ∃ xs, SlA w X v (l ++ [y]).length xs ∧ IsTs w X (l ++ [y]) xs := by simpa using h
theorem rh (k : Int) : k = 9 ∨ k = 8 ∨ k = 7 ∨ (k ≠ 9 ∧ k ≠ 8 ∧ k ≠ 7) := by omega
theorem qw {U : List Tx} {cur : List Tm} (h : LInv U l) (hc : LInv U cur) (hx : x ∈ l) (he : cm = come W l x) (j : Nat) : LInv U (adj cm cur j) := by
 subst he
 exact hc.adds fun u hu => h.come hx (List.mem_of_mem_take hu)
end
end Go.Mi.Term
