/- Texts that belong together: N1, N2, N3. General lemmas and walks; no conditions. -/
import Derived.Test.YtoefhjabaanokaaDoorE1
import Derived.Test.YtoefhjabaanokaaDoorB6
set_option linter.unusedSimpArgs false
set_option linter.unusedVariables false
set_option linter.unnecessarySimpa false
namespace Go.Mi.Term
open Go.Mi Go.Proofs Go.RowKit
abbrev ndS (t : Tm) : Sp TT := .pr ⟨fun g w v => IsN w g.X t v, fun h k => IsN.mv k.ch (Gh.sub _) k.X _ _ h⟩
abbrev nsS (ts : List Tm) : Sp TT := .pr ⟨fun g w v => ∃ xs, SlA w g.X v ts.length xs ∧ IsNs w g.X ts xs, fun ⟨xs, h1, h2⟩ k => ⟨xs, h1.mv k.ch (Gh.sub _) k.X, IsNs.mv k.ch (Gh.sub _) k.X _ _ h2⟩⟩
abbrev nfS (t : Tm) (j : Nat) : Sp TT := .pr ⟨fun g w v => ∃ b, v = vP b j ∧ IsN w g.X t (vp b), fun ⟨b, h1, h2⟩ k => ⟨b, h1, IsN.mv k.ch (Gh.sub _) k.X _ _ h2⟩⟩
abbrev npS (t : Tm) : Sp TT := .pr ⟨fun g w v => ∃ b o u, v = vP b o ∧ b ∉ g.X ∧ b < w.heap.size ∧ At w b o [u] ∧ IsN w g.X t u, fun ⟨b, o, u, h1, h2, h3, h4, h5⟩ k => ⟨b, o, u, h1, fun hm => by
  rcases k.X b hm with h | h
  · exact h2 h
  · omega, Nat.lt_of_lt_of_le h3 k.ch.size, h4.mv k.ch fun hm => h2 (Gh.sub _ b hm), IsN.mv k.ch (Gh.sub _) k.X _ _ h5⟩⟩
abbrev cnS (t : Tm) : Sp TT := .pr ⟨fun g w v => ∃ u, v = .agg #[u] ∧ IsN w g.X t u, fun ⟨u, h1, h2⟩ k => ⟨u, h1, IsN.mv k.ch (Gh.sub _) k.X _ _ h2⟩⟩
abbrev fbS (k : Nat) : Sp TT := .pr ⟨fun g _ v => ∃ c, g.N[k]? = some (vp c) ∧ v = .func (.func 95) #[] #[vp c], fun ⟨c, h1, h2⟩ h => ⟨c, ir h1 h, h2⟩⟩
structure Bk where
  T : World → Prop
  nb : Nat
  hT : ∀ w w', Below nb w w' → T w → T w'
  W : Wd
  met : bX
  bb : Nat
  bt : Nat
  br : Nat
  bm : Nat
  rl : Value
def bdR (K : Bk) (m : bX) : RX := ⟨fun g w => g.F = [K.bt] ∧ (∀ x, x ∈ g.X → K.nb ≤ x) ∧ K.nb ≤ w.heap.size ∧ K.T w ∧ Bd w K.W K.met K.bb K.bt K.br K.bm K.rl ∧ MapIs w K.bt m ∧ ∀ x, x ∈ [K.bb, K.br, K.bm] → x ∉ g.X ∧ x < w.heap.size, fun {g g' w w' C} ⟨h1, h2, h3, h4, h5, h6, h7⟩ k hc hf _ hx _ => by
  have hC : ∀ x, x ∈ [K.bb, K.br, K.bm] → x ∉ C := fun x hm hx' => (h7 x hm).1 (hc x hx').1
  refine ⟨hf.trans h1, fun x hm => ?_, Nat.le_trans h3 k.size, K.hT w w' (Ch.below k h3 fun c hm => h2 c (hc c hm).1) h4, h5.mv k (hC _ (by simp)) (hC _ (by simp)) (hC _ (by simp)), h6.mv k fun hm => (hc _ hm).2.1 (by rw [h1]; simp), fun x hm => ⟨fun hm' => ?_, Nat.lt_of_lt_of_le (h7 x hm).2 k.size⟩⟩
  · rcases hx x hm with h | h
    · exact h2 x h
    · omega
  · have := h7 x hm
    rcases hx x hm' with h | h
    · exact this.1 h
    · omega⟩
theorem IsN.sub {w : World} {X X' : List Nat} {t : Tm} {v : Value} (h : IsN w X t v) (hs : ∀ x, x ∈ X' → x ∈ X) : IsN w X' t v := IsN.mv (Ch.refl [] w) (by simp) (fun x hx => .inl (hs x hx)) _ _ h
theorem IsNs.sub {w : World} {X X' : List Nat} {t : List Tm} {v : List Value} (h : IsNs w X t v) (hs : ∀ x, x ∈ X' → x ∈ X) : IsNs w X' t v := IsNs.mv (Ch.refl [] w) (by simp) (fun x hx => .inl (hs x hx)) _ _ h
theorem SlA.sub {w : World} {X X' : List Nat} {v : Value} {n : Nat} {xs : List Value} (h : SlA w X v n xs) (hs : ∀ x, x ∈ X' → x ∈ X) : SlA w X' v n xs := h.mv (Ch.refl [] w) (by simp) fun x hx => .inl (hs x hx)
theorem zi3 : (Tryd.prog.info? 3).bind (·.zero) = some (.int .i64 0) := by kernel_rfl
section
set_option maxRecDepth 100000
variable {ops : List Oper} {n : Nat} {B : Nat → BX XX} {i p k : Nat} {L : TL TT} {ph : List Nat} {ρ : RX} {ns : List (Nat × Sp TT)} {ds : Option Tmp} {pos : String} {af : Array Edge} {gu : Option (Nat × Bool)} {t ty : TypeId} {x y z : Operand} {K : Bk} {m m' : bX} {tm : Tm} {ts : List Tm}
theorem cP (hop : ops.getD i default = ⟨ds, .nilCheck x, t, pos, af, gu⟩) (hx : spO L x = some (ndS tm)) : EOb Tryd.prog n ops XX B ⟨i, L, ndS tm, ph, false⟩ p := bL fun ξ g w hB hH => by
  rw [hop]
  obtain ⟨v, h1, h2⟩ := bI hx hH
  obtain ⟨b, rfl, _⟩ := IsN.ptr h2
  exact ⟨_, h2, Term.d_nil h1⟩
theorem dB {f : Nat} {fs : Array Field} {fd : Field} {q s : Nat} (hop : ops.getD i default = ⟨ds, .fieldAddr 112 x f, t, pos, af, gu⟩) (hx : spO L x = some (ndS tm)) (hs : (Tryd.prog.info? fd.type).map (·.size) = some (s + 1)) (hu : Tryd.prog.underlying 112 = some (.struct fs)) (hf : fs[f]? = some fd) (hq : fd.offset = q) : EOb Tryd.prog n ops XX B ⟨i, L, nfS tm q, ph, false⟩ p := bL fun ξ g w hB hH => by
  rw [hop]
  obtain ⟨v, h1, h2⟩ := bI hx hH
  obtain ⟨b, rfl, _⟩ := IsN.ptr h2
  exact ⟨_, ⟨b, rfl, h2⟩, bD hu hs hf h1 (by rw [hq, Nat.zero_add])⟩
theorem jw {kk nn : Int} {ks : List Tm} (hop : ops.getD i default = ⟨ds, .load 3 x, t, pos, af, gu⟩) (hx : spO L x = some (nfS (.mk kk nn ks) 0)) : EOb Tryd.prog n ops XX B ⟨i, L, eI kk, ph, false⟩ p := bL fun ξ g w hB hH => by
  rw [hop]
  obtain ⟨v, h1, b, rfl, h2⟩ := bI hx hH
  obtain ⟨sl, xs, _, h4, _⟩ := h2.open
  exact ⟨_, rfl, bF Tryd.underlying3 rfl h1 (h4 0 _ rfl)⟩
theorem ee {kk nn : Int} {ks : List Tm} (hop : ops.getD i default = ⟨ds, .load 110 x, t, pos, af, gu⟩) (hx : spO L x = some (nfS (.mk kk nn ks) 2)) : EOb Tryd.prog n ops XX B ⟨i, L, nsS ks, ph, false⟩ p := bL fun ξ g w hB hH => by
  rw [hop]
  obtain ⟨v, h1, b, rfl, h2⟩ := bI hx hH
  obtain ⟨sl, xs, _, h4, h5, h6⟩ := h2.open
  exact ⟨sl, ⟨xs, h5, h6⟩, bF dH rfl h1 (h4 2 _ rfl)⟩
theorem iI (hop : ops.getD i default = ⟨ds, .load 9 x, t, pos, af, gu⟩) (hx : spO L x = some (nfS tm 3)) : EOb Tryd.prog n ops XX B ⟨i, L, eqS (vT (txt tm)), ph, false⟩ p := bL fun ξ g w hB hH => by
  rw [hop]
  obtain ⟨v, h1, b, rfl, h2⟩ := bI hx hH
  obtain ⟨b', _, _, _, e, _, h4⟩ := h2.form
  cases e
  exact ⟨_, rfl, bF u9 rfl h1 (h4 3 _ rfl)⟩
theorem eV {j : Nat} (hop : ops.getD i default = ⟨ds, .indexAddr 110 x y, t, pos, af, gu⟩) (hx : spO L x = some (nsS ts)) (hy : spO L y = some (eI j)) (ht : ts[j]? = some tm) : EOb Tryd.prog n ops XX B ⟨i, L, npS tm, ph, false⟩ p := bL fun ξ g w hB hH => by
  rw [hop]
  obtain ⟨v, h1, xs, h2, h3⟩ := bI hx hH
  have hj : j < ts.length := by
    rcases Nat.lt_or_ge j ts.length with h | h
    · exact h
    · rw [List.getElem?_eq_none h] at ht; cases ht
  obtain ⟨b, o, cap, rfl, h4, h5, h6⟩ := h2.some (by omega)
  obtain ⟨u, h7, h8⟩ := h3.at _ _ ht
  refine ⟨_, ⟨b, o + j, u, rfl, h4, h5, fun q u' hu => ?_, h8⟩, kx dH iN h1 (bJ hy) rfl hj⟩
  cases q with
  | zero => simp at hu; subst hu; exact h6 j _ h7
  | succ q => simp at hu
theorem eU (hop : ops.getD i default = ⟨ds, .load 83 x, t, pos, af, gu⟩) (hx : spO L x = some (npS tm)) : EOb Tryd.prog n ops XX B ⟨i, L, ndS tm, ph, false⟩ p := bL fun ξ g w hB hH => by
  rw [hop]
  obtain ⟨v, h1, b, o, u, rfl, _, _, h4, h5⟩ := bI hx hH
  exact ⟨u, h5, bF u83 rfl h1 (h4 0 _ rfl)⟩
theorem t7 (hop : ops.getD i default = ⟨ds, .call ⟨.builtin .len, #[x], #[110]⟩, t, pos, af, gu⟩) (hx : spO L x = some (nsS ts)) : EOb Tryd.prog n ops XX B ⟨i, L, eI ts.length, ph, false⟩ p := bL fun ξ g w hB hH => by
  rw [hop]
  obtain ⟨v, h1, xs, h2, _⟩ := bI hx hH
  obtain ⟨ad, cap, rfl, _⟩ := h2.form
  exact ⟨_, rfl, bT dH h1⟩
theorem fh (hB0 : B p = stB ρ ns) (hB1 : B (p + 1) = stB ρ (ns ++ [(83, cnS tm)])) (hop : ops.getD i default = ⟨ds, .box 83 x, t, pos, af, gu⟩) (hx : spO L x = some (ndS tm)) (hk : ns.length = k) : EOb Tryd.prog n ops XX B ⟨i, L, nwS k, ph, true⟩ p := by
  subst hk
  intro ξ g w hB hH
  rw [hB0] at hB
  have hB : StB ρ ns g w := hB
  show Ok1 Tryd.prog (ops.getD i default) _ _ _ _
  rw [hop]
  obtain ⟨v, h1, h2⟩ := bI hx hH
  obtain ⟨b0, rfl, _⟩ := IsN.ptr h2
  refine (dI h1).mono ?_
  rintro v' w' ⟨b, rfl, hn⟩
  obtain ⟨h1, h2⟩ := hB.new hn (sp := cnS tm) ⟨_, rfl, h2⟩
  refine ⟨_, ⟨h1, ?_⟩, ?_⟩
  · show (B (p + 1)).P _ _
    rw [hB1]; exact h2
  · show (g.N ++ [vp b])[ns.length]? = some (vp b)
    rw [← hB.len]; simp
theorem cK (hB0 : B p = stB ρ ns) (hop : ops.getD i default = ⟨ds, .load 83 x, t, pos, af, gu⟩) (hx : spO L x = some (nwS k)) (hk : ns[k]? = some (83, cnS tm)) : EOb Tryd.prog n ops XX B ⟨i, L, ndS tm, ph, false⟩ p := bL fun ξ g w hB hH => by
  rw [hB0] at hB
  have hB : StB ρ ns g w := hB
  rw [hop]
  obtain ⟨vx, h1, h2⟩ := bI hx hH
  have h2 : g.N[k]? = some vx := h2
  obtain ⟨b, c, h5, _, h7, u, e, h9⟩ := hB.cell k _ hk (show (83 : Nat) ≠ 0 by decide)
  rw [h5] at h2
  cases h2
  cases e
  exact ⟨u, h9, bF u83 rfl h1 (by rw [cL h7]; rfl)⟩
theorem jy (hB0 : B p = stB ρ ns) (hop : ops.getD i default = ⟨ds, .makeFunc (.func 95) #[] #[x], t, pos, af, gu⟩) (hx : spO L x = some (nwS k)) (hk : ns[k]? = some (83, cnS tm)) : EOb Tryd.prog n ops XX B ⟨i, L, fbS k, ph, false⟩ p := bL fun ξ g w hB hH => by
  rw [hB0] at hB
  have hB : StB ρ ns g w := hB
  rw [hop]
  obtain ⟨vx, h1, h2⟩ := bI hx hH
  obtain ⟨c, _, h5, _⟩ := hB.cell k _ hk (show (83 : Nat) ≠ 0 by decide)
  have h2 : g.N[k]? = some vx := h2
  rw [h5] at h2
  cases h2
  exact ⟨_, ⟨c, h5, rfl⟩, gI (us := []) (vs := [vp c]) rfl (by simp only [evs, h1])⟩
theorem iP (hB0 : B p = stB (bdR K m) ns) (j : Nat) {ty : TypeId} {d : TypeDesc} {v : Value} (hop : ops.getD i default = ⟨ds, .load ty x, t, pos, af, gu⟩) (hx : spO L x = some (eP K.bb j)) (ht : Tryd.prog.underlying ty = some d) (hf : TypeDesc.flat d = true) (hv : [Value.bool K.W.dh, .bool K.W.kem, vp K.br, .map (some K.bt)][j]? = some v) : EOb Tryd.prog n ops XX B ⟨i, L, eqS v, ph, false⟩ p := bL fun ξ g w hB hH => by
  rw [hB0] at hB
  have hB : StB (bdR K m) ns g w := hB
  rw [hop]
  exact ⟨v, rfl, bF ht hf (bJ hx) (by have := hB.run.2.2.2.2.1.1 j v hv; rwa [Nat.zero_add] at this)⟩
theorem m9 (hB0 : B p = stB (bdR K m) ns) (hop : ops.getD i default = ⟨ds, .load 114 x, t, pos, af, gu⟩) (hx : spO L x = some (eP K.br 1)) : EOb Tryd.prog n ops XX B ⟨i, L, eqS (.map (some K.bm)), ph, false⟩ p := bL fun ξ g w hB hH => by
  rw [hB0] at hB
  have hB : StB (bdR K m) ns g w := hB
  rw [hop]
  exact ⟨_, rfl, bF ij rfl (bJ hx) (hB.run.2.2.2.2.1.2.1 1 _ rfl)⟩
theorem vW {tx : Tx} (hB0 : B p = stB (bdR K m) ns) (hop : ops.getD i default = ⟨ds, .lookup 114 x y false, t, pos, af, gu⟩) (hx : spO L x = some (eqS (.map (some K.bt)))) (hy : spO L y = some (eqS (vT tx))) : EOb Tryd.prog n ops XX B ⟨i, L, eI (tl m tx), ph, false⟩ p := bL fun ξ g w hB hH => by
  rw [hB0] at hB
  have hB : StB (bdR K m) ns g w := hB
  rw [hop]
  exact ⟨_, rfl, hP ij u9 zi3 (bJ hx) (bJ hy) hB.run.2.2.2.2.2.1⟩
theorem t6 {tx : Tx} (hB0 : B p = stB (bdR K m) ns) (hop : ops.getD i default = ⟨ds, .lookup 114 x y false, t, pos, af, gu⟩) (hx : spO L x = some (eqS (.map (some K.bm)))) (hy : spO L y = some (eqS (vT tx))) : EOb Tryd.prog n ops XX B ⟨i, L, eI (tl K.met tx), ph, false⟩ p := bL fun ξ g w hB hH => by
  rw [hB0] at hB
  have hB : StB (bdR K m) ns g w := hB
  rw [hop]
  exact ⟨_, rfl, hP ij u9 zi3 (bJ hx) (bJ hy) hB.run.2.2.2.2.1.2.2.1⟩
theorem StB.told {g : Gh} {w w' : World} (hB : StB (bdR K m) ns g w) (h1 : MapIs w' K.bt m') (h2 : Ch [K.bt] w w') : TT g w g w' ∧ StB (bdR K m') ns g w' := by
  obtain ⟨a1, a2, a3, a4, a5, a6, a7⟩ := hB.run
  have hm : K.bt ∈ g.X := by simp [Gh.X, a1]
  have hn : ∀ x, x ∈ [K.bb, K.br, K.bm] → x ∉ [K.bt] := fun x hx hx' => (a7 x hx).1 (by rw [List.mem_singleton.1 hx']; exact hm)
  have := hB.run' (ρ' := bdR K m') (g' := g) (w' := w') (l := []) (l' := []) (by rw [a1]; exact h2) (fun x hx => .inl hx) (fun x hx => Nat.lt_of_lt_of_le (hB.wf.lt x (by simp [Gh.X, hx])) h2.size) rfl rfl (by simp) rfl (by simp) (by simp)
    ⟨a1, a2, Nat.le_trans a3 h2.size, K.hT w w' (Ch.below h2 a3 fun y hy => by rw [List.mem_singleton.1 hy]; exact a2 _ hm) a4, a5.mv h2 (hn _ (by simp)) (hn _ (by simp)) (hn _ (by simp)), h1, fun x hx => ⟨(a7 x hx).1, Nat.lt_of_lt_of_le (a7 x hx).2 h2.size⟩⟩
  exact ⟨this.1, by simpa using this.2⟩
theorem qs {tx : Tx} {v : Int} (hB0 : B p = stB (bdR K m) ns) (hB1 : B (p + 1) = stB (bdR K (st m tx v)) ns) (hop : ops.getD i default = ⟨ds, .mapUpdate 114 x y z, t, pos, af, gu⟩) (hx : spO L x = some (eqS (.map (some K.bt)))) (hy : spO L y = some (eqS (vT tx))) (hz : spO L z = some (eI v)) : EOb Tryd.prog n ops XX B ⟨i, L, bM, ph, true⟩ p := by
  intro ξ g w hB hH
  rw [hB0] at hB
  have hB : StB (bdR K m) ns g w := hB
  show Ok1 Tryd.prog (ops.getD i default) _ _ _ _
  rw [hop]
  refine (gV ij u9 (bJ hx) (bJ hy) (bJ hz) hB.run.2.2.2.2.2.1).mono ?_
  rintro v' w' ⟨h1, h2⟩
  obtain ⟨k1, k2⟩ := hB.told h1 h2
  exact ⟨g, ⟨k1, by show (B (p + 1)).P _ _; rw [hB1]; exact k2⟩, trivial⟩
theorem fY {f : Nat} {c : Bool} {tys : Array TypeId} (hb : dc K.T K.nb K.W K.met f) (hbl : bl K.W K.met f ts m = some (c, m')) (hl : ts.length ≤ 1000) (hfit : ∀ t, t ∈ ts → Fit t) (hB0 : B p = stB (bdR K m) ns) (hB1 : B (p + 1) = stB (bdR K m') ns) (hop : ops.getD i default = ⟨ds, .call ⟨.value (.func 45), #[x, y], tys⟩, t, pos, af, gu⟩) (hx : spO L x = some (eqS (vp K.bb))) (hy : spO L y = some (nsS ts)) : EOb Tryd.prog n ops XX B ⟨i, L, eqS (.bool c), ph, true⟩ p := by
  intro ξ g w hB hH
  rw [hB0] at hB
  have hB : StB (bdR K m) ns g w := hB
  show Ok1 Tryd.prog (ops.getD i default) _ _ _ _
  rw [hop]
  obtain ⟨a1, a2, a3, a4, a5, a6, a7⟩ := hB.run
  obtain ⟨vy, e2, xs, h8, h9⟩ := bI hy hH
  obtain ⟨ad, cap, rfl, _⟩ := h8.form
  have hs : ∀ x, x ∈ [K.bt] → x ∈ g.X := fun x hx => by rw [List.mem_singleton.1 hx]; simp [Gh.X, a1]
  refine (a_ c45 (by simp only [evs, bJ hx, e2]) (hb ts m m' c _ _ _ _ _ ad cap xs w hl hbl hfit a3 (a2 _ (hs _ (by simp))) a4 a5 a6 (h8.sub hs) (h9.sub hs))).mono ?_
  rintro v w' ⟨rfl, k1, k2⟩
  obtain ⟨k1, k2⟩ := hB.told k1 k2
  exact ⟨g, ⟨k1, by show (B (p + 1)).P _ _; rw [hB1]; exact k2⟩, rfl⟩
theorem ws {f : Nat} {c : Bool} {tys : Array TypeId} (hb : jg K.T K.nb K.W K.met f) (hbl : cX K.W K.met f (cr K.W tm) m = some (c, m')) (hfit : Fit tm) (hB0 : B p = stB (bdR K m) ns) (hB1 : B (p + 1) = stB (bdR K m') ns) (hop : ops.getD i default = ⟨ds, .call ⟨.value (.func 82), #[x, y], tys⟩, t, pos, af, gu⟩) (hx : spO L x = some (eqS (vp K.bb))) (hy : spO L y = some (ndS tm)) : EOb Tryd.prog n ops XX B ⟨i, L, eqS (.bool c), ph, true⟩ p := by
  intro ξ g w hB hH
  rw [hB0] at hB
  have hB : StB (bdR K m) ns g w := hB
  show Ok1 Tryd.prog (ops.getD i default) _ _ _ _
  rw [hop]
  obtain ⟨a1, a2, a3, a4, a5, a6, a7⟩ := hB.run
  obtain ⟨vy, e2, h8⟩ := bI hy hH
  have h8 : IsN w g.X tm vy := h8
  obtain ⟨bn, rfl, _⟩ := IsN.ptr h8
  have hs : ∀ x, x ∈ [K.bt] → x ∈ g.X := fun x hx => by rw [List.mem_singleton.1 hx]; simp [Gh.X, a1]
  refine (a_ c82 (by simp only [evs, bJ hx, e2]) (hb tm m m' c _ _ _ _ bn _ w hbl hfit a3 (a2 _ (hs _ (by simp))) a4 a5 a6 (h8.sub hs))).mono ?_
  rintro v w' ⟨rfl, k1, k2⟩
  obtain ⟨k1, k2⟩ := hB.told k1 k2
  exact ⟨g, ⟨k1, by show (B (p + 1)).P _ _; rw [hB1]; exact k2⟩, rfl⟩
theorem ft {j : Nat} {kk nn : Int} {ks : List Tm} {t1 : Tm} {tys : Array TypeId} (hj : cG) (hw : cz t1 ≤ 1099511600000) (ht : ks[j]? = some t1) (hB0 : B p = stB (bdR K m) ns) (hop : ops.getD i default = ⟨ds, .call ⟨.value x, #[y], tys⟩, t, pos, af, gu⟩) (hx : spO L x = some (fbS k)) (hk : ns[k]? = some (83, cnS (.mk kk nn ks))) (hy : spO L y = some (eI j)) : EOb Tryd.prog n ops XX B ⟨i, L, ndS (bB t1), ph, false⟩ p := eM fun ξ g w hB hH => by
  rw [hB0] at hB
  have hB : StB (bdR K m) ns g w := hB
  rw [hop]
  obtain ⟨a1, a2, a3, a4, a5, a6, a7⟩ := hB.run
  obtain ⟨vx, h1, c, h2, rfl⟩ := bI hx hH
  obtain ⟨b, cs, h5, _, h7, u, e, h9⟩ := hB.cell k _ hk (show (83 : Nat) ≠ 0 by decide)
  rw [h5] at h2
  cases h2
  cases e
  have h9 : IsN w g.X (.mk kk nn ks) u := h9
  obtain ⟨bn, rfl, _, h9⟩ := IsN.ptr h9
  obtain ⟨sl, xs, _, h10, h11, h12⟩ := h9.open
  have hjl : j < ks.length := by
    rcases Nat.lt_or_ge j ks.length with h | h
    · exact h
    · rw [List.getElem?_eq_none h] at ht; cases ht
  obtain ⟨b1, o1, cap, rfl, _, _, f⟩ := h11.some (by omega)
  obtain ⟨u, l, a⟩ := h12.at _ _ ht
  obtain ⟨bk, rfl, _⟩ := IsN.ptr a
  have d := oR (T0 := K.T) (nb := K.nb) K.hT hj (rI hw) w a3 a4 hB.wf.lt (by rw [cL h7]; rfl) h10 rfl f hjl l a
  refine gX (vs := [vI j]) h1 c95 (by simp only [evs, bJ hy]) ?_
  have e : (#[] ++ [vI (j : Int)].toArray) ++ #[vp c] = [vI (j : Int), vp c].toArray := by simp
  rw [e]
  refine d.mono ?_
  intro en w' he
  obtain ⟨v, e1, e2, e3⟩ := he
  exact ⟨v, e1, e3, e2⟩
theorem iW {kk : Int} {a b : Tm} {tys : Array TypeId} (hj : cG) (hw : WrK K.T kk 0 [a, b]) (hB0 : B p = stB (bdR K m) ns) (hop : ops.getD i default = ⟨ds, .call ⟨.value (.func 96), #[x, y], tys⟩, t, pos, af, gu⟩) (hx : spO L x = some (eI kk)) (hy : spO L y = some (nsS [a, b])) : EOb Tryd.prog n ops XX B ⟨i, L, ndS (.mk kk 0 [a, b]), ph, false⟩ p := eM fun ξ g w hB hH => by
  rw [hB0] at hB
  have hB : StB (bdR K m) ns g w := hB
  rw [hop]
  obtain ⟨a1, a2, a3, a4, a5, a6, a7⟩ := hB.run
  obtain ⟨vy, e2, xs, h8, h9⟩ := bI hy hH
  obtain ⟨ad, cap, rfl, _⟩ := h8.form
  refine (a_ c96 (by simp only [evs, bJ hx, e2]) (jG K.hT hj hw w a3 a4 hB.wf.lt h8 h9)).mono ?_
  exact fun v w' ⟨h1, h2⟩ => ⟨h2, h1⟩
theorem ql {g : Gh} {w w' : World} {b len : Nat} {c : Array Value} {ts : List Tm} (hw : Wf g w) (h : NewB w w' b c 83) (hl : len = ts.length) (hc : IsNs w g.X ts c.toList) : Gr w w' ∧ ∃ xs, SlA w' g.X (.slice (some ⟨b, 0, none⟩) len len) ts.length xs ∧ IsNs w' g.X ts xs := by
  subst hl
  refine ⟨h.ch.gr, _, .inr ⟨b, 0, 0, rfl, fun hm => ?_, h.lt, h.at⟩, IsNs.mv h.ch (by simp) (fun x hx => .inl hx) _ _ hc⟩
  have := hw.lt b hm
  have := h.num
  omega
theorem vX {t1 : Tm} {z1 : Operand} (hB0 : B p = stB ρ ns) (hop : ops.getD i default = ⟨ds, .buildSlice 110 1 #[(0, z1)], t, pos, af, gu⟩) (h1 : spO L z1 = some (ndS t1)) : EOb Tryd.prog n ops XX B ⟨i, L, nsS [t1], ph, false⟩ p := eM fun ξ g w hB hH => by
  rw [hB0] at hB
  have hB : StB ρ ns g w := hB
  rw [hop]
  obtain ⟨v1, e1, k1⟩ := bI h1 hH
  have k1 : IsN w g.X t1 v1 := k1
  obtain ⟨b1, rfl, _⟩ := IsN.ptr k1
  refine (bU dH lC (ps := [(0, vp b1)]) (by simp [evp, e1]) (by decide) (by decide) (jM rfl)).mono ?_
  rintro v w' ⟨b, rfl, hn⟩
  exact ql hB.wf hn rfl (IsNs.one k1)
theorem eW {t1 t2 : Tm} {z1 z2 : Operand} (hB0 : B p = stB ρ ns) (hop : ops.getD i default = ⟨ds, .buildSlice 110 2 #[(0, z1), (1, z2)], t, pos, af, gu⟩) (h1 : spO L z1 = some (ndS t1)) (h2 : spO L z2 = some (ndS t2)) : EOb Tryd.prog n ops XX B ⟨i, L, nsS [t1, t2], ph, false⟩ p := eM fun ξ g w hB hH => by
  rw [hB0] at hB
  have hB : StB ρ ns g w := hB
  rw [hop]
  obtain ⟨v1, e1, k1⟩ := bI h1 hH
  obtain ⟨v2, e2, k2⟩ := bI h2 hH
  have k1 : IsN w g.X t1 v1 := k1
  have k2 : IsN w g.X t2 v2 := k2
  obtain ⟨b1, rfl, _⟩ := IsN.ptr k1
  obtain ⟨b2, rfl, _⟩ := IsN.ptr k2
  refine (bU dH lC (ps := [(0, vp b1), (1, vp b2)]) (by simp [evp, e1, e2]) (by decide) (by decide) (wO rfl rfl)).mono ?_
  rintro v w' ⟨b, rfl, hn⟩
  exact ql hB.wf hn rfl (IsNs.of_two k1 k2)
end
theorem mN {K : Bk} {m : bX} {w : World} (hnb : K.nb ≤ w.heap.size) (hnbt : K.nb ≤ K.bt) (hT : K.T w) (hbd : Bd w K.W K.met K.bb K.bt K.br K.bm K.rl) (hm : MapIs w K.bt m) : (bdR K m).P ⟨[K.bt], [], [], []⟩ w := by
  obtain ⟨h1, h2, h3, h4, h5, h6⟩ := hbd
  refine ⟨rfl, fun x hx => by simp [Gh.X] at hx; omega, hnb, hT, ⟨h1, h2, h3, h4, h5, h6⟩, hm, fun x hx => ?_⟩
  simp only [List.mem_cons, List.not_mem_nil, or_false] at hx
  have e1 := World.block_lt_of_cell? w _ (h1 0 _ rfl)
  have e2 := World.block_lt_of_cell? w _ (h2 0 _ rfl)
  have e3 := h3.lt
  rcases hx with rfl | rfl | rfl
  · exact ⟨by simpa [Gh.X] using h4, e1⟩
  · exact ⟨by simpa [Gh.X] using h5, e2⟩
  · exact ⟨by simpa [Gh.X] using h6, e3⟩
theorem eC {K : Bk} {m : bX} {ns : List (Nat × Sp TT)} {L : TL TT} {n : Nat} {g : Gh} {w0 w : World} {a : Act} (h : SS L n (stB (bdR K m) ns) ⟨[K.bt], [], [], []⟩ w0 a g w) : MapIs w K.bt m ∧ Ch [K.bt] w0 w := ⟨h.b.run.2.2.2.2.2.1, h.t.ch.mono (by simp)⟩
end Go.Mi.Term
namespace Go.Mi.Term
open Go.Mi Go.Proofs Go.RowKit
set_option maxRecDepth 100000 in
set_option maxHeartbeats 4000000 in
theorem uz {K : Bk} (hj : cG) {f : Nat} (ih : ∀ g, g < f → dc K.T K.nb K.W K.met g) {m m' : bX} {v : Value} (w0 : World) (hX : ∀ x, x ∈ [K.bt] ++ [] → x < w0.heap.size) (hr : (bdR K m).P ⟨[K.bt], [], [], []⟩ w0) {n : Int} {a b : Tm} (hfit : Fit (.mk 3 n [a, b])) (hnd : IsN w0 [K.bt] (.mk 3 n [a, b]) v) {g1 : Nat} (hg1 : g1 < f) (hq1 : bl K.W K.met g1 [a, bB b] m = some (true, m')) : Calls Tryd.prog 82 (List.toArray [vp K.bb, v]) w0 (Ret fun v w' => v = .bool true ∧ MapIs w' K.bt m' ∧ Ch [K.bt] w0 w') := by
 refine b7 (X := []) (F := [K.bt]) (ρ := bdR K m) [eqS (vp K.bb), ndS (.mk 3 n [a, b])] hX hr ⟨rfl, hnd, trivial⟩ Tryd.func82 rfl Tryd.ntmps82 rfl fun ac hS => ?_
 refine wp_seq ?_
 refine rx [e1 0 [(1, ndS (.mk 3 n [a, b]))] (nwS 0)] [0, 3, 4] (Bl [stB (bdR K m) [], stB (bdR K m) [(83, cnS (.mk 3 n [a, b]))]]) 1 [(0, eP K.bb 0), (3, nwS 0), (4, eqS vf)] ⟨⟨fh rfl rfl rfl rfl rfl, trivial⟩, trivial⟩ hS rfl fun ac g w hS => ?_
 refine wp_seq ?_
 refine rz hS [e0 0 [(3, nwS 0)] (fbS 0)] [0, 3, 4, 5] [(0, eP K.bb 0), (3, nwS 0), (4, eqS vf), (5, fbS 0)] ⟨⟨jy (k := 0) rfl rfl rfl rfl, trivial⟩, trivial⟩ fun ac g w hS => ?_
 refine wp_seq ?_
 refine wp_seq ?_
 refine rz hS [e0 0 [(3, nwS 0)] (ndS (.mk 3 n [a, b])), e0 1 [(8, ndS (.mk 3 n [a, b]))] (ndS (.mk 3 n [a, b])), e0 2 [(9, ndS (.mk 3 n [a, b]))] (nfS (.mk 3 n [a, b]) 0), e0 3 [(10, nfS (.mk 3 n [a, b]) 0)] (eI 3)] [0, 3, 4, 5, 11] [(0, eP K.bb 0), (3, nwS 0), (4, eqS vf), (5, fbS 0), (11, eI 3)] ⟨⟨cK rfl rfl rfl rfl, trivial⟩, ⟨cP rfl rfl, trivial⟩, ⟨dB rfl rfl sz3 cI rfl rfl, trivial⟩, ⟨jw rfl rfl, trivial⟩, trivial⟩ fun ac g w hS => ?_
 refine bz ?_
 refine wp_block ?_
 refine wp_seq ?_
 refine rz hS [] [0, 3, 4, 5, 11, 12] [(0, eP K.bb 0), (3, nwS 0), (4, eqS vf), (5, fbS 0), (11, eI 3), (12, eqS vf)] trivial fun ac g w hS => ?_
 refine wp_cond_false (hS.f.frm.eval rfl) ?_
 refine wp_seq ?_
 refine rz hS [] [0, 3, 4, 5, 11, 14] [(0, eP K.bb 0), (3, nwS 0), (4, eqS vf), (5, fbS 0), (11, eI 3), (14, eqS vt)] trivial fun ac g w hS => ?_
 refine wp_cond_true (hS.f.frm.eval rfl) ?_
 refine wp_seq ?_
 refine rw_ mo [e0 1 [(3, nwS 0)] (ndS (.mk 3 n [a, b])), e0 2 [(17, ndS (.mk 3 n [a, b]))] (ndS (.mk 3 n [a, b])), e0 3 [(18, ndS (.mk 3 n [a, b]))] (nfS (.mk 3 n [a, b]) 2), e0 4 [(19, nfS (.mk 3 n [a, b]) 2)] (nsS ([a, b])), e0 5 [(20, nsS ([a, b]))] (npS a), e0 6 [(21, npS a)] (ndS a), e0 8 [(23, fbS 0)] (ndS (bB b)), e0 9 [(22, ndS a), (24, ndS (bB b))] (nsS [a, bB b]), e1 10 [(16, eP K.bb 0), (25, nsS [a, bB b])] (eqS vt)] [0, 3, 4] (Bl [stB (bdR K m) [(83, cnS (.mk 3 n [a, b]))], stB (bdR K m') [(83, cnS (.mk 3 n [a, b]))]]) 1 [(0, eP K.bb 0), (3, nwS 0), (4, eqS vt)] ⟨⟨cK rfl rfl rfl rfl, trivial⟩, ⟨cP rfl rfl, trivial⟩, ⟨dB rfl rfl cV cI rfl rfl, trivial⟩, ⟨ee rfl rfl, trivial⟩, ⟨eV (j := 0) rfl rfl rfl rfl, trivial⟩, ⟨eU rfl rfl, trivial⟩, ⟨ft (j := 1) (k := 0) hj (hfit.kid (by simp)).2 rfl rfl rfl rfl rfl rfl, trivial⟩, ⟨eW rfl rfl rfl rfl, trivial⟩, ⟨fY (ih _ hg1) hq1 (by simp) (fun t ht => hfit.way (W := K.W) (l := [a, bB b]) (by simp [cr]) ht) rfl rfl rfl rfl rfl, trivial⟩, trivial⟩ hS rfl fun ac g w hS => ?_
 refine wp_ret ?_
 refine bY ?_
 refine bH ?_
 exact bv hS.f.frm (bw Tryd.results82 (RV.tmp hS.f.frm rfl)) ⟨rfl, eC hS⟩
set_option maxRecDepth 100000 in
set_option maxHeartbeats 4000000 in
theorem uy {K : Bk} (hj : cG) {f : Nat} (ih : ∀ g, g < f → dc K.T K.nb K.W K.met g) {m m' : bX} {v : Value} (w0 : World) (hX : ∀ x, x ∈ [K.bt] ++ [] → x < w0.heap.size) (hr : (bdR K m).P ⟨[K.bt], [], [], []⟩ w0) {n : Int} {a b : Tm} (hfit : Fit (.mk 3 n [a, b])) (hnd : IsN w0 [K.bt] (.mk 3 n [a, b]) v) {m1 : bX} {g1 : Nat} (hg1 : g1 < f) (hq1 : bl K.W K.met g1 [a, bB b] m = some (false, m1)) {g2 : Nat} (hg2 : g2 < f) (hq2 : bl K.W K.met g2 [b, bB a] m1 = some (true, m')) : Calls Tryd.prog 82 (List.toArray [vp K.bb, v]) w0 (Ret fun v w' => v = .bool true ∧ MapIs w' K.bt m' ∧ Ch [K.bt] w0 w') := by
 refine b7 (X := []) (F := [K.bt]) (ρ := bdR K m) [eqS (vp K.bb), ndS (.mk 3 n [a, b])] hX hr ⟨rfl, hnd, trivial⟩ Tryd.func82 rfl Tryd.ntmps82 rfl fun ac hS => ?_
 refine wp_seq ?_
 refine rx [e1 0 [(1, ndS (.mk 3 n [a, b]))] (nwS 0)] [0, 3, 4] (Bl [stB (bdR K m) [], stB (bdR K m) [(83, cnS (.mk 3 n [a, b]))]]) 1 [(0, eP K.bb 0), (3, nwS 0), (4, eqS vf)] ⟨⟨fh rfl rfl rfl rfl rfl, trivial⟩, trivial⟩ hS rfl fun ac g w hS => ?_
 refine wp_seq ?_
 refine rz hS [e0 0 [(3, nwS 0)] (fbS 0)] [0, 3, 4, 5] [(0, eP K.bb 0), (3, nwS 0), (4, eqS vf), (5, fbS 0)] ⟨⟨jy (k := 0) rfl rfl rfl rfl, trivial⟩, trivial⟩ fun ac g w hS => ?_
 refine wp_seq ?_
 refine wp_seq ?_
 refine rz hS [e0 0 [(3, nwS 0)] (ndS (.mk 3 n [a, b])), e0 1 [(8, ndS (.mk 3 n [a, b]))] (ndS (.mk 3 n [a, b])), e0 2 [(9, ndS (.mk 3 n [a, b]))] (nfS (.mk 3 n [a, b]) 0), e0 3 [(10, nfS (.mk 3 n [a, b]) 0)] (eI 3)] [0, 3, 4, 5, 11] [(0, eP K.bb 0), (3, nwS 0), (4, eqS vf), (5, fbS 0), (11, eI 3)] ⟨⟨cK rfl rfl rfl rfl, trivial⟩, ⟨cP rfl rfl, trivial⟩, ⟨dB rfl rfl sz3 cI rfl rfl, trivial⟩, ⟨jw rfl rfl, trivial⟩, trivial⟩ fun ac g w hS => ?_
 refine bz ?_
 refine wp_block ?_
 refine wp_seq ?_
 refine rz hS [] [0, 3, 4, 5, 11, 12] [(0, eP K.bb 0), (3, nwS 0), (4, eqS vf), (5, fbS 0), (11, eI 3), (12, eqS vf)] trivial fun ac g w hS => ?_
 refine wp_cond_false (hS.f.frm.eval rfl) ?_
 refine wp_seq ?_
 refine rz hS [] [0, 3, 4, 5, 11, 14] [(0, eP K.bb 0), (3, nwS 0), (4, eqS vf), (5, fbS 0), (11, eI 3), (14, eqS vt)] trivial fun ac g w hS => ?_
 refine wp_cond_true (hS.f.frm.eval rfl) ?_
 refine wp_seq ?_
 refine rw_ mo [e0 1 [(3, nwS 0)] (ndS (.mk 3 n [a, b])), e0 2 [(17, ndS (.mk 3 n [a, b]))] (ndS (.mk 3 n [a, b])), e0 3 [(18, ndS (.mk 3 n [a, b]))] (nfS (.mk 3 n [a, b]) 2), e0 4 [(19, nfS (.mk 3 n [a, b]) 2)] (nsS ([a, b])), e0 5 [(20, nsS ([a, b]))] (npS a), e0 6 [(21, npS a)] (ndS a), e0 8 [(23, fbS 0)] (ndS (bB b)), e0 9 [(22, ndS a), (24, ndS (bB b))] (nsS [a, bB b]), e1 10 [(16, eP K.bb 0), (25, nsS [a, bB b])] (eqS vf), ⟨13, [(27, eqS vf), (3, nwS 0)], ndS (.mk 3 n [a, b]), [1], false⟩, ⟨14, [(27, eqS vf), (29, ndS (.mk 3 n [a, b]))], ndS (.mk 3 n [a, b]), [1], false⟩, ⟨15, [(27, eqS vf), (30, ndS (.mk 3 n [a, b]))], nfS (.mk 3 n [a, b]) 2, [1], false⟩, ⟨16, [(27, eqS vf), (31, nfS (.mk 3 n [a, b]) 2)], nsS ([a, b]), [1], false⟩, ⟨17, [(27, eqS vf), (32, nsS ([a, b]))], npS b, [1], false⟩, ⟨18, [(27, eqS vf), (33, npS b)], ndS b, [1], false⟩, ⟨20, [(27, eqS vf), (35, fbS 0)], ndS (bB a), [1], false⟩, ⟨21, [(27, eqS vf), (34, ndS b), (36, ndS (bB a))], nsS [b, bB a], [1], false⟩, ⟨22, [(27, eqS vf), (28, eP K.bb 0), (37, nsS [b, bB a])], eqS vt, [1], true⟩] [0, 3, 4] (Bl [stB (bdR K m) [(83, cnS (.mk 3 n [a, b]))], stB (bdR K m1) [(83, cnS (.mk 3 n [a, b]))], stB (bdR K m') [(83, cnS (.mk 3 n [a, b]))]]) 2 [(0, eP K.bb 0), (3, nwS 0), (4, eqS vt)] ⟨⟨cK rfl rfl rfl rfl, trivial⟩, ⟨cP rfl rfl, trivial⟩, ⟨dB rfl rfl cV cI rfl rfl, trivial⟩, ⟨ee rfl rfl, trivial⟩, ⟨eV (j := 0) rfl rfl rfl rfl, trivial⟩, ⟨eU rfl rfl, trivial⟩, ⟨ft (j := 1) (k := 0) hj (hfit.kid (by simp)).2 rfl rfl rfl rfl rfl rfl, trivial⟩, ⟨eW rfl rfl rfl rfl, trivial⟩, ⟨fY (ih _ hg1) hq1 (by simp) (fun t ht => hfit.way (W := K.W) (l := [a, bB b]) (by simp [cr]) ht) rfl rfl rfl rfl rfl, trivial⟩, ⟨cK rfl rfl rfl rfl, trivial⟩, ⟨cP rfl rfl, trivial⟩, ⟨dB rfl rfl cV cI rfl rfl, trivial⟩, ⟨ee rfl rfl, trivial⟩, ⟨eV (j := 1) rfl rfl rfl rfl, trivial⟩, ⟨eU rfl rfl, trivial⟩, ⟨ft (j := 0) (k := 0) hj (hfit.kid (by simp)).2 rfl rfl rfl rfl rfl rfl, trivial⟩, ⟨eW rfl rfl rfl rfl, trivial⟩, ⟨fY (ih _ hg2) hq2 (by simp) (fun t ht => hfit.way (W := K.W) (l := [b, bB a]) (by simp [cr]) ht) rfl rfl rfl rfl rfl, trivial⟩, trivial⟩ hS rfl fun ac g w hS => ?_
 refine wp_ret ?_
 refine bY ?_
 refine bH ?_
 exact bv hS.f.frm (bw Tryd.results82 (RV.tmp hS.f.frm rfl)) ⟨rfl, eC hS⟩
set_option maxRecDepth 100000 in
set_option maxHeartbeats 4000000 in
theorem ux {K : Bk} (hj : cG) {f : Nat} (ih : ∀ g, g < f → dc K.T K.nb K.W K.met g) {m m' : bX} {v : Value} (w0 : World) (hX : ∀ x, x ∈ [K.bt] ++ [] → x < w0.heap.size) (hr : (bdR K m).P ⟨[K.bt], [], [], []⟩ w0) {n : Int} {a b : Tm} (hfit : Fit (.mk 3 n [a, b])) (hnd : IsN w0 [K.bt] (.mk 3 n [a, b]) v) {m1 : bX} {g1 : Nat} (hg1 : g1 < f) (hq1 : bl K.W K.met g1 [a, bB b] m = some (false, m1)) {g2 : Nat} (hg2 : g2 < f) (hq2 : bl K.W K.met g2 [b, bB a] m1 = some (false, m')) (hd : K.W.dh = false) : Calls Tryd.prog 82 (List.toArray [vp K.bb, v]) w0 (Ret fun v w' => v = .bool false ∧ MapIs w' K.bt m' ∧ Ch [K.bt] w0 w') := by
 refine b7 (X := []) (F := [K.bt]) (ρ := bdR K m) [eqS (vp K.bb), ndS (.mk 3 n [a, b])] hX hr ⟨rfl, hnd, trivial⟩ Tryd.func82 rfl Tryd.ntmps82 rfl fun ac hS => ?_
 refine wp_seq ?_
 refine rx [e1 0 [(1, ndS (.mk 3 n [a, b]))] (nwS 0)] [0, 3, 4] (Bl [stB (bdR K m) [], stB (bdR K m) [(83, cnS (.mk 3 n [a, b]))]]) 1 [(0, eP K.bb 0), (3, nwS 0), (4, eqS vf)] ⟨⟨fh rfl rfl rfl rfl rfl, trivial⟩, trivial⟩ hS rfl fun ac g w hS => ?_
 refine wp_seq ?_
 refine rz hS [e0 0 [(3, nwS 0)] (fbS 0)] [0, 3, 4, 5] [(0, eP K.bb 0), (3, nwS 0), (4, eqS vf), (5, fbS 0)] ⟨⟨jy (k := 0) rfl rfl rfl rfl, trivial⟩, trivial⟩ fun ac g w hS => ?_
 refine wp_seq ?_
 refine wp_seq ?_
 refine rz hS [e0 0 [(3, nwS 0)] (ndS (.mk 3 n [a, b])), e0 1 [(8, ndS (.mk 3 n [a, b]))] (ndS (.mk 3 n [a, b])), e0 2 [(9, ndS (.mk 3 n [a, b]))] (nfS (.mk 3 n [a, b]) 0), e0 3 [(10, nfS (.mk 3 n [a, b]) 0)] (eI 3)] [0, 3, 4, 5, 11] [(0, eP K.bb 0), (3, nwS 0), (4, eqS vf), (5, fbS 0), (11, eI 3)] ⟨⟨cK rfl rfl rfl rfl, trivial⟩, ⟨cP rfl rfl, trivial⟩, ⟨dB rfl rfl sz3 cI rfl rfl, trivial⟩, ⟨jw rfl rfl, trivial⟩, trivial⟩ fun ac g w hS => ?_
 refine bz ?_
 refine wp_block ?_
 refine wp_seq ?_
 refine rz hS [] [0, 3, 4, 5, 11, 12] [(0, eP K.bb 0), (3, nwS 0), (4, eqS vf), (5, fbS 0), (11, eI 3), (12, eqS vf)] trivial fun ac g w hS => ?_
 refine wp_cond_false (hS.f.frm.eval rfl) ?_
 refine wp_seq ?_
 refine rz hS [] [0, 3, 4, 5, 11, 14] [(0, eP K.bb 0), (3, nwS 0), (4, eqS vf), (5, fbS 0), (11, eI 3), (14, eqS vt)] trivial fun ac g w hS => ?_
 refine wp_cond_true (hS.f.frm.eval rfl) ?_
 refine wp_seq ?_
 refine rw_ mo [e0 1 [(3, nwS 0)] (ndS (.mk 3 n [a, b])), e0 2 [(17, ndS (.mk 3 n [a, b]))] (ndS (.mk 3 n [a, b])), e0 3 [(18, ndS (.mk 3 n [a, b]))] (nfS (.mk 3 n [a, b]) 2), e0 4 [(19, nfS (.mk 3 n [a, b]) 2)] (nsS ([a, b])), e0 5 [(20, nsS ([a, b]))] (npS a), e0 6 [(21, npS a)] (ndS a), e0 8 [(23, fbS 0)] (ndS (bB b)), e0 9 [(22, ndS a), (24, ndS (bB b))] (nsS [a, bB b]), e1 10 [(16, eP K.bb 0), (25, nsS [a, bB b])] (eqS vf), ⟨13, [(27, eqS vf), (3, nwS 0)], ndS (.mk 3 n [a, b]), [1], false⟩, ⟨14, [(27, eqS vf), (29, ndS (.mk 3 n [a, b]))], ndS (.mk 3 n [a, b]), [1], false⟩, ⟨15, [(27, eqS vf), (30, ndS (.mk 3 n [a, b]))], nfS (.mk 3 n [a, b]) 2, [1], false⟩, ⟨16, [(27, eqS vf), (31, nfS (.mk 3 n [a, b]) 2)], nsS ([a, b]), [1], false⟩, ⟨17, [(27, eqS vf), (32, nsS ([a, b]))], npS b, [1], false⟩, ⟨18, [(27, eqS vf), (33, npS b)], ndS b, [1], false⟩, ⟨20, [(27, eqS vf), (35, fbS 0)], ndS (bB a), [1], false⟩, ⟨21, [(27, eqS vf), (34, ndS b), (36, ndS (bB a))], nsS [b, bB a], [1], false⟩, ⟨22, [(27, eqS vf), (28, eP K.bb 0), (37, nsS [b, bB a])], eqS vf, [1], true⟩, ⟨29, [(40, eqS vf), (44, eP K.bb 0)], eqS vf, [2], false⟩] [0, 3, 4] (Bl [stB (bdR K m) [(83, cnS (.mk 3 n [a, b]))], stB (bdR K m1) [(83, cnS (.mk 3 n [a, b]))], stB (bdR K m') [(83, cnS (.mk 3 n [a, b]))]]) 2 [(0, eP K.bb 0), (3, nwS 0), (4, eqS vf)] ⟨⟨cK rfl rfl rfl rfl, trivial⟩, ⟨cP rfl rfl, trivial⟩, ⟨dB rfl rfl cV cI rfl rfl, trivial⟩, ⟨ee rfl rfl, trivial⟩, ⟨eV (j := 0) rfl rfl rfl rfl, trivial⟩, ⟨eU rfl rfl, trivial⟩, ⟨ft (j := 1) (k := 0) hj (hfit.kid (by simp)).2 rfl rfl rfl rfl rfl rfl, trivial⟩, ⟨eW rfl rfl rfl rfl, trivial⟩, ⟨fY (ih _ hg1) hq1 (by simp) (fun t ht => hfit.way (W := K.W) (l := [a, bB b]) (by simp [cr]) ht) rfl rfl rfl rfl rfl, trivial⟩, ⟨cK rfl rfl rfl rfl, trivial⟩, ⟨cP rfl rfl, trivial⟩, ⟨dB rfl rfl cV cI rfl rfl, trivial⟩, ⟨ee rfl rfl, trivial⟩, ⟨eV (j := 1) rfl rfl rfl rfl, trivial⟩, ⟨eU rfl rfl, trivial⟩, ⟨ft (j := 0) (k := 0) hj (hfit.kid (by simp)).2 rfl rfl rfl rfl rfl rfl, trivial⟩, ⟨eW rfl rfl rfl rfl, trivial⟩, ⟨fY (ih _ hg2) hq2 (by simp) (fun t ht => hfit.way (W := K.W) (l := [b, bB a]) (by simp [cr]) ht) rfl rfl rfl rfl rfl, trivial⟩, ⟨iP rfl 0 rfl rfl u4 rfl (congrArg (fun z => some (vB z)) hd), trivial⟩, trivial⟩ hS rfl fun ac g w hS => ?_
 refine wp_ret ?_
 refine bY ?_
 refine bH ?_
 exact bv hS.f.frm (bw Tryd.results82 (RV.tmp hS.f.frm rfl)) ⟨rfl, eC hS⟩
set_option maxRecDepth 100000 in
set_option maxHeartbeats 4000000 in
theorem uw {K : Bk} (hj : cG) {f : Nat} (ih : ∀ g, g < f → dc K.T K.nb K.W K.met g) {m m' : bX} {v : Value} (w0 : World) (hX : ∀ x, x ∈ [K.bt] ++ [] → x < w0.heap.size) (hr : (bdR K m).P ⟨[K.bt], [], [], []⟩ w0) {n : Int} {a b : Tm} (hfit : Fit (.mk 3 n [a, b])) (hnd : IsN w0 [K.bt] (.mk 3 n [a, b]) v) {m1 : bX} {g1 : Nat} (hg1 : g1 < f) (hq1 : bl K.W K.met g1 [a, bB b] m = some (false, m1)){m2 : bX} {g2 : Nat} (hg2 : g2 < f) (hq2 : bl K.W K.met g2 [b, bB a] m1 = some (false, m2)) {g3 : Nat} {r : Bool} (hg3 : g3 < f) (hq3 : bl K.W K.met g3 [bB a, bB b] m2 = some (r, m')) (hd : K.W.dh = true) : Calls Tryd.prog 82 (List.toArray [vp K.bb, v]) w0 (Ret fun v w' => v = .bool r ∧ MapIs w' K.bt m' ∧ Ch [K.bt] w0 w') := by
 refine b7 (X := []) (F := [K.bt]) (ρ := bdR K m) [eqS (vp K.bb), ndS (.mk 3 n [a, b])] hX hr ⟨rfl, hnd, trivial⟩ Tryd.func82 rfl Tryd.ntmps82 rfl fun ac hS => ?_
 refine wp_seq ?_
 refine rx [e1 0 [(1, ndS (.mk 3 n [a, b]))] (nwS 0)] [0, 3, 4] (Bl [stB (bdR K m) [], stB (bdR K m) [(83, cnS (.mk 3 n [a, b]))]]) 1 [(0, eP K.bb 0), (3, nwS 0), (4, eqS vf)] ⟨⟨fh rfl rfl rfl rfl rfl, trivial⟩, trivial⟩ hS rfl fun ac g w hS => ?_
 refine wp_seq ?_
 refine rz hS [e0 0 [(3, nwS 0)] (fbS 0)] [0, 3, 4, 5] [(0, eP K.bb 0), (3, nwS 0), (4, eqS vf), (5, fbS 0)] ⟨⟨jy (k := 0) rfl rfl rfl rfl, trivial⟩, trivial⟩ fun ac g w hS => ?_
 refine wp_seq ?_
 refine wp_seq ?_
 refine rz hS [e0 0 [(3, nwS 0)] (ndS (.mk 3 n [a, b])), e0 1 [(8, ndS (.mk 3 n [a, b]))] (ndS (.mk 3 n [a, b])), e0 2 [(9, ndS (.mk 3 n [a, b]))] (nfS (.mk 3 n [a, b]) 0), e0 3 [(10, nfS (.mk 3 n [a, b]) 0)] (eI 3)] [0, 3, 4, 5, 11] [(0, eP K.bb 0), (3, nwS 0), (4, eqS vf), (5, fbS 0), (11, eI 3)] ⟨⟨cK rfl rfl rfl rfl, trivial⟩, ⟨cP rfl rfl, trivial⟩, ⟨dB rfl rfl sz3 cI rfl rfl, trivial⟩, ⟨jw rfl rfl, trivial⟩, trivial⟩ fun ac g w hS => ?_
 refine bz ?_
 refine wp_block ?_
 refine wp_seq ?_
 refine rz hS [] [0, 3, 4, 5, 11, 12] [(0, eP K.bb 0), (3, nwS 0), (4, eqS vf), (5, fbS 0), (11, eI 3), (12, eqS vf)] trivial fun ac g w hS => ?_
 refine wp_cond_false (hS.f.frm.eval rfl) ?_
 refine wp_seq ?_
 refine rz hS [] [0, 3, 4, 5, 11, 14] [(0, eP K.bb 0), (3, nwS 0), (4, eqS vf), (5, fbS 0), (11, eI 3), (14, eqS vt)] trivial fun ac g w hS => ?_
 refine wp_cond_true (hS.f.frm.eval rfl) ?_
 refine wp_seq ?_
 refine rw_ mo [e0 1 [(3, nwS 0)] (ndS (.mk 3 n [a, b])), e0 2 [(17, ndS (.mk 3 n [a, b]))] (ndS (.mk 3 n [a, b])), e0 3 [(18, ndS (.mk 3 n [a, b]))] (nfS (.mk 3 n [a, b]) 2), e0 4 [(19, nfS (.mk 3 n [a, b]) 2)] (nsS ([a, b])), e0 5 [(20, nsS ([a, b]))] (npS a), e0 6 [(21, npS a)] (ndS a), e0 8 [(23, fbS 0)] (ndS (bB b)), e0 9 [(22, ndS a), (24, ndS (bB b))] (nsS [a, bB b]), e1 10 [(16, eP K.bb 0), (25, nsS [a, bB b])] (eqS vf), ⟨13, [(27, eqS vf), (3, nwS 0)], ndS (.mk 3 n [a, b]), [1], false⟩, ⟨14, [(27, eqS vf), (29, ndS (.mk 3 n [a, b]))], ndS (.mk 3 n [a, b]), [1], false⟩, ⟨15, [(27, eqS vf), (30, ndS (.mk 3 n [a, b]))], nfS (.mk 3 n [a, b]) 2, [1], false⟩, ⟨16, [(27, eqS vf), (31, nfS (.mk 3 n [a, b]) 2)], nsS ([a, b]), [1], false⟩, ⟨17, [(27, eqS vf), (32, nsS ([a, b]))], npS b, [1], false⟩, ⟨18, [(27, eqS vf), (33, npS b)], ndS b, [1], false⟩, ⟨20, [(27, eqS vf), (35, fbS 0)], ndS (bB a), [1], false⟩, ⟨21, [(27, eqS vf), (34, ndS b), (36, ndS (bB a))], nsS [b, bB a], [1], false⟩, ⟨22, [(27, eqS vf), (28, eP K.bb 0), (37, nsS [b, bB a])], eqS vf, [1], true⟩, ⟨29, [(40, eqS vf), (44, eP K.bb 0)], eqS vt, [2], false⟩, ⟨33, [(46, eqS vt), (48, fbS 0)], ndS (bB a), [2], false⟩, ⟨35, [(46, eqS vt), (50, fbS 0)], ndS (bB b), [2], false⟩, ⟨36, [(46, eqS vt), (49, ndS (bB a)), (51, ndS (bB b))], nsS [bB a, bB b], [2], false⟩, ⟨37, [(46, eqS vt), (47, eP K.bb 0), (52, nsS [bB a, bB b])], eB r, [2], true⟩] [0, 3, 4] (Bl [stB (bdR K m) [(83, cnS (.mk 3 n [a, b]))], stB (bdR K m1) [(83, cnS (.mk 3 n [a, b]))], stB (bdR K m2) [(83, cnS (.mk 3 n [a, b]))], stB (bdR K m') [(83, cnS (.mk 3 n [a, b]))]]) 3 [(0, eP K.bb 0), (3, nwS 0), (4, eB r)] ⟨⟨cK rfl rfl rfl rfl, trivial⟩, ⟨cP rfl rfl, trivial⟩, ⟨dB rfl rfl cV cI rfl rfl, trivial⟩, ⟨ee rfl rfl, trivial⟩, ⟨eV (j := 0) rfl rfl rfl rfl, trivial⟩, ⟨eU rfl rfl, trivial⟩, ⟨ft (j := 1) (k := 0) hj (hfit.kid (by simp)).2 rfl rfl rfl rfl rfl rfl, trivial⟩, ⟨eW rfl rfl rfl rfl, trivial⟩, ⟨fY (ih _ hg1) hq1 (by simp) (fun t ht => hfit.way (W := K.W) (l := [a, bB b]) (by simp [cr]) ht) rfl rfl rfl rfl rfl, trivial⟩, ⟨cK rfl rfl rfl rfl, trivial⟩, ⟨cP rfl rfl, trivial⟩, ⟨dB rfl rfl cV cI rfl rfl, trivial⟩, ⟨ee rfl rfl, trivial⟩, ⟨eV (j := 1) rfl rfl rfl rfl, trivial⟩, ⟨eU rfl rfl, trivial⟩, ⟨ft (j := 0) (k := 0) hj (hfit.kid (by simp)).2 rfl rfl rfl rfl rfl rfl, trivial⟩, ⟨eW rfl rfl rfl rfl, trivial⟩, ⟨fY (ih _ hg2) hq2 (by simp) (fun t ht => hfit.way (W := K.W) (l := [b, bB a]) (by simp [cr]) ht) rfl rfl rfl rfl rfl, trivial⟩, ⟨iP rfl 0 rfl rfl u4 rfl (congrArg (fun z => some (vB z)) hd), trivial⟩, ⟨ft (j := 0) (k := 0) hj (hfit.kid (by simp)).2 rfl rfl rfl rfl rfl rfl, trivial⟩, ⟨ft (j := 1) (k := 0) hj (hfit.kid (by simp)).2 rfl rfl rfl rfl rfl rfl, trivial⟩, ⟨eW rfl rfl rfl rfl, trivial⟩, ⟨fY (ih _ hg3) hq3 (by simp) (fun t ht => hfit.way (W := K.W) (l := [bB a, bB b]) (by simp [cr, hd]) ht) rfl rfl rfl rfl rfl, trivial⟩, trivial⟩ hS rfl fun ac g w hS => ?_
 refine wp_ret ?_
 refine bY ?_
 refine bH ?_
 exact bv hS.f.frm (bw Tryd.results82 (RV.tmp hS.f.frm rfl)) ⟨rfl, eC hS⟩
set_option maxRecDepth 100000 in
set_option maxHeartbeats 4000000 in
theorem so {K : Bk} (hj : cG) {f : Nat} (ih : ∀ g, g < f → dc K.T K.nb K.W K.met g) {m m' : bX} {v : Value} (w0 : World) (hX : ∀ x, x ∈ [K.bt] ++ [] → x < w0.heap.size) (hr : (bdR K m).P ⟨[K.bt], [], [], []⟩ w0) {n : Int} {a b : Tm} (hfit : Fit (.mk 4 n [a, b])) (hnd : IsN w0 [K.bt] (.mk 4 n [a, b]) v) {g1 : Nat} (hg1 : g1 < f) (hq1 : bl K.W K.met g1 [b, bB a] m = some (true, m')) : Calls Tryd.prog 82 (List.toArray [vp K.bb, v]) w0 (Ret fun v w' => v = .bool true ∧ MapIs w' K.bt m' ∧ Ch [K.bt] w0 w') := by
 have c : cz a + cz b ≤ 1099511600000 := by have h1 := hfit.2; rw [d7 (by decide)] at h1; omega
 refine b7 (X := []) (F := [K.bt]) (ρ := bdR K m) [eqS (vp K.bb), ndS (.mk 4 n [a, b])] hX hr ⟨rfl, hnd, trivial⟩ Tryd.func82 rfl Tryd.ntmps82 rfl fun ac hS => ?_
 refine wp_seq ?_
 refine rx [e1 0 [(1, ndS (.mk 4 n [a, b]))] (nwS 0)] [0, 3, 4] (Bl [stB (bdR K m) [], stB (bdR K m) [(83, cnS (.mk 4 n [a, b]))]]) 1 [(0, eP K.bb 0), (3, nwS 0), (4, eqS vf)] ⟨⟨fh rfl rfl rfl rfl rfl, trivial⟩, trivial⟩ hS rfl fun ac g w hS => ?_
 refine wp_seq ?_
 refine rz hS [e0 0 [(3, nwS 0)] (fbS 0)] [0, 3, 4, 5] [(0, eP K.bb 0), (3, nwS 0), (4, eqS vf), (5, fbS 0)] ⟨⟨jy (k := 0) rfl rfl rfl rfl, trivial⟩, trivial⟩ fun ac g w hS => ?_
 refine wp_seq ?_
 refine wp_seq ?_
 refine rz hS [e0 0 [(3, nwS 0)] (ndS (.mk 4 n [a, b])), e0 1 [(8, ndS (.mk 4 n [a, b]))] (ndS (.mk 4 n [a, b])), e0 2 [(9, ndS (.mk 4 n [a, b]))] (nfS (.mk 4 n [a, b]) 0), e0 3 [(10, nfS (.mk 4 n [a, b]) 0)] (eI 4)] [0, 3, 4, 5, 11] [(0, eP K.bb 0), (3, nwS 0), (4, eqS vf), (5, fbS 0), (11, eI 4)] ⟨⟨cK rfl rfl rfl rfl, trivial⟩, ⟨cP rfl rfl, trivial⟩, ⟨dB rfl rfl sz3 cI rfl rfl, trivial⟩, ⟨jw rfl rfl, trivial⟩, trivial⟩ fun ac g w hS => ?_
 refine bz ?_
 refine wp_block ?_
 refine wp_seq ?_
 refine rz hS [] [0, 3, 4, 5, 11, 12] [(0, eP K.bb 0), (3, nwS 0), (4, eqS vf), (5, fbS 0), (11, eI 4), (12, eqS vf)] trivial fun ac g w hS => ?_
 refine wp_cond_false (hS.f.frm.eval rfl) ?_
 refine wp_seq ?_
 refine rz hS [] [0, 3, 4, 5, 11, 14] [(0, eP K.bb 0), (3, nwS 0), (4, eqS vf), (5, fbS 0), (11, eI 4), (14, eqS vf)] trivial fun ac g w hS => ?_
 refine wp_cond_false (hS.f.frm.eval rfl) ?_
 refine wp_seq ?_
 refine rz hS [] [0, 3, 4, 5, 11, 56] [(0, eP K.bb 0), (3, nwS 0), (4, eqS vf), (5, fbS 0), (11, eI 4), (56, eqS vt)] trivial fun ac g w hS => ?_
 refine wp_cond_true (hS.f.frm.eval rfl) ?_
 refine wp_seq ?_
 refine rz hS [e0 0 [(3, nwS 0)] (ndS (.mk 4 n [a, b])), e0 1 [(58, ndS (.mk 4 n [a, b]))] (ndS (.mk 4 n [a, b])), e0 2 [(59, ndS (.mk 4 n [a, b]))] (nfS (.mk 4 n [a, b]) 2), e0 3 [(60, nfS (.mk 4 n [a, b]) 2)] (nsS ([a, b])), e0 4 [(61, nsS ([a, b]))] (ndS (.mk 5 0 [a, b]))] [0, 3, 4, 5, 6] [(0, eP K.bb 0), (3, nwS 0), (4, eqS vf), (5, fbS 0), (6, ndS (.mk 5 0 [a, b]))] ⟨⟨cK rfl rfl rfl rfl, trivial⟩, ⟨cP rfl rfl, trivial⟩, ⟨dB rfl rfl cV cI rfl rfl, trivial⟩, ⟨ee rfl rfl, trivial⟩, ⟨iW hj (iS (by omega) c) rfl rfl rfl rfl, trivial⟩, trivial⟩ fun ac g w hS => ?_
 refine wp_seq ?_
 refine rw_ mo [e0 1 [(3, nwS 0)] (ndS (.mk 4 n [a, b])), e0 2 [(64, ndS (.mk 4 n [a, b]))] (ndS (.mk 4 n [a, b])), e0 3 [(65, ndS (.mk 4 n [a, b]))] (nfS (.mk 4 n [a, b]) 2), e0 4 [(66, nfS (.mk 4 n [a, b]) 2)] (nsS ([a, b])), e0 5 [(67, nsS ([a, b]))] (npS b), e0 6 [(68, npS b)] (ndS b), e0 8 [(70, fbS 0)] (ndS (bB a)), e0 9 [(69, ndS b), (71, ndS (bB a))] (nsS [b, bB a]), e1 10 [(63, eP K.bb 0), (72, nsS [b, bB a])] (eqS vt)] [0, 3, 4] (Bl [stB (bdR K m) [(83, cnS (.mk 4 n [a, b]))], stB (bdR K m') [(83, cnS (.mk 4 n [a, b]))]]) 1 [(0, eP K.bb 0), (3, nwS 0), (4, eqS vt)] ⟨⟨cK rfl rfl rfl rfl, trivial⟩, ⟨cP rfl rfl, trivial⟩, ⟨dB rfl rfl cV cI rfl rfl, trivial⟩, ⟨ee rfl rfl, trivial⟩, ⟨eV (j := 1) rfl rfl rfl rfl, trivial⟩, ⟨eU rfl rfl, trivial⟩, ⟨ft (j := 0) (k := 0) hj (hfit.kid (by simp)).2 rfl rfl rfl rfl rfl rfl, trivial⟩, ⟨eW rfl rfl rfl rfl, trivial⟩, ⟨fY (ih _ hg1) hq1 (by simp) (fun t ht => hfit.way (W := K.W) (l := [b, bB a]) (by simp [cr]) ht) rfl rfl rfl rfl rfl, trivial⟩, trivial⟩ hS rfl fun ac g w hS => ?_
 refine wp_ret ?_
 refine bY ?_
 refine bH ?_
 exact bv hS.f.frm (bw Tryd.results82 (RV.tmp hS.f.frm rfl)) ⟨rfl, eC hS⟩
set_option maxRecDepth 100000 in
set_option maxHeartbeats 4000000 in
theorem sm {K : Bk} (hj : cG) {f : Nat} (ih : ∀ g, g < f → dc K.T K.nb K.W K.met g) {m m' : bX} {v : Value} (w0 : World) (hX : ∀ x, x ∈ [K.bt] ++ [] → x < w0.heap.size) (hr : (bdR K m).P ⟨[K.bt], [], [], []⟩ w0) {n : Int} {a b : Tm} (hfit : Fit (.mk 4 n [a, b])) (hnd : IsN w0 [K.bt] (.mk 4 n [a, b]) v) {m1 : bX} {g1 : Nat} (hg1 : g1 < f) (hq1 : bl K.W K.met g1 [b, bB a] m = some (false, m1)) {g2 : Nat} (hg2 : g2 < f) (hq2 : bl K.W K.met g2 [a, .mk 5 0 [a, b]] m1 = some (true, m')) : Calls Tryd.prog 82 (List.toArray [vp K.bb, v]) w0 (Ret fun v w' => v = .bool true ∧ MapIs w' K.bt m' ∧ Ch [K.bt] w0 w') := by
 have c : cz a + cz b ≤ 1099511600000 := by have h1 := hfit.2; rw [d7 (by decide)] at h1; omega
 refine b7 (X := []) (F := [K.bt]) (ρ := bdR K m) [eqS (vp K.bb), ndS (.mk 4 n [a, b])] hX hr ⟨rfl, hnd, trivial⟩ Tryd.func82 rfl Tryd.ntmps82 rfl fun ac hS => ?_
 refine wp_seq ?_
 refine rx [e1 0 [(1, ndS (.mk 4 n [a, b]))] (nwS 0)] [0, 3, 4] (Bl [stB (bdR K m) [], stB (bdR K m) [(83, cnS (.mk 4 n [a, b]))]]) 1 [(0, eP K.bb 0), (3, nwS 0), (4, eqS vf)] ⟨⟨fh rfl rfl rfl rfl rfl, trivial⟩, trivial⟩ hS rfl fun ac g w hS => ?_
 refine wp_seq ?_
 refine rz hS [e0 0 [(3, nwS 0)] (fbS 0)] [0, 3, 4, 5] [(0, eP K.bb 0), (3, nwS 0), (4, eqS vf), (5, fbS 0)] ⟨⟨jy (k := 0) rfl rfl rfl rfl, trivial⟩, trivial⟩ fun ac g w hS => ?_
 refine wp_seq ?_
 refine wp_seq ?_
 refine rz hS [e0 0 [(3, nwS 0)] (ndS (.mk 4 n [a, b])), e0 1 [(8, ndS (.mk 4 n [a, b]))] (ndS (.mk 4 n [a, b])), e0 2 [(9, ndS (.mk 4 n [a, b]))] (nfS (.mk 4 n [a, b]) 0), e0 3 [(10, nfS (.mk 4 n [a, b]) 0)] (eI 4)] [0, 3, 4, 5, 11] [(0, eP K.bb 0), (3, nwS 0), (4, eqS vf), (5, fbS 0), (11, eI 4)] ⟨⟨cK rfl rfl rfl rfl, trivial⟩, ⟨cP rfl rfl, trivial⟩, ⟨dB rfl rfl sz3 cI rfl rfl, trivial⟩, ⟨jw rfl rfl, trivial⟩, trivial⟩ fun ac g w hS => ?_
 refine bz ?_
 refine wp_block ?_
 refine wp_seq ?_
 refine rz hS [] [0, 3, 4, 5, 11, 12] [(0, eP K.bb 0), (3, nwS 0), (4, eqS vf), (5, fbS 0), (11, eI 4), (12, eqS vf)] trivial fun ac g w hS => ?_
 refine wp_cond_false (hS.f.frm.eval rfl) ?_
 refine wp_seq ?_
 refine rz hS [] [0, 3, 4, 5, 11, 14] [(0, eP K.bb 0), (3, nwS 0), (4, eqS vf), (5, fbS 0), (11, eI 4), (14, eqS vf)] trivial fun ac g w hS => ?_
 refine wp_cond_false (hS.f.frm.eval rfl) ?_
 refine wp_seq ?_
 refine rz hS [] [0, 3, 4, 5, 11, 56] [(0, eP K.bb 0), (3, nwS 0), (4, eqS vf), (5, fbS 0), (11, eI 4), (56, eqS vt)] trivial fun ac g w hS => ?_
 refine wp_cond_true (hS.f.frm.eval rfl) ?_
 refine wp_seq ?_
 refine rz hS [e0 0 [(3, nwS 0)] (ndS (.mk 4 n [a, b])), e0 1 [(58, ndS (.mk 4 n [a, b]))] (ndS (.mk 4 n [a, b])), e0 2 [(59, ndS (.mk 4 n [a, b]))] (nfS (.mk 4 n [a, b]) 2), e0 3 [(60, nfS (.mk 4 n [a, b]) 2)] (nsS ([a, b])), e0 4 [(61, nsS ([a, b]))] (ndS (.mk 5 0 [a, b]))] [0, 3, 4, 5, 6] [(0, eP K.bb 0), (3, nwS 0), (4, eqS vf), (5, fbS 0), (6, ndS (.mk 5 0 [a, b]))] ⟨⟨cK rfl rfl rfl rfl, trivial⟩, ⟨cP rfl rfl, trivial⟩, ⟨dB rfl rfl cV cI rfl rfl, trivial⟩, ⟨ee rfl rfl, trivial⟩, ⟨iW hj (iS (by omega) c) rfl rfl rfl rfl, trivial⟩, trivial⟩ fun ac g w hS => ?_
 refine wp_seq ?_
 refine rw_ mo [e0 1 [(3, nwS 0)] (ndS (.mk 4 n [a, b])), e0 2 [(64, ndS (.mk 4 n [a, b]))] (ndS (.mk 4 n [a, b])), e0 3 [(65, ndS (.mk 4 n [a, b]))] (nfS (.mk 4 n [a, b]) 2), e0 4 [(66, nfS (.mk 4 n [a, b]) 2)] (nsS ([a, b])), e0 5 [(67, nsS ([a, b]))] (npS b), e0 6 [(68, npS b)] (ndS b), e0 8 [(70, fbS 0)] (ndS (bB a)), e0 9 [(69, ndS b), (71, ndS (bB a))] (nsS [b, bB a]), e1 10 [(63, eP K.bb 0), (72, nsS [b, bB a])] (eqS vf), ⟨13, [(74, eqS vf), (3, nwS 0)], ndS (.mk 4 n [a, b]), [1], false⟩, ⟨14, [(74, eqS vf), (76, ndS (.mk 4 n [a, b]))], ndS (.mk 4 n [a, b]), [1], false⟩, ⟨15, [(74, eqS vf), (77, ndS (.mk 4 n [a, b]))], nfS (.mk 4 n [a, b]) 2, [1], false⟩, ⟨16, [(74, eqS vf), (78, nfS (.mk 4 n [a, b]) 2)], nsS ([a, b]), [1], false⟩, ⟨17, [(74, eqS vf), (79, nsS ([a, b]))], npS a, [1], false⟩, ⟨18, [(74, eqS vf), (80, npS a)], ndS a, [1], false⟩, ⟨20, [(74, eqS vf), (81, ndS a), (82, ndS (.mk 5 0 [a, b]))], nsS [a, .mk 5 0 [a, b]], [1], false⟩, ⟨21, [(74, eqS vf), (75, eP K.bb 0), (83, nsS [a, .mk 5 0 [a, b]])], eqS vt, [1], true⟩] [0, 3, 4] (Bl [stB (bdR K m) [(83, cnS (.mk 4 n [a, b]))], stB (bdR K m1) [(83, cnS (.mk 4 n [a, b]))], stB (bdR K m') [(83, cnS (.mk 4 n [a, b]))]]) 2 [(0, eP K.bb 0), (3, nwS 0), (4, eqS vt)] ⟨⟨cK rfl rfl rfl rfl, trivial⟩, ⟨cP rfl rfl, trivial⟩, ⟨dB rfl rfl cV cI rfl rfl, trivial⟩, ⟨ee rfl rfl, trivial⟩, ⟨eV (j := 1) rfl rfl rfl rfl, trivial⟩, ⟨eU rfl rfl, trivial⟩, ⟨ft (j := 0) (k := 0) hj (hfit.kid (by simp)).2 rfl rfl rfl rfl rfl rfl, trivial⟩, ⟨eW rfl rfl rfl rfl, trivial⟩, ⟨fY (ih _ hg1) hq1 (by simp) (fun t ht => hfit.way (W := K.W) (l := [b, bB a]) (by simp [cr]) ht) rfl rfl rfl rfl rfl, trivial⟩, ⟨cK rfl rfl rfl rfl, trivial⟩, ⟨cP rfl rfl, trivial⟩, ⟨dB rfl rfl cV cI rfl rfl, trivial⟩, ⟨ee rfl rfl, trivial⟩, ⟨eV (j := 0) rfl rfl rfl rfl, trivial⟩, ⟨eU rfl rfl, trivial⟩, ⟨eW rfl rfl rfl rfl, trivial⟩, ⟨fY (ih _ hg2) hq2 (by simp) (fun t ht => hfit.way (W := K.W) (l := [a, .mk 5 0 [a, b]]) (by simp [cr]) ht) rfl rfl rfl rfl rfl, trivial⟩, trivial⟩ hS rfl fun ac g w hS => ?_
 refine wp_ret ?_
 refine bY ?_
 refine bH ?_
 exact bv hS.f.frm (bw Tryd.results82 (RV.tmp hS.f.frm rfl)) ⟨rfl, eC hS⟩
set_option maxRecDepth 100000 in
set_option maxHeartbeats 4000000 in
theorem sk {K : Bk} (hj : cG) {f : Nat} (ih : ∀ g, g < f → dc K.T K.nb K.W K.met g) {m m' : bX} {v : Value} (w0 : World) (hX : ∀ x, x ∈ [K.bt] ++ [] → x < w0.heap.size) (hr : (bdR K m).P ⟨[K.bt], [], [], []⟩ w0) {n : Int} {a b : Tm} (hfit : Fit (.mk 4 n [a, b])) (hnd : IsN w0 [K.bt] (.mk 4 n [a, b]) v) {m1 : bX} {g1 : Nat} (hg1 : g1 < f) (hq1 : bl K.W K.met g1 [b, bB a] m = some (false, m1)) {g2 : Nat} (hg2 : g2 < f) (hq2 : bl K.W K.met g2 [a, .mk 5 0 [a, b]] m1 = some (false, m')) (hd : K.W.kem = false) : Calls Tryd.prog 82 (List.toArray [vp K.bb, v]) w0 (Ret fun v w' => v = .bool false ∧ MapIs w' K.bt m' ∧ Ch [K.bt] w0 w') := by
 have c : cz a + cz b ≤ 1099511600000 := by have h1 := hfit.2; rw [d7 (by decide)] at h1; omega
 refine b7 (X := []) (F := [K.bt]) (ρ := bdR K m) [eqS (vp K.bb), ndS (.mk 4 n [a, b])] hX hr ⟨rfl, hnd, trivial⟩ Tryd.func82 rfl Tryd.ntmps82 rfl fun ac hS => ?_
 refine wp_seq ?_
 refine rx [e1 0 [(1, ndS (.mk 4 n [a, b]))] (nwS 0)] [0, 3, 4] (Bl [stB (bdR K m) [], stB (bdR K m) [(83, cnS (.mk 4 n [a, b]))]]) 1 [(0, eP K.bb 0), (3, nwS 0), (4, eqS vf)] ⟨⟨fh rfl rfl rfl rfl rfl, trivial⟩, trivial⟩ hS rfl fun ac g w hS => ?_
 refine wp_seq ?_
 refine rz hS [e0 0 [(3, nwS 0)] (fbS 0)] [0, 3, 4, 5] [(0, eP K.bb 0), (3, nwS 0), (4, eqS vf), (5, fbS 0)] ⟨⟨jy (k := 0) rfl rfl rfl rfl, trivial⟩, trivial⟩ fun ac g w hS => ?_
 refine wp_seq ?_
 refine wp_seq ?_
 refine rz hS [e0 0 [(3, nwS 0)] (ndS (.mk 4 n [a, b])), e0 1 [(8, ndS (.mk 4 n [a, b]))] (ndS (.mk 4 n [a, b])), e0 2 [(9, ndS (.mk 4 n [a, b]))] (nfS (.mk 4 n [a, b]) 0), e0 3 [(10, nfS (.mk 4 n [a, b]) 0)] (eI 4)] [0, 3, 4, 5, 11] [(0, eP K.bb 0), (3, nwS 0), (4, eqS vf), (5, fbS 0), (11, eI 4)] ⟨⟨cK rfl rfl rfl rfl, trivial⟩, ⟨cP rfl rfl, trivial⟩, ⟨dB rfl rfl sz3 cI rfl rfl, trivial⟩, ⟨jw rfl rfl, trivial⟩, trivial⟩ fun ac g w hS => ?_
 refine bz ?_
 refine wp_block ?_
 refine wp_seq ?_
 refine rz hS [] [0, 3, 4, 5, 11, 12] [(0, eP K.bb 0), (3, nwS 0), (4, eqS vf), (5, fbS 0), (11, eI 4), (12, eqS vf)] trivial fun ac g w hS => ?_
 refine wp_cond_false (hS.f.frm.eval rfl) ?_
 refine wp_seq ?_
 refine rz hS [] [0, 3, 4, 5, 11, 14] [(0, eP K.bb 0), (3, nwS 0), (4, eqS vf), (5, fbS 0), (11, eI 4), (14, eqS vf)] trivial fun ac g w hS => ?_
 refine wp_cond_false (hS.f.frm.eval rfl) ?_
 refine wp_seq ?_
 refine rz hS [] [0, 3, 4, 5, 11, 56] [(0, eP K.bb 0), (3, nwS 0), (4, eqS vf), (5, fbS 0), (11, eI 4), (56, eqS vt)] trivial fun ac g w hS => ?_
 refine wp_cond_true (hS.f.frm.eval rfl) ?_
 refine wp_seq ?_
 refine rz hS [e0 0 [(3, nwS 0)] (ndS (.mk 4 n [a, b])), e0 1 [(58, ndS (.mk 4 n [a, b]))] (ndS (.mk 4 n [a, b])), e0 2 [(59, ndS (.mk 4 n [a, b]))] (nfS (.mk 4 n [a, b]) 2), e0 3 [(60, nfS (.mk 4 n [a, b]) 2)] (nsS ([a, b])), e0 4 [(61, nsS ([a, b]))] (ndS (.mk 5 0 [a, b]))] [0, 3, 4, 5, 6] [(0, eP K.bb 0), (3, nwS 0), (4, eqS vf), (5, fbS 0), (6, ndS (.mk 5 0 [a, b]))] ⟨⟨cK rfl rfl rfl rfl, trivial⟩, ⟨cP rfl rfl, trivial⟩, ⟨dB rfl rfl cV cI rfl rfl, trivial⟩, ⟨ee rfl rfl, trivial⟩, ⟨iW hj (iS (by omega) c) rfl rfl rfl rfl, trivial⟩, trivial⟩ fun ac g w hS => ?_
 refine wp_seq ?_
 refine rw_ mo [e0 1 [(3, nwS 0)] (ndS (.mk 4 n [a, b])), e0 2 [(64, ndS (.mk 4 n [a, b]))] (ndS (.mk 4 n [a, b])), e0 3 [(65, ndS (.mk 4 n [a, b]))] (nfS (.mk 4 n [a, b]) 2), e0 4 [(66, nfS (.mk 4 n [a, b]) 2)] (nsS ([a, b])), e0 5 [(67, nsS ([a, b]))] (npS b), e0 6 [(68, npS b)] (ndS b), e0 8 [(70, fbS 0)] (ndS (bB a)), e0 9 [(69, ndS b), (71, ndS (bB a))] (nsS [b, bB a]), e1 10 [(63, eP K.bb 0), (72, nsS [b, bB a])] (eqS vf), ⟨13, [(74, eqS vf), (3, nwS 0)], ndS (.mk 4 n [a, b]), [1], false⟩, ⟨14, [(74, eqS vf), (76, ndS (.mk 4 n [a, b]))], ndS (.mk 4 n [a, b]), [1], false⟩, ⟨15, [(74, eqS vf), (77, ndS (.mk 4 n [a, b]))], nfS (.mk 4 n [a, b]) 2, [1], false⟩, ⟨16, [(74, eqS vf), (78, nfS (.mk 4 n [a, b]) 2)], nsS ([a, b]), [1], false⟩, ⟨17, [(74, eqS vf), (79, nsS ([a, b]))], npS a, [1], false⟩, ⟨18, [(74, eqS vf), (80, npS a)], ndS a, [1], false⟩, ⟨20, [(74, eqS vf), (81, ndS a), (82, ndS (.mk 5 0 [a, b]))], nsS [a, .mk 5 0 [a, b]], [1], false⟩, ⟨21, [(74, eqS vf), (75, eP K.bb 0), (83, nsS [a, .mk 5 0 [a, b]])], eqS vf, [1], true⟩, ⟨28, [(86, eqS vf), (90, eP K.bb 1)], eqS vf, [2], false⟩] [0, 3, 4] (Bl [stB (bdR K m) [(83, cnS (.mk 4 n [a, b]))], stB (bdR K m1) [(83, cnS (.mk 4 n [a, b]))], stB (bdR K m') [(83, cnS (.mk 4 n [a, b]))]]) 2 [(0, eP K.bb 0), (3, nwS 0), (4, eqS vf)] ⟨⟨cK rfl rfl rfl rfl, trivial⟩, ⟨cP rfl rfl, trivial⟩, ⟨dB rfl rfl cV cI rfl rfl, trivial⟩, ⟨ee rfl rfl, trivial⟩, ⟨eV (j := 1) rfl rfl rfl rfl, trivial⟩, ⟨eU rfl rfl, trivial⟩, ⟨ft (j := 0) (k := 0) hj (hfit.kid (by simp)).2 rfl rfl rfl rfl rfl rfl, trivial⟩, ⟨eW rfl rfl rfl rfl, trivial⟩, ⟨fY (ih _ hg1) hq1 (by simp) (fun t ht => hfit.way (W := K.W) (l := [b, bB a]) (by simp [cr]) ht) rfl rfl rfl rfl rfl, trivial⟩, ⟨cK rfl rfl rfl rfl, trivial⟩, ⟨cP rfl rfl, trivial⟩, ⟨dB rfl rfl cV cI rfl rfl, trivial⟩, ⟨ee rfl rfl, trivial⟩, ⟨eV (j := 0) rfl rfl rfl rfl, trivial⟩, ⟨eU rfl rfl, trivial⟩, ⟨eW rfl rfl rfl rfl, trivial⟩, ⟨fY (ih _ hg2) hq2 (by simp) (fun t ht => hfit.way (W := K.W) (l := [a, .mk 5 0 [a, b]]) (by simp [cr]) ht) rfl rfl rfl rfl rfl, trivial⟩, ⟨iP rfl 1 rfl rfl u4 rfl (congrArg (fun z => some (vB z)) hd), trivial⟩, trivial⟩ hS rfl fun ac g w hS => ?_
 refine wp_ret ?_
 refine bY ?_
 refine bH ?_
 exact bv hS.f.frm (bw Tryd.results82 (RV.tmp hS.f.frm rfl)) ⟨rfl, eC hS⟩
set_option maxRecDepth 100000 in
set_option maxHeartbeats 4000000 in
theorem sj {K : Bk} (hj : cG) {f : Nat} (ih : ∀ g, g < f → dc K.T K.nb K.W K.met g) {m m' : bX} {v : Value} (w0 : World) (hX : ∀ x, x ∈ [K.bt] ++ [] → x < w0.heap.size) (hr : (bdR K m).P ⟨[K.bt], [], [], []⟩ w0) {n : Int} {a b : Tm} (hfit : Fit (.mk 4 n [a, b])) (hnd : IsN w0 [K.bt] (.mk 4 n [a, b]) v) {m1 : bX} {g1 : Nat} (hg1 : g1 < f) (hq1 : bl K.W K.met g1 [b, bB a] m = some (false, m1)){m2 : bX} {g2 : Nat} (hg2 : g2 < f) (hq2 : bl K.W K.met g2 [a, .mk 5 0 [a, b]] m1 = some (false, m2)) {g3 : Nat} {r : Bool} (hg3 : g3 < f) (hq3 : bl K.W K.met g3 [.mk 5 0 [a, b]] m2 = some (r, m')) (hd : K.W.kem = true) : Calls Tryd.prog 82 (List.toArray [vp K.bb, v]) w0 (Ret fun v w' => v = .bool r ∧ MapIs w' K.bt m' ∧ Ch [K.bt] w0 w') := by
 have c : cz a + cz b ≤ 1099511600000 := by have h1 := hfit.2; rw [d7 (by decide)] at h1; omega
 refine b7 (X := []) (F := [K.bt]) (ρ := bdR K m) [eqS (vp K.bb), ndS (.mk 4 n [a, b])] hX hr ⟨rfl, hnd, trivial⟩ Tryd.func82 rfl Tryd.ntmps82 rfl fun ac hS => ?_
 refine wp_seq ?_
 refine rx [e1 0 [(1, ndS (.mk 4 n [a, b]))] (nwS 0)] [0, 3, 4] (Bl [stB (bdR K m) [], stB (bdR K m) [(83, cnS (.mk 4 n [a, b]))]]) 1 [(0, eP K.bb 0), (3, nwS 0), (4, eqS vf)] ⟨⟨fh rfl rfl rfl rfl rfl, trivial⟩, trivial⟩ hS rfl fun ac g w hS => ?_
 refine wp_seq ?_
 refine rz hS [e0 0 [(3, nwS 0)] (fbS 0)] [0, 3, 4, 5] [(0, eP K.bb 0), (3, nwS 0), (4, eqS vf), (5, fbS 0)] ⟨⟨jy (k := 0) rfl rfl rfl rfl, trivial⟩, trivial⟩ fun ac g w hS => ?_
 refine wp_seq ?_
 refine wp_seq ?_
 refine rz hS [e0 0 [(3, nwS 0)] (ndS (.mk 4 n [a, b])), e0 1 [(8, ndS (.mk 4 n [a, b]))] (ndS (.mk 4 n [a, b])), e0 2 [(9, ndS (.mk 4 n [a, b]))] (nfS (.mk 4 n [a, b]) 0), e0 3 [(10, nfS (.mk 4 n [a, b]) 0)] (eI 4)] [0, 3, 4, 5, 11] [(0, eP K.bb 0), (3, nwS 0), (4, eqS vf), (5, fbS 0), (11, eI 4)] ⟨⟨cK rfl rfl rfl rfl, trivial⟩, ⟨cP rfl rfl, trivial⟩, ⟨dB rfl rfl sz3 cI rfl rfl, trivial⟩, ⟨jw rfl rfl, trivial⟩, trivial⟩ fun ac g w hS => ?_
 refine bz ?_
 refine wp_block ?_
 refine wp_seq ?_
 refine rz hS [] [0, 3, 4, 5, 11, 12] [(0, eP K.bb 0), (3, nwS 0), (4, eqS vf), (5, fbS 0), (11, eI 4), (12, eqS vf)] trivial fun ac g w hS => ?_
 refine wp_cond_false (hS.f.frm.eval rfl) ?_
 refine wp_seq ?_
 refine rz hS [] [0, 3, 4, 5, 11, 14] [(0, eP K.bb 0), (3, nwS 0), (4, eqS vf), (5, fbS 0), (11, eI 4), (14, eqS vf)] trivial fun ac g w hS => ?_
 refine wp_cond_false (hS.f.frm.eval rfl) ?_
 refine wp_seq ?_
 refine rz hS [] [0, 3, 4, 5, 11, 56] [(0, eP K.bb 0), (3, nwS 0), (4, eqS vf), (5, fbS 0), (11, eI 4), (56, eqS vt)] trivial fun ac g w hS => ?_
 refine wp_cond_true (hS.f.frm.eval rfl) ?_
 refine wp_seq ?_
 refine rz hS [e0 0 [(3, nwS 0)] (ndS (.mk 4 n [a, b])), e0 1 [(58, ndS (.mk 4 n [a, b]))] (ndS (.mk 4 n [a, b])), e0 2 [(59, ndS (.mk 4 n [a, b]))] (nfS (.mk 4 n [a, b]) 2), e0 3 [(60, nfS (.mk 4 n [a, b]) 2)] (nsS ([a, b])), e0 4 [(61, nsS ([a, b]))] (ndS (.mk 5 0 [a, b]))] [0, 3, 4, 5, 6] [(0, eP K.bb 0), (3, nwS 0), (4, eqS vf), (5, fbS 0), (6, ndS (.mk 5 0 [a, b]))] ⟨⟨cK rfl rfl rfl rfl, trivial⟩, ⟨cP rfl rfl, trivial⟩, ⟨dB rfl rfl cV cI rfl rfl, trivial⟩, ⟨ee rfl rfl, trivial⟩, ⟨iW hj (iS (by omega) c) rfl rfl rfl rfl, trivial⟩, trivial⟩ fun ac g w hS => ?_
 refine wp_seq ?_
 refine rw_ mo [e0 1 [(3, nwS 0)] (ndS (.mk 4 n [a, b])), e0 2 [(64, ndS (.mk 4 n [a, b]))] (ndS (.mk 4 n [a, b])), e0 3 [(65, ndS (.mk 4 n [a, b]))] (nfS (.mk 4 n [a, b]) 2), e0 4 [(66, nfS (.mk 4 n [a, b]) 2)] (nsS ([a, b])), e0 5 [(67, nsS ([a, b]))] (npS b), e0 6 [(68, npS b)] (ndS b), e0 8 [(70, fbS 0)] (ndS (bB a)), e0 9 [(69, ndS b), (71, ndS (bB a))] (nsS [b, bB a]), e1 10 [(63, eP K.bb 0), (72, nsS [b, bB a])] (eqS vf), ⟨13, [(74, eqS vf), (3, nwS 0)], ndS (.mk 4 n [a, b]), [1], false⟩, ⟨14, [(74, eqS vf), (76, ndS (.mk 4 n [a, b]))], ndS (.mk 4 n [a, b]), [1], false⟩, ⟨15, [(74, eqS vf), (77, ndS (.mk 4 n [a, b]))], nfS (.mk 4 n [a, b]) 2, [1], false⟩, ⟨16, [(74, eqS vf), (78, nfS (.mk 4 n [a, b]) 2)], nsS ([a, b]), [1], false⟩, ⟨17, [(74, eqS vf), (79, nsS ([a, b]))], npS a, [1], false⟩, ⟨18, [(74, eqS vf), (80, npS a)], ndS a, [1], false⟩, ⟨20, [(74, eqS vf), (81, ndS a), (82, ndS (.mk 5 0 [a, b]))], nsS [a, .mk 5 0 [a, b]], [1], false⟩, ⟨21, [(74, eqS vf), (75, eP K.bb 0), (83, nsS [a, .mk 5 0 [a, b]])], eqS vf, [1], true⟩, ⟨28, [(86, eqS vf), (90, eP K.bb 1)], eqS vt, [2], false⟩, ⟨32, [(92, eqS vt), (94, ndS (.mk 5 0 [a, b]))], nsS [.mk 5 0 [a, b]], [2], false⟩, ⟨33, [(92, eqS vt), (93, eP K.bb 0), (95, nsS [.mk 5 0 [a, b]])], eB r, [2], true⟩] [0, 3, 4] (Bl [stB (bdR K m) [(83, cnS (.mk 4 n [a, b]))], stB (bdR K m1) [(83, cnS (.mk 4 n [a, b]))], stB (bdR K m2) [(83, cnS (.mk 4 n [a, b]))], stB (bdR K m') [(83, cnS (.mk 4 n [a, b]))]]) 3 [(0, eP K.bb 0), (3, nwS 0), (4, eB r)] ⟨⟨cK rfl rfl rfl rfl, trivial⟩, ⟨cP rfl rfl, trivial⟩, ⟨dB rfl rfl cV cI rfl rfl, trivial⟩, ⟨ee rfl rfl, trivial⟩, ⟨eV (j := 1) rfl rfl rfl rfl, trivial⟩, ⟨eU rfl rfl, trivial⟩, ⟨ft (j := 0) (k := 0) hj (hfit.kid (by simp)).2 rfl rfl rfl rfl rfl rfl, trivial⟩, ⟨eW rfl rfl rfl rfl, trivial⟩, ⟨fY (ih _ hg1) hq1 (by simp) (fun t ht => hfit.way (W := K.W) (l := [b, bB a]) (by simp [cr]) ht) rfl rfl rfl rfl rfl, trivial⟩, ⟨cK rfl rfl rfl rfl, trivial⟩, ⟨cP rfl rfl, trivial⟩, ⟨dB rfl rfl cV cI rfl rfl, trivial⟩, ⟨ee rfl rfl, trivial⟩, ⟨eV (j := 0) rfl rfl rfl rfl, trivial⟩, ⟨eU rfl rfl, trivial⟩, ⟨eW rfl rfl rfl rfl, trivial⟩, ⟨fY (ih _ hg2) hq2 (by simp) (fun t ht => hfit.way (W := K.W) (l := [a, .mk 5 0 [a, b]]) (by simp [cr]) ht) rfl rfl rfl rfl rfl, trivial⟩, ⟨iP rfl 1 rfl rfl u4 rfl (congrArg (fun z => some (vB z)) hd), trivial⟩, ⟨vX rfl rfl rfl, trivial⟩, ⟨fY (ih _ hg3) hq3 (by simp) (fun t ht => hfit.way (W := K.W) (l := [.mk 5 0 [a, b]]) (by simp [cr, hd]) ht) rfl rfl rfl rfl rfl, trivial⟩, trivial⟩ hS rfl fun ac g w hS => ?_
 refine wp_ret ?_
 refine bY ?_
 refine bH ?_
 exact bv hS.f.frm (bw Tryd.results82 (RV.tmp hS.f.frm rfl)) ⟨rfl, eC hS⟩
set_option maxRecDepth 100000 in
set_option maxHeartbeats 4000000 in
theorem wr {K : Bk} (hj : cG) {f : Nat} (ih : ∀ g, g < f → dc K.T K.nb K.W K.met g) {m m' : bX} {v : Value} (w0 : World) (hX : ∀ x, x ∈ [K.bt] ++ [] → x < w0.heap.size) (hr : (bdR K m).P ⟨[K.bt], [], [], []⟩ w0) {n : Int} {a b : Tm} (hfit : Fit (.mk 5 n [a, b])) (hnd : IsN w0 [K.bt] (.mk 5 n [a, b]) v) {r : Bool} {g1 : Nat} (hg1 : g1 < f) (hq1 : bl K.W K.met g1 [b, bB a] m = some (r, m')) : Calls Tryd.prog 82 (List.toArray [vp K.bb, v]) w0 (Ret fun v w' => v = .bool r ∧ MapIs w' K.bt m' ∧ Ch [K.bt] w0 w') := by
 refine b7 (X := []) (F := [K.bt]) (ρ := bdR K m) [eqS (vp K.bb), ndS (.mk 5 n [a, b])] hX hr ⟨rfl, hnd, trivial⟩ Tryd.func82 rfl Tryd.ntmps82 rfl fun ac hS => ?_
 refine wp_seq ?_
 refine rx [e1 0 [(1, ndS (.mk 5 n [a, b]))] (nwS 0)] [0, 3, 4] (Bl [stB (bdR K m) [], stB (bdR K m) [(83, cnS (.mk 5 n [a, b]))]]) 1 [(0, eP K.bb 0), (3, nwS 0), (4, eqS vf)] ⟨⟨fh rfl rfl rfl rfl rfl, trivial⟩, trivial⟩ hS rfl fun ac g w hS => ?_
 refine wp_seq ?_
 refine rz hS [e0 0 [(3, nwS 0)] (fbS 0)] [0, 3, 4, 5] [(0, eP K.bb 0), (3, nwS 0), (4, eqS vf), (5, fbS 0)] ⟨⟨jy (k := 0) rfl rfl rfl rfl, trivial⟩, trivial⟩ fun ac g w hS => ?_
 refine wp_seq ?_
 refine wp_seq ?_
 refine rz hS [e0 0 [(3, nwS 0)] (ndS (.mk 5 n [a, b])), e0 1 [(8, ndS (.mk 5 n [a, b]))] (ndS (.mk 5 n [a, b])), e0 2 [(9, ndS (.mk 5 n [a, b]))] (nfS (.mk 5 n [a, b]) 0), e0 3 [(10, nfS (.mk 5 n [a, b]) 0)] (eI 5)] [0, 3, 4, 5, 11] [(0, eP K.bb 0), (3, nwS 0), (4, eqS vf), (5, fbS 0), (11, eI 5)] ⟨⟨cK rfl rfl rfl rfl, trivial⟩, ⟨cP rfl rfl, trivial⟩, ⟨dB rfl rfl sz3 cI rfl rfl, trivial⟩, ⟨jw rfl rfl, trivial⟩, trivial⟩ fun ac g w hS => ?_
 refine bz ?_
 refine wp_block ?_
 refine wp_seq ?_
 refine rz hS [] [0, 3, 4, 5, 11, 12] [(0, eP K.bb 0), (3, nwS 0), (4, eqS vf), (5, fbS 0), (11, eI 5), (12, eqS vf)] trivial fun ac g w hS => ?_
 refine wp_cond_false (hS.f.frm.eval rfl) ?_
 refine wp_seq ?_
 refine rz hS [] [0, 3, 4, 5, 11, 14] [(0, eP K.bb 0), (3, nwS 0), (4, eqS vf), (5, fbS 0), (11, eI 5), (14, eqS vf)] trivial fun ac g w hS => ?_
 refine wp_cond_false (hS.f.frm.eval rfl) ?_
 refine wp_seq ?_
 refine rz hS [] [0, 3, 4, 5, 11, 56] [(0, eP K.bb 0), (3, nwS 0), (4, eqS vf), (5, fbS 0), (11, eI 5), (56, eqS vf)] trivial fun ac g w hS => ?_
 refine wp_cond_false (hS.f.frm.eval rfl) ?_
 refine wp_seq ?_
 refine rz hS [] [0, 3, 4, 5, 99] [(0, eP K.bb 0), (3, nwS 0), (4, eqS vf), (5, fbS 0), (99, eqS vt)] trivial fun ac g w hS => ?_
 refine wp_cond_true (hS.f.frm.eval rfl) ?_
 refine wp_seq ?_
 refine rw_ mo [e0 1 [(3, nwS 0)] (ndS (.mk 5 n [a, b])), e0 2 [(102, ndS (.mk 5 n [a, b]))] (ndS (.mk 5 n [a, b])), e0 3 [(103, ndS (.mk 5 n [a, b]))] (nfS (.mk 5 n [a, b]) 2), e0 4 [(104, nfS (.mk 5 n [a, b]) 2)] (nsS ([a, b])), e0 5 [(105, nsS ([a, b]))] (npS b), e0 6 [(106, npS b)] (ndS b), e0 8 [(108, fbS 0)] (ndS (bB a)), e0 9 [(107, ndS b), (109, ndS (bB a))] (nsS [b, bB a]), e1 10 [(101, eP K.bb 0), (110, nsS [b, bB a])] (eB r)] [0, 3, 4] (Bl [stB (bdR K m) [(83, cnS (.mk 5 n [a, b]))], stB (bdR K m') [(83, cnS (.mk 5 n [a, b]))]]) 1 [(0, eP K.bb 0), (3, nwS 0), (4, eB r)] ⟨⟨cK rfl rfl rfl rfl, trivial⟩, ⟨cP rfl rfl, trivial⟩, ⟨dB rfl rfl cV cI rfl rfl, trivial⟩, ⟨ee rfl rfl, trivial⟩, ⟨eV (j := 1) rfl rfl rfl rfl, trivial⟩, ⟨eU rfl rfl, trivial⟩, ⟨ft (j := 0) (k := 0) hj (hfit.kid (by simp)).2 rfl rfl rfl rfl rfl rfl, trivial⟩, ⟨eW rfl rfl rfl rfl, trivial⟩, ⟨fY (ih _ hg1) hq1 (by simp) (fun t ht => hfit.way (W := K.W) (l := [b, bB a]) (by simp [cr]) ht) rfl rfl rfl rfl rfl, trivial⟩, trivial⟩ hS rfl fun ac g w hS => ?_
 refine wp_ret ?_
 refine bY ?_
 refine bH ?_
 exact bv hS.f.frm (bw Tryd.results82 (RV.tmp hS.f.frm rfl)) ⟨rfl, eC hS⟩
set_option maxRecDepth 100000 in
set_option maxHeartbeats 4000000 in
theorem uv {K : Bk} (hj : cG) {f : Nat} (ih : ∀ g, g < f → dc K.T K.nb K.W K.met g) {m m' : bX} {v : Value} (w0 : World) (hX : ∀ x, x ∈ [K.bt] ++ [] → x < w0.heap.size) (hr : (bdR K m).P ⟨[K.bt], [], [], []⟩ w0) {n : Int} {k : Int} {ks : List Tm} (hk1 : ¬ k = 1) (hk3 : ¬ k = 3) (hk4 : ¬ k = 4) (hk5 : ¬ k = 5) (hkl : ks.length ≤ 1000) (hfit : Fit (.mk k n ks)) (hnd : IsN w0 [K.bt] (.mk k n ks) v) {r : Bool} {g1 : Nat} (hg1 : g1 < f) (hq1 : bl K.W K.met g1 ks m = some (r, m')) : Calls Tryd.prog 82 (List.toArray [vp K.bb, v]) w0 (Ret fun v w' => v = .bool r ∧ MapIs w' K.bt m' ∧ Ch [K.bt] w0 w') := by
 refine b7 (X := []) (F := [K.bt]) (ρ := bdR K m) [eqS (vp K.bb), ndS (.mk k n ks)] hX hr ⟨rfl, hnd, trivial⟩ Tryd.func82 rfl Tryd.ntmps82 rfl fun ac hS => ?_
 refine wp_seq ?_
 refine rx [e1 0 [(1, ndS (.mk k n ks))] (nwS 0)] [0, 3, 4] (Bl [stB (bdR K m) [], stB (bdR K m) [(83, cnS (.mk k n ks))]]) 1 [(0, eP K.bb 0), (3, nwS 0), (4, eqS vf)] ⟨⟨fh rfl rfl rfl rfl rfl, trivial⟩, trivial⟩ hS rfl fun ac g w hS => ?_
 refine wp_seq ?_
 refine rz hS [e0 0 [(3, nwS 0)] (fbS 0)] [0, 3, 4, 5] [(0, eP K.bb 0), (3, nwS 0), (4, eqS vf), (5, fbS 0)] ⟨⟨jy (k := 0) rfl rfl rfl rfl, trivial⟩, trivial⟩ fun ac g w hS => ?_
 refine wp_seq ?_
 refine wp_seq ?_
 refine rz hS [e0 0 [(3, nwS 0)] (ndS (.mk k n ks)), e0 1 [(8, ndS (.mk k n ks))] (ndS (.mk k n ks)), e0 2 [(9, ndS (.mk k n ks))] (nfS (.mk k n ks) 0), e0 3 [(10, nfS (.mk k n ks) 0)] (eI k)] [0, 3, 4, 5, 11] [(0, eP K.bb 0), (3, nwS 0), (4, eqS vf), (5, fbS 0), (11, eI k)] ⟨⟨cK rfl rfl rfl rfl, trivial⟩, ⟨cP rfl rfl, trivial⟩, ⟨dB rfl rfl sz3 cI rfl rfl, trivial⟩, ⟨jw rfl rfl, trivial⟩, trivial⟩ fun ac g w hS => ?_
 refine bz ?_
 refine wp_block ?_
 refine wp_seq ?_
 refine rz hS [e0 0 [(11, eI k)] (eqS vf)] [0, 3, 4, 5, 11, 12] [(0, eP K.bb 0), (3, nwS 0), (4, eqS vf), (5, fbS 0), (11, eI k), (12, eqS vf)] ⟨⟨bS rfl rfl rfl (congrArg some (decide_eq_false hk1)), trivial⟩, trivial⟩ fun ac g w hS => ?_
 refine wp_cond_false (hS.f.frm.eval rfl) ?_
 refine wp_seq ?_
 refine rz hS [e0 0 [(11, eI k)] (eqS vf)] [0, 3, 4, 5, 11, 14] [(0, eP K.bb 0), (3, nwS 0), (4, eqS vf), (5, fbS 0), (11, eI k), (14, eqS vf)] ⟨⟨bS rfl rfl rfl (congrArg some (decide_eq_false hk3)), trivial⟩, trivial⟩ fun ac g w hS => ?_
 refine wp_cond_false (hS.f.frm.eval rfl) ?_
 refine wp_seq ?_
 refine rz hS [e0 0 [(11, eI k)] (eqS vf)] [0, 3, 4, 5, 11, 56] [(0, eP K.bb 0), (3, nwS 0), (4, eqS vf), (5, fbS 0), (11, eI k), (56, eqS vf)] ⟨⟨bS rfl rfl rfl (congrArg some (decide_eq_false hk4)), trivial⟩, trivial⟩ fun ac g w hS => ?_
 refine wp_cond_false (hS.f.frm.eval rfl) ?_
 refine wp_seq ?_
 refine rz hS [e0 0 [(11, eI k)] (eqS vf)] [0, 3, 4, 5, 99] [(0, eP K.bb 0), (3, nwS 0), (4, eqS vf), (5, fbS 0), (99, eqS vf)] ⟨⟨bS rfl rfl rfl (congrArg some (decide_eq_false hk5)), trivial⟩, trivial⟩ fun ac g w hS => ?_
 refine wp_cond_false (hS.f.frm.eval rfl) ?_
 refine wp_skip ?_
 refine bR ?_
 refine wp_seq ?_
 refine rx [e0 1 [(3, nwS 0)] (ndS (.mk k n ks)), e0 2 [(113, ndS (.mk k n ks))] (ndS (.mk k n ks)), e0 3 [(114, ndS (.mk k n ks))] (nfS (.mk k n ks) 2), e0 4 [(115, nfS (.mk k n ks) 2)] (nsS ks), e1 5 [(112, eP K.bb 0), (116, nsS ks)] (eB r)] [4] (Bl [stB (bdR K m) [(83, cnS (.mk k n ks))], stB (bdR K m') [(83, cnS (.mk k n ks))]]) 1 [(4, eB r)] ⟨⟨cK rfl rfl rfl rfl, trivial⟩, ⟨cP rfl rfl, trivial⟩, ⟨dB rfl rfl cV cI rfl rfl, trivial⟩, ⟨ee rfl rfl, trivial⟩, ⟨fY (ih _ hg1) hq1 hkl (fun t ht => hfit.kid ht) rfl rfl rfl rfl rfl, trivial⟩, trivial⟩ hS rfl fun ac g w hS => ?_
 refine wp_ret ?_
 exact bv hS.f.frm (bw Tryd.results82 (RV.tmp hS.f.frm rfl)) ⟨rfl, eC hS⟩
set_option maxRecDepth 100000 in
set_option maxHeartbeats 4000000 in
theorem sq {K : Bk} (hj : cG) {f : Nat} (ih : ∀ g, g < f → dc K.T K.nb K.W K.met g) {m : bX} {v : Value} (w0 : World) (hX : ∀ x, x ∈ [K.bt] ++ [] → x < w0.heap.size) (hr : (bdR K m).P ⟨[K.bt], [], [], []⟩ w0) {n : Int} {ks : List Tm} (hfit : Fit (.mk 1 n ks)) (hnd : IsN w0 [K.bt] (.mk 1 n ks) v)  : Calls Tryd.prog 82 (List.toArray [vp K.bb, v]) w0 (Ret fun v w' => v = .bool false ∧ MapIs w' K.bt m ∧ Ch [K.bt] w0 w') := by
 refine b7 (X := []) (F := [K.bt]) (ρ := bdR K m) [eqS (vp K.bb), ndS (.mk 1 n ks)] hX hr ⟨rfl, hnd, trivial⟩ Tryd.func82 rfl Tryd.ntmps82 rfl fun ac hS => ?_
 refine wp_seq ?_
 refine rx [e1 0 [(1, ndS (.mk 1 n ks))] (nwS 0)] [0, 3, 4] (Bl [stB (bdR K m) [], stB (bdR K m) [(83, cnS (.mk 1 n ks))]]) 1 [(0, eP K.bb 0), (3, nwS 0), (4, eqS vf)] ⟨⟨fh rfl rfl rfl rfl rfl, trivial⟩, trivial⟩ hS rfl fun ac g w hS => ?_
 refine wp_seq ?_
 refine rz hS [e0 0 [(3, nwS 0)] (fbS 0)] [0, 3, 4, 5] [(0, eP K.bb 0), (3, nwS 0), (4, eqS vf), (5, fbS 0)] ⟨⟨jy (k := 0) rfl rfl rfl rfl, trivial⟩, trivial⟩ fun ac g w hS => ?_
 refine wp_seq ?_
 refine wp_seq ?_
 refine rz hS [e0 0 [(3, nwS 0)] (ndS (.mk 1 n ks)), e0 1 [(8, ndS (.mk 1 n ks))] (ndS (.mk 1 n ks)), e0 2 [(9, ndS (.mk 1 n ks))] (nfS (.mk 1 n ks) 0), e0 3 [(10, nfS (.mk 1 n ks) 0)] (eI 1)] [0, 3, 4, 5, 11] [(0, eP K.bb 0), (3, nwS 0), (4, eqS vf), (5, fbS 0), (11, eI 1)] ⟨⟨cK rfl rfl rfl rfl, trivial⟩, ⟨cP rfl rfl, trivial⟩, ⟨dB rfl rfl sz3 cI rfl rfl, trivial⟩, ⟨jw rfl rfl, trivial⟩, trivial⟩ fun ac g w hS => ?_
 refine bz ?_
 refine wp_block ?_
 refine wp_seq ?_
 refine rz hS [] [0, 3, 4, 5, 11, 12] [(0, eP K.bb 0), (3, nwS 0), (4, eqS vf), (5, fbS 0), (11, eI 1), (12, eqS vt)] trivial fun ac g w hS => ?_
 refine wp_cond_true (hS.f.frm.eval rfl) ?_
 refine wp_seq ?_
 refine rz hS [] [0, 3, 4] [(0, eP K.bb 0), (3, nwS 0), (4, eqS vf)] trivial fun ac g w hS => ?_
 refine wp_ret ?_
 refine bY ?_
 refine bH ?_
 exact bv hS.f.frm (bw Tryd.results82 (RV.tmp hS.f.frm rfl)) ⟨rfl, eC hS⟩
theorem nw {K : Bk} (hj : cG) {f : Nat} (ih : ∀ g, g < f → dc K.T K.nb K.W K.met g) {t : Tm} {m m' : bX} {r : Bool} {v : Value} (w0 : World) (hX : ∀ x, x ∈ [K.bt] ++ [] → x < w0.heap.size) (hr : (bdR K m).P ⟨[K.bt], [], [], []⟩ w0) (hany : cX K.W K.met f (cr K.W t) m = some (r, m')) (hfit : Fit t) (hnd : IsN w0 [K.bt] t v) : Calls Tryd.prog 82 (List.toArray [vp K.bb, v]) w0 (Ret fun v w' => v = .bool r ∧ MapIs w' K.bt m' ∧ Ch [K.bt] w0 w') := by
 obtain ⟨k, n, ks⟩ := t
 by_cases h1 : k = 1
 ·subst h1
  obtain ⟨rfl, rfl⟩ := rr hany
  exact sq hj ih w0 hX hr hfit hnd
 by_cases h3 : k = 3
 ·subst h3
  obtain ⟨a, b, rfl, _, _⟩ := hfit.1.two' h1 (by omega) (by omega)
  rcases vi hany with ⟨g1, d, c, rfl⟩ | ⟨g1, g2, m1, d, hg2, c, hq2, rfl⟩ | ⟨g1, g2, m1, d, hg2, c, hq2, rfl, hd⟩ | ⟨g1, g2, g3, m1, m2, d, hg2, hg3, c, hq2, hq3, hd⟩
  ·exact uz hj ih w0 hX hr hfit hnd d c
  ·exact uy hj ih w0 hX hr hfit hnd d c hg2 hq2
  ·exact ux hj ih w0 hX hr hfit hnd d c hg2 hq2 hd
  ·exact uw hj ih w0 hX hr hfit hnd d c hg2 hq2 hg3 hq3 hd
 by_cases h4 : k = 4
 ·subst h4
  obtain ⟨a, b, rfl, _, _⟩ := hfit.1.two' h1 (by omega) (by omega)
  rcases sS hany with ⟨g1, d, c, rfl⟩ | ⟨g1, g2, m1, d, hg2, c, hq2, rfl⟩ | ⟨g1, g2, m1, d, hg2, c, hq2, rfl, hd⟩ | ⟨g1, g2, g3, m1, m2, d, hg2, hg3, c, hq2, hq3, hd⟩
  ·exact so hj ih w0 hX hr hfit hnd d c
  ·exact sm hj ih w0 hX hr hfit hnd d c hg2 hq2
  ·exact sk hj ih w0 hX hr hfit hnd d c hg2 hq2 hd
  ·exact sj hj ih w0 hX hr hfit hnd d c hg2 hq2 hg3 hq3 hd
 by_cases h5 : k = 5
 ·subst h5
  obtain ⟨a, b, rfl, _, _⟩ := hfit.1.two' h1 (by omega) (by omega)
  obtain ⟨g1, d, c⟩ := vj hany
  exact wr hj ih w0 hX hr hfit hnd d c
 obtain ⟨g1, d, c⟩ := sT h1 h3 h4 h5 hany
 exact uv hj ih w0 hX hr h1 h3 h4 h5 (by have := (dS hfit.1).2.2.2; omega) hfit hnd d c
end Go.Mi.Term
namespace Go.Mi.Term
open Go.Mi Go.Proofs Go.RowKit
theorem kv {α : Type} {l : List α} {i : Nat} {t : α} (h : l[i]? = some t) : l.drop i = t :: l.drop (i + 1) := by
 obtain ⟨h1, h2⟩ := List.getElem?_eq_some_iff.1 h
 rw [List.drop_eq_getElem_cons h1, h2]
set_option maxRecDepth 100000 in
set_option maxHeartbeats 4000000 in
theorem sO {K : Bk} {f : Nat} (hmk : ∀ g, g < f → jg K.T K.nb K.W K.met g) {l : List Tm} {m m' : bX} {r : Bool} {v : Value} (w0 : World) (hX : ∀ x, x ∈ [K.bt] ++ [] → x < w0.heap.size) (hr : (bdR K m).P ⟨[K.bt], [], [], []⟩ w0) (hl : l.length ≤ 1000) (hq0 : bl K.W K.met f l m = some (r, m')) (hfit : ∀ t, t ∈ l → Fit t) (hv : (nsS l).hold ⟨[K.bt], [], [], []⟩ w0 v) : Calls Tryd.prog 45 (List.toArray [vp K.bb, v]) w0 (Ret fun v w' => v = .bool r ∧ MapIs w' K.bt m' ∧ Ch [K.bt] w0 w') := by
 refine b7 (X := []) (F := [K.bt]) (ρ := bdR K m) [eqS (vp K.bb), nsS l] hX hr ⟨rfl, hv, trivial⟩ Tryd.func45 rfl Tryd.ntmps45 rfl fun ac hS => ?_
 refine wp_seq ?_
 refine rz hS [] [0, 1, 4] [(0, eP K.bb 0), (1, nsS l), (4, eqS vf)] trivial fun ac g w hS => ?_
 refine wp_seq ?_
 refine wp_seq ?_
 refine rz hS [e0 1 [(7, nsS l)] (eI l.length)] [0, 4, 7, 8, 9] [(0, eP K.bb 0), (4, eqS vf), (7, nsS l), (8, eI l.length), (9, eI 0)] ⟨⟨t7 rfl rfl, trivial⟩, trivial⟩ fun ac g w hS => ?_
 refine bz ?_
 refine wp_block ?_
 refine cb (fun e ac w => ∃ (j : Nat) (mi : bX) (gi : Nat) (g : Gh), e = l.length - j ∧ (j ≤ l.length) ∧ (gi ≤ f) ∧ (bl K.W K.met gi (l.drop j) mi = some (r, m')) ∧ SS [(0, eP K.bb 0), (7, nsS l), (8, eI l.length), (9, eI j)] 68 (stB (bdR K mi) []) ⟨[K.bt], [], [], []⟩ w0 ac g w) _ ⟨0, m, f, _, rfl, Nat.zero_le _, Nat.le_refl _, hq0, hS.to ⟨rfl, rfl, rfl, rfl, trivial⟩⟩ ?_
 rintro _ ac w ⟨j, mi, gi, g, rfl, hj, hgi, hq, hS⟩
 refine wp_seq ?_
 refine rz hS [] [0, 7, 8, 9, 10] [(0, eP K.bb 0), (7, nsS l), (8, eI l.length), (9, eI j), (10, eB (decide ((j : Int) < l.length)))] trivial fun ac g w hS => ?_
 refine wp_seq ?_
 refine cn hS.f.frm rfl (fun h => ?_) (fun h => ?_)
 ·have hc := of_decide_eq_true h
  clear h
  have hc := Int.ofNat_lt.1 hc
  obtain ⟨t1, c⟩ : ∃ t1, l[j]? = some t1 := ⟨_, List.getElem?_eq_getElem hc⟩
  rw [kv c] at hq
  obtain ⟨gg, m4, hg, a, b⟩ := sP hq
  have d := hfit t1 (List.mem_of_getElem? c)
  refine wp_skip ?_
  refine wp_seq ?_
  refine wp_block ?_
  refine wp_seq ?_
  refine rz hS [e0 0 [(7, nsS l), (9, eI j)] (npS t1), e0 1 [(11, npS t1)] (ndS t1)] [0, 6, 7, 8, 9] [(0, eP K.bb 0), (6, ndS t1), (7, nsS l), (8, eI l.length), (9, eI j)] ⟨⟨eV (j := j) rfl rfl rfl c, trivial⟩, ⟨eU rfl rfl, trivial⟩, trivial⟩ fun ac g w hS => ?_
  refine wp_seq ?_
  refine wp_seq ?_
  refine ry mo hS [e0 3 [(15, eP K.bb 3)] (eqS (.map (some K.bt))), e0 5 [(17, ndS t1)] (ndS t1), e0 6 [(18, ndS t1)] (nfS t1 3), e0 7 [(19, nfS t1 3)] (eqS (vT (txt t1))), e0 8 [(16, eqS (.map (some K.bt))), (20, eqS (vT (txt t1)))] (eI (tl mi (txt t1)))] [0, 6, 7, 8, 9, 22] [(0, eP K.bb 0), (6, ndS t1), (7, nsS l), (8, eI l.length), (9, eI j), (22, eB (decide ((tl mi (txt t1) : Int) = 0)))] ⟨⟨iP rfl 3 rfl rfl ij rfl rfl, trivial⟩, ⟨cP rfl rfl, trivial⟩, ⟨dB rfl rfl sz9 cI rfl rfl, trivial⟩, ⟨iI rfl rfl, trivial⟩, ⟨vW rfl rfl rfl rfl, trivial⟩, trivial⟩ fun ac g w hS => ?_
  refine bz ?_
  refine eD (fun ac w => ∃  (g : Gh), SS [(0, eP K.bb 0), (6, ndS t1), (7, nsS l), (8, eI l.length), (9, eI j)] 68 (stB (bdR K m4) []) ⟨[K.bt], [], [], []⟩ w0 ac g w) ?_ ?_
  rotate_left
  ·rintro ac w ⟨g, hS⟩
   refine wp_seq ?_
   refine ry mo hS [e0 3 [(59, eP K.bb 3)] (eqS (.map (some K.bt))), e0 5 [(61, ndS t1)] (ndS t1), e0 6 [(62, ndS t1)] (nfS t1 3), e0 7 [(63, nfS t1 3)] (eqS (vT (txt t1))), e0 8 [(60, eqS (.map (some K.bt))), (64, eqS (vT (txt t1)))] (eI (tl m4 (txt t1)))] [0, 6, 7, 8, 9, 66] [(0, eP K.bb 0), (6, ndS t1), (7, nsS l), (8, eI l.length), (9, eI j), (66, eB (decide ((tl m4 (txt t1) : Int) = 2)))] ⟨⟨iP rfl 3 rfl rfl ij rfl rfl, trivial⟩, ⟨cP rfl rfl, trivial⟩, ⟨dB rfl rfl sz9 cI rfl rfl, trivial⟩, ⟨iI rfl rfl, trivial⟩, ⟨vW rfl rfl rfl rfl, trivial⟩, trivial⟩ fun ac g w hS => ?_
   refine bz ?_
   refine cn hS.f.frm rfl (fun h => ?_) (fun h => ?_)
   ·have h2 := of_decide_eq_true h
    clear h
    rw [if_pos h2] at a
    refine wp_seq ?_
    refine rz hS [] [0, 4, 6, 7, 8, 9] [(0, eP K.bb 0), (4, eqS vf), (6, ndS t1), (7, nsS l), (8, eI l.length), (9, eI j)] trivial fun ac g w hS => ?_
    refine wp_ret ?_
    refine bY ?_
    refine bH ?_
    refine bH ?_
    refine bY ?_
    refine bH ?_
    exact bv hS.f.frm (bw Tryd.results45 (RV.tmp hS.f.frm rfl)) ⟨by rw [a.1]; rfl, by rw [a.2]; exact eC hS⟩
   ·have h2 := of_decide_eq_false h
    clear h
    rw [if_neg h2] at a
    refine wp_skip ?_
    refine bR ?_
    refine rz hS [e0 0 [(9, eI j)] (eI (((j : Nat) : Int) + 1))] [0, 6, 7, 8, 9] [(0, eP K.bb 0), (6, ndS t1), (7, nsS l), (8, eI l.length), (9, eI (((j : Nat) : Int) + 1))] ⟨⟨bL fun ξ g w hB hH => ⟨_, rfl, cy rfl rfl (bO (by omega) (by omega))⟩, trivial⟩, trivial⟩ fun ac g w hS => ?_
    refine bz ?_
    refine ⟨_, ?_, j + 1, m4, gg, _, rfl, hc, by omega, a, hS.to ⟨rfl, rfl, rfl, rfl, trivial⟩⟩
    omega
  refine cn hS.f.frm rfl (fun h => ?_) (fun h => ?_)
  ·have h0 := of_decide_eq_true h
   clear h
   refine wp_seq ?_
   refine rw_ mo [e0 3 [(25, eP K.bb 3)] (eqS (.map (some K.bt))), e0 5 [(27, ndS t1)] (ndS t1), e0 6 [(28, ndS t1)] (nfS t1 3), e0 7 [(29, nfS t1 3)] (eqS (vT (txt t1))), e1 8 [(26, eqS (.map (some K.bt))), (30, eqS (vT (txt t1)))] bM] [0, 6, 7, 8, 9] (Bl [stB (bdR K mi) [], stB (bdR K (st mi (txt t1) 2)) []]) 1 [(0, eP K.bb 0), (6, ndS t1), (7, nsS l), (8, eI l.length), (9, eI j)] ⟨⟨iP rfl 3 rfl rfl ij rfl rfl, trivial⟩, ⟨cP rfl rfl, trivial⟩, ⟨dB rfl rfl sz9 cI rfl rfl, trivial⟩, ⟨iI rfl rfl, trivial⟩, ⟨qs rfl rfl rfl rfl rfl rfl, trivial⟩, trivial⟩ hS rfl fun ac g w hS => ?_
   refine wp_seq ?_
   rcases b with ⟨hn0, _⟩ | ⟨_, ⟨hm, rfl⟩ | ⟨hm, (_ | _), m3, hq3, rfl⟩⟩
   ·exact absurd h0 hn0
   ·skip
    refine ry mo hS [e0 3 [(33, eP K.bb 2)] (eP K.br 0), e0 6 [(36, eP K.br 1)] (eqS (.map (some K.bm))), e0 8 [(38, ndS t1)] (ndS t1), e0 9 [(39, ndS t1)] (nfS t1 3), e0 10 [(40, nfS t1 3)] (eqS (vT (txt t1))), e0 11 [(37, eqS (.map (some K.bm))), (41, eqS (vT (txt t1)))] (eI (tl K.met (txt t1))), e0 12 [(42, eI (tl K.met (txt t1)))] (eqS vt)] [0, 6, 7, 8, 9, 48] [(0, eP K.bb 0), (6, ndS t1), (7, nsS l), (8, eI l.length), (9, eI j), (48, eqS vt)] ⟨⟨iP rfl 2 rfl rfl Tryd.underlying80 rfl rfl, trivial⟩, ⟨m9 rfl rfl rfl, trivial⟩, ⟨cP rfl rfl, trivial⟩, ⟨dB rfl rfl sz9 cI rfl rfl, trivial⟩, ⟨iI rfl rfl, trivial⟩, ⟨t6 rfl rfl rfl rfl, trivial⟩, ⟨bS rfl rfl rfl (congrArg some (decide_eq_true hm)), trivial⟩, trivial⟩ fun ac g w hS => ?_
    refine wp_cond_true (hS.f.frm.eval rfl) ?_
    refine rw_ mo [e0 3 [(51, eP K.bb 3)] (eqS (.map (some K.bt))), e0 5 [(53, ndS t1)] (ndS t1), e0 6 [(54, ndS t1)] (nfS t1 3), e0 7 [(55, nfS t1 3)] (eqS (vT (txt t1))), e1 8 [(52, eqS (.map (some K.bt))), (56, eqS (vT (txt t1)))] bM] [0, 6, 7, 8, 9] (Bl [stB (bdR K (st mi (txt t1) 2)) [], stB (bdR K (st (st mi (txt t1) 2) (txt t1) 1)) []]) 1 [(0, eP K.bb 0), (6, ndS t1), (7, nsS l), (8, eI l.length), (9, eI j)] ⟨⟨iP rfl 3 rfl rfl ij rfl rfl, trivial⟩, ⟨cP rfl rfl, trivial⟩, ⟨dB rfl rfl sz9 cI rfl rfl, trivial⟩, ⟨iI rfl rfl, trivial⟩, ⟨qs rfl rfl rfl rfl rfl rfl, trivial⟩, trivial⟩ hS rfl fun ac g w hS => ?_
    refine bz ?_
    exact ⟨g, hS.to ⟨rfl, rfl, rfl, rfl, rfl, trivial⟩⟩
   ·skip
    refine rw_ mo [e0 3 [(33, eP K.bb 2)] (eP K.br 0), e0 6 [(36, eP K.br 1)] (eqS (.map (some K.bm))), e0 8 [(38, ndS t1)] (ndS t1), e0 9 [(39, ndS t1)] (nfS t1 3), e0 10 [(40, nfS t1 3)] (eqS (vT (txt t1))), e0 11 [(37, eqS (.map (some K.bm))), (41, eqS (vT (txt t1)))] (eI (tl K.met (txt t1))), e0 12 [(42, eI (tl K.met (txt t1)))] (eqS vf), e1 16 [(44, eqS vf), (45, eP K.bb 0), (46, ndS t1)] (eqS vf)] [0, 6, 7, 8, 9, 48] (Bl [stB (bdR K (st mi (txt t1) 2)) [], stB (bdR K m4) []]) 1 [(0, eP K.bb 0), (6, ndS t1), (7, nsS l), (8, eI l.length), (9, eI j), (48, eqS vf)] ⟨⟨iP rfl 2 rfl rfl Tryd.underlying80 rfl rfl, trivial⟩, ⟨m9 rfl rfl rfl, trivial⟩, ⟨cP rfl rfl, trivial⟩, ⟨dB rfl rfl sz9 cI rfl rfl, trivial⟩, ⟨iI rfl rfl, trivial⟩, ⟨t6 rfl rfl rfl rfl, trivial⟩, ⟨bS rfl rfl rfl (congrArg some (decide_eq_false hm)), trivial⟩, ⟨ws (hmk _ (by omega)) hq3 d rfl rfl rfl rfl rfl, trivial⟩, trivial⟩ hS rfl fun ac g w hS => ?_
    refine wp_cond_false (hS.f.frm.eval rfl) ?_
    refine wp_skip ?_
    refine bz ?_
    exact ⟨g, hS.to ⟨rfl, rfl, rfl, rfl, rfl, trivial⟩⟩
   ·skip
    refine rw_ mo [e0 3 [(33, eP K.bb 2)] (eP K.br 0), e0 6 [(36, eP K.br 1)] (eqS (.map (some K.bm))), e0 8 [(38, ndS t1)] (ndS t1), e0 9 [(39, ndS t1)] (nfS t1 3), e0 10 [(40, nfS t1 3)] (eqS (vT (txt t1))), e0 11 [(37, eqS (.map (some K.bm))), (41, eqS (vT (txt t1)))] (eI (tl K.met (txt t1))), e0 12 [(42, eI (tl K.met (txt t1)))] (eqS vf), e1 16 [(44, eqS vf), (45, eP K.bb 0), (46, ndS t1)] (eqS vt)] [0, 6, 7, 8, 9, 48] (Bl [stB (bdR K (st mi (txt t1) 2)) [], stB (bdR K m3) []]) 1 [(0, eP K.bb 0), (6, ndS t1), (7, nsS l), (8, eI l.length), (9, eI j), (48, eqS vt)] ⟨⟨iP rfl 2 rfl rfl Tryd.underlying80 rfl rfl, trivial⟩, ⟨m9 rfl rfl rfl, trivial⟩, ⟨cP rfl rfl, trivial⟩, ⟨dB rfl rfl sz9 cI rfl rfl, trivial⟩, ⟨iI rfl rfl, trivial⟩, ⟨t6 rfl rfl rfl rfl, trivial⟩, ⟨bS rfl rfl rfl (congrArg some (decide_eq_false hm)), trivial⟩, ⟨ws (hmk _ (by omega)) hq3 d rfl rfl rfl rfl rfl, trivial⟩, trivial⟩ hS rfl fun ac g w hS => ?_
    refine wp_cond_true (hS.f.frm.eval rfl) ?_
    refine rw_ mo [e0 3 [(51, eP K.bb 3)] (eqS (.map (some K.bt))), e0 5 [(53, ndS t1)] (ndS t1), e0 6 [(54, ndS t1)] (nfS t1 3), e0 7 [(55, nfS t1 3)] (eqS (vT (txt t1))), e1 8 [(52, eqS (.map (some K.bt))), (56, eqS (vT (txt t1)))] bM] [0, 6, 7, 8, 9] (Bl [stB (bdR K m3) [], stB (bdR K (st m3 (txt t1) 1)) []]) 1 [(0, eP K.bb 0), (6, ndS t1), (7, nsS l), (8, eI l.length), (9, eI j)] ⟨⟨iP rfl 3 rfl rfl ij rfl rfl, trivial⟩, ⟨cP rfl rfl, trivial⟩, ⟨dB rfl rfl sz9 cI rfl rfl, trivial⟩, ⟨iI rfl rfl, trivial⟩, ⟨qs rfl rfl rfl rfl rfl rfl, trivial⟩, trivial⟩ hS rfl fun ac g w hS => ?_
    refine bz ?_
    exact ⟨g, hS.to ⟨rfl, rfl, rfl, rfl, rfl, trivial⟩⟩
  ·have h0 := of_decide_eq_false h
   clear h
   obtain rfl : m4 = mi := by rcases b with ⟨_, h⟩ | ⟨h, _⟩; exact h; exact absurd h h0
   refine wp_skip ?_
   refine bz ?_
   exact ⟨g, hS.to ⟨rfl, rfl, rfl, rfl, rfl, trivial⟩⟩
 ·have hc := of_decide_eq_false h
  clear h
  rw [List.drop_eq_nil_of_le (by omega)] at hq
  obtain ⟨rfl, rfl⟩ := vd hq
  refine wp_exit ?_
  refine bG ?_
  refine bG ?_
  refine bZ ?_
  refine wp_seq ?_
  refine rz hS [] [0, 4, 7, 8, 9] [(0, eP K.bb 0), (4, eqS vt), (7, nsS l), (8, eI l.length), (9, eI j)] trivial fun ac g w hS => ?_
  refine wp_ret ?_
  exact bv hS.f.frm (bw Tryd.results45 (RV.tmp hS.f.frm rfl)) ⟨rfl, eC hS⟩
theorem mM {T0 : World → Prop} {nb : Nat} (hT : ∀ w w', Below nb w w' → T0 w → T0 w') {W : Wd} {met : bX} {f : Nat} (hmk : ∀ g, g < f → jg T0 nb W met g) : dc T0 nb W met f := by
 intro l m m' r bb bt br bm rl ad cap xs w hl hq hfit hnb hnbt hw hbd hm hsl hns
 exact sO (K := ⟨T0, nb, hT, W, met, bb, bt, br, bm, rl⟩) hmk w (fun x hx => by rw [List.mem_singleton.1 hx]; exact hm.lt) (mN hnb hnbt hw hbd hm) hl hq hfit ⟨xs, hsl, hns⟩
theorem qr {T0 : World → Prop} {nb : Nat} (hT : ∀ w w', Below nb w w' → T0 w → T0 w') (hj : cG) {W : Wd} {met : bX} {f : Nat} (ih : ∀ g, g < f → dc T0 nb W met g) : jg T0 nb W met f := by
 intro t m m' r bb bt br bm bn rl w hany hfit hnb hnbt hw hbd hm hnd
 exact nw (K := ⟨T0, nb, hT, W, met, bb, bt, br, bm, rl⟩) hj ih w (fun x hx => by rw [List.mem_singleton.1 hx]; exact hm.lt) (mN hnb hnbt hw hbd hm) hany hfit hnd
theorem iA {T0 : World → Prop} {nb : Nat} (hT : ∀ w w', Below nb w w' → T0 w → T0 w') (hjoin : cG) {W : Wd} {met : bX} (f : Nat) : dc T0 nb W met f := by
 induction f using Nat.strongRecOn with
 | _ f ih => exact mM hT fun g hg => qr hT hjoin fun g' hg' => ih g' (Nat.lt_trans hg' hg)
end Go.Mi.Term
