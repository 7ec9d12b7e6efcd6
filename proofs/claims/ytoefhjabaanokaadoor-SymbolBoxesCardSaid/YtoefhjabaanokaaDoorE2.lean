/- Texts that belong together: N1, N2, N3. General lemmas and walks; no conditions. -/
import Derived.Test.YtoefhjabaanokaaDoorE1
import Derived.Test.YtoefhjabaanokaaDoorB6
set_option linter.unusedSimpArgs false
set_option linter.unusedVariables false
set_option linter.unnecessarySimpa false
namespace Go.Mi.Term
open Go.Mi Go.Proofs Go.RowKit
abbrev ndS (t : Tm) : Sp TT := .pr ⟨fun g w v => IsN w g.X t v, fun h k => IsN.mv k.ch (Gh.sub _) k.X _ _ h⟩
abbrev nsS (ts : List Tm) : Sp TT := .pr ⟨fun g w v => ∃ xs, SlA w g.X v ts.length xs ∧ IsNs w g.X ts xs, fun ⟨xs, h1, h2⟩ k => ⟨xs, h1.mv k.ch (Gh.sub _) k.X, IsNs.mv k.ch (Gh.sub _) k.X _ _ h2⟩⟩
abbrev nfS (t : Tm) (j : Nat) : Sp TT := .pr ⟨fun g w v => ∃ b, v = vP b j ∧ IsN w g.X t (vp b), fun ⟨b, h1, h2⟩ k => ⟨b, h1, IsN.mv k.ch (Gh.sub _) k.X _ _ h2⟩⟩
abbrev npS (t : Tm) : Sp TT := .pr ⟨fun g w v => ∃ b o u, v = vP b o ∧ b ∉ g.X ∧ b < w.heap.size ∧ At w b o [u] ∧ IsN w g.X t u, fun ⟨b, o, u, h1, h2, h3, h4, h5⟩ k => ⟨b, o, u, h1, fun hm => by
  rcases k.X b hm with h | h
  · exact h2 h
  · omega, Nat.lt_of_lt_of_le h3 k.ch.size, h4.mv k.ch fun hm => h2 (Gh.sub _ b hm), IsN.mv k.ch (Gh.sub _) k.X _ _ h5⟩⟩
abbrev cnS (t : Tm) : Sp TT := .pr ⟨fun g w v => ∃ u, v = .agg #[u] ∧ IsN w g.X t u, fun ⟨u, h1, h2⟩ k => ⟨u, h1, IsN.mv k.ch (Gh.sub _) k.X _ _ h2⟩⟩
abbrev fbS (k : Nat) : Sp TT := .pr ⟨fun g _ v => ∃ c, g.N[k]? = some (vp c) ∧ v = .func (.func 95) #[] #[vp c], fun ⟨c, h1, h2⟩ h => ⟨c, nth_st h1 h, h2⟩⟩
structure Bk where
  T : World → Prop
  nb : Nat
  hT : ∀ w w', Below nb w w' → T w → T w'
  W : Wd
  met : Told
  bb : Nat
  bt : Nat
  br : Nat
  bm : Nat
  rl : Value
def bdR (K : Bk) (m : Told) : RX := ⟨fun g w => g.F = [K.bt] ∧ (∀ x, x ∈ g.X → K.nb ≤ x) ∧ K.nb ≤ w.heap.size ∧ K.T w ∧ Bd w K.W K.met K.bb K.bt K.br K.bm K.rl ∧ MapIs w K.bt m ∧ ∀ x, x ∈ [K.bb, K.br, K.bm] → x ∉ g.X ∧ x < w.heap.size, fun {g g' w w' C} ⟨h1, h2, h3, h4, h5, h6, h7⟩ k hc hf _ hx _ => by
  have hC : ∀ x, x ∈ [K.bb, K.br, K.bm] → x ∉ C := fun x hm hx' => (h7 x hm).1 (hc x hx').1
  refine ⟨hf.trans h1, fun x hm => ?_, Nat.le_trans h3 k.size, K.hT w w' (Ch.below k h3 fun c hm => h2 c (hc c hm).1) h4, h5.mv k (hC _ (by simp)) (hC _ (by simp)) (hC _ (by simp)), h6.mv k fun hm => (hc _ hm).2.1 (by rw [h1]; simp), fun x hm => ⟨fun hm' => ?_, Nat.lt_of_lt_of_le (h7 x hm).2 k.size⟩⟩
  · rcases hx x hm with h | h
    · exact h2 x h
    · omega
  · have := h7 x hm
    rcases hx x hm' with h | h
    · exact this.1 h
    · omega⟩
theorem IsN.sub {w : World} {X X' : List Nat} {t : Tm} {v : Value} (h : IsN w X t v) (hs : ∀ x, x ∈ X' → x ∈ X) : IsN w X' t v := IsN.mv (Ch.refl [] w) (by simp) (fun x hx => .inl (hs x hx)) _ _ h
theorem IsNs.sub {w : World} {X X' : List Nat} {t : List Tm} {v : List Value} (h : IsNs w X t v) (hs : ∀ x, x ∈ X' → x ∈ X) : IsNs w X' t v := IsNs.mv (Ch.refl [] w) (by simp) (fun x hx => .inl (hs x hx)) _ _ h
theorem SlA.sub {w : World} {X X' : List Nat} {v : Value} {n : Nat} {xs : List Value} (h : SlA w X v n xs) (hs : ∀ x, x ∈ X' → x ∈ X) : SlA w X' v n xs := h.mv (Ch.refl [] w) (by simp) fun x hx => .inl (hs x hx)
theorem zi3 : (Tryd.prog.info? 3).bind (·.zero) = some (.int .i64 0) := by kernel_rfl
section
set_option maxRecDepth 100000
variable {ops : List Oper} {n : Nat} {B : Nat → BX XX} {i p k : Nat} {L : TL TT} {ph : List Nat} {ρ : RX} {ns : List (Nat × Sp TT)} {ds : Option Tmp} {pos : String} {af : Array Edge} {gu : Option (Nat × Bool)} {t ty : TypeId} {x y z : Operand} {K : Bk} {m m' : Told} {tm : Tm} {ts : List Tm}
theorem q_nlN (hop : ops.getD i default = ⟨ds, .nilCheck x, t, pos, af, gu⟩) (hx : spO L x = some (ndS tm)) : EOb Tryd.prog n ops XX B ⟨i, L, ndS tm, ph, false⟩ p := q_val fun ξ g w hB hH => by
  rw [hop]
  obtain ⟨v, h1, h2⟩ := spO_ev hx hH
  obtain ⟨b, rfl, _⟩ := IsN.ptr h2
  exact ⟨_, h2, Term.d_nil h1⟩
theorem q_nf {f : Nat} {fs : Array Field} {fd : Field} {q s : Nat} (hop : ops.getD i default = ⟨ds, .fieldAddr 112 x f, t, pos, af, gu⟩) (hx : spO L x = some (ndS tm)) (hs : (Tryd.prog.info? fd.type).map (·.size) = some (s + 1)) (hu : Tryd.prog.underlying 112 = some (.struct fs)) (hf : fs[f]? = some fd) (hq : fd.offset = q) : EOb Tryd.prog n ops XX B ⟨i, L, nfS tm q, ph, false⟩ p := q_val fun ξ g w hB hH => by
  rw [hop]
  obtain ⟨v, h1, h2⟩ := spO_ev hx hH
  obtain ⟨b, rfl, _⟩ := IsN.ptr h2
  exact ⟨_, ⟨b, rfl, h2⟩, d_fieldAddrQ hu hs hf h1 (by rw [hq, Nat.zero_add])⟩
theorem q_nk {kk nn : Int} {ks : List Tm} (hop : ops.getD i default = ⟨ds, .load 3 x, t, pos, af, gu⟩) (hx : spO L x = some (nfS (.mk kk nn ks) 0)) : EOb Tryd.prog n ops XX B ⟨i, L, eqS (vI kk), ph, false⟩ p := q_val fun ξ g w hB hH => by
  rw [hop]
  obtain ⟨v, h1, b, rfl, h2⟩ := spO_ev hx hH
  obtain ⟨sl, xs, _, h4, _⟩ := h2.open
  exact ⟨_, rfl, d_load1 Tryd.underlying3 rfl h1 (h4 0 _ rfl)⟩
theorem q_nks {kk nn : Int} {ks : List Tm} (hop : ops.getD i default = ⟨ds, .load 110 x, t, pos, af, gu⟩) (hx : spO L x = some (nfS (.mk kk nn ks) 2)) : EOb Tryd.prog n ops XX B ⟨i, L, nsS ks, ph, false⟩ p := q_val fun ξ g w hB hH => by
  rw [hop]
  obtain ⟨v, h1, b, rfl, h2⟩ := spO_ev hx hH
  obtain ⟨sl, xs, _, h4, h5, h6⟩ := h2.open
  exact ⟨sl, ⟨xs, h5, h6⟩, d_load1 Tryd.underlying110 rfl h1 (h4 2 _ rfl)⟩
theorem q_ntx (hop : ops.getD i default = ⟨ds, .load 9 x, t, pos, af, gu⟩) (hx : spO L x = some (nfS tm 3)) : EOb Tryd.prog n ops XX B ⟨i, L, eqS (vT (txt tm)), ph, false⟩ p := q_val fun ξ g w hB hH => by
  rw [hop]
  obtain ⟨v, h1, b, rfl, h2⟩ := spO_ev hx hH
  obtain ⟨b', _, _, _, e, _, h4⟩ := h2.form
  cases e
  exact ⟨_, rfl, d_load1 Tryd.underlying9 rfl h1 (h4 3 _ rfl)⟩
theorem q_nix {j : Nat} (hop : ops.getD i default = ⟨ds, .indexAddr 110 x y, t, pos, af, gu⟩) (hx : spO L x = some (nsS ts)) (hy : spO L y = some (eqS (vI j))) (ht : ts[j]? = some tm) : EOb Tryd.prog n ops XX B ⟨i, L, npS tm, ph, false⟩ p := q_val fun ξ g w hB hH => by
  rw [hop]
  obtain ⟨v, h1, xs, h2, h3⟩ := spO_ev hx hH
  have hj : j < ts.length := by
    rcases Nat.lt_or_ge j ts.length with h | h
    · exact h
    · rw [List.getElem?_eq_none h] at ht; cases ht
  obtain ⟨b, o, cap, rfl, h4, h5, h6⟩ := h2.some (by omega)
  obtain ⟨u, h7, h8⟩ := h3.at _ _ ht
  refine ⟨_, ⟨b, o + j, u, rfl, h4, h5, fun q u' hu => ?_, h8⟩, d_ixS Tryd.underlying110 sz83 h1 (spO_eq hy) rfl hj⟩
  cases q with
  | zero => simp at hu; subst hu; exact h6 j _ h7
  | succ q => simp at hu
theorem q_nld (hop : ops.getD i default = ⟨ds, .load 83 x, t, pos, af, gu⟩) (hx : spO L x = some (npS tm)) : EOb Tryd.prog n ops XX B ⟨i, L, ndS tm, ph, false⟩ p := q_val fun ξ g w hB hH => by
  rw [hop]
  obtain ⟨v, h1, b, o, u, rfl, _, _, h4, h5⟩ := spO_ev hx hH
  exact ⟨u, h5, d_load1 Tryd.underlying83 rfl h1 (h4 0 _ rfl)⟩
theorem q_nlen (hop : ops.getD i default = ⟨ds, .call ⟨.builtin .len, #[x], #[110]⟩, t, pos, af, gu⟩) (hx : spO L x = some (nsS ts)) : EOb Tryd.prog n ops XX B ⟨i, L, eqS (vI ts.length), ph, false⟩ p := q_val fun ξ g w hB hH => by
  rw [hop]
  obtain ⟨v, h1, xs, h2, _⟩ := spO_ev hx hH
  obtain ⟨ad, cap, rfl, _⟩ := h2.form
  exact ⟨_, rfl, d_len_slice Tryd.underlying110 h1⟩
theorem m_boxN (hB0 : B p = stB ρ ns) (hB1 : B (p + 1) = stB ρ (ns ++ [(83, cnS tm)])) (hop : ops.getD i default = ⟨ds, .box 83 x, t, pos, af, gu⟩) (hx : spO L x = some (ndS tm)) (hk : ns.length = k) : EOb Tryd.prog n ops XX B ⟨i, L, nwS k, ph, true⟩ p := by
  subst hk
  intro ξ g w hB hH
  rw [hB0] at hB
  have hB : StB ρ ns g w := hB
  show Ok1 Tryd.prog (ops.getD i default) _ _ _ _
  rw [hop]
  obtain ⟨v, h1, h2⟩ := spO_ev hx hH
  obtain ⟨b0, rfl, _⟩ := IsN.ptr h2
  refine (ok_box h1).mono ?_
  rintro v' w' ⟨b, rfl, hn⟩
  obtain ⟨h1, h2⟩ := hB.new hn (sp := cnS tm) ⟨_, rfl, h2⟩
  refine ⟨_, ⟨h1, ?_⟩, ?_⟩
  · show (B (p + 1)).P _ _
    rw [hB1]; exact h2
  · show (g.N ++ [vp b])[ns.length]? = some (vp b)
    rw [← hB.len]; simp
theorem q_ldcN (hB0 : B p = stB ρ ns) (hop : ops.getD i default = ⟨ds, .load 83 x, t, pos, af, gu⟩) (hx : spO L x = some (nwS k)) (hk : ns[k]? = some (83, cnS tm)) : EOb Tryd.prog n ops XX B ⟨i, L, ndS tm, ph, false⟩ p := q_val fun ξ g w hB hH => by
  rw [hB0] at hB
  have hB : StB ρ ns g w := hB
  rw [hop]
  obtain ⟨vx, h1, h2⟩ := spO_ev hx hH
  have h2 : g.N[k]? = some vx := h2
  obtain ⟨b, c, h5, _, h7, u, e, h9⟩ := hB.cell k _ hk (show (83 : Nat) ≠ 0 by decide)
  rw [h5] at h2
  cases h2
  cases e
  exact ⟨u, h9, d_load1 Tryd.underlying83 rfl h1 (by rw [cell_blk h7]; rfl)⟩
theorem q_fb (hB0 : B p = stB ρ ns) (hop : ops.getD i default = ⟨ds, .makeFunc (.func 95) #[] #[x], t, pos, af, gu⟩) (hx : spO L x = some (nwS k)) (hk : ns[k]? = some (83, cnS tm)) : EOb Tryd.prog n ops XX B ⟨i, L, fbS k, ph, false⟩ p := q_val fun ξ g w hB hH => by
  rw [hB0] at hB
  have hB : StB ρ ns g w := hB
  rw [hop]
  obtain ⟨vx, h1, h2⟩ := spO_ev hx hH
  obtain ⟨c, _, h5, _⟩ := hB.cell k _ hk (show (83 : Nat) ≠ 0 by decide)
  have h2 : g.N[k]? = some vx := h2
  rw [h5] at h2
  cases h2
  exact ⟨_, ⟨c, h5, rfl⟩, d_makeFunc (us := []) (vs := [vp c]) rfl (by simp only [evs, h1])⟩
theorem q_bd (hB0 : B p = stB (bdR K m) ns) (j : Nat) {ty : TypeId} {d : TypeDesc} {v : Value} (hop : ops.getD i default = ⟨ds, .load ty x, t, pos, af, gu⟩) (hx : spO L x = some (eqS (vP K.bb j))) (ht : Tryd.prog.underlying ty = some d) (hf : TypeDesc.flat d = true) (hv : [Value.bool K.W.dh, .bool K.W.kem, vp K.br, .map (some K.bt)][j]? = some v) : EOb Tryd.prog n ops XX B ⟨i, L, eqS v, ph, false⟩ p := q_val fun ξ g w hB hH => by
  rw [hB0] at hB
  have hB : StB (bdR K m) ns g w := hB
  rw [hop]
  exact ⟨v, rfl, d_load1 ht hf (spO_eq hx) (by have := hB.run.2.2.2.2.1.1 j v hv; rwa [Nat.zero_add] at this)⟩
theorem q_bmet (hB0 : B p = stB (bdR K m) ns) (hop : ops.getD i default = ⟨ds, .load 114 x, t, pos, af, gu⟩) (hx : spO L x = some (eqS (vP K.br 1))) : EOb Tryd.prog n ops XX B ⟨i, L, eqS (.map (some K.bm)), ph, false⟩ p := q_val fun ξ g w hB hH => by
  rw [hB0] at hB
  have hB : StB (bdR K m) ns g w := hB
  rw [hop]
  exact ⟨_, rfl, d_load1 Tryd.underlying114 rfl (spO_eq hx) (hB.run.2.2.2.2.1.2.1 1 _ rfl)⟩
theorem q_tl {tx : Tx} (hB0 : B p = stB (bdR K m) ns) (hop : ops.getD i default = ⟨ds, .lookup 114 x y false, t, pos, af, gu⟩) (hx : spO L x = some (eqS (.map (some K.bt)))) (hy : spO L y = some (eqS (vT tx))) : EOb Tryd.prog n ops XX B ⟨i, L, eqS (vI (tl m tx)), ph, false⟩ p := q_val fun ξ g w hB hH => by
  rw [hB0] at hB
  have hB : StB (bdR K m) ns g w := hB
  rw [hop]
  exact ⟨_, rfl, d_lookup Tryd.underlying114 Tryd.underlying9 zi3 (spO_eq hx) (spO_eq hy) hB.run.2.2.2.2.2.1⟩
theorem q_tm {tx : Tx} (hB0 : B p = stB (bdR K m) ns) (hop : ops.getD i default = ⟨ds, .lookup 114 x y false, t, pos, af, gu⟩) (hx : spO L x = some (eqS (.map (some K.bm)))) (hy : spO L y = some (eqS (vT tx))) : EOb Tryd.prog n ops XX B ⟨i, L, eqS (vI (tl K.met tx)), ph, false⟩ p := q_val fun ξ g w hB hH => by
  rw [hB0] at hB
  have hB : StB (bdR K m) ns g w := hB
  rw [hop]
  exact ⟨_, rfl, d_lookup Tryd.underlying114 Tryd.underlying9 zi3 (spO_eq hx) (spO_eq hy) hB.run.2.2.2.2.1.2.2.1⟩
theorem StB.told {g : Gh} {w w' : World} (hB : StB (bdR K m) ns g w) (h1 : MapIs w' K.bt m') (h2 : Ch [K.bt] w w') : TT g w g w' ∧ StB (bdR K m') ns g w' := by
  obtain ⟨a1, a2, a3, a4, a5, a6, a7⟩ := hB.run
  have hm : K.bt ∈ g.X := by simp [Gh.X, a1]
  have hn : ∀ x, x ∈ [K.bb, K.br, K.bm] → x ∉ [K.bt] := fun x hx hx' => (a7 x hx).1 (by rw [List.mem_singleton.1 hx']; exact hm)
  have := hB.run' (ρ' := bdR K m') (g' := g) (w' := w') (l := []) (l' := []) (by rw [a1]; exact h2) (fun x hx => .inl hx) (fun x hx => Nat.lt_of_lt_of_le (hB.wf.lt x (by simp [Gh.X, hx])) h2.size) rfl rfl (by simp) rfl (by simp) (by simp)
    ⟨a1, a2, Nat.le_trans a3 h2.size, K.hT w w' (Ch.below h2 a3 fun y hy => by rw [List.mem_singleton.1 hy]; exact a2 _ hm) a4, a5.mv h2 (hn _ (by simp)) (hn _ (by simp)) (hn _ (by simp)), h1, fun x hx => ⟨(a7 x hx).1, Nat.lt_of_lt_of_le (a7 x hx).2 h2.size⟩⟩
  exact ⟨this.1, by simpa using this.2⟩
theorem m_tst {tx : Tx} {v : Int} (hB0 : B p = stB (bdR K m) ns) (hB1 : B (p + 1) = stB (bdR K (st m tx v)) ns) (hop : ops.getD i default = ⟨ds, .mapUpdate 114 x y z, t, pos, af, gu⟩) (hx : spO L x = some (eqS (.map (some K.bt)))) (hy : spO L y = some (eqS (vT tx))) (hz : spO L z = some (eqS (vI v))) : EOb Tryd.prog n ops XX B ⟨i, L, topS, ph, true⟩ p := by
  intro ξ g w hB hH
  rw [hB0] at hB
  have hB : StB (bdR K m) ns g w := hB
  show Ok1 Tryd.prog (ops.getD i default) _ _ _ _
  rw [hop]
  refine (ok_mapUpdate Tryd.underlying114 Tryd.underlying9 (spO_eq hx) (spO_eq hy) (spO_eq hz) hB.run.2.2.2.2.2.1).mono ?_
  rintro v' w' ⟨h1, h2⟩
  obtain ⟨k1, k2⟩ := hB.told h1 h2
  exact ⟨g, ⟨k1, by show (B (p + 1)).P _ _; rw [hB1]; exact k2⟩, trivial⟩
theorem m_bl {f : Nat} {c : Bool} {tys : Array TypeId} (hb : BuildsOk K.T K.nb K.W K.met f) (hbl : bl K.W K.met f ts m = some (c, m')) (hl : ts.length ≤ 1000) (hfit : ∀ t, t ∈ ts → Fit t) (hB0 : B p = stB (bdR K m) ns) (hB1 : B (p + 1) = stB (bdR K m') ns) (hop : ops.getD i default = ⟨ds, .call ⟨.value (.func 45), #[x, y], tys⟩, t, pos, af, gu⟩) (hx : spO L x = some (eqS (vp K.bb))) (hy : spO L y = some (nsS ts)) : EOb Tryd.prog n ops XX B ⟨i, L, eqS (.bool c), ph, true⟩ p := by
  intro ξ g w hB hH
  rw [hB0] at hB
  have hB : StB (bdR K m) ns g w := hB
  show Ok1 Tryd.prog (ops.getD i default) _ _ _ _
  rw [hop]
  obtain ⟨a1, a2, a3, a4, a5, a6, a7⟩ := hB.run
  obtain ⟨vy, e2, xs, h8, h9⟩ := spO_ev hy hH
  obtain ⟨ad, cap, rfl, _⟩ := h8.form
  have hs : ∀ x, x ∈ [K.bt] → x ∈ g.X := fun x hx => by rw [List.mem_singleton.1 hx]; simp [Gh.X, a1]
  refine (ok_call c45 (by simp only [evs, spO_eq hx, e2]) (hb ts m m' c _ _ _ _ _ ad cap xs w hl hbl hfit a3 (a2 _ (hs _ (by simp))) a4 a5 a6 (h8.sub hs) (h9.sub hs))).mono ?_
  rintro v w' ⟨rfl, k1, k2⟩
  obtain ⟨k1, k2⟩ := hB.told k1 k2
  exact ⟨g, ⟨k1, by show (B (p + 1)).P _ _; rw [hB1]; exact k2⟩, rfl⟩
theorem m_mk {f : Nat} {c : Bool} {tys : Array TypeId} (hb : MakesOk K.T K.nb K.W K.met f) (hbl : anyOf K.W K.met f (ways K.W tm) m = some (c, m')) (hfit : Fit tm) (hB0 : B p = stB (bdR K m) ns) (hB1 : B (p + 1) = stB (bdR K m') ns) (hop : ops.getD i default = ⟨ds, .call ⟨.value (.func 82), #[x, y], tys⟩, t, pos, af, gu⟩) (hx : spO L x = some (eqS (vp K.bb))) (hy : spO L y = some (ndS tm)) : EOb Tryd.prog n ops XX B ⟨i, L, eqS (.bool c), ph, true⟩ p := by
  intro ξ g w hB hH
  rw [hB0] at hB
  have hB : StB (bdR K m) ns g w := hB
  show Ok1 Tryd.prog (ops.getD i default) _ _ _ _
  rw [hop]
  obtain ⟨a1, a2, a3, a4, a5, a6, a7⟩ := hB.run
  obtain ⟨vy, e2, h8⟩ := spO_ev hy hH
  have h8 : IsN w g.X tm vy := h8
  obtain ⟨bn, rfl, _⟩ := IsN.ptr h8
  have hs : ∀ x, x ∈ [K.bt] → x ∈ g.X := fun x hx => by rw [List.mem_singleton.1 hx]; simp [Gh.X, a1]
  refine (ok_call c82 (by simp only [evs, spO_eq hx, e2]) (hb tm m m' c _ _ _ _ bn _ w hbl hfit a3 (a2 _ (hs _ (by simp))) a4 a5 a6 (h8.sub hs))).mono ?_
  rintro v w' ⟨rfl, k1, k2⟩
  obtain ⟨k1, k2⟩ := hB.told k1 k2
  exact ⟨g, ⟨k1, by show (B (p + 1)).P _ _; rw [hB1]; exact k2⟩, rfl⟩
theorem q_pub {j : Nat} {kk nn : Int} {ks : List Tm} {t1 : Tm} {tys : Array TypeId} (hj : JoinOk) (hw : tlen t1 ≤ 1099511600000) (ht : ks[j]? = some t1) (hB0 : B p = stB (bdR K m) ns) (hop : ops.getD i default = ⟨ds, .call ⟨.value x, #[y], tys⟩, t, pos, af, gu⟩) (hx : spO L x = some (fbS k)) (hk : ns[k]? = some (83, cnS (.mk kk nn ks))) (hy : spO L y = some (eqS (vI j))) : EOb Tryd.prog n ops XX B ⟨i, L, ndS (pubOf t1), ph, false⟩ p := q_of fun ξ g w hB hH => by
  rw [hB0] at hB
  have hB : StB (bdR K m) ns g w := hB
  rw [hop]
  obtain ⟨a1, a2, a3, a4, a5, a6, a7⟩ := hB.run
  obtain ⟨vx, h1, c, h2, rfl⟩ := spO_ev hx hH
  obtain ⟨b, cs, h5, _, h7, u, e, h9⟩ := hB.cell k _ hk (show (83 : Nat) ≠ 0 by decide)
  rw [h5] at h2
  cases h2
  cases e
  have h9 : IsN w g.X (.mk kk nn ks) u := h9
  obtain ⟨bn, rfl, _, h9⟩ := IsN.ptr h9
  obtain ⟨sl, xs, _, h10, h11, h12⟩ := h9.open
  have hjl : j < ks.length := by
    rcases Nat.lt_or_ge j ks.length with h | h
    · exact h
    · rw [List.getElem?_eq_none h] at ht; cases ht
  obtain ⟨b1, o1, cap, rfl, _, _, l⟩ := h11.some (by omega)
  obtain ⟨u, d, a⟩ := h12.at _ _ ht
  obtain ⟨bk, rfl, _⟩ := IsN.ptr a
  have f := pub_calls (T0 := K.T) (nb := K.nb) K.hT hj (wrk_pub hw) w a3 a4 hB.wf.lt (by rw [cell_blk h7]; rfl) h10 rfl l hjl d a
  refine ok_callv (vs := [vI j]) h1 c95 (by simp only [evs, spO_eq hy]) ?_
  have e : (#[] ++ [vI (j : Int)].toArray) ++ #[vp c] = [vI (j : Int), vp c].toArray := by simp
  rw [e]
  refine f.mono ?_
  intro en w' he
  obtain ⟨v, e1, e2, e3⟩ := he
  exact ⟨v, e1, e3, e2⟩
theorem q_made2 {kk : Int} {a b : Tm} {tys : Array TypeId} (hj : JoinOk) (hw : WrK K.T kk 0 [a, b]) (hB0 : B p = stB (bdR K m) ns) (hop : ops.getD i default = ⟨ds, .call ⟨.value (.func 96), #[x, y], tys⟩, t, pos, af, gu⟩) (hx : spO L x = some (eqS (vI kk))) (hy : spO L y = some (nsS [a, b])) : EOb Tryd.prog n ops XX B ⟨i, L, ndS (.mk kk 0 [a, b]), ph, false⟩ p := q_of fun ξ g w hB hH => by
  rw [hB0] at hB
  have hB : StB (bdR K m) ns g w := hB
  rw [hop]
  obtain ⟨a1, a2, a3, a4, a5, a6, a7⟩ := hB.run
  obtain ⟨vy, e2, xs, h8, h9⟩ := spO_ev hy hH
  obtain ⟨ad, cap, rfl, _⟩ := h8.form
  refine (ok_call c96 (by simp only [evs, spO_eq hx, e2]) (made_calls K.hT hj hw w a3 a4 hB.wf.lt h8 h9)).mono ?_
  exact fun v w' ⟨h1, h2⟩ => ⟨h2, h1⟩
theorem ns_new {g : Gh} {w w' : World} {b len : Nat} {c : Array Value} {ts : List Tm} (hw : Wf g w) (h : NewB w w' b c 83) (hl : len = ts.length) (hc : IsNs w g.X ts c.toList) : Gr w w' ∧ ∃ xs, SlA w' g.X (.slice (some ⟨b, 0, none⟩) len len) ts.length xs ∧ IsNs w' g.X ts xs := by
  subst hl
  refine ⟨h.ch.gr, _, .inr ⟨b, 0, _, rfl, fun hm => ?_, h.lt, h.at⟩, IsNs.mv h.ch (by simp) (fun x hx => .inl hx) _ _ hc⟩
  have := hw.lt b hm
  have := h.num
  omega
theorem q_nb1 {t1 : Tm} {z1 : Operand} (hB0 : B p = stB ρ ns) (hop : ops.getD i default = ⟨ds, .buildSlice 110 1 #[(0, z1)], t, pos, af, gu⟩) (h1 : spO L z1 = some (ndS t1)) : EOb Tryd.prog n ops XX B ⟨i, L, nsS [t1], ph, false⟩ p := q_of fun ξ g w hB hH => by
  rw [hB0] at hB
  have hB : StB ρ ns g w := hB
  rw [hop]
  obtain ⟨v1, e1, k1⟩ := spO_ev h1 hH
  have k1 : IsN w g.X t1 v1 := k1
  obtain ⟨b1, rfl, _⟩ := IsN.ptr k1
  refine (ok_buildSlice Tryd.underlying110 zz83 (ps := [(0, vp b1)]) (by simp [evp, e1]) (by decide) (by decide) (fill1 rfl)).mono ?_
  rintro v w' ⟨b, rfl, hn⟩
  exact ns_new hB.wf hn rfl (IsNs.one k1)
theorem q_nb2 {t1 t2 : Tm} {z1 z2 : Operand} (hB0 : B p = stB ρ ns) (hop : ops.getD i default = ⟨ds, .buildSlice 110 2 #[(0, z1), (1, z2)], t, pos, af, gu⟩) (h1 : spO L z1 = some (ndS t1)) (h2 : spO L z2 = some (ndS t2)) : EOb Tryd.prog n ops XX B ⟨i, L, nsS [t1, t2], ph, false⟩ p := q_of fun ξ g w hB hH => by
  rw [hB0] at hB
  have hB : StB ρ ns g w := hB
  rw [hop]
  obtain ⟨v1, e1, k1⟩ := spO_ev h1 hH
  obtain ⟨v2, e2, k2⟩ := spO_ev h2 hH
  have k1 : IsN w g.X t1 v1 := k1
  have k2 : IsN w g.X t2 v2 := k2
  obtain ⟨b1, rfl, _⟩ := IsN.ptr k1
  obtain ⟨b2, rfl, _⟩ := IsN.ptr k2
  refine (ok_buildSlice Tryd.underlying110 zz83 (ps := [(0, vp b1), (1, vp b2)]) (by simp [evp, e1, e2]) (by decide) (by decide) (fill2 rfl rfl)).mono ?_
  rintro v w' ⟨b, rfl, hn⟩
  exact ns_new hB.wf hn rfl (IsNs.of_two k1 k2)
end
theorem bd_enter {K : Bk} {m : Told} {w : World} (hnb : K.nb ≤ w.heap.size) (hnbt : K.nb ≤ K.bt) (hT : K.T w) (hbd : Bd w K.W K.met K.bb K.bt K.br K.bm K.rl) (hm : MapIs w K.bt m) : (bdR K m).P ⟨[K.bt], [], [], []⟩ w := by
  obtain ⟨h1, h2, h3, h4, h5, h6⟩ := hbd
  refine ⟨rfl, fun x hx => by simp [Gh.X] at hx; omega, hnb, hT, ⟨h1, h2, h3, h4, h5, h6⟩, hm, fun x hx => ?_⟩
  simp only [List.mem_cons, List.not_mem_nil, or_false] at hx
  have e1 := World.block_lt_of_cell? w _ (h1 0 _ rfl)
  have e2 := World.block_lt_of_cell? w _ (h2 0 _ rfl)
  have e3 := h3.lt
  rcases hx with rfl | rfl | rfl
  · exact ⟨by simpa [Gh.X] using h4, e1⟩
  · exact ⟨by simpa [Gh.X] using h5, e2⟩
  · exact ⟨by simpa [Gh.X] using h6, e3⟩
theorem bd_ret {K : Bk} {m : Told} {ns : List (Nat × Sp TT)} {L : TL TT} {n : Nat} {g : Gh} {w0 w : World} {a : Act} (h : SS L n (stB (bdR K m) ns) ⟨[K.bt], [], [], []⟩ w0 a g w) : MapIs w K.bt m ∧ Ch [K.bt] w0 w := ⟨h.b.run.2.2.2.2.2.1, h.t.ch.mono (by simp)⟩
end Go.Mi.Term
namespace Go.Mi.Term
open Go.Mi Go.Proofs Go.RowKit
set_option maxRecDepth 100000 in
set_option maxHeartbeats 4000000 in
theorem mk_dh1 {K : Bk} (hj : JoinOk) {f : Nat} (ih : ∀ g, g < f → BuildsOk K.T K.nb K.W K.met g) {m m' : Told} {v : Value} (w0 : World) (hX : ∀ x, x ∈ [K.bt] ++ [] → x < w0.heap.size) (hr : (bdR K m).P ⟨[K.bt], [], [], []⟩ w0) {n : Int} {a b : Tm} (hfit : Fit (.mk 3 n [a, b])) (hnd : IsN w0 [K.bt] (.mk 3 n [a, b]) v) {g1 : Nat} (hg1 : g1 < f) (hq1 : bl K.W K.met g1 [a, pubOf b] m = some (true, m')) : Calls Tryd.prog 82 (List.toArray [vp K.bb, v]) w0 (Ret fun v w' => v = .bool true ∧ MapIs w' K.bt m' ∧ Ch [K.bt] w0 w') := by
 refine enterR (X := []) (F := [K.bt]) (ρ := bdR K m) [eqS (vp K.bb), ndS (.mk 3 n [a, b])] hX hr ⟨rfl, hnd, trivial⟩ Tryd.func82 rfl Tryd.ntmps82 rfl fun ac hS => ?_
 refine wp_seq ?_
 refine rgl [e1 0 [(1, ndS (.mk 3 n [a, b]))] (nwS 0)] [0, 1, 3, 4] (Bl [stB (bdR K m) [], stB (bdR K m) [(83, cnS (.mk 3 n [a, b]))]]) 1 (Lo := [(0, eqS (vP K.bb 0)), (1, ndS (.mk 3 n [a, b])), (3, nwS 0), (4, eqS vf)]) (by kernel_rfl) (by kernel_rfl) ⟨⟨m_boxN rfl rfl rfl rfl rfl, trivial⟩, trivial⟩ hS rfl fun ac g w hS => ?_
 refine then_n ?_
 refine wp_seq ?_
 refine rgl0 hS [e0 0 [(3, nwS 0)] (fbS 0)] [0, 1, 3, 4, 5] (Lo := [(0, eqS (vP K.bb 0)), (1, ndS (.mk 3 n [a, b])), (3, nwS 0), (4, eqS vf), (5, fbS 0)]) (by kernel_rfl) (by kernel_rfl) ⟨⟨q_fb (k := 0) rfl rfl rfl rfl, trivial⟩, trivial⟩ fun ac g w hS => ?_
 refine then_n ?_
 refine wp_seq ?_
 refine wp_seq ?_
 refine rgl0 hS [e0 0 [(3, nwS 0)] (ndS (.mk 3 n [a, b])), e0 1 [(8, ndS (.mk 3 n [a, b]))] (ndS (.mk 3 n [a, b])), e0 2 [(9, ndS (.mk 3 n [a, b]))] (nfS (.mk 3 n [a, b]) 0), e0 3 [(10, nfS (.mk 3 n [a, b]) 0)] (eqS (vI 3))] [0, 1, 3, 4, 5, 11] (Lo := [(0, eqS (vP K.bb 0)), (1, ndS (.mk 3 n [a, b])), (3, nwS 0), (4, eqS vf), (5, fbS 0), (11, eqS (vI 3))]) (by kernel_rfl) (by kernel_rfl) ⟨⟨q_ldcN rfl rfl rfl rfl, trivial⟩, ⟨q_nlN rfl rfl, trivial⟩, ⟨q_nf rfl rfl sz3 Tryd.underlying112 rfl rfl, trivial⟩, ⟨q_nk rfl rfl, trivial⟩, trivial⟩ fun ac g w hS => ?_
 refine then_n ?_
 refine wp_block ?_
 refine wp_seq ?_
 refine rgl0 hS [] [0, 1, 3, 4, 5, 11, 12] (Lo := [(0, eqS (vP K.bb 0)), (1, ndS (.mk 3 n [a, b])), (3, nwS 0), (4, eqS vf), (5, fbS 0), (11, eqS (vI 3)), (12, eqS vf)]) (by kernel_rfl) (by kernel_rfl) trivial fun ac g w hS => ?_
 refine then_n ?_
 refine wp_cond_false (hS.f.frm.eval rfl) ?_
 refine wp_seq ?_
 refine rgl0 hS [] [0, 1, 3, 4, 5, 11, 12, 14] (Lo := [(0, eqS (vP K.bb 0)), (1, ndS (.mk 3 n [a, b])), (3, nwS 0), (4, eqS vf), (5, fbS 0), (11, eqS (vI 3)), (12, eqS vf), (14, eqS vt)]) (by kernel_rfl) (by kernel_rfl) trivial fun ac g w hS => ?_
 refine then_n ?_
 refine wp_cond_true (hS.f.frm.eval rfl) ?_
 refine wp_seq ?_
 refine rga mo [e0 1 [(3, nwS 0)] (ndS (.mk 3 n [a, b])), e0 2 [(17, ndS (.mk 3 n [a, b]))] (ndS (.mk 3 n [a, b])), e0 3 [(18, ndS (.mk 3 n [a, b]))] (nfS (.mk 3 n [a, b]) 2), e0 4 [(19, nfS (.mk 3 n [a, b]) 2)] (nsS ([a, b])), e0 5 [(20, nsS ([a, b]))] (npS a), e0 6 [(21, npS a)] (ndS a), e0 8 [(23, fbS 0)] (ndS (pubOf b)), e0 9 [(22, ndS a), (24, ndS (pubOf b))] (nsS [a, pubOf b]), e1 10 [(16, eqS (vP K.bb 0)), (25, nsS [a, pubOf b])] (eqS vt)] [0, 1, 3, 4, 5, 11, 12, 14] (Bl [stB (bdR K m) [(83, cnS (.mk 3 n [a, b]))], stB (bdR K m') [(83, cnS (.mk 3 n [a, b]))]]) 1 (Lo := [(0, eqS (vP K.bb 0)), (1, ndS (.mk 3 n [a, b])), (3, nwS 0), (4, eqS vt), (5, fbS 0), (11, eqS (vI 3)), (12, eqS vf), (14, eqS vt)]) (by kernel_rfl) (by kernel_rfl) ⟨⟨q_ldcN rfl rfl rfl rfl, trivial⟩, ⟨q_nlN rfl rfl, trivial⟩, ⟨q_nf rfl rfl sz110 Tryd.underlying112 rfl rfl, trivial⟩, ⟨q_nks rfl rfl, trivial⟩, ⟨q_nix (j := 0) rfl rfl rfl rfl, trivial⟩, ⟨q_nld rfl rfl, trivial⟩, ⟨q_pub (j := 1) (k := 0) hj (hfit.kid (by simp)).2 rfl rfl rfl rfl rfl rfl, trivial⟩, ⟨q_nb2 rfl rfl rfl rfl, trivial⟩, ⟨m_bl (ih _ hg1) hq1 (by simp) (fun t ht => hfit.way (W := K.W) (l := [a, pubOf b]) (by simp [ways]) ht) rfl rfl rfl rfl rfl, trivial⟩, trivial⟩ hS rfl fun ac g w hS => ?_
 refine then_n ?_
 refine wp_ret ?_
 refine block_ret ?_
 refine then_ret ?_
 exact body_ret hS.f.frm (results1 Tryd.results82 (RV.tmp hS.f.frm rfl)) ⟨rfl, bd_ret hS⟩
set_option maxRecDepth 100000 in
set_option maxHeartbeats 4000000 in
theorem mk_dh2 {K : Bk} (hj : JoinOk) {f : Nat} (ih : ∀ g, g < f → BuildsOk K.T K.nb K.W K.met g) {m m' : Told} {v : Value} (w0 : World) (hX : ∀ x, x ∈ [K.bt] ++ [] → x < w0.heap.size) (hr : (bdR K m).P ⟨[K.bt], [], [], []⟩ w0) {n : Int} {a b : Tm} (hfit : Fit (.mk 3 n [a, b])) (hnd : IsN w0 [K.bt] (.mk 3 n [a, b]) v) {m1 : Told} {g1 : Nat} (hg1 : g1 < f) (hq1 : bl K.W K.met g1 [a, pubOf b] m = some (false, m1)) {g2 : Nat} (hg2 : g2 < f) (hq2 : bl K.W K.met g2 [b, pubOf a] m1 = some (true, m')) : Calls Tryd.prog 82 (List.toArray [vp K.bb, v]) w0 (Ret fun v w' => v = .bool true ∧ MapIs w' K.bt m' ∧ Ch [K.bt] w0 w') := by
 refine enterR (X := []) (F := [K.bt]) (ρ := bdR K m) [eqS (vp K.bb), ndS (.mk 3 n [a, b])] hX hr ⟨rfl, hnd, trivial⟩ Tryd.func82 rfl Tryd.ntmps82 rfl fun ac hS => ?_
 refine wp_seq ?_
 refine rgl [e1 0 [(1, ndS (.mk 3 n [a, b]))] (nwS 0)] [0, 1, 3, 4] (Bl [stB (bdR K m) [], stB (bdR K m) [(83, cnS (.mk 3 n [a, b]))]]) 1 (Lo := [(0, eqS (vP K.bb 0)), (1, ndS (.mk 3 n [a, b])), (3, nwS 0), (4, eqS vf)]) (by kernel_rfl) (by kernel_rfl) ⟨⟨m_boxN rfl rfl rfl rfl rfl, trivial⟩, trivial⟩ hS rfl fun ac g w hS => ?_
 refine then_n ?_
 refine wp_seq ?_
 refine rgl0 hS [e0 0 [(3, nwS 0)] (fbS 0)] [0, 1, 3, 4, 5] (Lo := [(0, eqS (vP K.bb 0)), (1, ndS (.mk 3 n [a, b])), (3, nwS 0), (4, eqS vf), (5, fbS 0)]) (by kernel_rfl) (by kernel_rfl) ⟨⟨q_fb (k := 0) rfl rfl rfl rfl, trivial⟩, trivial⟩ fun ac g w hS => ?_
 refine then_n ?_
 refine wp_seq ?_
 refine wp_seq ?_
 refine rgl0 hS [e0 0 [(3, nwS 0)] (ndS (.mk 3 n [a, b])), e0 1 [(8, ndS (.mk 3 n [a, b]))] (ndS (.mk 3 n [a, b])), e0 2 [(9, ndS (.mk 3 n [a, b]))] (nfS (.mk 3 n [a, b]) 0), e0 3 [(10, nfS (.mk 3 n [a, b]) 0)] (eqS (vI 3))] [0, 1, 3, 4, 5, 11] (Lo := [(0, eqS (vP K.bb 0)), (1, ndS (.mk 3 n [a, b])), (3, nwS 0), (4, eqS vf), (5, fbS 0), (11, eqS (vI 3))]) (by kernel_rfl) (by kernel_rfl) ⟨⟨q_ldcN rfl rfl rfl rfl, trivial⟩, ⟨q_nlN rfl rfl, trivial⟩, ⟨q_nf rfl rfl sz3 Tryd.underlying112 rfl rfl, trivial⟩, ⟨q_nk rfl rfl, trivial⟩, trivial⟩ fun ac g w hS => ?_
 refine then_n ?_
 refine wp_block ?_
 refine wp_seq ?_
 refine rgl0 hS [] [0, 1, 3, 4, 5, 11, 12] (Lo := [(0, eqS (vP K.bb 0)), (1, ndS (.mk 3 n [a, b])), (3, nwS 0), (4, eqS vf), (5, fbS 0), (11, eqS (vI 3)), (12, eqS vf)]) (by kernel_rfl) (by kernel_rfl) trivial fun ac g w hS => ?_
 refine then_n ?_
 refine wp_cond_false (hS.f.frm.eval rfl) ?_
 refine wp_seq ?_
 refine rgl0 hS [] [0, 1, 3, 4, 5, 11, 12, 14] (Lo := [(0, eqS (vP K.bb 0)), (1, ndS (.mk 3 n [a, b])), (3, nwS 0), (4, eqS vf), (5, fbS 0), (11, eqS (vI 3)), (12, eqS vf), (14, eqS vt)]) (by kernel_rfl) (by kernel_rfl) trivial fun ac g w hS => ?_
 refine then_n ?_
 refine wp_cond_true (hS.f.frm.eval rfl) ?_
 refine wp_seq ?_
 refine rga mo [e0 1 [(3, nwS 0)] (ndS (.mk 3 n [a, b])), e0 2 [(17, ndS (.mk 3 n [a, b]))] (ndS (.mk 3 n [a, b])), e0 3 [(18, ndS (.mk 3 n [a, b]))] (nfS (.mk 3 n [a, b]) 2), e0 4 [(19, nfS (.mk 3 n [a, b]) 2)] (nsS ([a, b])), e0 5 [(20, nsS ([a, b]))] (npS a), e0 6 [(21, npS a)] (ndS a), e0 8 [(23, fbS 0)] (ndS (pubOf b)), e0 9 [(22, ndS a), (24, ndS (pubOf b))] (nsS [a, pubOf b]), e1 10 [(16, eqS (vP K.bb 0)), (25, nsS [a, pubOf b])] (eqS vf), ⟨13, [(27, eqS vf), (3, nwS 0)], ndS (.mk 3 n [a, b]), [1], false⟩, ⟨14, [(27, eqS vf), (29, ndS (.mk 3 n [a, b]))], ndS (.mk 3 n [a, b]), [1], false⟩, ⟨15, [(27, eqS vf), (30, ndS (.mk 3 n [a, b]))], nfS (.mk 3 n [a, b]) 2, [1], false⟩, ⟨16, [(27, eqS vf), (31, nfS (.mk 3 n [a, b]) 2)], nsS ([a, b]), [1], false⟩, ⟨17, [(27, eqS vf), (32, nsS ([a, b]))], npS b, [1], false⟩, ⟨18, [(27, eqS vf), (33, npS b)], ndS b, [1], false⟩, ⟨20, [(27, eqS vf), (35, fbS 0)], ndS (pubOf a), [1], false⟩, ⟨21, [(27, eqS vf), (34, ndS b), (36, ndS (pubOf a))], nsS [b, pubOf a], [1], false⟩, ⟨22, [(27, eqS vf), (28, eqS (vP K.bb 0)), (37, nsS [b, pubOf a])], eqS vt, [1], true⟩] [0, 1, 3, 4, 5, 11, 12, 14] (Bl [stB (bdR K m) [(83, cnS (.mk 3 n [a, b]))], stB (bdR K m1) [(83, cnS (.mk 3 n [a, b]))], stB (bdR K m') [(83, cnS (.mk 3 n [a, b]))]]) 2 (Lo := [(0, eqS (vP K.bb 0)), (1, ndS (.mk 3 n [a, b])), (3, nwS 0), (4, eqS vt), (5, fbS 0), (11, eqS (vI 3)), (12, eqS vf), (14, eqS vt)]) (by kernel_rfl) (by kernel_rfl) ⟨⟨q_ldcN rfl rfl rfl rfl, trivial⟩, ⟨q_nlN rfl rfl, trivial⟩, ⟨q_nf rfl rfl sz110 Tryd.underlying112 rfl rfl, trivial⟩, ⟨q_nks rfl rfl, trivial⟩, ⟨q_nix (j := 0) rfl rfl rfl rfl, trivial⟩, ⟨q_nld rfl rfl, trivial⟩, ⟨q_pub (j := 1) (k := 0) hj (hfit.kid (by simp)).2 rfl rfl rfl rfl rfl rfl, trivial⟩, ⟨q_nb2 rfl rfl rfl rfl, trivial⟩, ⟨m_bl (ih _ hg1) hq1 (by simp) (fun t ht => hfit.way (W := K.W) (l := [a, pubOf b]) (by simp [ways]) ht) rfl rfl rfl rfl rfl, trivial⟩, ⟨q_ldcN rfl rfl rfl rfl, trivial⟩, ⟨q_nlN rfl rfl, trivial⟩, ⟨q_nf rfl rfl sz110 Tryd.underlying112 rfl rfl, trivial⟩, ⟨q_nks rfl rfl, trivial⟩, ⟨q_nix (j := 1) rfl rfl rfl rfl, trivial⟩, ⟨q_nld rfl rfl, trivial⟩, ⟨q_pub (j := 0) (k := 0) hj (hfit.kid (by simp)).2 rfl rfl rfl rfl rfl rfl, trivial⟩, ⟨q_nb2 rfl rfl rfl rfl, trivial⟩, ⟨m_bl (ih _ hg2) hq2 (by simp) (fun t ht => hfit.way (W := K.W) (l := [b, pubOf a]) (by simp [ways]) ht) rfl rfl rfl rfl rfl, trivial⟩, trivial⟩ hS rfl fun ac g w hS => ?_
 refine then_n ?_
 refine wp_ret ?_
 refine block_ret ?_
 refine then_ret ?_
 exact body_ret hS.f.frm (results1 Tryd.results82 (RV.tmp hS.f.frm rfl)) ⟨rfl, bd_ret hS⟩
set_option maxRecDepth 100000 in
set_option maxHeartbeats 4000000 in
theorem mk_dh3 {K : Bk} (hj : JoinOk) {f : Nat} (ih : ∀ g, g < f → BuildsOk K.T K.nb K.W K.met g) {m m' : Told} {v : Value} (w0 : World) (hX : ∀ x, x ∈ [K.bt] ++ [] → x < w0.heap.size) (hr : (bdR K m).P ⟨[K.bt], [], [], []⟩ w0) {n : Int} {a b : Tm} (hfit : Fit (.mk 3 n [a, b])) (hnd : IsN w0 [K.bt] (.mk 3 n [a, b]) v) {m1 : Told} {g1 : Nat} (hg1 : g1 < f) (hq1 : bl K.W K.met g1 [a, pubOf b] m = some (false, m1)) {g2 : Nat} (hg2 : g2 < f) (hq2 : bl K.W K.met g2 [b, pubOf a] m1 = some (false, m')) (hd : K.W.dh = false) : Calls Tryd.prog 82 (List.toArray [vp K.bb, v]) w0 (Ret fun v w' => v = .bool false ∧ MapIs w' K.bt m' ∧ Ch [K.bt] w0 w') := by
 refine enterR (X := []) (F := [K.bt]) (ρ := bdR K m) [eqS (vp K.bb), ndS (.mk 3 n [a, b])] hX hr ⟨rfl, hnd, trivial⟩ Tryd.func82 rfl Tryd.ntmps82 rfl fun ac hS => ?_
 refine wp_seq ?_
 refine rgl [e1 0 [(1, ndS (.mk 3 n [a, b]))] (nwS 0)] [0, 1, 3, 4] (Bl [stB (bdR K m) [], stB (bdR K m) [(83, cnS (.mk 3 n [a, b]))]]) 1 (Lo := [(0, eqS (vP K.bb 0)), (1, ndS (.mk 3 n [a, b])), (3, nwS 0), (4, eqS vf)]) (by kernel_rfl) (by kernel_rfl) ⟨⟨m_boxN rfl rfl rfl rfl rfl, trivial⟩, trivial⟩ hS rfl fun ac g w hS => ?_
 refine then_n ?_
 refine wp_seq ?_
 refine rgl0 hS [e0 0 [(3, nwS 0)] (fbS 0)] [0, 1, 3, 4, 5] (Lo := [(0, eqS (vP K.bb 0)), (1, ndS (.mk 3 n [a, b])), (3, nwS 0), (4, eqS vf), (5, fbS 0)]) (by kernel_rfl) (by kernel_rfl) ⟨⟨q_fb (k := 0) rfl rfl rfl rfl, trivial⟩, trivial⟩ fun ac g w hS => ?_
 refine then_n ?_
 refine wp_seq ?_
 refine wp_seq ?_
 refine rgl0 hS [e0 0 [(3, nwS 0)] (ndS (.mk 3 n [a, b])), e0 1 [(8, ndS (.mk 3 n [a, b]))] (ndS (.mk 3 n [a, b])), e0 2 [(9, ndS (.mk 3 n [a, b]))] (nfS (.mk 3 n [a, b]) 0), e0 3 [(10, nfS (.mk 3 n [a, b]) 0)] (eqS (vI 3))] [0, 1, 3, 4, 5, 11] (Lo := [(0, eqS (vP K.bb 0)), (1, ndS (.mk 3 n [a, b])), (3, nwS 0), (4, eqS vf), (5, fbS 0), (11, eqS (vI 3))]) (by kernel_rfl) (by kernel_rfl) ⟨⟨q_ldcN rfl rfl rfl rfl, trivial⟩, ⟨q_nlN rfl rfl, trivial⟩, ⟨q_nf rfl rfl sz3 Tryd.underlying112 rfl rfl, trivial⟩, ⟨q_nk rfl rfl, trivial⟩, trivial⟩ fun ac g w hS => ?_
 refine then_n ?_
 refine wp_block ?_
 refine wp_seq ?_
 refine rgl0 hS [] [0, 1, 3, 4, 5, 11, 12] (Lo := [(0, eqS (vP K.bb 0)), (1, ndS (.mk 3 n [a, b])), (3, nwS 0), (4, eqS vf), (5, fbS 0), (11, eqS (vI 3)), (12, eqS vf)]) (by kernel_rfl) (by kernel_rfl) trivial fun ac g w hS => ?_
 refine then_n ?_
 refine wp_cond_false (hS.f.frm.eval rfl) ?_
 refine wp_seq ?_
 refine rgl0 hS [] [0, 1, 3, 4, 5, 11, 12, 14] (Lo := [(0, eqS (vP K.bb 0)), (1, ndS (.mk 3 n [a, b])), (3, nwS 0), (4, eqS vf), (5, fbS 0), (11, eqS (vI 3)), (12, eqS vf), (14, eqS vt)]) (by kernel_rfl) (by kernel_rfl) trivial fun ac g w hS => ?_
 refine then_n ?_
 refine wp_cond_true (hS.f.frm.eval rfl) ?_
 refine wp_seq ?_
 refine rga mo [e0 1 [(3, nwS 0)] (ndS (.mk 3 n [a, b])), e0 2 [(17, ndS (.mk 3 n [a, b]))] (ndS (.mk 3 n [a, b])), e0 3 [(18, ndS (.mk 3 n [a, b]))] (nfS (.mk 3 n [a, b]) 2), e0 4 [(19, nfS (.mk 3 n [a, b]) 2)] (nsS ([a, b])), e0 5 [(20, nsS ([a, b]))] (npS a), e0 6 [(21, npS a)] (ndS a), e0 8 [(23, fbS 0)] (ndS (pubOf b)), e0 9 [(22, ndS a), (24, ndS (pubOf b))] (nsS [a, pubOf b]), e1 10 [(16, eqS (vP K.bb 0)), (25, nsS [a, pubOf b])] (eqS vf), ⟨13, [(27, eqS vf), (3, nwS 0)], ndS (.mk 3 n [a, b]), [1], false⟩, ⟨14, [(27, eqS vf), (29, ndS (.mk 3 n [a, b]))], ndS (.mk 3 n [a, b]), [1], false⟩, ⟨15, [(27, eqS vf), (30, ndS (.mk 3 n [a, b]))], nfS (.mk 3 n [a, b]) 2, [1], false⟩, ⟨16, [(27, eqS vf), (31, nfS (.mk 3 n [a, b]) 2)], nsS ([a, b]), [1], false⟩, ⟨17, [(27, eqS vf), (32, nsS ([a, b]))], npS b, [1], false⟩, ⟨18, [(27, eqS vf), (33, npS b)], ndS b, [1], false⟩, ⟨20, [(27, eqS vf), (35, fbS 0)], ndS (pubOf a), [1], false⟩, ⟨21, [(27, eqS vf), (34, ndS b), (36, ndS (pubOf a))], nsS [b, pubOf a], [1], false⟩, ⟨22, [(27, eqS vf), (28, eqS (vP K.bb 0)), (37, nsS [b, pubOf a])], eqS vf, [1], true⟩, ⟨29, [(40, eqS vf), (44, eqS (vP K.bb 0))], eqS vf, [2], false⟩] [0, 1, 3, 4, 5, 11, 12, 14] (Bl [stB (bdR K m) [(83, cnS (.mk 3 n [a, b]))], stB (bdR K m1) [(83, cnS (.mk 3 n [a, b]))], stB (bdR K m') [(83, cnS (.mk 3 n [a, b]))]]) 2 (Lo := [(0, eqS (vP K.bb 0)), (1, ndS (.mk 3 n [a, b])), (3, nwS 0), (4, eqS vf), (5, fbS 0), (11, eqS (vI 3)), (12, eqS vf), (14, eqS vt)]) (by kernel_rfl) (by kernel_rfl) ⟨⟨q_ldcN rfl rfl rfl rfl, trivial⟩, ⟨q_nlN rfl rfl, trivial⟩, ⟨q_nf rfl rfl sz110 Tryd.underlying112 rfl rfl, trivial⟩, ⟨q_nks rfl rfl, trivial⟩, ⟨q_nix (j := 0) rfl rfl rfl rfl, trivial⟩, ⟨q_nld rfl rfl, trivial⟩, ⟨q_pub (j := 1) (k := 0) hj (hfit.kid (by simp)).2 rfl rfl rfl rfl rfl rfl, trivial⟩, ⟨q_nb2 rfl rfl rfl rfl, trivial⟩, ⟨m_bl (ih _ hg1) hq1 (by simp) (fun t ht => hfit.way (W := K.W) (l := [a, pubOf b]) (by simp [ways]) ht) rfl rfl rfl rfl rfl, trivial⟩, ⟨q_ldcN rfl rfl rfl rfl, trivial⟩, ⟨q_nlN rfl rfl, trivial⟩, ⟨q_nf rfl rfl sz110 Tryd.underlying112 rfl rfl, trivial⟩, ⟨q_nks rfl rfl, trivial⟩, ⟨q_nix (j := 1) rfl rfl rfl rfl, trivial⟩, ⟨q_nld rfl rfl, trivial⟩, ⟨q_pub (j := 0) (k := 0) hj (hfit.kid (by simp)).2 rfl rfl rfl rfl rfl rfl, trivial⟩, ⟨q_nb2 rfl rfl rfl rfl, trivial⟩, ⟨m_bl (ih _ hg2) hq2 (by simp) (fun t ht => hfit.way (W := K.W) (l := [b, pubOf a]) (by simp [ways]) ht) rfl rfl rfl rfl rfl, trivial⟩, ⟨q_bd rfl 0 rfl rfl Tryd.underlying4 rfl (congrArg (fun z => some (vB z)) hd), trivial⟩, trivial⟩ hS rfl fun ac g w hS => ?_
 refine then_n ?_
 refine wp_ret ?_
 refine block_ret ?_
 refine then_ret ?_
 exact body_ret hS.f.frm (results1 Tryd.results82 (RV.tmp hS.f.frm rfl)) ⟨rfl, bd_ret hS⟩
set_option maxRecDepth 100000 in
set_option maxHeartbeats 4000000 in
theorem mk_dh4 {K : Bk} (hj : JoinOk) {f : Nat} (ih : ∀ g, g < f → BuildsOk K.T K.nb K.W K.met g) {m m' : Told} {v : Value} (w0 : World) (hX : ∀ x, x ∈ [K.bt] ++ [] → x < w0.heap.size) (hr : (bdR K m).P ⟨[K.bt], [], [], []⟩ w0) {n : Int} {a b : Tm} (hfit : Fit (.mk 3 n [a, b])) (hnd : IsN w0 [K.bt] (.mk 3 n [a, b]) v) {m1 : Told} {g1 : Nat} (hg1 : g1 < f) (hq1 : bl K.W K.met g1 [a, pubOf b] m = some (false, m1)){m2 : Told} {g2 : Nat} (hg2 : g2 < f) (hq2 : bl K.W K.met g2 [b, pubOf a] m1 = some (false, m2)) {g3 : Nat} {r : Bool} (hg3 : g3 < f) (hq3 : bl K.W K.met g3 [pubOf a, pubOf b] m2 = some (r, m')) (hd : K.W.dh = true) : Calls Tryd.prog 82 (List.toArray [vp K.bb, v]) w0 (Ret fun v w' => v = .bool r ∧ MapIs w' K.bt m' ∧ Ch [K.bt] w0 w') := by
 refine enterR (X := []) (F := [K.bt]) (ρ := bdR K m) [eqS (vp K.bb), ndS (.mk 3 n [a, b])] hX hr ⟨rfl, hnd, trivial⟩ Tryd.func82 rfl Tryd.ntmps82 rfl fun ac hS => ?_
 refine wp_seq ?_
 refine rgl [e1 0 [(1, ndS (.mk 3 n [a, b]))] (nwS 0)] [0, 1, 3, 4] (Bl [stB (bdR K m) [], stB (bdR K m) [(83, cnS (.mk 3 n [a, b]))]]) 1 (Lo := [(0, eqS (vP K.bb 0)), (1, ndS (.mk 3 n [a, b])), (3, nwS 0), (4, eqS vf)]) (by kernel_rfl) (by kernel_rfl) ⟨⟨m_boxN rfl rfl rfl rfl rfl, trivial⟩, trivial⟩ hS rfl fun ac g w hS => ?_
 refine then_n ?_
 refine wp_seq ?_
 refine rgl0 hS [e0 0 [(3, nwS 0)] (fbS 0)] [0, 1, 3, 4, 5] (Lo := [(0, eqS (vP K.bb 0)), (1, ndS (.mk 3 n [a, b])), (3, nwS 0), (4, eqS vf), (5, fbS 0)]) (by kernel_rfl) (by kernel_rfl) ⟨⟨q_fb (k := 0) rfl rfl rfl rfl, trivial⟩, trivial⟩ fun ac g w hS => ?_
 refine then_n ?_
 refine wp_seq ?_
 refine wp_seq ?_
 refine rgl0 hS [e0 0 [(3, nwS 0)] (ndS (.mk 3 n [a, b])), e0 1 [(8, ndS (.mk 3 n [a, b]))] (ndS (.mk 3 n [a, b])), e0 2 [(9, ndS (.mk 3 n [a, b]))] (nfS (.mk 3 n [a, b]) 0), e0 3 [(10, nfS (.mk 3 n [a, b]) 0)] (eqS (vI 3))] [0, 1, 3, 4, 5, 11] (Lo := [(0, eqS (vP K.bb 0)), (1, ndS (.mk 3 n [a, b])), (3, nwS 0), (4, eqS vf), (5, fbS 0), (11, eqS (vI 3))]) (by kernel_rfl) (by kernel_rfl) ⟨⟨q_ldcN rfl rfl rfl rfl, trivial⟩, ⟨q_nlN rfl rfl, trivial⟩, ⟨q_nf rfl rfl sz3 Tryd.underlying112 rfl rfl, trivial⟩, ⟨q_nk rfl rfl, trivial⟩, trivial⟩ fun ac g w hS => ?_
 refine then_n ?_
 refine wp_block ?_
 refine wp_seq ?_
 refine rgl0 hS [] [0, 1, 3, 4, 5, 11, 12] (Lo := [(0, eqS (vP K.bb 0)), (1, ndS (.mk 3 n [a, b])), (3, nwS 0), (4, eqS vf), (5, fbS 0), (11, eqS (vI 3)), (12, eqS vf)]) (by kernel_rfl) (by kernel_rfl) trivial fun ac g w hS => ?_
 refine then_n ?_
 refine wp_cond_false (hS.f.frm.eval rfl) ?_
 refine wp_seq ?_
 refine rgl0 hS [] [0, 1, 3, 4, 5, 11, 12, 14] (Lo := [(0, eqS (vP K.bb 0)), (1, ndS (.mk 3 n [a, b])), (3, nwS 0), (4, eqS vf), (5, fbS 0), (11, eqS (vI 3)), (12, eqS vf), (14, eqS vt)]) (by kernel_rfl) (by kernel_rfl) trivial fun ac g w hS => ?_
 refine then_n ?_
 refine wp_cond_true (hS.f.frm.eval rfl) ?_
 refine wp_seq ?_
 refine rga mo [e0 1 [(3, nwS 0)] (ndS (.mk 3 n [a, b])), e0 2 [(17, ndS (.mk 3 n [a, b]))] (ndS (.mk 3 n [a, b])), e0 3 [(18, ndS (.mk 3 n [a, b]))] (nfS (.mk 3 n [a, b]) 2), e0 4 [(19, nfS (.mk 3 n [a, b]) 2)] (nsS ([a, b])), e0 5 [(20, nsS ([a, b]))] (npS a), e0 6 [(21, npS a)] (ndS a), e0 8 [(23, fbS 0)] (ndS (pubOf b)), e0 9 [(22, ndS a), (24, ndS (pubOf b))] (nsS [a, pubOf b]), e1 10 [(16, eqS (vP K.bb 0)), (25, nsS [a, pubOf b])] (eqS vf), ⟨13, [(27, eqS vf), (3, nwS 0)], ndS (.mk 3 n [a, b]), [1], false⟩, ⟨14, [(27, eqS vf), (29, ndS (.mk 3 n [a, b]))], ndS (.mk 3 n [a, b]), [1], false⟩, ⟨15, [(27, eqS vf), (30, ndS (.mk 3 n [a, b]))], nfS (.mk 3 n [a, b]) 2, [1], false⟩, ⟨16, [(27, eqS vf), (31, nfS (.mk 3 n [a, b]) 2)], nsS ([a, b]), [1], false⟩, ⟨17, [(27, eqS vf), (32, nsS ([a, b]))], npS b, [1], false⟩, ⟨18, [(27, eqS vf), (33, npS b)], ndS b, [1], false⟩, ⟨20, [(27, eqS vf), (35, fbS 0)], ndS (pubOf a), [1], false⟩, ⟨21, [(27, eqS vf), (34, ndS b), (36, ndS (pubOf a))], nsS [b, pubOf a], [1], false⟩, ⟨22, [(27, eqS vf), (28, eqS (vP K.bb 0)), (37, nsS [b, pubOf a])], eqS vf, [1], true⟩, ⟨29, [(40, eqS vf), (44, eqS (vP K.bb 0))], eqS vt, [2], false⟩, ⟨33, [(46, eqS vt), (48, fbS 0)], ndS (pubOf a), [2], false⟩, ⟨35, [(46, eqS vt), (50, fbS 0)], ndS (pubOf b), [2], false⟩, ⟨36, [(46, eqS vt), (49, ndS (pubOf a)), (51, ndS (pubOf b))], nsS [pubOf a, pubOf b], [2], false⟩, ⟨37, [(46, eqS vt), (47, eqS (vP K.bb 0)), (52, nsS [pubOf a, pubOf b])], eqS (vB r), [2], true⟩] [0, 1, 3, 4, 5, 11, 12, 14] (Bl [stB (bdR K m) [(83, cnS (.mk 3 n [a, b]))], stB (bdR K m1) [(83, cnS (.mk 3 n [a, b]))], stB (bdR K m2) [(83, cnS (.mk 3 n [a, b]))], stB (bdR K m') [(83, cnS (.mk 3 n [a, b]))]]) 3 (Lo := [(0, eqS (vP K.bb 0)), (1, ndS (.mk 3 n [a, b])), (3, nwS 0), (4, eqS (vB r)), (5, fbS 0), (11, eqS (vI 3)), (12, eqS vf), (14, eqS vt)]) (by kernel_rfl) (by kernel_rfl) ⟨⟨q_ldcN rfl rfl rfl rfl, trivial⟩, ⟨q_nlN rfl rfl, trivial⟩, ⟨q_nf rfl rfl sz110 Tryd.underlying112 rfl rfl, trivial⟩, ⟨q_nks rfl rfl, trivial⟩, ⟨q_nix (j := 0) rfl rfl rfl rfl, trivial⟩, ⟨q_nld rfl rfl, trivial⟩, ⟨q_pub (j := 1) (k := 0) hj (hfit.kid (by simp)).2 rfl rfl rfl rfl rfl rfl, trivial⟩, ⟨q_nb2 rfl rfl rfl rfl, trivial⟩, ⟨m_bl (ih _ hg1) hq1 (by simp) (fun t ht => hfit.way (W := K.W) (l := [a, pubOf b]) (by simp [ways]) ht) rfl rfl rfl rfl rfl, trivial⟩, ⟨q_ldcN rfl rfl rfl rfl, trivial⟩, ⟨q_nlN rfl rfl, trivial⟩, ⟨q_nf rfl rfl sz110 Tryd.underlying112 rfl rfl, trivial⟩, ⟨q_nks rfl rfl, trivial⟩, ⟨q_nix (j := 1) rfl rfl rfl rfl, trivial⟩, ⟨q_nld rfl rfl, trivial⟩, ⟨q_pub (j := 0) (k := 0) hj (hfit.kid (by simp)).2 rfl rfl rfl rfl rfl rfl, trivial⟩, ⟨q_nb2 rfl rfl rfl rfl, trivial⟩, ⟨m_bl (ih _ hg2) hq2 (by simp) (fun t ht => hfit.way (W := K.W) (l := [b, pubOf a]) (by simp [ways]) ht) rfl rfl rfl rfl rfl, trivial⟩, ⟨q_bd rfl 0 rfl rfl Tryd.underlying4 rfl (congrArg (fun z => some (vB z)) hd), trivial⟩, ⟨q_pub (j := 0) (k := 0) hj (hfit.kid (by simp)).2 rfl rfl rfl rfl rfl rfl, trivial⟩, ⟨q_pub (j := 1) (k := 0) hj (hfit.kid (by simp)).2 rfl rfl rfl rfl rfl rfl, trivial⟩, ⟨q_nb2 rfl rfl rfl rfl, trivial⟩, ⟨m_bl (ih _ hg3) hq3 (by simp) (fun t ht => hfit.way (W := K.W) (l := [pubOf a, pubOf b]) (by simp [ways, hd]) ht) rfl rfl rfl rfl rfl, trivial⟩, trivial⟩ hS rfl fun ac g w hS => ?_
 refine then_n ?_
 refine wp_ret ?_
 refine block_ret ?_
 refine then_ret ?_
 exact body_ret hS.f.frm (results1 Tryd.results82 (RV.tmp hS.f.frm rfl)) ⟨rfl, bd_ret hS⟩
set_option maxRecDepth 100000 in
set_option maxHeartbeats 4000000 in
theorem mk_kem1 {K : Bk} (hj : JoinOk) {f : Nat} (ih : ∀ g, g < f → BuildsOk K.T K.nb K.W K.met g) {m m' : Told} {v : Value} (w0 : World) (hX : ∀ x, x ∈ [K.bt] ++ [] → x < w0.heap.size) (hr : (bdR K m).P ⟨[K.bt], [], [], []⟩ w0) {n : Int} {a b : Tm} (hfit : Fit (.mk 4 n [a, b])) (hnd : IsN w0 [K.bt] (.mk 4 n [a, b]) v) {g1 : Nat} (hg1 : g1 < f) (hq1 : bl K.W K.met g1 [b, pubOf a] m = some (true, m')) : Calls Tryd.prog 82 (List.toArray [vp K.bb, v]) w0 (Ret fun v w' => v = .bool true ∧ MapIs w' K.bt m' ∧ Ch [K.bt] w0 w') := by
 have c : tlen a + tlen b ≤ 1099511600000 := by have h1 := hfit.2; rw [tlen_two (by decide)] at h1; omega
 refine enterR (X := []) (F := [K.bt]) (ρ := bdR K m) [eqS (vp K.bb), ndS (.mk 4 n [a, b])] hX hr ⟨rfl, hnd, trivial⟩ Tryd.func82 rfl Tryd.ntmps82 rfl fun ac hS => ?_
 refine wp_seq ?_
 refine rgl [e1 0 [(1, ndS (.mk 4 n [a, b]))] (nwS 0)] [0, 1, 3, 4] (Bl [stB (bdR K m) [], stB (bdR K m) [(83, cnS (.mk 4 n [a, b]))]]) 1 (Lo := [(0, eqS (vP K.bb 0)), (1, ndS (.mk 4 n [a, b])), (3, nwS 0), (4, eqS vf)]) (by kernel_rfl) (by kernel_rfl) ⟨⟨m_boxN rfl rfl rfl rfl rfl, trivial⟩, trivial⟩ hS rfl fun ac g w hS => ?_
 refine then_n ?_
 refine wp_seq ?_
 refine rgl0 hS [e0 0 [(3, nwS 0)] (fbS 0)] [0, 1, 3, 4, 5] (Lo := [(0, eqS (vP K.bb 0)), (1, ndS (.mk 4 n [a, b])), (3, nwS 0), (4, eqS vf), (5, fbS 0)]) (by kernel_rfl) (by kernel_rfl) ⟨⟨q_fb (k := 0) rfl rfl rfl rfl, trivial⟩, trivial⟩ fun ac g w hS => ?_
 refine then_n ?_
 refine wp_seq ?_
 refine wp_seq ?_
 refine rgl0 hS [e0 0 [(3, nwS 0)] (ndS (.mk 4 n [a, b])), e0 1 [(8, ndS (.mk 4 n [a, b]))] (ndS (.mk 4 n [a, b])), e0 2 [(9, ndS (.mk 4 n [a, b]))] (nfS (.mk 4 n [a, b]) 0), e0 3 [(10, nfS (.mk 4 n [a, b]) 0)] (eqS (vI 4))] [0, 1, 3, 4, 5, 11] (Lo := [(0, eqS (vP K.bb 0)), (1, ndS (.mk 4 n [a, b])), (3, nwS 0), (4, eqS vf), (5, fbS 0), (11, eqS (vI 4))]) (by kernel_rfl) (by kernel_rfl) ⟨⟨q_ldcN rfl rfl rfl rfl, trivial⟩, ⟨q_nlN rfl rfl, trivial⟩, ⟨q_nf rfl rfl sz3 Tryd.underlying112 rfl rfl, trivial⟩, ⟨q_nk rfl rfl, trivial⟩, trivial⟩ fun ac g w hS => ?_
 refine then_n ?_
 refine wp_block ?_
 refine wp_seq ?_
 refine rgl0 hS [] [0, 1, 3, 4, 5, 11, 12] (Lo := [(0, eqS (vP K.bb 0)), (1, ndS (.mk 4 n [a, b])), (3, nwS 0), (4, eqS vf), (5, fbS 0), (11, eqS (vI 4)), (12, eqS vf)]) (by kernel_rfl) (by kernel_rfl) trivial fun ac g w hS => ?_
 refine then_n ?_
 refine wp_cond_false (hS.f.frm.eval rfl) ?_
 refine wp_seq ?_
 refine rgl0 hS [] [0, 1, 3, 4, 5, 11, 12, 14] (Lo := [(0, eqS (vP K.bb 0)), (1, ndS (.mk 4 n [a, b])), (3, nwS 0), (4, eqS vf), (5, fbS 0), (11, eqS (vI 4)), (12, eqS vf), (14, eqS vf)]) (by kernel_rfl) (by kernel_rfl) trivial fun ac g w hS => ?_
 refine then_n ?_
 refine wp_cond_false (hS.f.frm.eval rfl) ?_
 refine wp_seq ?_
 refine rgl0 hS [] [0, 1, 3, 4, 5, 11, 12, 14, 56] (Lo := [(0, eqS (vP K.bb 0)), (1, ndS (.mk 4 n [a, b])), (3, nwS 0), (4, eqS vf), (5, fbS 0), (11, eqS (vI 4)), (12, eqS vf), (14, eqS vf), (56, eqS vt)]) (by kernel_rfl) (by kernel_rfl) trivial fun ac g w hS => ?_
 refine then_n ?_
 refine wp_cond_true (hS.f.frm.eval rfl) ?_
 refine wp_seq ?_
 refine rgl0 hS [e0 0 [(3, nwS 0)] (ndS (.mk 4 n [a, b])), e0 1 [(58, ndS (.mk 4 n [a, b]))] (ndS (.mk 4 n [a, b])), e0 2 [(59, ndS (.mk 4 n [a, b]))] (nfS (.mk 4 n [a, b]) 2), e0 3 [(60, nfS (.mk 4 n [a, b]) 2)] (nsS ([a, b])), e0 4 [(61, nsS ([a, b]))] (ndS (.mk 5 0 [a, b]))] [0, 1, 3, 4, 5, 6, 11, 12, 14, 56] (Lo := [(0, eqS (vP K.bb 0)), (1, ndS (.mk 4 n [a, b])), (3, nwS 0), (4, eqS vf), (5, fbS 0), (6, ndS (.mk 5 0 [a, b])), (11, eqS (vI 4)), (12, eqS vf), (14, eqS vf), (56, eqS vt)]) (by kernel_rfl) (by kernel_rfl) ⟨⟨q_ldcN rfl rfl rfl rfl, trivial⟩, ⟨q_nlN rfl rfl, trivial⟩, ⟨q_nf rfl rfl sz110 Tryd.underlying112 rfl rfl, trivial⟩, ⟨q_nks rfl rfl, trivial⟩, ⟨q_made2 hj (wrk_two (by omega) c) rfl rfl rfl rfl, trivial⟩, trivial⟩ fun ac g w hS => ?_
 refine then_n ?_
 refine wp_seq ?_
 refine rga mo [e0 1 [(3, nwS 0)] (ndS (.mk 4 n [a, b])), e0 2 [(64, ndS (.mk 4 n [a, b]))] (ndS (.mk 4 n [a, b])), e0 3 [(65, ndS (.mk 4 n [a, b]))] (nfS (.mk 4 n [a, b]) 2), e0 4 [(66, nfS (.mk 4 n [a, b]) 2)] (nsS ([a, b])), e0 5 [(67, nsS ([a, b]))] (npS b), e0 6 [(68, npS b)] (ndS b), e0 8 [(70, fbS 0)] (ndS (pubOf a)), e0 9 [(69, ndS b), (71, ndS (pubOf a))] (nsS [b, pubOf a]), e1 10 [(63, eqS (vP K.bb 0)), (72, nsS [b, pubOf a])] (eqS vt)] [0, 1, 3, 4, 5, 6, 11, 12, 14, 56] (Bl [stB (bdR K m) [(83, cnS (.mk 4 n [a, b]))], stB (bdR K m') [(83, cnS (.mk 4 n [a, b]))]]) 1 (Lo := [(0, eqS (vP K.bb 0)), (1, ndS (.mk 4 n [a, b])), (3, nwS 0), (4, eqS vt), (5, fbS 0), (6, ndS (.mk 5 0 [a, b])), (11, eqS (vI 4)), (12, eqS vf), (14, eqS vf), (56, eqS vt)]) (by kernel_rfl) (by kernel_rfl) ⟨⟨q_ldcN rfl rfl rfl rfl, trivial⟩, ⟨q_nlN rfl rfl, trivial⟩, ⟨q_nf rfl rfl sz110 Tryd.underlying112 rfl rfl, trivial⟩, ⟨q_nks rfl rfl, trivial⟩, ⟨q_nix (j := 1) rfl rfl rfl rfl, trivial⟩, ⟨q_nld rfl rfl, trivial⟩, ⟨q_pub (j := 0) (k := 0) hj (hfit.kid (by simp)).2 rfl rfl rfl rfl rfl rfl, trivial⟩, ⟨q_nb2 rfl rfl rfl rfl, trivial⟩, ⟨m_bl (ih _ hg1) hq1 (by simp) (fun t ht => hfit.way (W := K.W) (l := [b, pubOf a]) (by simp [ways]) ht) rfl rfl rfl rfl rfl, trivial⟩, trivial⟩ hS rfl fun ac g w hS => ?_
 refine then_n ?_
 refine wp_ret ?_
 refine block_ret ?_
 refine then_ret ?_
 exact body_ret hS.f.frm (results1 Tryd.results82 (RV.tmp hS.f.frm rfl)) ⟨rfl, bd_ret hS⟩
set_option maxRecDepth 100000 in
set_option maxHeartbeats 4000000 in
theorem mk_kem2 {K : Bk} (hj : JoinOk) {f : Nat} (ih : ∀ g, g < f → BuildsOk K.T K.nb K.W K.met g) {m m' : Told} {v : Value} (w0 : World) (hX : ∀ x, x ∈ [K.bt] ++ [] → x < w0.heap.size) (hr : (bdR K m).P ⟨[K.bt], [], [], []⟩ w0) {n : Int} {a b : Tm} (hfit : Fit (.mk 4 n [a, b])) (hnd : IsN w0 [K.bt] (.mk 4 n [a, b]) v) {m1 : Told} {g1 : Nat} (hg1 : g1 < f) (hq1 : bl K.W K.met g1 [b, pubOf a] m = some (false, m1)) {g2 : Nat} (hg2 : g2 < f) (hq2 : bl K.W K.met g2 [a, .mk 5 0 [a, b]] m1 = some (true, m')) : Calls Tryd.prog 82 (List.toArray [vp K.bb, v]) w0 (Ret fun v w' => v = .bool true ∧ MapIs w' K.bt m' ∧ Ch [K.bt] w0 w') := by
 have c : tlen a + tlen b ≤ 1099511600000 := by have h1 := hfit.2; rw [tlen_two (by decide)] at h1; omega
 refine enterR (X := []) (F := [K.bt]) (ρ := bdR K m) [eqS (vp K.bb), ndS (.mk 4 n [a, b])] hX hr ⟨rfl, hnd, trivial⟩ Tryd.func82 rfl Tryd.ntmps82 rfl fun ac hS => ?_
 refine wp_seq ?_
 refine rgl [e1 0 [(1, ndS (.mk 4 n [a, b]))] (nwS 0)] [0, 1, 3, 4] (Bl [stB (bdR K m) [], stB (bdR K m) [(83, cnS (.mk 4 n [a, b]))]]) 1 (Lo := [(0, eqS (vP K.bb 0)), (1, ndS (.mk 4 n [a, b])), (3, nwS 0), (4, eqS vf)]) (by kernel_rfl) (by kernel_rfl) ⟨⟨m_boxN rfl rfl rfl rfl rfl, trivial⟩, trivial⟩ hS rfl fun ac g w hS => ?_
 refine then_n ?_
 refine wp_seq ?_
 refine rgl0 hS [e0 0 [(3, nwS 0)] (fbS 0)] [0, 1, 3, 4, 5] (Lo := [(0, eqS (vP K.bb 0)), (1, ndS (.mk 4 n [a, b])), (3, nwS 0), (4, eqS vf), (5, fbS 0)]) (by kernel_rfl) (by kernel_rfl) ⟨⟨q_fb (k := 0) rfl rfl rfl rfl, trivial⟩, trivial⟩ fun ac g w hS => ?_
 refine then_n ?_
 refine wp_seq ?_
 refine wp_seq ?_
 refine rgl0 hS [e0 0 [(3, nwS 0)] (ndS (.mk 4 n [a, b])), e0 1 [(8, ndS (.mk 4 n [a, b]))] (ndS (.mk 4 n [a, b])), e0 2 [(9, ndS (.mk 4 n [a, b]))] (nfS (.mk 4 n [a, b]) 0), e0 3 [(10, nfS (.mk 4 n [a, b]) 0)] (eqS (vI 4))] [0, 1, 3, 4, 5, 11] (Lo := [(0, eqS (vP K.bb 0)), (1, ndS (.mk 4 n [a, b])), (3, nwS 0), (4, eqS vf), (5, fbS 0), (11, eqS (vI 4))]) (by kernel_rfl) (by kernel_rfl) ⟨⟨q_ldcN rfl rfl rfl rfl, trivial⟩, ⟨q_nlN rfl rfl, trivial⟩, ⟨q_nf rfl rfl sz3 Tryd.underlying112 rfl rfl, trivial⟩, ⟨q_nk rfl rfl, trivial⟩, trivial⟩ fun ac g w hS => ?_
 refine then_n ?_
 refine wp_block ?_
 refine wp_seq ?_
 refine rgl0 hS [] [0, 1, 3, 4, 5, 11, 12] (Lo := [(0, eqS (vP K.bb 0)), (1, ndS (.mk 4 n [a, b])), (3, nwS 0), (4, eqS vf), (5, fbS 0), (11, eqS (vI 4)), (12, eqS vf)]) (by kernel_rfl) (by kernel_rfl) trivial fun ac g w hS => ?_
 refine then_n ?_
 refine wp_cond_false (hS.f.frm.eval rfl) ?_
 refine wp_seq ?_
 refine rgl0 hS [] [0, 1, 3, 4, 5, 11, 12, 14] (Lo := [(0, eqS (vP K.bb 0)), (1, ndS (.mk 4 n [a, b])), (3, nwS 0), (4, eqS vf), (5, fbS 0), (11, eqS (vI 4)), (12, eqS vf), (14, eqS vf)]) (by kernel_rfl) (by kernel_rfl) trivial fun ac g w hS => ?_
 refine then_n ?_
 refine wp_cond_false (hS.f.frm.eval rfl) ?_
 refine wp_seq ?_
 refine rgl0 hS [] [0, 1, 3, 4, 5, 11, 12, 14, 56] (Lo := [(0, eqS (vP K.bb 0)), (1, ndS (.mk 4 n [a, b])), (3, nwS 0), (4, eqS vf), (5, fbS 0), (11, eqS (vI 4)), (12, eqS vf), (14, eqS vf), (56, eqS vt)]) (by kernel_rfl) (by kernel_rfl) trivial fun ac g w hS => ?_
 refine then_n ?_
 refine wp_cond_true (hS.f.frm.eval rfl) ?_
 refine wp_seq ?_
 refine rgl0 hS [e0 0 [(3, nwS 0)] (ndS (.mk 4 n [a, b])), e0 1 [(58, ndS (.mk 4 n [a, b]))] (ndS (.mk 4 n [a, b])), e0 2 [(59, ndS (.mk 4 n [a, b]))] (nfS (.mk 4 n [a, b]) 2), e0 3 [(60, nfS (.mk 4 n [a, b]) 2)] (nsS ([a, b])), e0 4 [(61, nsS ([a, b]))] (ndS (.mk 5 0 [a, b]))] [0, 1, 3, 4, 5, 6, 11, 12, 14, 56] (Lo := [(0, eqS (vP K.bb 0)), (1, ndS (.mk 4 n [a, b])), (3, nwS 0), (4, eqS vf), (5, fbS 0), (6, ndS (.mk 5 0 [a, b])), (11, eqS (vI 4)), (12, eqS vf), (14, eqS vf), (56, eqS vt)]) (by kernel_rfl) (by kernel_rfl) ⟨⟨q_ldcN rfl rfl rfl rfl, trivial⟩, ⟨q_nlN rfl rfl, trivial⟩, ⟨q_nf rfl rfl sz110 Tryd.underlying112 rfl rfl, trivial⟩, ⟨q_nks rfl rfl, trivial⟩, ⟨q_made2 hj (wrk_two (by omega) c) rfl rfl rfl rfl, trivial⟩, trivial⟩ fun ac g w hS => ?_
 refine then_n ?_
 refine wp_seq ?_
 refine rga mo [e0 1 [(3, nwS 0)] (ndS (.mk 4 n [a, b])), e0 2 [(64, ndS (.mk 4 n [a, b]))] (ndS (.mk 4 n [a, b])), e0 3 [(65, ndS (.mk 4 n [a, b]))] (nfS (.mk 4 n [a, b]) 2), e0 4 [(66, nfS (.mk 4 n [a, b]) 2)] (nsS ([a, b])), e0 5 [(67, nsS ([a, b]))] (npS b), e0 6 [(68, npS b)] (ndS b), e0 8 [(70, fbS 0)] (ndS (pubOf a)), e0 9 [(69, ndS b), (71, ndS (pubOf a))] (nsS [b, pubOf a]), e1 10 [(63, eqS (vP K.bb 0)), (72, nsS [b, pubOf a])] (eqS vf), ⟨13, [(74, eqS vf), (3, nwS 0)], ndS (.mk 4 n [a, b]), [1], false⟩, ⟨14, [(74, eqS vf), (76, ndS (.mk 4 n [a, b]))], ndS (.mk 4 n [a, b]), [1], false⟩, ⟨15, [(74, eqS vf), (77, ndS (.mk 4 n [a, b]))], nfS (.mk 4 n [a, b]) 2, [1], false⟩, ⟨16, [(74, eqS vf), (78, nfS (.mk 4 n [a, b]) 2)], nsS ([a, b]), [1], false⟩, ⟨17, [(74, eqS vf), (79, nsS ([a, b]))], npS a, [1], false⟩, ⟨18, [(74, eqS vf), (80, npS a)], ndS a, [1], false⟩, ⟨20, [(74, eqS vf), (81, ndS a), (82, ndS (.mk 5 0 [a, b]))], nsS [a, .mk 5 0 [a, b]], [1], false⟩, ⟨21, [(74, eqS vf), (75, eqS (vP K.bb 0)), (83, nsS [a, .mk 5 0 [a, b]])], eqS vt, [1], true⟩] [0, 1, 3, 4, 5, 6, 11, 12, 14, 56] (Bl [stB (bdR K m) [(83, cnS (.mk 4 n [a, b]))], stB (bdR K m1) [(83, cnS (.mk 4 n [a, b]))], stB (bdR K m') [(83, cnS (.mk 4 n [a, b]))]]) 2 (Lo := [(0, eqS (vP K.bb 0)), (1, ndS (.mk 4 n [a, b])), (3, nwS 0), (4, eqS vt), (5, fbS 0), (6, ndS (.mk 5 0 [a, b])), (11, eqS (vI 4)), (12, eqS vf), (14, eqS vf), (56, eqS vt)]) (by kernel_rfl) (by kernel_rfl) ⟨⟨q_ldcN rfl rfl rfl rfl, trivial⟩, ⟨q_nlN rfl rfl, trivial⟩, ⟨q_nf rfl rfl sz110 Tryd.underlying112 rfl rfl, trivial⟩, ⟨q_nks rfl rfl, trivial⟩, ⟨q_nix (j := 1) rfl rfl rfl rfl, trivial⟩, ⟨q_nld rfl rfl, trivial⟩, ⟨q_pub (j := 0) (k := 0) hj (hfit.kid (by simp)).2 rfl rfl rfl rfl rfl rfl, trivial⟩, ⟨q_nb2 rfl rfl rfl rfl, trivial⟩, ⟨m_bl (ih _ hg1) hq1 (by simp) (fun t ht => hfit.way (W := K.W) (l := [b, pubOf a]) (by simp [ways]) ht) rfl rfl rfl rfl rfl, trivial⟩, ⟨q_ldcN rfl rfl rfl rfl, trivial⟩, ⟨q_nlN rfl rfl, trivial⟩, ⟨q_nf rfl rfl sz110 Tryd.underlying112 rfl rfl, trivial⟩, ⟨q_nks rfl rfl, trivial⟩, ⟨q_nix (j := 0) rfl rfl rfl rfl, trivial⟩, ⟨q_nld rfl rfl, trivial⟩, ⟨q_nb2 rfl rfl rfl rfl, trivial⟩, ⟨m_bl (ih _ hg2) hq2 (by simp) (fun t ht => hfit.way (W := K.W) (l := [a, .mk 5 0 [a, b]]) (by simp [ways]) ht) rfl rfl rfl rfl rfl, trivial⟩, trivial⟩ hS rfl fun ac g w hS => ?_
 refine then_n ?_
 refine wp_ret ?_
 refine block_ret ?_
 refine then_ret ?_
 exact body_ret hS.f.frm (results1 Tryd.results82 (RV.tmp hS.f.frm rfl)) ⟨rfl, bd_ret hS⟩
set_option maxRecDepth 100000 in
set_option maxHeartbeats 4000000 in
theorem mk_kem3 {K : Bk} (hj : JoinOk) {f : Nat} (ih : ∀ g, g < f → BuildsOk K.T K.nb K.W K.met g) {m m' : Told} {v : Value} (w0 : World) (hX : ∀ x, x ∈ [K.bt] ++ [] → x < w0.heap.size) (hr : (bdR K m).P ⟨[K.bt], [], [], []⟩ w0) {n : Int} {a b : Tm} (hfit : Fit (.mk 4 n [a, b])) (hnd : IsN w0 [K.bt] (.mk 4 n [a, b]) v) {m1 : Told} {g1 : Nat} (hg1 : g1 < f) (hq1 : bl K.W K.met g1 [b, pubOf a] m = some (false, m1)) {g2 : Nat} (hg2 : g2 < f) (hq2 : bl K.W K.met g2 [a, .mk 5 0 [a, b]] m1 = some (false, m')) (hd : K.W.kem = false) : Calls Tryd.prog 82 (List.toArray [vp K.bb, v]) w0 (Ret fun v w' => v = .bool false ∧ MapIs w' K.bt m' ∧ Ch [K.bt] w0 w') := by
 have c : tlen a + tlen b ≤ 1099511600000 := by have h1 := hfit.2; rw [tlen_two (by decide)] at h1; omega
 refine enterR (X := []) (F := [K.bt]) (ρ := bdR K m) [eqS (vp K.bb), ndS (.mk 4 n [a, b])] hX hr ⟨rfl, hnd, trivial⟩ Tryd.func82 rfl Tryd.ntmps82 rfl fun ac hS => ?_
 refine wp_seq ?_
 refine rgl [e1 0 [(1, ndS (.mk 4 n [a, b]))] (nwS 0)] [0, 1, 3, 4] (Bl [stB (bdR K m) [], stB (bdR K m) [(83, cnS (.mk 4 n [a, b]))]]) 1 (Lo := [(0, eqS (vP K.bb 0)), (1, ndS (.mk 4 n [a, b])), (3, nwS 0), (4, eqS vf)]) (by kernel_rfl) (by kernel_rfl) ⟨⟨m_boxN rfl rfl rfl rfl rfl, trivial⟩, trivial⟩ hS rfl fun ac g w hS => ?_
 refine then_n ?_
 refine wp_seq ?_
 refine rgl0 hS [e0 0 [(3, nwS 0)] (fbS 0)] [0, 1, 3, 4, 5] (Lo := [(0, eqS (vP K.bb 0)), (1, ndS (.mk 4 n [a, b])), (3, nwS 0), (4, eqS vf), (5, fbS 0)]) (by kernel_rfl) (by kernel_rfl) ⟨⟨q_fb (k := 0) rfl rfl rfl rfl, trivial⟩, trivial⟩ fun ac g w hS => ?_
 refine then_n ?_
 refine wp_seq ?_
 refine wp_seq ?_
 refine rgl0 hS [e0 0 [(3, nwS 0)] (ndS (.mk 4 n [a, b])), e0 1 [(8, ndS (.mk 4 n [a, b]))] (ndS (.mk 4 n [a, b])), e0 2 [(9, ndS (.mk 4 n [a, b]))] (nfS (.mk 4 n [a, b]) 0), e0 3 [(10, nfS (.mk 4 n [a, b]) 0)] (eqS (vI 4))] [0, 1, 3, 4, 5, 11] (Lo := [(0, eqS (vP K.bb 0)), (1, ndS (.mk 4 n [a, b])), (3, nwS 0), (4, eqS vf), (5, fbS 0), (11, eqS (vI 4))]) (by kernel_rfl) (by kernel_rfl) ⟨⟨q_ldcN rfl rfl rfl rfl, trivial⟩, ⟨q_nlN rfl rfl, trivial⟩, ⟨q_nf rfl rfl sz3 Tryd.underlying112 rfl rfl, trivial⟩, ⟨q_nk rfl rfl, trivial⟩, trivial⟩ fun ac g w hS => ?_
 refine then_n ?_
 refine wp_block ?_
 refine wp_seq ?_
 refine rgl0 hS [] [0, 1, 3, 4, 5, 11, 12] (Lo := [(0, eqS (vP K.bb 0)), (1, ndS (.mk 4 n [a, b])), (3, nwS 0), (4, eqS vf), (5, fbS 0), (11, eqS (vI 4)), (12, eqS vf)]) (by kernel_rfl) (by kernel_rfl) trivial fun ac g w hS => ?_
 refine then_n ?_
 refine wp_cond_false (hS.f.frm.eval rfl) ?_
 refine wp_seq ?_
 refine rgl0 hS [] [0, 1, 3, 4, 5, 11, 12, 14] (Lo := [(0, eqS (vP K.bb 0)), (1, ndS (.mk 4 n [a, b])), (3, nwS 0), (4, eqS vf), (5, fbS 0), (11, eqS (vI 4)), (12, eqS vf), (14, eqS vf)]) (by kernel_rfl) (by kernel_rfl) trivial fun ac g w hS => ?_
 refine then_n ?_
 refine wp_cond_false (hS.f.frm.eval rfl) ?_
 refine wp_seq ?_
 refine rgl0 hS [] [0, 1, 3, 4, 5, 11, 12, 14, 56] (Lo := [(0, eqS (vP K.bb 0)), (1, ndS (.mk 4 n [a, b])), (3, nwS 0), (4, eqS vf), (5, fbS 0), (11, eqS (vI 4)), (12, eqS vf), (14, eqS vf), (56, eqS vt)]) (by kernel_rfl) (by kernel_rfl) trivial fun ac g w hS => ?_
 refine then_n ?_
 refine wp_cond_true (hS.f.frm.eval rfl) ?_
 refine wp_seq ?_
 refine rgl0 hS [e0 0 [(3, nwS 0)] (ndS (.mk 4 n [a, b])), e0 1 [(58, ndS (.mk 4 n [a, b]))] (ndS (.mk 4 n [a, b])), e0 2 [(59, ndS (.mk 4 n [a, b]))] (nfS (.mk 4 n [a, b]) 2), e0 3 [(60, nfS (.mk 4 n [a, b]) 2)] (nsS ([a, b])), e0 4 [(61, nsS ([a, b]))] (ndS (.mk 5 0 [a, b]))] [0, 1, 3, 4, 5, 6, 11, 12, 14, 56] (Lo := [(0, eqS (vP K.bb 0)), (1, ndS (.mk 4 n [a, b])), (3, nwS 0), (4, eqS vf), (5, fbS 0), (6, ndS (.mk 5 0 [a, b])), (11, eqS (vI 4)), (12, eqS vf), (14, eqS vf), (56, eqS vt)]) (by kernel_rfl) (by kernel_rfl) ⟨⟨q_ldcN rfl rfl rfl rfl, trivial⟩, ⟨q_nlN rfl rfl, trivial⟩, ⟨q_nf rfl rfl sz110 Tryd.underlying112 rfl rfl, trivial⟩, ⟨q_nks rfl rfl, trivial⟩, ⟨q_made2 hj (wrk_two (by omega) c) rfl rfl rfl rfl, trivial⟩, trivial⟩ fun ac g w hS => ?_
 refine then_n ?_
 refine wp_seq ?_
 refine rga mo [e0 1 [(3, nwS 0)] (ndS (.mk 4 n [a, b])), e0 2 [(64, ndS (.mk 4 n [a, b]))] (ndS (.mk 4 n [a, b])), e0 3 [(65, ndS (.mk 4 n [a, b]))] (nfS (.mk 4 n [a, b]) 2), e0 4 [(66, nfS (.mk 4 n [a, b]) 2)] (nsS ([a, b])), e0 5 [(67, nsS ([a, b]))] (npS b), e0 6 [(68, npS b)] (ndS b), e0 8 [(70, fbS 0)] (ndS (pubOf a)), e0 9 [(69, ndS b), (71, ndS (pubOf a))] (nsS [b, pubOf a]), e1 10 [(63, eqS (vP K.bb 0)), (72, nsS [b, pubOf a])] (eqS vf), ⟨13, [(74, eqS vf), (3, nwS 0)], ndS (.mk 4 n [a, b]), [1], false⟩, ⟨14, [(74, eqS vf), (76, ndS (.mk 4 n [a, b]))], ndS (.mk 4 n [a, b]), [1], false⟩, ⟨15, [(74, eqS vf), (77, ndS (.mk 4 n [a, b]))], nfS (.mk 4 n [a, b]) 2, [1], false⟩, ⟨16, [(74, eqS vf), (78, nfS (.mk 4 n [a, b]) 2)], nsS ([a, b]), [1], false⟩, ⟨17, [(74, eqS vf), (79, nsS ([a, b]))], npS a, [1], false⟩, ⟨18, [(74, eqS vf), (80, npS a)], ndS a, [1], false⟩, ⟨20, [(74, eqS vf), (81, ndS a), (82, ndS (.mk 5 0 [a, b]))], nsS [a, .mk 5 0 [a, b]], [1], false⟩, ⟨21, [(74, eqS vf), (75, eqS (vP K.bb 0)), (83, nsS [a, .mk 5 0 [a, b]])], eqS vf, [1], true⟩, ⟨28, [(86, eqS vf), (90, eqS (vP K.bb 1))], eqS vf, [2], false⟩] [0, 1, 3, 4, 5, 6, 11, 12, 14, 56] (Bl [stB (bdR K m) [(83, cnS (.mk 4 n [a, b]))], stB (bdR K m1) [(83, cnS (.mk 4 n [a, b]))], stB (bdR K m') [(83, cnS (.mk 4 n [a, b]))]]) 2 (Lo := [(0, eqS (vP K.bb 0)), (1, ndS (.mk 4 n [a, b])), (3, nwS 0), (4, eqS vf), (5, fbS 0), (6, ndS (.mk 5 0 [a, b])), (11, eqS (vI 4)), (12, eqS vf), (14, eqS vf), (56, eqS vt)]) (by kernel_rfl) (by kernel_rfl) ⟨⟨q_ldcN rfl rfl rfl rfl, trivial⟩, ⟨q_nlN rfl rfl, trivial⟩, ⟨q_nf rfl rfl sz110 Tryd.underlying112 rfl rfl, trivial⟩, ⟨q_nks rfl rfl, trivial⟩, ⟨q_nix (j := 1) rfl rfl rfl rfl, trivial⟩, ⟨q_nld rfl rfl, trivial⟩, ⟨q_pub (j := 0) (k := 0) hj (hfit.kid (by simp)).2 rfl rfl rfl rfl rfl rfl, trivial⟩, ⟨q_nb2 rfl rfl rfl rfl, trivial⟩, ⟨m_bl (ih _ hg1) hq1 (by simp) (fun t ht => hfit.way (W := K.W) (l := [b, pubOf a]) (by simp [ways]) ht) rfl rfl rfl rfl rfl, trivial⟩, ⟨q_ldcN rfl rfl rfl rfl, trivial⟩, ⟨q_nlN rfl rfl, trivial⟩, ⟨q_nf rfl rfl sz110 Tryd.underlying112 rfl rfl, trivial⟩, ⟨q_nks rfl rfl, trivial⟩, ⟨q_nix (j := 0) rfl rfl rfl rfl, trivial⟩, ⟨q_nld rfl rfl, trivial⟩, ⟨q_nb2 rfl rfl rfl rfl, trivial⟩, ⟨m_bl (ih _ hg2) hq2 (by simp) (fun t ht => hfit.way (W := K.W) (l := [a, .mk 5 0 [a, b]]) (by simp [ways]) ht) rfl rfl rfl rfl rfl, trivial⟩, ⟨q_bd rfl 1 rfl rfl Tryd.underlying4 rfl (congrArg (fun z => some (vB z)) hd), trivial⟩, trivial⟩ hS rfl fun ac g w hS => ?_
 refine then_n ?_
 refine wp_ret ?_
 refine block_ret ?_
 refine then_ret ?_
 exact body_ret hS.f.frm (results1 Tryd.results82 (RV.tmp hS.f.frm rfl)) ⟨rfl, bd_ret hS⟩
set_option maxRecDepth 100000 in
set_option maxHeartbeats 4000000 in
theorem mk_kem4 {K : Bk} (hj : JoinOk) {f : Nat} (ih : ∀ g, g < f → BuildsOk K.T K.nb K.W K.met g) {m m' : Told} {v : Value} (w0 : World) (hX : ∀ x, x ∈ [K.bt] ++ [] → x < w0.heap.size) (hr : (bdR K m).P ⟨[K.bt], [], [], []⟩ w0) {n : Int} {a b : Tm} (hfit : Fit (.mk 4 n [a, b])) (hnd : IsN w0 [K.bt] (.mk 4 n [a, b]) v) {m1 : Told} {g1 : Nat} (hg1 : g1 < f) (hq1 : bl K.W K.met g1 [b, pubOf a] m = some (false, m1)){m2 : Told} {g2 : Nat} (hg2 : g2 < f) (hq2 : bl K.W K.met g2 [a, .mk 5 0 [a, b]] m1 = some (false, m2)) {g3 : Nat} {r : Bool} (hg3 : g3 < f) (hq3 : bl K.W K.met g3 [.mk 5 0 [a, b]] m2 = some (r, m')) (hd : K.W.kem = true) : Calls Tryd.prog 82 (List.toArray [vp K.bb, v]) w0 (Ret fun v w' => v = .bool r ∧ MapIs w' K.bt m' ∧ Ch [K.bt] w0 w') := by
 have c : tlen a + tlen b ≤ 1099511600000 := by have h1 := hfit.2; rw [tlen_two (by decide)] at h1; omega
 refine enterR (X := []) (F := [K.bt]) (ρ := bdR K m) [eqS (vp K.bb), ndS (.mk 4 n [a, b])] hX hr ⟨rfl, hnd, trivial⟩ Tryd.func82 rfl Tryd.ntmps82 rfl fun ac hS => ?_
 refine wp_seq ?_
 refine rgl [e1 0 [(1, ndS (.mk 4 n [a, b]))] (nwS 0)] [0, 1, 3, 4] (Bl [stB (bdR K m) [], stB (bdR K m) [(83, cnS (.mk 4 n [a, b]))]]) 1 (Lo := [(0, eqS (vP K.bb 0)), (1, ndS (.mk 4 n [a, b])), (3, nwS 0), (4, eqS vf)]) (by kernel_rfl) (by kernel_rfl) ⟨⟨m_boxN rfl rfl rfl rfl rfl, trivial⟩, trivial⟩ hS rfl fun ac g w hS => ?_
 refine then_n ?_
 refine wp_seq ?_
 refine rgl0 hS [e0 0 [(3, nwS 0)] (fbS 0)] [0, 1, 3, 4, 5] (Lo := [(0, eqS (vP K.bb 0)), (1, ndS (.mk 4 n [a, b])), (3, nwS 0), (4, eqS vf), (5, fbS 0)]) (by kernel_rfl) (by kernel_rfl) ⟨⟨q_fb (k := 0) rfl rfl rfl rfl, trivial⟩, trivial⟩ fun ac g w hS => ?_
 refine then_n ?_
 refine wp_seq ?_
 refine wp_seq ?_
 refine rgl0 hS [e0 0 [(3, nwS 0)] (ndS (.mk 4 n [a, b])), e0 1 [(8, ndS (.mk 4 n [a, b]))] (ndS (.mk 4 n [a, b])), e0 2 [(9, ndS (.mk 4 n [a, b]))] (nfS (.mk 4 n [a, b]) 0), e0 3 [(10, nfS (.mk 4 n [a, b]) 0)] (eqS (vI 4))] [0, 1, 3, 4, 5, 11] (Lo := [(0, eqS (vP K.bb 0)), (1, ndS (.mk 4 n [a, b])), (3, nwS 0), (4, eqS vf), (5, fbS 0), (11, eqS (vI 4))]) (by kernel_rfl) (by kernel_rfl) ⟨⟨q_ldcN rfl rfl rfl rfl, trivial⟩, ⟨q_nlN rfl rfl, trivial⟩, ⟨q_nf rfl rfl sz3 Tryd.underlying112 rfl rfl, trivial⟩, ⟨q_nk rfl rfl, trivial⟩, trivial⟩ fun ac g w hS => ?_
 refine then_n ?_
 refine wp_block ?_
 refine wp_seq ?_
 refine rgl0 hS [] [0, 1, 3, 4, 5, 11, 12] (Lo := [(0, eqS (vP K.bb 0)), (1, ndS (.mk 4 n [a, b])), (3, nwS 0), (4, eqS vf), (5, fbS 0), (11, eqS (vI 4)), (12, eqS vf)]) (by kernel_rfl) (by kernel_rfl) trivial fun ac g w hS => ?_
 refine then_n ?_
 refine wp_cond_false (hS.f.frm.eval rfl) ?_
 refine wp_seq ?_
 refine rgl0 hS [] [0, 1, 3, 4, 5, 11, 12, 14] (Lo := [(0, eqS (vP K.bb 0)), (1, ndS (.mk 4 n [a, b])), (3, nwS 0), (4, eqS vf), (5, fbS 0), (11, eqS (vI 4)), (12, eqS vf), (14, eqS vf)]) (by kernel_rfl) (by kernel_rfl) trivial fun ac g w hS => ?_
 refine then_n ?_
 refine wp_cond_false (hS.f.frm.eval rfl) ?_
 refine wp_seq ?_
 refine rgl0 hS [] [0, 1, 3, 4, 5, 11, 12, 14, 56] (Lo := [(0, eqS (vP K.bb 0)), (1, ndS (.mk 4 n [a, b])), (3, nwS 0), (4, eqS vf), (5, fbS 0), (11, eqS (vI 4)), (12, eqS vf), (14, eqS vf), (56, eqS vt)]) (by kernel_rfl) (by kernel_rfl) trivial fun ac g w hS => ?_
 refine then_n ?_
 refine wp_cond_true (hS.f.frm.eval rfl) ?_
 refine wp_seq ?_
 refine rgl0 hS [e0 0 [(3, nwS 0)] (ndS (.mk 4 n [a, b])), e0 1 [(58, ndS (.mk 4 n [a, b]))] (ndS (.mk 4 n [a, b])), e0 2 [(59, ndS (.mk 4 n [a, b]))] (nfS (.mk 4 n [a, b]) 2), e0 3 [(60, nfS (.mk 4 n [a, b]) 2)] (nsS ([a, b])), e0 4 [(61, nsS ([a, b]))] (ndS (.mk 5 0 [a, b]))] [0, 1, 3, 4, 5, 6, 11, 12, 14, 56] (Lo := [(0, eqS (vP K.bb 0)), (1, ndS (.mk 4 n [a, b])), (3, nwS 0), (4, eqS vf), (5, fbS 0), (6, ndS (.mk 5 0 [a, b])), (11, eqS (vI 4)), (12, eqS vf), (14, eqS vf), (56, eqS vt)]) (by kernel_rfl) (by kernel_rfl) ⟨⟨q_ldcN rfl rfl rfl rfl, trivial⟩, ⟨q_nlN rfl rfl, trivial⟩, ⟨q_nf rfl rfl sz110 Tryd.underlying112 rfl rfl, trivial⟩, ⟨q_nks rfl rfl, trivial⟩, ⟨q_made2 hj (wrk_two (by omega) c) rfl rfl rfl rfl, trivial⟩, trivial⟩ fun ac g w hS => ?_
 refine then_n ?_
 refine wp_seq ?_
 refine rga mo [e0 1 [(3, nwS 0)] (ndS (.mk 4 n [a, b])), e0 2 [(64, ndS (.mk 4 n [a, b]))] (ndS (.mk 4 n [a, b])), e0 3 [(65, ndS (.mk 4 n [a, b]))] (nfS (.mk 4 n [a, b]) 2), e0 4 [(66, nfS (.mk 4 n [a, b]) 2)] (nsS ([a, b])), e0 5 [(67, nsS ([a, b]))] (npS b), e0 6 [(68, npS b)] (ndS b), e0 8 [(70, fbS 0)] (ndS (pubOf a)), e0 9 [(69, ndS b), (71, ndS (pubOf a))] (nsS [b, pubOf a]), e1 10 [(63, eqS (vP K.bb 0)), (72, nsS [b, pubOf a])] (eqS vf), ⟨13, [(74, eqS vf), (3, nwS 0)], ndS (.mk 4 n [a, b]), [1], false⟩, ⟨14, [(74, eqS vf), (76, ndS (.mk 4 n [a, b]))], ndS (.mk 4 n [a, b]), [1], false⟩, ⟨15, [(74, eqS vf), (77, ndS (.mk 4 n [a, b]))], nfS (.mk 4 n [a, b]) 2, [1], false⟩, ⟨16, [(74, eqS vf), (78, nfS (.mk 4 n [a, b]) 2)], nsS ([a, b]), [1], false⟩, ⟨17, [(74, eqS vf), (79, nsS ([a, b]))], npS a, [1], false⟩, ⟨18, [(74, eqS vf), (80, npS a)], ndS a, [1], false⟩, ⟨20, [(74, eqS vf), (81, ndS a), (82, ndS (.mk 5 0 [a, b]))], nsS [a, .mk 5 0 [a, b]], [1], false⟩, ⟨21, [(74, eqS vf), (75, eqS (vP K.bb 0)), (83, nsS [a, .mk 5 0 [a, b]])], eqS vf, [1], true⟩, ⟨28, [(86, eqS vf), (90, eqS (vP K.bb 1))], eqS vt, [2], false⟩, ⟨32, [(92, eqS vt), (94, ndS (.mk 5 0 [a, b]))], nsS [.mk 5 0 [a, b]], [2], false⟩, ⟨33, [(92, eqS vt), (93, eqS (vP K.bb 0)), (95, nsS [.mk 5 0 [a, b]])], eqS (vB r), [2], true⟩] [0, 1, 3, 4, 5, 6, 11, 12, 14, 56] (Bl [stB (bdR K m) [(83, cnS (.mk 4 n [a, b]))], stB (bdR K m1) [(83, cnS (.mk 4 n [a, b]))], stB (bdR K m2) [(83, cnS (.mk 4 n [a, b]))], stB (bdR K m') [(83, cnS (.mk 4 n [a, b]))]]) 3 (Lo := [(0, eqS (vP K.bb 0)), (1, ndS (.mk 4 n [a, b])), (3, nwS 0), (4, eqS (vB r)), (5, fbS 0), (6, ndS (.mk 5 0 [a, b])), (11, eqS (vI 4)), (12, eqS vf), (14, eqS vf), (56, eqS vt)]) (by kernel_rfl) (by kernel_rfl) ⟨⟨q_ldcN rfl rfl rfl rfl, trivial⟩, ⟨q_nlN rfl rfl, trivial⟩, ⟨q_nf rfl rfl sz110 Tryd.underlying112 rfl rfl, trivial⟩, ⟨q_nks rfl rfl, trivial⟩, ⟨q_nix (j := 1) rfl rfl rfl rfl, trivial⟩, ⟨q_nld rfl rfl, trivial⟩, ⟨q_pub (j := 0) (k := 0) hj (hfit.kid (by simp)).2 rfl rfl rfl rfl rfl rfl, trivial⟩, ⟨q_nb2 rfl rfl rfl rfl, trivial⟩, ⟨m_bl (ih _ hg1) hq1 (by simp) (fun t ht => hfit.way (W := K.W) (l := [b, pubOf a]) (by simp [ways]) ht) rfl rfl rfl rfl rfl, trivial⟩, ⟨q_ldcN rfl rfl rfl rfl, trivial⟩, ⟨q_nlN rfl rfl, trivial⟩, ⟨q_nf rfl rfl sz110 Tryd.underlying112 rfl rfl, trivial⟩, ⟨q_nks rfl rfl, trivial⟩, ⟨q_nix (j := 0) rfl rfl rfl rfl, trivial⟩, ⟨q_nld rfl rfl, trivial⟩, ⟨q_nb2 rfl rfl rfl rfl, trivial⟩, ⟨m_bl (ih _ hg2) hq2 (by simp) (fun t ht => hfit.way (W := K.W) (l := [a, .mk 5 0 [a, b]]) (by simp [ways]) ht) rfl rfl rfl rfl rfl, trivial⟩, ⟨q_bd rfl 1 rfl rfl Tryd.underlying4 rfl (congrArg (fun z => some (vB z)) hd), trivial⟩, ⟨q_nb1 rfl rfl rfl, trivial⟩, ⟨m_bl (ih _ hg3) hq3 (by simp) (fun t ht => hfit.way (W := K.W) (l := [.mk 5 0 [a, b]]) (by simp [ways, hd]) ht) rfl rfl rfl rfl rfl, trivial⟩, trivial⟩ hS rfl fun ac g w hS => ?_
 refine then_n ?_
 refine wp_ret ?_
 refine block_ret ?_
 refine then_ret ?_
 exact body_ret hS.f.frm (results1 Tryd.results82 (RV.tmp hS.f.frm rfl)) ⟨rfl, bd_ret hS⟩
set_option maxRecDepth 100000 in
set_option maxHeartbeats 4000000 in
theorem mk_ct {K : Bk} (hj : JoinOk) {f : Nat} (ih : ∀ g, g < f → BuildsOk K.T K.nb K.W K.met g) {m m' : Told} {v : Value} (w0 : World) (hX : ∀ x, x ∈ [K.bt] ++ [] → x < w0.heap.size) (hr : (bdR K m).P ⟨[K.bt], [], [], []⟩ w0) {n : Int} {a b : Tm} (hfit : Fit (.mk 5 n [a, b])) (hnd : IsN w0 [K.bt] (.mk 5 n [a, b]) v) {r : Bool} {g1 : Nat} (hg1 : g1 < f) (hq1 : bl K.W K.met g1 [b, pubOf a] m = some (r, m')) : Calls Tryd.prog 82 (List.toArray [vp K.bb, v]) w0 (Ret fun v w' => v = .bool r ∧ MapIs w' K.bt m' ∧ Ch [K.bt] w0 w') := by
 refine enterR (X := []) (F := [K.bt]) (ρ := bdR K m) [eqS (vp K.bb), ndS (.mk 5 n [a, b])] hX hr ⟨rfl, hnd, trivial⟩ Tryd.func82 rfl Tryd.ntmps82 rfl fun ac hS => ?_
 refine wp_seq ?_
 refine rgl [e1 0 [(1, ndS (.mk 5 n [a, b]))] (nwS 0)] [0, 1, 3, 4] (Bl [stB (bdR K m) [], stB (bdR K m) [(83, cnS (.mk 5 n [a, b]))]]) 1 (Lo := [(0, eqS (vP K.bb 0)), (1, ndS (.mk 5 n [a, b])), (3, nwS 0), (4, eqS vf)]) (by kernel_rfl) (by kernel_rfl) ⟨⟨m_boxN rfl rfl rfl rfl rfl, trivial⟩, trivial⟩ hS rfl fun ac g w hS => ?_
 refine then_n ?_
 refine wp_seq ?_
 refine rgl0 hS [e0 0 [(3, nwS 0)] (fbS 0)] [0, 1, 3, 4, 5] (Lo := [(0, eqS (vP K.bb 0)), (1, ndS (.mk 5 n [a, b])), (3, nwS 0), (4, eqS vf), (5, fbS 0)]) (by kernel_rfl) (by kernel_rfl) ⟨⟨q_fb (k := 0) rfl rfl rfl rfl, trivial⟩, trivial⟩ fun ac g w hS => ?_
 refine then_n ?_
 refine wp_seq ?_
 refine wp_seq ?_
 refine rgl0 hS [e0 0 [(3, nwS 0)] (ndS (.mk 5 n [a, b])), e0 1 [(8, ndS (.mk 5 n [a, b]))] (ndS (.mk 5 n [a, b])), e0 2 [(9, ndS (.mk 5 n [a, b]))] (nfS (.mk 5 n [a, b]) 0), e0 3 [(10, nfS (.mk 5 n [a, b]) 0)] (eqS (vI 5))] [0, 1, 3, 4, 5, 11] (Lo := [(0, eqS (vP K.bb 0)), (1, ndS (.mk 5 n [a, b])), (3, nwS 0), (4, eqS vf), (5, fbS 0), (11, eqS (vI 5))]) (by kernel_rfl) (by kernel_rfl) ⟨⟨q_ldcN rfl rfl rfl rfl, trivial⟩, ⟨q_nlN rfl rfl, trivial⟩, ⟨q_nf rfl rfl sz3 Tryd.underlying112 rfl rfl, trivial⟩, ⟨q_nk rfl rfl, trivial⟩, trivial⟩ fun ac g w hS => ?_
 refine then_n ?_
 refine wp_block ?_
 refine wp_seq ?_
 refine rgl0 hS [] [0, 1, 3, 4, 5, 11, 12] (Lo := [(0, eqS (vP K.bb 0)), (1, ndS (.mk 5 n [a, b])), (3, nwS 0), (4, eqS vf), (5, fbS 0), (11, eqS (vI 5)), (12, eqS vf)]) (by kernel_rfl) (by kernel_rfl) trivial fun ac g w hS => ?_
 refine then_n ?_
 refine wp_cond_false (hS.f.frm.eval rfl) ?_
 refine wp_seq ?_
 refine rgl0 hS [] [0, 1, 3, 4, 5, 11, 12, 14] (Lo := [(0, eqS (vP K.bb 0)), (1, ndS (.mk 5 n [a, b])), (3, nwS 0), (4, eqS vf), (5, fbS 0), (11, eqS (vI 5)), (12, eqS vf), (14, eqS vf)]) (by kernel_rfl) (by kernel_rfl) trivial fun ac g w hS => ?_
 refine then_n ?_
 refine wp_cond_false (hS.f.frm.eval rfl) ?_
 refine wp_seq ?_
 refine rgl0 hS [] [0, 1, 3, 4, 5, 11, 12, 14, 56] (Lo := [(0, eqS (vP K.bb 0)), (1, ndS (.mk 5 n [a, b])), (3, nwS 0), (4, eqS vf), (5, fbS 0), (11, eqS (vI 5)), (12, eqS vf), (14, eqS vf), (56, eqS vf)]) (by kernel_rfl) (by kernel_rfl) trivial fun ac g w hS => ?_
 refine then_n ?_
 refine wp_cond_false (hS.f.frm.eval rfl) ?_
 refine wp_seq ?_
 refine rgl0 hS [] [0, 1, 3, 4, 5, 11, 12, 14, 56, 99] (Lo := [(0, eqS (vP K.bb 0)), (1, ndS (.mk 5 n [a, b])), (3, nwS 0), (4, eqS vf), (5, fbS 0), (11, eqS (vI 5)), (12, eqS vf), (14, eqS vf), (56, eqS vf), (99, eqS vt)]) (by kernel_rfl) (by kernel_rfl) trivial fun ac g w hS => ?_
 refine then_n ?_
 refine wp_cond_true (hS.f.frm.eval rfl) ?_
 refine wp_seq ?_
 refine rga mo [e0 1 [(3, nwS 0)] (ndS (.mk 5 n [a, b])), e0 2 [(102, ndS (.mk 5 n [a, b]))] (ndS (.mk 5 n [a, b])), e0 3 [(103, ndS (.mk 5 n [a, b]))] (nfS (.mk 5 n [a, b]) 2), e0 4 [(104, nfS (.mk 5 n [a, b]) 2)] (nsS ([a, b])), e0 5 [(105, nsS ([a, b]))] (npS b), e0 6 [(106, npS b)] (ndS b), e0 8 [(108, fbS 0)] (ndS (pubOf a)), e0 9 [(107, ndS b), (109, ndS (pubOf a))] (nsS [b, pubOf a]), e1 10 [(101, eqS (vP K.bb 0)), (110, nsS [b, pubOf a])] (eqS (vB r))] [0, 1, 3, 4, 5, 11, 12, 14, 56, 99] (Bl [stB (bdR K m) [(83, cnS (.mk 5 n [a, b]))], stB (bdR K m') [(83, cnS (.mk 5 n [a, b]))]]) 1 (Lo := [(0, eqS (vP K.bb 0)), (1, ndS (.mk 5 n [a, b])), (3, nwS 0), (4, eqS (vB r)), (5, fbS 0), (11, eqS (vI 5)), (12, eqS vf), (14, eqS vf), (56, eqS vf), (99, eqS vt)]) (by kernel_rfl) (by kernel_rfl) ⟨⟨q_ldcN rfl rfl rfl rfl, trivial⟩, ⟨q_nlN rfl rfl, trivial⟩, ⟨q_nf rfl rfl sz110 Tryd.underlying112 rfl rfl, trivial⟩, ⟨q_nks rfl rfl, trivial⟩, ⟨q_nix (j := 1) rfl rfl rfl rfl, trivial⟩, ⟨q_nld rfl rfl, trivial⟩, ⟨q_pub (j := 0) (k := 0) hj (hfit.kid (by simp)).2 rfl rfl rfl rfl rfl rfl, trivial⟩, ⟨q_nb2 rfl rfl rfl rfl, trivial⟩, ⟨m_bl (ih _ hg1) hq1 (by simp) (fun t ht => hfit.way (W := K.W) (l := [b, pubOf a]) (by simp [ways]) ht) rfl rfl rfl rfl rfl, trivial⟩, trivial⟩ hS rfl fun ac g w hS => ?_
 refine then_n ?_
 refine wp_ret ?_
 refine block_ret ?_
 refine then_ret ?_
 exact body_ret hS.f.frm (results1 Tryd.results82 (RV.tmp hS.f.frm rfl)) ⟨rfl, bd_ret hS⟩
set_option maxRecDepth 100000 in
set_option maxHeartbeats 4000000 in
theorem mk_gen {K : Bk} (hj : JoinOk) {f : Nat} (ih : ∀ g, g < f → BuildsOk K.T K.nb K.W K.met g) {m m' : Told} {v : Value} (w0 : World) (hX : ∀ x, x ∈ [K.bt] ++ [] → x < w0.heap.size) (hr : (bdR K m).P ⟨[K.bt], [], [], []⟩ w0) {n : Int} {k : Int} {ks : List Tm} (hk1 : ¬ k = 1) (hk3 : ¬ k = 3) (hk4 : ¬ k = 4) (hk5 : ¬ k = 5) (hkl : ks.length ≤ 1000) (hfit : Fit (.mk k n ks)) (hnd : IsN w0 [K.bt] (.mk k n ks) v) {r : Bool} {g1 : Nat} (hg1 : g1 < f) (hq1 : bl K.W K.met g1 ks m = some (r, m')) : Calls Tryd.prog 82 (List.toArray [vp K.bb, v]) w0 (Ret fun v w' => v = .bool r ∧ MapIs w' K.bt m' ∧ Ch [K.bt] w0 w') := by
 refine enterR (X := []) (F := [K.bt]) (ρ := bdR K m) [eqS (vp K.bb), ndS (.mk k n ks)] hX hr ⟨rfl, hnd, trivial⟩ Tryd.func82 rfl Tryd.ntmps82 rfl fun ac hS => ?_
 refine wp_seq ?_
 refine rgl [e1 0 [(1, ndS (.mk k n ks))] (nwS 0)] [0, 1, 3, 4] (Bl [stB (bdR K m) [], stB (bdR K m) [(83, cnS (.mk k n ks))]]) 1 (Lo := [(0, eqS (vP K.bb 0)), (1, ndS (.mk k n ks)), (3, nwS 0), (4, eqS vf)]) (by kernel_rfl) (by kernel_rfl) ⟨⟨m_boxN rfl rfl rfl rfl rfl, trivial⟩, trivial⟩ hS rfl fun ac g w hS => ?_
 refine then_n ?_
 refine wp_seq ?_
 refine rgl0 hS [e0 0 [(3, nwS 0)] (fbS 0)] [0, 1, 3, 4, 5] (Lo := [(0, eqS (vP K.bb 0)), (1, ndS (.mk k n ks)), (3, nwS 0), (4, eqS vf), (5, fbS 0)]) (by kernel_rfl) (by kernel_rfl) ⟨⟨q_fb (k := 0) rfl rfl rfl rfl, trivial⟩, trivial⟩ fun ac g w hS => ?_
 refine then_n ?_
 refine wp_seq ?_
 refine wp_seq ?_
 refine rgl0 hS [e0 0 [(3, nwS 0)] (ndS (.mk k n ks)), e0 1 [(8, ndS (.mk k n ks))] (ndS (.mk k n ks)), e0 2 [(9, ndS (.mk k n ks))] (nfS (.mk k n ks) 0), e0 3 [(10, nfS (.mk k n ks) 0)] (eqS (vI k))] [0, 1, 3, 4, 5, 11] (Lo := [(0, eqS (vP K.bb 0)), (1, ndS (.mk k n ks)), (3, nwS 0), (4, eqS vf), (5, fbS 0), (11, eqS (vI k))]) (by kernel_rfl) (by kernel_rfl) ⟨⟨q_ldcN rfl rfl rfl rfl, trivial⟩, ⟨q_nlN rfl rfl, trivial⟩, ⟨q_nf rfl rfl sz3 Tryd.underlying112 rfl rfl, trivial⟩, ⟨q_nk rfl rfl, trivial⟩, trivial⟩ fun ac g w hS => ?_
 refine then_n ?_
 refine wp_block ?_
 refine wp_seq ?_
 refine rgl0 hS [e0 0 [(11, eqS (vI k))] (eqS vf)] [0, 1, 3, 4, 5, 11, 12] (Lo := [(0, eqS (vP K.bb 0)), (1, ndS (.mk k n ks)), (3, nwS 0), (4, eqS vf), (5, fbS 0), (11, eqS (vI k)), (12, eqS vf)]) (by kernel_rfl) (by kernel_rfl) ⟨⟨q_cmp rfl rfl rfl (congrArg some (decide_eq_false hk1)), trivial⟩, trivial⟩ fun ac g w hS => ?_
 refine then_n ?_
 refine wp_cond_false (hS.f.frm.eval rfl) ?_
 refine wp_seq ?_
 refine rgl0 hS [e0 0 [(11, eqS (vI k))] (eqS vf)] [0, 1, 3, 4, 5, 11, 12, 14] (Lo := [(0, eqS (vP K.bb 0)), (1, ndS (.mk k n ks)), (3, nwS 0), (4, eqS vf), (5, fbS 0), (11, eqS (vI k)), (12, eqS vf), (14, eqS vf)]) (by kernel_rfl) (by kernel_rfl) ⟨⟨q_cmp rfl rfl rfl (congrArg some (decide_eq_false hk3)), trivial⟩, trivial⟩ fun ac g w hS => ?_
 refine then_n ?_
 refine wp_cond_false (hS.f.frm.eval rfl) ?_
 refine wp_seq ?_
 refine rgl0 hS [e0 0 [(11, eqS (vI k))] (eqS vf)] [0, 1, 3, 4, 5, 11, 12, 14, 56] (Lo := [(0, eqS (vP K.bb 0)), (1, ndS (.mk k n ks)), (3, nwS 0), (4, eqS vf), (5, fbS 0), (11, eqS (vI k)), (12, eqS vf), (14, eqS vf), (56, eqS vf)]) (by kernel_rfl) (by kernel_rfl) ⟨⟨q_cmp rfl rfl rfl (congrArg some (decide_eq_false hk4)), trivial⟩, trivial⟩ fun ac g w hS => ?_
 refine then_n ?_
 refine wp_cond_false (hS.f.frm.eval rfl) ?_
 refine wp_seq ?_
 refine rgl0 hS [e0 0 [(11, eqS (vI k))] (eqS vf)] [0, 1, 3, 4, 5, 11, 12, 14, 56, 99] (Lo := [(0, eqS (vP K.bb 0)), (1, ndS (.mk k n ks)), (3, nwS 0), (4, eqS vf), (5, fbS 0), (11, eqS (vI k)), (12, eqS vf), (14, eqS vf), (56, eqS vf), (99, eqS vf)]) (by kernel_rfl) (by kernel_rfl) ⟨⟨q_cmp rfl rfl rfl (congrArg some (decide_eq_false hk5)), trivial⟩, trivial⟩ fun ac g w hS => ?_
 refine then_n ?_
 refine wp_cond_false (hS.f.frm.eval rfl) ?_
 refine wp_skip ?_
 refine block_n ?_
 refine then_n ?_
 refine wp_seq ?_
 refine rgl [e0 1 [(3, nwS 0)] (ndS (.mk k n ks)), e0 2 [(113, ndS (.mk k n ks))] (ndS (.mk k n ks)), e0 3 [(114, ndS (.mk k n ks))] (nfS (.mk k n ks) 2), e0 4 [(115, nfS (.mk k n ks) 2)] (nsS ks), e1 5 [(112, eqS (vP K.bb 0)), (116, nsS ks)] (eqS (vB r))] [0, 1, 3, 4, 5, 11, 12, 14, 56, 99] (Bl [stB (bdR K m) [(83, cnS (.mk k n ks))], stB (bdR K m') [(83, cnS (.mk k n ks))]]) 1 (Lo := [(0, eqS (vP K.bb 0)), (1, ndS (.mk k n ks)), (3, nwS 0), (4, eqS (vB r)), (5, fbS 0), (11, eqS (vI k)), (12, eqS vf), (14, eqS vf), (56, eqS vf), (99, eqS vf)]) (by kernel_rfl) (by kernel_rfl) ⟨⟨q_ldcN rfl rfl rfl rfl, trivial⟩, ⟨q_nlN rfl rfl, trivial⟩, ⟨q_nf rfl rfl sz110 Tryd.underlying112 rfl rfl, trivial⟩, ⟨q_nks rfl rfl, trivial⟩, ⟨m_bl (ih _ hg1) hq1 hkl (fun t ht => hfit.kid ht) rfl rfl rfl rfl rfl, trivial⟩, trivial⟩ hS rfl fun ac g w hS => ?_
 refine then_n ?_
 refine wp_ret ?_
 exact body_ret hS.f.frm (results1 Tryd.results82 (RV.tmp hS.f.frm rfl)) ⟨rfl, bd_ret hS⟩
set_option maxRecDepth 100000 in
set_option maxHeartbeats 4000000 in
theorem mk_atom {K : Bk} (hj : JoinOk) {f : Nat} (ih : ∀ g, g < f → BuildsOk K.T K.nb K.W K.met g) {m : Told} {v : Value} (w0 : World) (hX : ∀ x, x ∈ [K.bt] ++ [] → x < w0.heap.size) (hr : (bdR K m).P ⟨[K.bt], [], [], []⟩ w0) {n : Int} {ks : List Tm} (hfit : Fit (.mk 1 n ks)) (hnd : IsN w0 [K.bt] (.mk 1 n ks) v)  : Calls Tryd.prog 82 (List.toArray [vp K.bb, v]) w0 (Ret fun v w' => v = .bool false ∧ MapIs w' K.bt m ∧ Ch [K.bt] w0 w') := by
 refine enterR (X := []) (F := [K.bt]) (ρ := bdR K m) [eqS (vp K.bb), ndS (.mk 1 n ks)] hX hr ⟨rfl, hnd, trivial⟩ Tryd.func82 rfl Tryd.ntmps82 rfl fun ac hS => ?_
 refine wp_seq ?_
 refine rgl [e1 0 [(1, ndS (.mk 1 n ks))] (nwS 0)] [0, 1, 3, 4] (Bl [stB (bdR K m) [], stB (bdR K m) [(83, cnS (.mk 1 n ks))]]) 1 (Lo := [(0, eqS (vP K.bb 0)), (1, ndS (.mk 1 n ks)), (3, nwS 0), (4, eqS vf)]) (by kernel_rfl) (by kernel_rfl) ⟨⟨m_boxN rfl rfl rfl rfl rfl, trivial⟩, trivial⟩ hS rfl fun ac g w hS => ?_
 refine then_n ?_
 refine wp_seq ?_
 refine rgl0 hS [e0 0 [(3, nwS 0)] (fbS 0)] [0, 1, 3, 4, 5] (Lo := [(0, eqS (vP K.bb 0)), (1, ndS (.mk 1 n ks)), (3, nwS 0), (4, eqS vf), (5, fbS 0)]) (by kernel_rfl) (by kernel_rfl) ⟨⟨q_fb (k := 0) rfl rfl rfl rfl, trivial⟩, trivial⟩ fun ac g w hS => ?_
 refine then_n ?_
 refine wp_seq ?_
 refine wp_seq ?_
 refine rgl0 hS [e0 0 [(3, nwS 0)] (ndS (.mk 1 n ks)), e0 1 [(8, ndS (.mk 1 n ks))] (ndS (.mk 1 n ks)), e0 2 [(9, ndS (.mk 1 n ks))] (nfS (.mk 1 n ks) 0), e0 3 [(10, nfS (.mk 1 n ks) 0)] (eqS (vI 1))] [0, 1, 3, 4, 5, 11] (Lo := [(0, eqS (vP K.bb 0)), (1, ndS (.mk 1 n ks)), (3, nwS 0), (4, eqS vf), (5, fbS 0), (11, eqS (vI 1))]) (by kernel_rfl) (by kernel_rfl) ⟨⟨q_ldcN rfl rfl rfl rfl, trivial⟩, ⟨q_nlN rfl rfl, trivial⟩, ⟨q_nf rfl rfl sz3 Tryd.underlying112 rfl rfl, trivial⟩, ⟨q_nk rfl rfl, trivial⟩, trivial⟩ fun ac g w hS => ?_
 refine then_n ?_
 refine wp_block ?_
 refine wp_seq ?_
 refine rgl0 hS [] [0, 1, 3, 4, 5, 11, 12] (Lo := [(0, eqS (vP K.bb 0)), (1, ndS (.mk 1 n ks)), (3, nwS 0), (4, eqS vf), (5, fbS 0), (11, eqS (vI 1)), (12, eqS vt)]) (by kernel_rfl) (by kernel_rfl) trivial fun ac g w hS => ?_
 refine then_n ?_
 refine wp_cond_true (hS.f.frm.eval rfl) ?_
 refine wp_seq ?_
 refine rgl0 hS [] [0, 1, 3, 4, 5, 11, 12] (Lo := [(0, eqS (vP K.bb 0)), (1, ndS (.mk 1 n ks)), (3, nwS 0), (4, eqS vf), (5, fbS 0), (11, eqS (vI 1)), (12, eqS vt)]) (by kernel_rfl) (by kernel_rfl) trivial fun ac g w hS => ?_
 refine then_n ?_
 refine wp_ret ?_
 refine block_ret ?_
 refine then_ret ?_
 exact body_ret hS.f.frm (results1 Tryd.results82 (RV.tmp hS.f.frm rfl)) ⟨rfl, bd_ret hS⟩
theorem makes_step {K : Bk} (hj : JoinOk) {f : Nat} (ih : ∀ g, g < f → BuildsOk K.T K.nb K.W K.met g) {t : Tm} {m m' : Told} {r : Bool} {v : Value} (w0 : World) (hX : ∀ x, x ∈ [K.bt] ++ [] → x < w0.heap.size) (hr : (bdR K m).P ⟨[K.bt], [], [], []⟩ w0) (hany : anyOf K.W K.met f (ways K.W t) m = some (r, m')) (hfit : Fit t) (hnd : IsN w0 [K.bt] t v) : Calls Tryd.prog 82 (List.toArray [vp K.bb, v]) w0 (Ret fun v w' => v = .bool r ∧ MapIs w' K.bt m' ∧ Ch [K.bt] w0 w') := by
 obtain ⟨k, n, ks⟩ := t
 by_cases h1 : k = 1
 ·subst h1
  obtain ⟨rfl, rfl⟩ := any_atom hany
  exact mk_atom hj ih w0 hX hr hfit hnd
 by_cases h3 : k = 3
 ·subst h3
  obtain ⟨a, b, rfl, _, _⟩ := hfit.1.two' h1 (by omega) (by omega)
  rcases any_dh hany with ⟨g1, c, d, rfl⟩ | ⟨g1, g2, m1, c, hg2, d, hq2, rfl⟩ | ⟨g1, g2, m1, c, hg2, d, hq2, rfl, hd⟩ | ⟨g1, g2, g3, m1, m2, c, hg2, hg3, d, hq2, hq3, hd⟩
  ·exact mk_dh1 hj ih w0 hX hr hfit hnd c d
  ·exact mk_dh2 hj ih w0 hX hr hfit hnd c d hg2 hq2
  ·exact mk_dh3 hj ih w0 hX hr hfit hnd c d hg2 hq2 hd
  ·exact mk_dh4 hj ih w0 hX hr hfit hnd c d hg2 hq2 hg3 hq3 hd
 by_cases h4 : k = 4
 ·subst h4
  obtain ⟨a, b, rfl, _, _⟩ := hfit.1.two' h1 (by omega) (by omega)
  rcases any_kem hany with ⟨g1, c, d, rfl⟩ | ⟨g1, g2, m1, c, hg2, d, hq2, rfl⟩ | ⟨g1, g2, m1, c, hg2, d, hq2, rfl, hd⟩ | ⟨g1, g2, g3, m1, m2, c, hg2, hg3, d, hq2, hq3, hd⟩
  ·exact mk_kem1 hj ih w0 hX hr hfit hnd c d
  ·exact mk_kem2 hj ih w0 hX hr hfit hnd c d hg2 hq2
  ·exact mk_kem3 hj ih w0 hX hr hfit hnd c d hg2 hq2 hd
  ·exact mk_kem4 hj ih w0 hX hr hfit hnd c d hg2 hq2 hg3 hq3 hd
 by_cases h5 : k = 5
 ·subst h5
  obtain ⟨a, b, rfl, _, _⟩ := hfit.1.two' h1 (by omega) (by omega)
  obtain ⟨g1, c, d⟩ := any_ct hany
  exact mk_ct hj ih w0 hX hr hfit hnd c d
 obtain ⟨g1, c, d⟩ := any_gen h1 h3 h4 h5 hany
 exact mk_gen hj ih w0 hX hr h1 h3 h4 h5 (by have := (low_high hfit.1).2.2.2; omega) hfit hnd c d
end Go.Mi.Term
namespace Go.Mi.Term
open Go.Mi Go.Proofs Go.RowKit
theorem drop_cons {α : Type} {l : List α} {i : Nat} {t : α} (h : l[i]? = some t) : l.drop i = t :: l.drop (i + 1) := by
 obtain ⟨h1, h2⟩ := List.getElem?_eq_some_iff.1 h
 rw [List.drop_eq_getElem_cons h1, h2]
set_option maxRecDepth 100000 in
set_option maxHeartbeats 4000000 in
theorem bu_walk {K : Bk} {f : Nat} (hmk : ∀ g, g < f → MakesOk K.T K.nb K.W K.met g) {l : List Tm} {m m' : Told} {r : Bool} {v : Value} (w0 : World) (hX : ∀ x, x ∈ [K.bt] ++ [] → x < w0.heap.size) (hr : (bdR K m).P ⟨[K.bt], [], [], []⟩ w0) (hl : l.length ≤ 1000) (hq0 : bl K.W K.met f l m = some (r, m')) (hfit : ∀ t, t ∈ l → Fit t) (hv : (nsS l).hold ⟨[K.bt], [], [], []⟩ w0 v) : Calls Tryd.prog 45 (List.toArray [vp K.bb, v]) w0 (Ret fun v w' => v = .bool r ∧ MapIs w' K.bt m' ∧ Ch [K.bt] w0 w') := by
 refine enterR (X := []) (F := [K.bt]) (ρ := bdR K m) [eqS (vp K.bb), nsS l] hX hr ⟨rfl, hv, trivial⟩ Tryd.func45 rfl Tryd.ntmps45 rfl fun ac hS => ?_
 refine wp_seq ?_
 refine rgl0 hS [] [0, 1, 4] (Lo := [(0, eqS (vP K.bb 0)), (1, nsS l), (4, eqS vf)]) (by kernel_rfl) (by kernel_rfl) trivial fun ac g w hS => ?_
 refine then_n ?_
 refine wp_seq ?_
 refine wp_seq ?_
 refine rgl0 hS [e0 1 [(7, nsS l)] (eqS (vI l.length))] [0, 1, 4, 7, 8, 9] (Lo := [(0, eqS (vP K.bb 0)), (1, nsS l), (4, eqS vf), (7, nsS l), (8, eqS (vI l.length)), (9, eqS (vI 0))]) (by kernel_rfl) (by kernel_rfl) ⟨⟨q_nlen rfl rfl, trivial⟩, trivial⟩ fun ac g w hS => ?_
 refine then_n ?_
 refine wp_block ?_
 refine wp_loop_k (fun e ac w => ∃ (j : Nat) (mi : Told) (gi : Nat) (g : Gh), e = l.length - j ∧ (j ≤ l.length) ∧ (gi ≤ f) ∧ (bl K.W K.met gi (l.drop j) mi = some (r, m')) ∧ SS [(0, eqS (vP K.bb 0)), (7, nsS l), (8, eqS (vI l.length)), (9, eqS (vI j))] 68 (stB (bdR K mi) []) ⟨[K.bt], [], [], []⟩ w0 ac g w) _ ⟨0, m, f, _, rfl, Nat.zero_le _, Nat.le_refl _, hq0, hS.to ⟨rfl, rfl, rfl, rfl, trivial⟩⟩ ?_
 rintro _ ac w ⟨j, mi, gi, g, rfl, hj, hgi, hq, hS⟩
 refine wp_seq ?_
 refine rgl0 hS [] [0, 7, 8, 9, 10] (Lo := [(0, eqS (vP K.bb 0)), (7, nsS l), (8, eqS (vI l.length)), (9, eqS (vI j)), (10, eqS (vB (decide ((j : Int) < l.length))))]) (by kernel_rfl) (by kernel_rfl) trivial fun ac g w hS => ?_
 refine then_n ?_
 refine wp_seq ?_
 refine wp_if hS.f.frm rfl (fun h => ?_) (fun h => ?_)
 ·have hc := of_decide_eq_true h
  clear h
  have hc := Int.ofNat_lt.1 hc
  obtain ⟨t1, c⟩ : ∃ t1, l[j]? = some t1 := ⟨_, List.getElem?_eq_getElem hc⟩
  rw [drop_cons c] at hq
  obtain ⟨gg, m4, hg, a, b⟩ := bl_cons hq
  have d := hfit t1 (List.mem_of_getElem? c)
  refine wp_skip ?_
  refine then_n ?_
  refine wp_seq ?_
  refine wp_block ?_
  refine wp_seq ?_
  refine rgl0 hS [e0 0 [(7, nsS l), (9, eqS (vI j))] (npS t1), e0 1 [(11, npS t1)] (ndS t1)] [0, 6, 7, 8, 9, 10] (Lo := [(0, eqS (vP K.bb 0)), (6, ndS t1), (7, nsS l), (8, eqS (vI l.length)), (9, eqS (vI j)), (10, eqS (vB (decide ((j : Int) < l.length))))]) (by kernel_rfl) (by kernel_rfl) ⟨⟨q_nix (j := j) rfl rfl rfl c, trivial⟩, ⟨q_nld rfl rfl, trivial⟩, trivial⟩ fun ac g w hS => ?_
  refine then_n ?_
  refine wp_seq ?_
  refine wp_seq ?_
  refine rga0 mo hS [e0 3 [(15, eqS (vP K.bb 3))] (eqS (.map (some K.bt))), e0 5 [(17, ndS t1)] (ndS t1), e0 6 [(18, ndS t1)] (nfS t1 3), e0 7 [(19, nfS t1 3)] (eqS (vT (txt t1))), e0 8 [(16, eqS (.map (some K.bt))), (20, eqS (vT (txt t1)))] (eqS (vI (tl mi (txt t1))))] [0, 6, 7, 8, 9, 10, 22] (Lo := [(0, eqS (vP K.bb 0)), (6, ndS t1), (7, nsS l), (8, eqS (vI l.length)), (9, eqS (vI j)), (10, eqS (vB (decide ((j : Int) < l.length)))), (22, eqS (vB (decide (tl mi (txt t1) = 0))))]) (by kernel_rfl) (by kernel_rfl) ⟨⟨q_bd rfl 3 rfl rfl Tryd.underlying114 rfl rfl, trivial⟩, ⟨q_nlN rfl rfl, trivial⟩, ⟨q_nf rfl rfl sz9 Tryd.underlying112 rfl rfl, trivial⟩, ⟨q_ntx rfl rfl, trivial⟩, ⟨q_tl rfl rfl rfl rfl, trivial⟩, trivial⟩ fun ac g w hS => ?_
  refine then_n ?_
  refine wp_join (fun ac w => ∃  (g : Gh), SS [(0, eqS (vP K.bb 0)), (6, ndS t1), (7, nsS l), (8, eqS (vI l.length)), (9, eqS (vI j))] 68 (stB (bdR K m4) []) ⟨[K.bt], [], [], []⟩ w0 ac g w) ?_ ?_
  rotate_left
  ·rintro ac w ⟨g, hS⟩
   refine wp_seq ?_
   refine rga0 mo hS [e0 3 [(59, eqS (vP K.bb 3))] (eqS (.map (some K.bt))), e0 5 [(61, ndS t1)] (ndS t1), e0 6 [(62, ndS t1)] (nfS t1 3), e0 7 [(63, nfS t1 3)] (eqS (vT (txt t1))), e0 8 [(60, eqS (.map (some K.bt))), (64, eqS (vT (txt t1)))] (eqS (vI (tl m4 (txt t1))))] [0, 6, 7, 8, 9, 66] (Lo := [(0, eqS (vP K.bb 0)), (6, ndS t1), (7, nsS l), (8, eqS (vI l.length)), (9, eqS (vI j)), (66, eqS (vB (decide (tl m4 (txt t1) = 2))))]) (by kernel_rfl) (by kernel_rfl) ⟨⟨q_bd rfl 3 rfl rfl Tryd.underlying114 rfl rfl, trivial⟩, ⟨q_nlN rfl rfl, trivial⟩, ⟨q_nf rfl rfl sz9 Tryd.underlying112 rfl rfl, trivial⟩, ⟨q_ntx rfl rfl, trivial⟩, ⟨q_tl rfl rfl rfl rfl, trivial⟩, trivial⟩ fun ac g w hS => ?_
   refine then_n ?_
   refine wp_if hS.f.frm rfl (fun h => ?_) (fun h => ?_)
   ·have h2 := of_decide_eq_true h
    clear h
    rw [if_pos h2] at a
    refine wp_seq ?_
    refine rgl0 hS [] [0, 4, 6, 7, 8, 9, 66] (Lo := [(0, eqS (vP K.bb 0)), (4, eqS vf), (6, ndS t1), (7, nsS l), (8, eqS (vI l.length)), (9, eqS (vI j)), (66, eqS (vB (decide (tl m4 (txt t1) = 2))))]) (by kernel_rfl) (by kernel_rfl) trivial fun ac g w hS => ?_
    refine then_n ?_
    refine wp_ret ?_
    refine block_ret ?_
    refine then_ret ?_
    refine then_ret ?_
    refine block_ret ?_
    refine then_ret ?_
    exact body_ret hS.f.frm (results1 Tryd.results45 (RV.tmp hS.f.frm rfl)) ⟨by rw [a.1]; rfl, by rw [a.2]; exact bd_ret hS⟩
   ·have h2 := of_decide_eq_false h
    clear h
    rw [if_neg h2] at a
    refine wp_skip ?_
    refine block_n ?_
    refine then_n ?_
    refine rgl0 hS [e0 0 [(9, eqS (vI j))] (eqS (vI (((j : Nat) : Int) + 1)))] [0, 6, 7, 8, 9, 66] (Lo := [(0, eqS (vP K.bb 0)), (6, ndS t1), (7, nsS l), (8, eqS (vI l.length)), (9, eqS (vI (((j : Nat) : Int) + 1))), (66, eqS (vB (decide (tl m4 (txt t1) = 2))))]) (by kernel_rfl) (by kernel_rfl) ⟨⟨q_val fun ξ g w hB hH => ⟨_, rfl, d_add rfl rfl (wrap_i64 (by omega) (by omega))⟩, trivial⟩, trivial⟩ fun ac g w hS => ?_
    refine then_n ?_
    refine ⟨_, ?_, j + 1, m4, gg, _, rfl, hc, by omega, a, hS.to ⟨rfl, rfl, rfl, rfl, trivial⟩⟩
    omega
  refine wp_if hS.f.frm rfl (fun h => ?_) (fun h => ?_)
  ·have h0 := of_decide_eq_true h
   clear h
   refine wp_seq ?_
   refine rga mo [e0 3 [(25, eqS (vP K.bb 3))] (eqS (.map (some K.bt))), e0 5 [(27, ndS t1)] (ndS t1), e0 6 [(28, ndS t1)] (nfS t1 3), e0 7 [(29, nfS t1 3)] (eqS (vT (txt t1))), e1 8 [(26, eqS (.map (some K.bt))), (30, eqS (vT (txt t1)))] topS] [0, 6, 7, 8, 9, 10, 22] (Bl [stB (bdR K mi) [], stB (bdR K (st mi (txt t1) 2)) []]) 1 (Lo := [(0, eqS (vP K.bb 0)), (6, ndS t1), (7, nsS l), (8, eqS (vI l.length)), (9, eqS (vI j)), (10, eqS (vB (decide ((j : Int) < l.length)))), (22, eqS (vB (decide (tl mi (txt t1) = 0))))]) (by kernel_rfl) (by kernel_rfl) ⟨⟨q_bd rfl 3 rfl rfl Tryd.underlying114 rfl rfl, trivial⟩, ⟨q_nlN rfl rfl, trivial⟩, ⟨q_nf rfl rfl sz9 Tryd.underlying112 rfl rfl, trivial⟩, ⟨q_ntx rfl rfl, trivial⟩, ⟨m_tst rfl rfl rfl rfl rfl rfl, trivial⟩, trivial⟩ hS rfl fun ac g w hS => ?_
   refine then_n ?_
   refine wp_seq ?_
   rcases b with ⟨hn0, _⟩ | ⟨_, ⟨hm, rfl⟩ | ⟨hm, (_ | _), m3, hq3, rfl⟩⟩
   ·exact absurd h0 hn0
   ·skip
    refine rga0 mo hS [e0 3 [(33, eqS (vP K.bb 2))] (eqS (vP K.br 0)), e0 6 [(36, eqS (vP K.br 1))] (eqS (.map (some K.bm))), e0 8 [(38, ndS t1)] (ndS t1), e0 9 [(39, ndS t1)] (nfS t1 3), e0 10 [(40, nfS t1 3)] (eqS (vT (txt t1))), e0 11 [(37, eqS (.map (some K.bm))), (41, eqS (vT (txt t1)))] (eqS (vI (tl K.met (txt t1)))), e0 12 [(42, eqS (vI (tl K.met (txt t1))))] (eqS vt)] [0, 6, 7, 8, 9, 10, 22, 48] (Lo := [(0, eqS (vP K.bb 0)), (6, ndS t1), (7, nsS l), (8, eqS (vI l.length)), (9, eqS (vI j)), (10, eqS (vB (decide ((j : Int) < l.length)))), (22, eqS (vB (decide (tl mi (txt t1) = 0)))), (48, eqS vt)]) (by kernel_rfl) (by kernel_rfl) ⟨⟨q_bd rfl 2 rfl rfl Tryd.underlying80 rfl rfl, trivial⟩, ⟨q_bmet rfl rfl rfl, trivial⟩, ⟨q_nlN rfl rfl, trivial⟩, ⟨q_nf rfl rfl sz9 Tryd.underlying112 rfl rfl, trivial⟩, ⟨q_ntx rfl rfl, trivial⟩, ⟨q_tm rfl rfl rfl rfl, trivial⟩, ⟨q_cmp rfl rfl rfl (congrArg some (decide_eq_true hm)), trivial⟩, trivial⟩ fun ac g w hS => ?_
    refine then_n ?_
    refine wp_cond_true (hS.f.frm.eval rfl) ?_
    refine rga mo [e0 3 [(51, eqS (vP K.bb 3))] (eqS (.map (some K.bt))), e0 5 [(53, ndS t1)] (ndS t1), e0 6 [(54, ndS t1)] (nfS t1 3), e0 7 [(55, nfS t1 3)] (eqS (vT (txt t1))), e1 8 [(52, eqS (.map (some K.bt))), (56, eqS (vT (txt t1)))] topS] [0, 6, 7, 8, 9, 10, 22, 48] (Bl [stB (bdR K (st mi (txt t1) 2)) [], stB (bdR K (st (st mi (txt t1) 2) (txt t1) 1)) []]) 1 (Lo := [(0, eqS (vP K.bb 0)), (6, ndS t1), (7, nsS l), (8, eqS (vI l.length)), (9, eqS (vI j)), (10, eqS (vB (decide ((j : Int) < l.length)))), (22, eqS (vB (decide (tl mi (txt t1) = 0)))), (48, eqS vt)]) (by kernel_rfl) (by kernel_rfl) ⟨⟨q_bd rfl 3 rfl rfl Tryd.underlying114 rfl rfl, trivial⟩, ⟨q_nlN rfl rfl, trivial⟩, ⟨q_nf rfl rfl sz9 Tryd.underlying112 rfl rfl, trivial⟩, ⟨q_ntx rfl rfl, trivial⟩, ⟨m_tst rfl rfl rfl rfl rfl rfl, trivial⟩, trivial⟩ hS rfl fun ac g w hS => ?_
    refine then_n ?_
    exact ⟨g, hS.to ⟨rfl, rfl, rfl, rfl, rfl, trivial⟩⟩
   ·skip
    refine rga mo [e0 3 [(33, eqS (vP K.bb 2))] (eqS (vP K.br 0)), e0 6 [(36, eqS (vP K.br 1))] (eqS (.map (some K.bm))), e0 8 [(38, ndS t1)] (ndS t1), e0 9 [(39, ndS t1)] (nfS t1 3), e0 10 [(40, nfS t1 3)] (eqS (vT (txt t1))), e0 11 [(37, eqS (.map (some K.bm))), (41, eqS (vT (txt t1)))] (eqS (vI (tl K.met (txt t1)))), e0 12 [(42, eqS (vI (tl K.met (txt t1))))] (eqS vf), e1 16 [(44, eqS vf), (45, eqS (vP K.bb 0)), (46, ndS t1)] (eqS vf)] [0, 6, 7, 8, 9, 10, 22, 48] (Bl [stB (bdR K (st mi (txt t1) 2)) [], stB (bdR K m4) []]) 1 (Lo := [(0, eqS (vP K.bb 0)), (6, ndS t1), (7, nsS l), (8, eqS (vI l.length)), (9, eqS (vI j)), (10, eqS (vB (decide ((j : Int) < l.length)))), (22, eqS (vB (decide (tl mi (txt t1) = 0)))), (48, eqS vf)]) (by kernel_rfl) (by kernel_rfl) ⟨⟨q_bd rfl 2 rfl rfl Tryd.underlying80 rfl rfl, trivial⟩, ⟨q_bmet rfl rfl rfl, trivial⟩, ⟨q_nlN rfl rfl, trivial⟩, ⟨q_nf rfl rfl sz9 Tryd.underlying112 rfl rfl, trivial⟩, ⟨q_ntx rfl rfl, trivial⟩, ⟨q_tm rfl rfl rfl rfl, trivial⟩, ⟨q_cmp rfl rfl rfl (congrArg some (decide_eq_false hm)), trivial⟩, ⟨m_mk (hmk _ (by omega)) hq3 d rfl rfl rfl rfl rfl, trivial⟩, trivial⟩ hS rfl fun ac g w hS => ?_
    refine then_n ?_
    refine wp_cond_false (hS.f.frm.eval rfl) ?_
    refine wp_skip ?_
    refine then_n ?_
    exact ⟨g, hS.to ⟨rfl, rfl, rfl, rfl, rfl, trivial⟩⟩
   ·skip
    refine rga mo [e0 3 [(33, eqS (vP K.bb 2))] (eqS (vP K.br 0)), e0 6 [(36, eqS (vP K.br 1))] (eqS (.map (some K.bm))), e0 8 [(38, ndS t1)] (ndS t1), e0 9 [(39, ndS t1)] (nfS t1 3), e0 10 [(40, nfS t1 3)] (eqS (vT (txt t1))), e0 11 [(37, eqS (.map (some K.bm))), (41, eqS (vT (txt t1)))] (eqS (vI (tl K.met (txt t1)))), e0 12 [(42, eqS (vI (tl K.met (txt t1))))] (eqS vf), e1 16 [(44, eqS vf), (45, eqS (vP K.bb 0)), (46, ndS t1)] (eqS vt)] [0, 6, 7, 8, 9, 10, 22, 48] (Bl [stB (bdR K (st mi (txt t1) 2)) [], stB (bdR K m3) []]) 1 (Lo := [(0, eqS (vP K.bb 0)), (6, ndS t1), (7, nsS l), (8, eqS (vI l.length)), (9, eqS (vI j)), (10, eqS (vB (decide ((j : Int) < l.length)))), (22, eqS (vB (decide (tl mi (txt t1) = 0)))), (48, eqS vt)]) (by kernel_rfl) (by kernel_rfl) ⟨⟨q_bd rfl 2 rfl rfl Tryd.underlying80 rfl rfl, trivial⟩, ⟨q_bmet rfl rfl rfl, trivial⟩, ⟨q_nlN rfl rfl, trivial⟩, ⟨q_nf rfl rfl sz9 Tryd.underlying112 rfl rfl, trivial⟩, ⟨q_ntx rfl rfl, trivial⟩, ⟨q_tm rfl rfl rfl rfl, trivial⟩, ⟨q_cmp rfl rfl rfl (congrArg some (decide_eq_false hm)), trivial⟩, ⟨m_mk (hmk _ (by omega)) hq3 d rfl rfl rfl rfl rfl, trivial⟩, trivial⟩ hS rfl fun ac g w hS => ?_
    refine then_n ?_
    refine wp_cond_true (hS.f.frm.eval rfl) ?_
    refine rga mo [e0 3 [(51, eqS (vP K.bb 3))] (eqS (.map (some K.bt))), e0 5 [(53, ndS t1)] (ndS t1), e0 6 [(54, ndS t1)] (nfS t1 3), e0 7 [(55, nfS t1 3)] (eqS (vT (txt t1))), e1 8 [(52, eqS (.map (some K.bt))), (56, eqS (vT (txt t1)))] topS] [0, 6, 7, 8, 9, 10, 22, 48] (Bl [stB (bdR K m3) [], stB (bdR K (st m3 (txt t1) 1)) []]) 1 (Lo := [(0, eqS (vP K.bb 0)), (6, ndS t1), (7, nsS l), (8, eqS (vI l.length)), (9, eqS (vI j)), (10, eqS (vB (decide ((j : Int) < l.length)))), (22, eqS (vB (decide (tl mi (txt t1) = 0)))), (48, eqS vt)]) (by kernel_rfl) (by kernel_rfl) ⟨⟨q_bd rfl 3 rfl rfl Tryd.underlying114 rfl rfl, trivial⟩, ⟨q_nlN rfl rfl, trivial⟩, ⟨q_nf rfl rfl sz9 Tryd.underlying112 rfl rfl, trivial⟩, ⟨q_ntx rfl rfl, trivial⟩, ⟨m_tst rfl rfl rfl rfl rfl rfl, trivial⟩, trivial⟩ hS rfl fun ac g w hS => ?_
    refine then_n ?_
    exact ⟨g, hS.to ⟨rfl, rfl, rfl, rfl, rfl, trivial⟩⟩
  ·have h0 := of_decide_eq_false h
   clear h
   obtain rfl : m4 = mi := by rcases b with ⟨_, h⟩ | ⟨h, _⟩; exact h; exact absurd h h0
   refine wp_skip ?_
   refine then_n ?_
   exact ⟨g, hS.to ⟨rfl, rfl, rfl, rfl, rfl, trivial⟩⟩
 ·have hc := of_decide_eq_false h
  clear h
  rw [List.drop_eq_nil_of_le (by omega)] at hq
  obtain ⟨rfl, rfl⟩ := bl_nil hq
  refine wp_exit ?_
  refine then_exit ?_
  refine then_exit ?_
  refine block_exit ?_
  refine then_n ?_
  refine wp_seq ?_
  refine rgl0 hS [] [0, 4, 7, 8, 9, 10] (Lo := [(0, eqS (vP K.bb 0)), (4, eqS vt), (7, nsS l), (8, eqS (vI l.length)), (9, eqS (vI j)), (10, eqS (vB (decide ((j : Int) < l.length))))]) (by kernel_rfl) (by kernel_rfl) trivial fun ac g w hS => ?_
  refine then_n ?_
  refine wp_ret ?_
  exact body_ret hS.f.frm (results1 Tryd.results45 (RV.tmp hS.f.frm rfl)) ⟨rfl, bd_ret hS⟩
theorem builds_step {T0 : World → Prop} {nb : Nat} (hT : ∀ w w', Below nb w w' → T0 w → T0 w') {W : Wd} {met : Told} {f : Nat} (hmk : ∀ g, g < f → MakesOk T0 nb W met g) : BuildsOk T0 nb W met f := by
 intro l m m' r bb bt br bm rl ad cap xs w hl hq hfit hnb hnbt hw hbd hm hsl hns
 exact bu_walk (K := ⟨T0, nb, hT, W, met, bb, bt, br, bm, rl⟩) hmk w (fun x hx => by rw [List.mem_singleton.1 hx]; exact hm.lt) (bd_enter hnb hnbt hw hbd hm) hl hq hfit ⟨xs, hsl, hns⟩
theorem makes_ok {T0 : World → Prop} {nb : Nat} (hT : ∀ w w', Below nb w w' → T0 w → T0 w') (hj : JoinOk) {W : Wd} {met : Told} {f : Nat} (ih : ∀ g, g < f → BuildsOk T0 nb W met g) : MakesOk T0 nb W met f := by
 intro t m m' r bb bt br bm bn rl w hany hfit hnb hnbt hw hbd hm hnd
 exact makes_step (K := ⟨T0, nb, hT, W, met, bb, bt, br, bm, rl⟩) hj ih w (fun x hx => by rw [List.mem_singleton.1 hx]; exact hm.lt) (bd_enter hnb hnbt hw hbd hm) hany hfit hnd
theorem builds_ok {T0 : World → Prop} {nb : Nat} (hT : ∀ w w', Below nb w w' → T0 w → T0 w') (hjoin : JoinOk) {W : Wd} {met : Told} (f : Nat) : BuildsOk T0 nb W met f := by
 induction f using Nat.strongRecOn with
 | _ f ih => exact builds_step hT fun g hg => makes_ok hT hjoin fun g' hg' => ih g' (Nat.lt_trans hg' hg)
end Go.Mi.Term
