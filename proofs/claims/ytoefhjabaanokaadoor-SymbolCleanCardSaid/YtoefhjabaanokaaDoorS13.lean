/- What the reference tells of a run's keys. Plain laws. -/
import Derived.Test.YtoefhjabaanokaaDoorY28
import Derived.Test.YtoefhjabaanokaaDoorD9
set_option linter.unusedSimpArgs false
set_option linter.unusedVariables false
set_option linter.unnecessarySimpa false
namespace Go.Mi.Term
mutual
theorem nY : (t : Tm) → (fX t).length = cx t
 | .mk k n ks => by simp only [fX, cx, List.length_cons, lU ks]; omega
theorem lU : (ts : List Tm) → (iF ts).length = ck ts
 | [] => rfl
 | t :: ts => by simp only [iF, ck, List.length_append, nY t, lU ts]
end
theorem rM {known : List Tm} {c : Nat} (h : ∀ t, t ∈ known → nrm t = t ∧ cx t ≤ c) : (fF known).length ≤ known.length * c := by
 unfold fF
 rw [List.length_map]
 induction known with
 | nil => simp
 | cons t ts ih =>
  have ih := ih fun u hu => h u (by simp [hu])
  have ⟨h1, h2⟩ := h t (by simp)
  rw [List.filter_cons]
  simp only [List.length_cons, Nat.add_mul, Nat.one_mul]
  split
  ·simp only [List.flatMap_cons, List.length_append, nY, h1]; omega
  ·omega
theorem Fine.told {m c : Nat} {t : Tm} (h : Fine m c t) (h1 : m < 100) (h2 : c ≤ 5000) : cw t 0 = true ∧ cx t ≤ 5000 ∧ Ok t := by
 have := h.sh 0 (by omega)
 exact ⟨this, Nat.le_trans h.nd h2, (fI t 0 this).1⟩
theorem nJ {r : Rn} (hg : Good r) : ∃ g lf, dA ⟨r.dh, r.kem⟩ g (fsl r.known r.known.length) = some lf ∧ (∀ t, t ∈ lf → Ok t) ∧ lf.length ≤ 900000 ∧ (fF r.known).length ≤ 900000 ∧ (∀ i, LInv (fF r.known) (fsl r.known i)) ∧ (∀ x, x ∈ r.known → cw x 0 = true ∧ cx x ≤ 5000 ∧ Ok x) ∧ ∀ (i : Nat) e, r.keys[i]? = some e → (cw e.t 0 = true ∧ cx e.t ≤ 5000 ∧ Ok e.t) ∧ rb ⟨r.dh, r.kem⟩ lf e.t = !r.cleanZ (i : Int) := by
 have ha := hg.ac
 have a : ∀ t, t ∈ r.known → may t = true ∧ nrm t = t := fun t ht => ⟨(hg.sz.kn t ht).may (by omega) (by omega), (hg.sz.kn t ht).nm⟩
 obtain ⟨g, lf, h1, h2, h3, h4⟩ := m5 ⟨r.dh, r.kem⟩ r.known a
 have hu : (fF r.known).length ≤ 900000 := by
  have h5 := rM (known := r.known) (c := 620) fun t ht => ⟨(hg.sz.kn t ht).nm, Nat.le_trans (hg.sz.kn t ht).nd (by omega)⟩
  have h6 := hg.sz.nk
  have h7 : r.known.length * 620 ≤ 310 * 620 := Nat.mul_le_mul_right _ (by omega)
  omega
 refine ⟨g, lf, ?_, h2, Nat.le_trans h3 hu, hu, o_ a, fun x hx => (hg.sz.kn x hx).told (by omega) (by omega), fun i e he => ?_⟩
 ·unfold fsl; rw [List.take_length]; exact h1
 have hf := hg.sz.ky e (List.mem_of_getElem? he)
 refine ⟨hf.told (by omega) (by omega), ?_⟩
 have hm := hf.may (by omega) (by omega)
 have hk := hg.key he
 have hi := dx he
 have hz : r.cleanZ (i : Int) = r.cleanB i := by
  unfold Rn.cleanZ
  rw [if_pos (by omega)]
  simp
 have hd := h4 e.t hm hf.nm
 unfold Rn.open? at hk
 rw [hf.nm] at hk
 rw [hz, Bool.eq_iff_iff, hd]
 refine ⟨fun h => by rw [hk.1 ⟨hm, h⟩]; rfl, fun h => (hk.2 (by simpa using h)).2⟩
end Go.Mi.Term
