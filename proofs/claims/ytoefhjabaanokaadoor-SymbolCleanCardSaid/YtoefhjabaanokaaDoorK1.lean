/- What Knows and Text return, of any terms. -/
import Derived.Test.YtoefhjabaanokaaDoorW17
import Derived.Test.YtoefhjabaanokaaDoorB3
set_option linter.unusedSimpArgs false
set_option linter.unusedVariables false
set_option linter.unnecessarySimpa false
namespace Go.Mi.Term
open Go.Mi Go.Proofs Go.RowKit
mutual
def cx : Tm → Nat
 | .mk _ _ ks => 1 + ck ks
def ck : List Tm → Nat
 | [] => 0
 | t :: ts => cx t + ck ts
end
mutual
theorem kB : (t : Tm) → (n : Nat) → cnt t n ≤ 5000 → cnt t n = n + cx t
 | .mk _ _ ks, n, h => by
  simp only [cnt] at h ⊢
  rw [jQ ks (n + 1) h]
  simp only [cx]; omega
theorem jQ : (ts : List Tm) → (n : Nat) → eR ts n ≤ 5000 → eR ts n = n + ck ts
 | [], n, _ => by simp [eR, ck]
 | t :: ts, n, h => by
  simp only [eR] at h ⊢
  split at h
  ·omega
  ·rename_i hn
   rw [if_neg hn]
   have h1 := lr ts (cnt t n)
   have h2 := kB t n (by omega)
   have h3 := jQ ts (cnt t n) h
   rw [h3, h2]
   simp only [ck]; omega
end
theorem iu {t : Tm} (h : may t = true) : cx t ≤ 5000 := by
 simp only [may, Bool.and_eq_true, decide_eq_true_eq] at h
 have h1 := h.1
 unfold size at h1
 have h2 := kB t 0 (by omega)
 omega
mutual
theorem kh : (t : Tm) → cx (nrm t) = cx t
 | .mk _ _ ks => by simp only [nrm, cx]; rw [jE ks]
theorem jE : (ts : List Tm) → ck (gx ts) = ck ts
 | [] => rfl
 | t :: ts => by simp only [gx, ck]; rw [kh t, jE ts]
end
mutual
theorem lT : (t : Tm) → (fX t).length = cx t
 | .mk _ _ ks => by simp only [fX, cx, List.length_cons]; rw [j_ ks]; omega
theorem j_ : (ts : List Tm) → (iF ts).length = ck ts
 | [] => rfl
 | t :: ts => by simp only [iF, ck, List.length_append]; rw [lT t, j_ ts]
end
theorem lp : ∀ (k u : Nat), u < 10 ^ (k + 1) → (Lib.decDigits u).length ≤ k + 1
 | 0, u, h => by rw [Lib.decDigits, dif_pos (by simpa using h)]; simp
 | k + 1, u, h => by
  rw [Lib.decDigits]
  split
  ·simp
  ·simp only [List.length_append, List.length_cons, List.length_nil]
   have := lp k (u / 10) (by rw [Nat.pow_succ] at h; omega)
   omega
theorem rJ (k : Int) : (dt k).length ≤ 4 := by
 unfold dt
 repeat' split
 all_goals simp
theorem jl (t : Tm) : Ok t → cz t + 1 ≤ 20 * cx t := by
 refine Tm.rec' (p := fun t => Ok t → cz t + 1 ≤ 20 * cx t) ?_ t
 intro k n ks ih ho
 by_cases hk : k = 1
 ·subst hk
  obtain ⟨_, _, hn⟩ := ho.named
  have hn := hn rfl
  unfold cz
  rw [eH, Lib.itoa, if_neg (by omega)]
  have := lp 9 n.toNat (by omega)
  simp only [List.length_cons, cx]
  omega
 ·rw [fG hk (ho.more hk)]
  have hw := rJ k
  have hs : (ks.map cz).sum + ks.length ≤ 20 * ck ks := by
   have : ∀ l : List Tm, (∀ t, t ∈ l → cz t + 1 ≤ 20 * cx t) → (l.map cz).sum + l.length ≤ 20 * ck l := by
    intro l
    induction l with
    | nil => intro _; simp [ck]
    | cons x l ihl =>
     intro h
     have h1 := h x (by simp)
     have h2 := ihl fun t ht => h t (by simp [ht])
     simp only [List.map_cons, List.sum_cons, List.length_cons, ck]
     omega
   exact this ks fun t ht => ih t ht (ho.kid ht)
  simp only [cx]
  omega
theorem lQ (t : Tm) : cz (nrm t) = cz t := by unfold cz; rw [nW]
theorem nU {T0 : World → Prop} : ∀ {ts : List Tm}, (∀ t, t ∈ ts → WrT T0 t) → WrTs T0 ts
 | [], _ => by simp [WrTs]
 | t :: ts, h => by
  simp only [WrTs]
  exact ⟨h t (by simp), nU fun u hu => h u (by simp [hu])⟩
def oJ (T0 : World → Prop) : Prop := ∀ n : Int, 0 ≤ n → n ≤ 1073741824 → wZ T0 n
theorem vu {T0 : World → Prop} (hit : oJ T0) (t : Tm) : Ok t → cz t ≤ 1099511000000 → WrT T0 t := by
 refine Tm.rec' (p := fun t => Ok t → cz t ≤ 1099511000000 → WrT T0 t) ?_ t
 intro k n ks ih ho hl
 obtain ⟨h1, h9, hn⟩ := ho.named
 simp only [WrT]
 refine ⟨⟨⟨h1, h9⟩, fun hk => ?_, fun hk => ?_, fun hk => ?_, ?_⟩, ?_, ?_⟩
 ·subst hk
  have := ho.atom
  subst this
  exact ⟨by rw [if_pos rfl]; exact hit n (hn rfl).1 (hn rfl).2, rfl⟩
 ·rw [List.length_map]
  exact ⟨ho.more hk, by have := (dS ho).2.2.2; omega⟩
 ·subst hk
  rw [List.length_map]
  exact (dS ho).2.1 (by decide) (by decide) (by decide)
 ·by_cases hk : k = 1
  ·subst hk
   have := ho.atom
   subst this
   simp
  ·have h2 := fG (n := n) hk (ho.more hk)
   have h3 : ((ks.map nrm).map txt).map List.length = ks.map cz := by
    rw [List.map_map, List.map_map]
    refine List.map_congr_left fun t _ => ?_
    simp only [Function.comp]
    exact lQ t
   rw [h3, List.length_map]
   omega
 ·have := (dS ho).2.2.2; omega
 ·refine nU fun t ht => ih t ht (ho.kid ht) ?_
  by_cases hk : k = 1
  ·subst hk
   have := ho.atom
   subst this
   simp at ht
  ·have := jm (n := n) hk ht
   omega
theorem k7 {t : Tm} (h : may t = true) : Ok t := by
 simp only [may, Bool.and_eq_true] at h
 exact (fI t 0 h.2).1
theorem qn {T0 : World → Prop} (hit : oJ T0) {t : Tm} (h : may t = true) : WrT T0 t := by
 have h1 := iu h
 have h2 := jl t (k7 h)
 exact vu hit t (k7 h) (by omega)
theorem oe {t : Tm} (h : may t = true) : Fit (nrm t) := by
 have h1 := iu h
 have h2 := jl t (k7 h)
 exact ⟨ge h, by rw [lQ]; omega⟩
theorem kq : ∀ (ts : List Tm) (r : Rw), AllFit r → AllFit (cQ ts r)
 | [], _, h => h
 | t :: ts, r, h => by
  simp only [cQ]
  refine kq ts _ ?_
  split
  ·rename_i hm; exact h.add (oe hm)
  ·exact h
theorem px (known : List Tm) : (fF known).length ≤ 5000 * known.length := by
 unfold fF
 rw [List.length_map]
 induction known with
 | nil => simp
 | cons t ts ih =>
  simp only [List.filter_cons]
  split
  ·rename_i hm
   simp only [List.flatMap_cons, List.length_append, List.length_cons]
   rw [lT, kh]
   have := iu hm
   omega
  ·simp only [List.length_cons]; omega
theorem po {T0 : World → Prop} {nb : Nat} (hT : ∀ w w', Below nb w w' → T0 w → T0 w') (hjoin : cG) (hclone : ii) (hit : oJ T0) {W : Wd} {known : List Tm} {t : Tm} {k nm : Int} {ad ad2 : Option Addr} {cap l2 cap2 : Nat} {xs : List Value} (w0 : World) (hnb : nb ≤ w0.heap.size) (hw0 : T0 w0) (hkl : known.length ≤ 100000000)
  (hsl : 0 < known.length → ∃ b o, ad = some ⟨b, o, none⟩ ∧ b ∉ ([] : List Nat) ∧ At w0 b o xs) (hks : IsTs w0 [] known xs) (ht : IsT w0 [] t [.int .i64 k, .int .i64 nm, .slice ad2 l2 cap2]) :
  ∃ b : Bool, (b = true ↔ may t = true ∧ Der W (Kn known) (nrm t)) ∧ Calls Tryd.prog 19 (List.toArray [.agg #[.bool W.dh, .bool W.kem], .slice ad known.length cap, .agg #[.int .i64 k, .int .i64 nm, .slice ad2 l2 cap2]]) w0 (Ret fun v w' => v = .bool b ∧ Gr w0 w') := by
 obtain ⟨f, g, b, h1, h2, h3⟩ := o5 W known t
 refine ⟨b, h2, mP hT hjoin hclone h1 w0 hnb hw0 (by omega) (fun r hr => by have := h3 r hr; have := px known; omega) (fun t _ hm => qn hit hm) (kq _ _ (by simp [AllFit])) (fun hm => qn hit hm) (fun hm => oe hm) hsl hks ht⟩
end Go.Mi.Term
