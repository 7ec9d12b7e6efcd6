/- What Knows and Text return, of any terms. -/
import Derived.Test.YtoefhjabaanokaaDoorW17
import Derived.Test.YtoefhjabaanokaaDoorB3
set_option linter.unusedSimpArgs false
set_option linter.unusedVariables false
set_option linter.unnecessarySimpa false
namespace Go.Mi.Term
open Go.Mi Go.Proofs Go.RowKit
mutual
def nodes : Tm → Nat
 | .mk _ _ ks => 1 + nodesL ks
def nodesL : List Tm → Nat
 | [] => 0
 | t :: ts => nodes t + nodesL ts
end
mutual
theorem cnt_nodes : (t : Tm) → (n : Nat) → cnt t n ≤ 5000 → cnt t n = n + nodes t
 | .mk _ _ ks, n, h => by
  simp only [cnt] at h ⊢
  rw [cntL_nodes ks (n + 1) h]
  simp only [nodes]; omega
theorem cntL_nodes : (ts : List Tm) → (n : Nat) → cntL ts n ≤ 5000 → cntL ts n = n + nodesL ts
 | [], n, _ => by simp [cntL, nodesL]
 | t :: ts, n, h => by
  simp only [cntL] at h ⊢
  split at h
  ·omega
  ·rename_i hn
   rw [if_neg hn]
   have h1 := cntL_ge ts (cnt t n)
   have h2 := cnt_nodes t n (by omega)
   have h3 := cntL_nodes ts (cnt t n) h
   rw [h3, h2]
   simp only [nodesL]; omega
end
theorem may_nodes {t : Tm} (h : may t = true) : nodes t ≤ 5000 := by
 simp only [may, Bool.and_eq_true, decide_eq_true_eq] at h
 have h1 := h.1
 unfold size at h1
 have h2 := cnt_nodes t 0 (by omega)
 omega
mutual
theorem nodes_nrm : (t : Tm) → nodes (nrm t) = nodes t
 | .mk _ _ ks => by simp only [nrm, nodes]; rw [nodesL_nrm ks]
theorem nodesL_nrm : (ts : List Tm) → nodesL (nrmL ts) = nodesL ts
 | [] => rfl
 | t :: ts => by simp only [nrmL, nodesL]; rw [nodes_nrm t, nodesL_nrm ts]
end
mutual
theorem subs_len : (t : Tm) → (subs t).length = nodes t
 | .mk _ _ ks => by simp only [subs, nodes, List.length_cons]; rw [subsL_len ks]; omega
theorem subsL_len : (ts : List Tm) → (subsL ts).length = nodesL ts
 | [] => rfl
 | t :: ts => by simp only [subsL, nodesL, List.length_append]; rw [subs_len t, subsL_len ts]
end
theorem dec_len : ∀ (k u : Nat), u < 10 ^ (k + 1) → (Lib.decDigits u).length ≤ k + 1
 | 0, u, h => by rw [Lib.decDigits, dif_pos (by simpa using h)]; simp
 | k + 1, u, h => by
  rw [Lib.decDigits]
  split
  ·simp
  ·simp only [List.length_append, List.length_cons, List.length_nil]
   have := dec_len k (u / 10) (by rw [Nat.pow_succ] at h; omega)
   omega
theorem word_le (k : Int) : (word k).length ≤ 4 := by
 unfold word
 repeat' split
 all_goals simp
theorem tlen_nodes (t : Tm) : Ok t → tlen t + 1 ≤ 20 * nodes t := by
 refine Tm.rec' (p := fun t => Ok t → tlen t + 1 ≤ 20 * nodes t) ?_ t
 intro k n ks ih ho
 by_cases hk : k = 1
 ·subst hk
  obtain ⟨_, _, hn⟩ := ho.named
  have hn := hn rfl
  unfold tlen
  rw [txt_atom, Lib.itoa, if_neg (by omega)]
  have := dec_len 9 n.toNat (by omega)
  simp only [List.length_cons, nodes]
  omega
 ·rw [tlen_more hk (ho.more hk)]
  have hw := word_le k
  have hs : (ks.map tlen).sum + ks.length ≤ 20 * nodesL ks := by
   have : ∀ l : List Tm, (∀ t, t ∈ l → tlen t + 1 ≤ 20 * nodes t) → (l.map tlen).sum + l.length ≤ 20 * nodesL l := by
    intro l
    induction l with
    | nil => intro _; simp [nodesL]
    | cons x l ihl =>
     intro h
     have h1 := h x (by simp)
     have h2 := ihl fun t ht => h t (by simp [ht])
     simp only [List.map_cons, List.sum_cons, List.length_cons, nodesL]
     omega
   exact this ks fun t ht => ih t ht (ho.kid ht)
  simp only [nodes]
  omega
theorem tlen_nrm (t : Tm) : tlen (nrm t) = tlen t := by unfold tlen; rw [txt_nrm]
theorem wrts_of {T0 : World → Prop} : ∀ {ts : List Tm}, (∀ t, t ∈ ts → WrT T0 t) → WrTs T0 ts
 | [], _ => by simp [WrTs]
 | t :: ts, h => by
  simp only [WrTs]
  exact ⟨h t (by simp), wrts_of fun u hu => h u (by simp [hu])⟩
def ItAll (T0 : World → Prop) : Prop := ∀ n : Int, 0 ≤ n → n ≤ 1073741824 → ItOk T0 n
theorem wr_of {T0 : World → Prop} (hit : ItAll T0) (t : Tm) : Ok t → tlen t ≤ 1099511000000 → WrT T0 t := by
 refine Tm.rec' (p := fun t => Ok t → tlen t ≤ 1099511000000 → WrT T0 t) ?_ t
 intro k n ks ih ho hl
 obtain ⟨h1, h9, hn⟩ := ho.named
 simp only [WrT]
 refine ⟨⟨⟨h1, h9⟩, fun hk => ?_, fun hk => ?_, fun hk => ?_, ?_⟩, ?_, ?_⟩
 ·subst hk
  have := ho.atom
  subst this
  exact ⟨by rw [if_pos rfl]; exact hit n (hn rfl).1 (hn rfl).2, rfl⟩
 ·rw [List.length_map]
  exact ⟨ho.more hk, by have := (low_high ho).2.2.2; omega⟩
 ·subst hk
  rw [List.length_map]
  exact (low_high ho).2.1 (by decide) (by decide) (by decide)
 ·by_cases hk : k = 1
  ·subst hk
   have := ho.atom
   subst this
   simp
  ·have h2 := tlen_more (n := n) hk (ho.more hk)
   have h3 : ((ks.map nrm).map txt).map List.length = ks.map tlen := by
    rw [List.map_map, List.map_map]
    refine List.map_congr_left fun t _ => ?_
    simp only [Function.comp]
    exact tlen_nrm t
   rw [h3, List.length_map]
   omega
 ·have := (low_high ho).2.2.2; omega
 ·refine wrts_of fun t ht => ih t ht (ho.kid ht) ?_
  by_cases hk : k = 1
  ·subst hk
   have := ho.atom
   subst this
   simp at ht
  ·have := tlen_kid (n := n) hk ht
   omega
theorem may_ok0 {t : Tm} (h : may t = true) : Ok t := by
 simp only [may, Bool.and_eq_true] at h
 exact (shaped_ok t 0 h.2).1
theorem may_wr {T0 : World → Prop} (hit : ItAll T0) {t : Tm} (h : may t = true) : WrT T0 t := by
 have h1 := may_nodes h
 have h2 := tlen_nodes t (may_ok0 h)
 exact wr_of hit t (may_ok0 h) (by omega)
theorem may_fit {t : Tm} (h : may t = true) : Fit (nrm t) := by
 have h1 := may_nodes h
 have h2 := tlen_nodes t (may_ok0 h)
 exact ⟨may_ok h, by rw [tlen_nrm]; omega⟩
theorem first_fit : ∀ (ts : List Tm) (r : Rw), AllFit r → AllFit (firstL ts r)
 | [], _, h => h
 | t :: ts, r, h => by
  simp only [firstL]
  refine first_fit ts _ ?_
  split
  ·rename_i hm; exact h.add (may_fit hm)
  ·exact h
theorem univ_len (known : List Tm) : (univ known).length ≤ 5000 * known.length := by
 unfold univ
 rw [List.length_map]
 induction known with
 | nil => simp
 | cons t ts ih =>
  simp only [List.filter_cons]
  split
  ·rename_i hm
   simp only [List.flatMap_cons, List.length_append, List.length_cons]
   rw [subs_len, nodes_nrm]
   have := may_nodes hm
   omega
  ·simp only [List.length_cons]; omega
theorem Knows_law {T0 : World → Prop} {nb : Nat} (hT : ∀ w w', Below nb w w' → T0 w → T0 w') (hjoin : JoinOk) (hclone : CloneOk) (hit : ItAll T0) {W : Wd} {known : List Tm} {t : Tm} {k nm : Int} {ad ad2 : Option Addr} {cap l2 cap2 : Nat} {xs : List Value} (w0 : World) (hnb : nb ≤ w0.heap.size) (hw0 : T0 w0) (hkl : known.length ≤ 100000000)
  (hsl : 0 < known.length → ∃ b o, ad = some ⟨b, o, none⟩ ∧ b ∉ ([] : List Nat) ∧ At w0 b o xs) (hks : IsTs w0 [] known xs) (ht : IsT w0 [] t [.int .i64 k, .int .i64 nm, .slice ad2 l2 cap2]) :
  ∃ b : Bool, (b = true ↔ may t = true ∧ Der W (Kn known) (nrm t)) ∧ Calls Tryd.prog 19 (List.toArray [.agg #[.bool W.dh, .bool W.kem], .slice ad known.length cap, .agg #[.int .i64 k, .int .i64 nm, .slice ad2 l2 cap2]]) w0 (Ret fun v w' => v = .bool b ∧ Gr w0 w') := by
 obtain ⟨f, g, b, h1, h2, h3⟩ := knows_all W known t
 refine ⟨b, h2, Knows_calls hT hjoin hclone h1 w0 hnb hw0 (by omega) (fun r hr => by have := h3 r hr; have := univ_len known; omega) (fun t _ hm => may_wr hit hm) (first_fit _ _ (by simp [AllFit])) (fun hm => may_wr hit hm) (fun hm => may_fit hm) hsl hks ht⟩
end Go.Mi.Term
