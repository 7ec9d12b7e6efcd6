/- Locks and hashes: what is known of them. Plain laws. -/
import Derived.Test.YtoefhjabaanokaaDoorK1
set_option linter.unusedSimpArgs false
set_option linter.unusedVariables false
set_option linter.unnecessarySimpa false
namespace Go.Mi.Term
abbrev atomT (n : Int) : Tm := .mk 1 n []
theorem ok_atom {n : Int} (h0 : 0 ≤ n) (h1 : n ≤ 1073741824) : Ok (atomT n) := by
  refine .mk ?_ (by simp [low]) (by simp [high]) (by simp)
  simp only [named, Bool.and_eq_true, Bool.or_eq_true, decide_eq_true_eq, Bool.not_eq_true', decide_eq_false_iff_not]
  omega
theorem atom_alike {a : Tm} {n : Int} (ha : Ok a) (h0 : 0 ≤ n) (h1 : n ≤ 1073741824) (h : txt a = txt (atomT n)) : a = atomT n := by
  have hal := alike ha (ok_atom h0 h1) h
  cases a with
  | mk k m ks =>
    obtain ⟨e1, e2, _⟩ := hal
    simp only [Tm.kind, Tm.name] at e1 e2
    subst e1
    have e2 := e2 rfl
    subst e2
    have := ha.atom
    subst this
    rfl
/-! counting as it is meant -/
mutual
theorem cnt_eq : (t : Tm) → (n : Nat) → n + nodes t ≤ 5000 → cnt t n = n + nodes t
  | .mk _ _ ks, n, h => by
    simp only [nodes] at h
    simp only [cnt, nodes]
    rw [cntL_eq ks (n + 1) (by omega)]; omega
theorem cntL_eq : (ts : List Tm) → (n : Nat) → n + nodesL ts ≤ 5000 → cntL ts n = n + nodesL ts
  | [], n, _ => by simp [cntL, nodesL]
  | t :: ts, n, h => by
    simp only [nodesL] at h
    simp only [cntL, nodesL]
    rw [if_neg (by omega), cnt_eq t n (by omega), cntL_eq ts (n + nodes t) (by omega)]; omega
end
theorem may_of {t : Tm} (h : nodes t ≤ 5000) (hs : shaped t 0 = true) : may t = true := by
  have h1 := cnt_eq t 0 (by omega)
  simp only [may, hs, Bool.and_true, decide_eq_true_eq]
  unfold size
  omega
theorem shaped_atom {n : Int} {d : Nat} (h0 : 0 ≤ n) (h1 : n ≤ 1073741824) (hd : d < 100) : shaped (atomT n) d = true := by
  simp only [shaped, shapedL, named, low, high, Bool.and_true, Bool.and_eq_true, Bool.or_eq_true, decide_eq_true_eq, Bool.not_eq_true', decide_eq_false_iff_not, List.length_nil]
  simp
  omega
theorem shaped_two {k n : Int} {a b : Tm} {d : Nat} (hk : k = 3 ∨ k = 4 ∨ k = 5 ∨ k = 7 ∨ k = 8 ∨ k = 9) (ha : shaped a (d + 1) = true) (hb : shaped b (d + 1) = true) (hd : d < 100) : shaped (.mk k n [a, b]) d = true := by
  simp only [shaped, shapedL, ha, hb, Bool.and_true, Bool.and_eq_true, decide_eq_true_eq]
  rcases hk with rfl | rfl | rfl | rfl | rfl | rfl <;> simp [named, low, high, hd]
theorem may_atom {n : Int} (h0 : 0 ≤ n) (h1 : n ≤ 1073741824) : may (atomT n) = true := may_of (by simp [nodes, nodesL]) (shaped_atom h0 h1 (by omega))
/-! ### locks -/
def lockT : List Int → Nat → Tm → Tm
  | [], _, s => s
  | k :: ks, i, s => .mk 7 0 [atomT k, .mk 8 0 [atomT (100 + i), lockT ks (i + 1) s]]
theorem lock_nodes (ks : List Int) (i : Nat) (s : Tm) : nodes (lockT ks i s) = nodes s + 4 * ks.length := by
  induction ks generalizing i with
  | nil => simp [lockT]
  | cons k ks ih => simp only [lockT, nodes, nodesL, ih, List.length_cons]; omega
theorem lock_shaped {ks : List Int} {s : Tm} (hk : ∀ k, k ∈ ks → 0 ≤ k ∧ k < 20) (hs : ∀ d, d < 100 → shaped s d = true) : ∀ (i d : Nat), i + ks.length ≤ 1000 → d + 2 * ks.length < 99 → shaped (lockT ks i s) d = true := by
  induction ks with
  | nil => intro i d _ hd; simp only [lockT]; exact hs d (by simp at hd; omega)
  | cons k ks ih =>
    intro i d hi hd
    simp only [List.length_cons] at hi hd
    have := hk k (by simp)
    simp only [lockT]
    exact shaped_two (by omega) (shaped_atom (by omega) (by omega) (by omega)) (shaped_two (by omega) (shaped_atom (by omega) (by omega) (by omega)) (ih (fun k' hk' => hk k' (by simp [hk'])) _ _ (by omega) (by omega)) (by omega)) (by omega)
theorem lock_nrm (ks : List Int) (i : Nat) (n : Int) : nrm (lockT ks i (atomT n)) = lockT ks i (atomT n) := by
  induction ks generalizing i with
  | nil => simp [lockT, nrm, nrmL]
  | cons k ks ih => simp [lockT, nrm, nrmL, ih]
theorem nrm_atom (n : Int) : nrm (atomT n) = atomT n := by simp [nrm, nrmL]
def lockL (ks have_ : List Int) (n : Int) : List Tm := lockT ks 0 (atomT n) :: have_.map atomT
section
variable {ks have_ : List Int} {n : Int}
theorem kn_lock (hk : ∀ k, k ∈ ks → 0 ≤ k ∧ k < 20) (hl : ks.length ≤ 10) (hh : ∀ h, h ∈ have_ → 0 ≤ h ∧ h < 20) (hn : 0 ≤ n ∧ n ≤ 1000000) (u : Tm) : Kn (lockL ks have_ n) u ↔ u = lockT ks 0 (atomT n) ∨ ∃ h, h ∈ have_ ∧ u = atomT h := by
  have hm : may (lockT ks 0 (atomT n)) = true := may_of (by rw [lock_nodes]; simp [nodes, nodesL]; omega) (lock_shaped hk (fun d hd => shaped_atom hn.1 (by omega) hd) 0 0 (by omega) (by omega))
  constructor
  · rintro ⟨v, hv, hmv, rfl⟩
    simp only [lockL, List.mem_cons, List.mem_map] at hv
    rcases hv with rfl | ⟨h, hh', rfl⟩
    · exact .inl (lock_nrm _ _ _)
    · exact .inr ⟨h, hh', nrm_atom h⟩
  · rintro (rfl | ⟨h, hh', rfl⟩)
    · exact ⟨_, by simp [lockL], hm, (lock_nrm _ _ _).symm⟩
    · have := hh h hh'
      exact ⟨atomT h, by simp only [lockL, List.mem_cons, List.mem_map]; exact .inr ⟨h, hh', rfl⟩, may_atom (by omega) (by omega), (nrm_atom h).symm⟩
theorem lock_ok (hk : ∀ k, k ∈ ks → 0 ≤ k ∧ k < 20) (hl : ks.length ≤ 10) (hn : 0 ≤ n ∧ n ≤ 1000000) : Ok (lockT ks 0 (atomT n)) := by
  have hm : may (lockT ks 0 (atomT n)) = true := may_of (by rw [lock_nodes]; simp [nodes, nodesL]; omega) (lock_shaped hk (fun d hd => shaped_atom hn.1 (by omega) hd) 0 0 (by omega) (by omega))
  exact may_ok0 hm
theorem lock_open {W : Wd} {S : Tm → Prop} (hS : ∀ h, h ∈ have_ → S (atomT h)) : ∀ (ks : List Int) (i : Nat), (∀ k, k ∈ ks → k ∈ have_) → Der W S (lockT ks i (atomT n)) → Der W S (atomT n) := by
  intro ks
  induction ks with
  | nil => intro i _ h; exact h
  | cons k ks ih =>
    intro i hk h
    simp only [lockT] at h
    exact ih (i + 1) (fun k' hk' => hk k' (by simp [hk'])) (.sig (.dec h (.kn (hS k (hk k (by simp))))))
/-- atoms that nobody has, but perhaps one -/
def Hid (P : Int → Prop) (t : Tm) : Prop := ∃ a : Int, 0 ≤ a ∧ a ≤ 1073741824 ∧ P a ∧ txt t = txt (atomT a)
theorem hid_secret (W : Wd) (P : Int → Prop) : Secret W (Hid P) := by
  refine ⟨fun a b _ _ he ⟨x, h0, h1, h2, h3⟩ => ⟨x, h0, h1, h2, he ▸ h3⟩, fun t ho ⟨x, h0, h1, _, h3⟩ l hl => ?_⟩
  have := atom_alike ho h0 h1 h3
  subst this
  simp [ways] at hl
theorem hid_not {P : Int → Prop} {t : Tm} (ho : Ok t) (hk : t.kind ≠ 1) : ¬ Hid P t := by
  rintro ⟨x, h0, h1, _, h3⟩
  have := atom_alike ho h0 h1 h3
  subst this
  exact hk rfl
theorem hid_atom {P : Int → Prop} {m : Int} (h0 : 0 ≤ m) (h1 : m ≤ 1073741824) : Hid P (atomT m) ↔ P m := by
  constructor
  · rintro ⟨x, k0, k1, h2, h3⟩
    have := atom_alike (ok_atom h0 h1) k0 k1 h3
    cases this
    exact h2
  · exact fun h => ⟨m, h0, h1, h, rfl⟩
theorem safe_atom {P : Int → Prop} {m : Int} (h0 : 0 ≤ m) (h1 : m ≤ 1073741824) (h : ¬ P m) : Safe (Hid P) (atomT m) := .other (fun hh => h ((hid_atom h0 h1).1 hh)) (by decide) (by decide) (by decide)
/-- a lock whose keys are not all there, or whose inside is no secret, is safe -/
theorem lock_safe {P : Int → Prop} (hs : ¬ P n) (h0 : 0 ≤ n) (h1 : n ≤ 1073741824) : ∀ (ks : List Int) (i : Nat), Ok (lockT ks i (atomT n)) → Safe (Hid P) (lockT ks i (atomT n)) := by
  intro ks
  induction ks with
  | nil => intro i _; exact safe_atom h0 h1 hs
  | cons k ks ih =>
    intro i ho
    simp only [lockT] at ho ⊢
    have hos := ho.kid (t := .mk 8 0 [atomT (100 + i), lockT ks (i + 1) (atomT n)]) (by simp)
    exact .enc (hid_not ho (by simp [Tm.kind])) (.sign (hid_not hos (by simp [Tm.kind])) (ih (i + 1) (hos.kid (by simp))))
theorem lock_shut {P : Int → Prop} (hk : ∀ k, k ∈ ks → 0 ≤ k ∧ k < 20) (hx : ∃ k, k ∈ ks ∧ P k) : ∀ (i : Nat), Ok (lockT ks i (atomT n)) → Safe (Hid P) (lockT ks i (atomT n)) := by
  induction ks with
  | nil => obtain ⟨k, h, _⟩ := hx; simp at h
  | cons k ks ih =>
    intro i ho
    simp only [lockT] at ho ⊢
    have hk0 := hk k (by simp)
    by_cases hp : P k
    · exact .shut (hid_not ho (by simp [Tm.kind])) ((hid_atom hk0.1 (by omega)).2 hp)
    · have hos := ho.kid (t := .mk 8 0 [atomT (100 + i), lockT ks (i + 1) (atomT n)]) (by simp)
      refine .enc (hid_not ho (by simp [Tm.kind])) (.sign (hid_not hos (by simp [Tm.kind])) (ih (fun k' hk' => hk k' (by simp [hk'])) ?_ (i + 1) (hos.kid (by simp))))
      obtain ⟨k', h1, h2⟩ := hx
      rcases List.mem_cons.1 h1 with rfl | h1
      · exact absurd h2 hp
      · exact ⟨k', h1, h2⟩
/-- what is sealed is known just with its keys -/
theorem locks_know {W : Wd} (hk : ∀ k, k ∈ ks → 0 ≤ k ∧ k < 20) (hl : ks.length ≤ 10) (hh : ∀ h, h ∈ have_ → 0 ≤ h ∧ h < 20) (hn : 2000 ≤ n ∧ n ≤ 1000000) : Der W (Kn (lockL ks have_ n)) (atomT n) ↔ ∀ k, k ∈ ks → k ∈ have_ := by
  have hn' : 0 ≤ n ∧ n ≤ 1000000 := by omega
  have kn := kn_lock hk hl hh hn'
  have hok : ∀ s, Kn (lockL ks have_ n) s → Ok s := fun s hs => by
    rcases (kn s).1 hs with rfl | ⟨h, hh', rfl⟩
    · exact lock_ok hk hl hn'
    · have := hh h hh'; exact ok_atom (by omega) (by omega)
  constructor
  · intro hd k hkk
    refine Classical.byContradiction fun hno => ?_
    have hsafe : Safe (Hid fun a => a ∉ have_) (atomT n) := secrecy (hid_secret W _) hok (fun s hs => by
      rcases (kn s).1 hs with rfl | ⟨h, hh', rfl⟩
      · exact lock_shut hk ⟨k, hkk, hno⟩ 0 (lock_ok hk hl hn')
      · have := hh h hh'; exact safe_atom (by omega) (by omega) (fun hx => hx hh')) hd
    exact hsafe.not ((hid_atom (by omega) (by omega)).2 fun hm => by have := hh n hm; omega)
  · intro hall
    exact lock_open (fun h hh' => (kn _).2 (.inr ⟨h, hh', rfl⟩)) ks 0 hall (.kn ((kn _).2 (.inl rfl)))
/-- who signed is not known -/
theorem locks_sign {W : Wd} (hk : ∀ k, k ∈ ks → 0 ≤ k ∧ k < 20) (hl : ks.length ≤ 10) (hh : ∀ h, h ∈ have_ → 0 ≤ h ∧ h < 20) (hn : 2000 ≤ n ∧ n ≤ 1000000) {i : Int} (hi : 0 ≤ i ∧ i < 20) : ¬ Der W (Kn (lockL ks have_ n)) (atomT (100 + i)) := by
  intro hd
  have hn' : 0 ≤ n ∧ n ≤ 1000000 := by omega
  have kn := kn_lock hk hl hh hn'
  have hok : ∀ s, Kn (lockL ks have_ n) s → Ok s := fun s hs => by
    rcases (kn s).1 hs with rfl | ⟨h, hh', rfl⟩
    · exact lock_ok hk hl hn'
    · have := hh h hh'; exact ok_atom (by omega) (by omega)
  have hsafe : Safe (Hid fun a => a ∉ have_ ∧ a ≠ n) (atomT (100 + i)) := secrecy (hid_secret W _) hok (fun s hs => by
    rcases (kn s).1 hs with rfl | ⟨h, hh', rfl⟩
    · exact lock_safe (fun h => h.2 rfl) (by omega) (by omega) ks 0 (lock_ok hk hl hn')
    · have := hh h hh'; exact safe_atom (by omega) (by omega) (fun hx => hx.1 hh')) hd
  exact hsafe.not ((hid_atom (by omega) (by omega)).2 ⟨fun hm => by have := hh _ hm; omega, by omega⟩)
end
end Go.Mi.Term
namespace Go.Mi.Term
/-! ### hashes -/
theorem kn_list {L : List Tm} (h : ∀ v, v ∈ L → may v = true ∧ nrm v = v) (u : Tm) : Kn L u ↔ u ∈ L := by
  constructor
  · rintro ⟨v, hv, _, rfl⟩
    rw [(h v hv).2]
    exact hv
  · intro hu
    exact ⟨u, hu, (h u hu).1, (h u hu).2.symm⟩
def atomsT (l : List Nat) : List Tm := l.map fun (i : Nat) => atomT (i : Int)
def hashT (n : Nat) : Tm := .mk 6 0 (atomsT (List.range n))
theorem atoms_nrm (l : List Nat) : nrmL (atomsT l) = atomsT l := by
  rw [nrmL_map]
  unfold atomsT
  rw [List.map_map]
  exact List.map_congr_left fun i _ => nrm_atom _
theorem atoms_nodes (l : List Nat) : nodesL (atomsT l) = l.length := by
  induction l with
  | nil => rfl
  | cons x l ih =>
    have : nodesL (atomsT (x :: l)) = nodes (atomT (x : Int)) + nodesL (atomsT l) := rfl
    rw [this, ih]
    simp [nodes, nodesL]; omega
theorem atoms_shaped {l : List Nat} {d : Nat} (hl : ∀ i, i ∈ l → i < 100) (hd : d < 100) : shapedL (atomsT l) d = true := by
  induction l with
  | nil => rfl
  | cons x l ih =>
    have hx := hl x (by simp)
    have : shapedL (atomsT (x :: l)) d = (shaped (atomT (x : Int)) d && shapedL (atomsT l) d) := rfl
    rw [this, shaped_atom (by omega) (by omega) hd, ih fun i hi => hl i (by simp [hi])]
    rfl
section
variable {n : Nat}
theorem hash_nrm : nrm (hashT n) = hashT n := by simp [hashT, nrm, atoms_nrm]
theorem hash_may (h1 : 1 ≤ n) (h8 : n ≤ 8) : may (hashT n) = true := by
  refine may_of ?_ ?_
  · simp only [hashT, nodes, atoms_nodes, List.length_range]; omega
  · have hs : shapedL (atomsT (List.range n)) 1 = true := atoms_shaped (fun i hi => by simp at hi; omega) (by omega)
    simp only [hashT, shaped, hs, Bool.and_true, Bool.and_eq_true, decide_eq_true_eq]
    refine ⟨by simp [named], by omega, ?_, ?_⟩
    · simp [low, atomsT]; omega
    · simp [high, atomsT]; omega
theorem hash_ok (h1 : 1 ≤ n) (h8 : n ≤ 8) : Ok (hashT n) := may_ok0 (hash_may h1 h8)
def haveL (l : List Nat) : List Tm := atomsT l
theorem kn_atoms {l : List Nat} (hl : ∀ i, i ∈ l → i < 100) (u : Tm) : Kn (atomsT l) u ↔ u ∈ atomsT l :=
  kn_list (fun v hv => by
    simp only [atomsT, List.mem_map] at hv
    obtain ⟨i, hi, rfl⟩ := hv
    have := hl i hi
    exact ⟨may_atom (by omega) (by omega), nrm_atom _⟩) u
theorem kn_atoms_hash {l : List Nat} (h1 : 1 ≤ n) (h8 : n ≤ 8) (hl : ∀ i, i ∈ l → i < 100) (u : Tm) : Kn (atomsT l ++ [hashT n]) u ↔ u ∈ atomsT l ++ [hashT n] :=
  kn_list (fun v hv => by
    rcases List.mem_append.1 hv with hv | hv
    · simp only [atomsT, List.mem_map] at hv
      obtain ⟨i, hi, rfl⟩ := hv
      have := hl i hi
      exact ⟨may_atom (by omega) (by omega), nrm_atom _⟩
    · obtain rfl := List.mem_singleton.1 hv
      exact ⟨hash_may h1 h8, hash_nrm⟩) u
theorem mem_atoms {l : List Nat} {i : Nat} : atomT (i : Int) ∈ atomsT l ↔ i ∈ l := by
  simp only [atomsT, List.mem_map]
  constructor
  · rintro ⟨j, hj, he⟩
    have : (j : Int) = i := by injection he
    have : j = i := by omega
    exact this ▸ hj
  · exact fun h => ⟨i, h, rfl⟩
/-- a hash is known of all that it is made of -/
theorem hash_know {W : Wd} {l : List Nat} (h1 : 1 ≤ n) (h8 : n ≤ 8) (hl : ∀ i, i ∈ l → i < 100) : Der W (Kn (atomsT l)) (hashT n) ↔ ∀ i, i < n → i ∈ l := by
  have kn := kn_atoms hl
  have hok : ∀ s, Kn (atomsT l) s → Ok s := fun s hs => by
    have := (kn s).1 hs
    simp only [atomsT, List.mem_map] at this
    obtain ⟨i, hi, rfl⟩ := this
    have := hl i hi
    exact ok_atom (by omega) (by omega)
  constructor
  · intro hd i hi
    refine Classical.byContradiction fun hno => ?_
    have hF : Secret W fun t => txt t = txt (atomT (i : Int)) ∨ txt t = txt (hashT n) := by
      refine ⟨fun a b _ _ he h => he ▸ h, fun t ho h l' hl' => ?_⟩
      rcases h with h | h
      · have := atom_alike ho (by omega) (by omega) h
        subst this
        simp [ways] at hl'
      · have hal := alike ho (hash_ok h1 h8) h
        cases t with
        | mk k m ks =>
          obtain ⟨e1, _, e3⟩ := hal
          simp only [hashT, Tm.kind, Tm.kids] at e1 e3
          subst e1
          have e3 := e3 (by decide)
          rw [ord_ne (by decide), ord_ne (by decide)] at e3
          rw [ways_gen (by decide) (by decide) (by decide) (by decide)] at hl'
          simp at hl'
          subst hl'
          have hm : txt (atomT (i : Int)) ∈ (atomsT (List.range n)).map txt := List.mem_map_of_mem (mem_atoms.2 (by simpa using hi))
          rw [← e3] at hm
          obtain ⟨u, hu, he⟩ := List.mem_map.1 hm
          exact ⟨u, hu, .inl he⟩
    have hs := secrecy hF hok (fun s hs => by
      have := (kn s).1 hs
      simp only [atomsT, List.mem_map] at this
      obtain ⟨j, hj, rfl⟩ := this
      have hj' := hl j hj
      refine .other ?_ (by decide) (by decide) (by decide)
      rintro (h | h)
      · have := atom_alike (ok_atom (n := (j : Int)) (by omega) (by omega)) (by omega) (by omega) h
        have e : (j : Int) = i := by injection this
        have : j = i := by omega
        exact hno (this ▸ hj)
      · have hal := alike (ok_atom (n := (j : Int)) (by omega) (by omega)) (hash_ok h1 h8) h
        have := hal.1
        simp [Tm.kind, hashT] at this) hd
    exact hs.not (.inr rfl)
  · intro hall
    refine .way (hash_ok h1 h8) (l := atomsT (List.range n)) (by unfold hashT; rw [ways_gen (by decide) (by decide) (by decide) (by decide)]; simp) fun u hu => ?_
    simp only [atomsT, List.mem_map, List.mem_range] at hu
    obtain ⟨i, hi, rfl⟩ := hu
    exact .kn ((kn _).2 (mem_atoms.2 (hall i hi)))
/-- and tells none of it -/
theorem hash_tells {W : Wd} {l : List Nat} (h1 : 1 ≤ n) (h8 : n ≤ 8) (hl : ∀ i, i ∈ l → i < 100) {i : Nat} (hi : i < 100) : Der W (Kn (atomsT l ++ [hashT n])) (atomT (i : Int)) ↔ i ∈ l := by
  have kn := kn_atoms_hash h1 h8 hl
  have hok : ∀ s, Kn (atomsT l ++ [hashT n]) s → Ok s := fun s hs => by
    rcases List.mem_append.1 ((kn s).1 hs) with h | h
    · simp only [atomsT, List.mem_map] at h
      obtain ⟨j, hj, rfl⟩ := h
      have := hl j hj
      exact ok_atom (by omega) (by omega)
    · obtain rfl := List.mem_singleton.1 h
      exact hash_ok h1 h8
  constructor
  · intro hd
    refine Classical.byContradiction fun hno => ?_
    have hsafe : Safe (Hid fun a => a = (i : Int)) (atomT (i : Int)) := secrecy (hid_secret W _) hok (fun s hs => by
      rcases List.mem_append.1 ((kn s).1 hs) with h | h
      · simp only [atomsT, List.mem_map] at h
        obtain ⟨j, hj, rfl⟩ := h
        have := hl j hj
        refine safe_atom (by omega) (by omega) (fun e => hno ?_)
        have e' : j = i := by omega
        exact e' ▸ hj
      · obtain rfl := List.mem_singleton.1 h
        exact .other (hid_not (hash_ok h1 h8) (by simp [hashT, Tm.kind])) (by decide) (by decide) (by decide)) hd
    exact hsafe.not ((hid_atom (by omega) (by omega)).2 rfl)
  · intro hm
    exact .kn ((kn _).2 (List.mem_append_left _ (mem_atoms.2 hm)))
end
end Go.Mi.Term
