/- A region whose order is open, with operations that do something (calls, blocks, stores) one behind the other: what each yields may hang on what those before yielded. General lemmas. -/
import Derived.Test.YtoefhjabaanokaaDoorA8
namespace Go.Mi
open Go.RowKit

/-- of one operation: the operations that it builds on; the slots of before that it reads; behind how many doings it may come; on whose yields its own hangs; its value -/
structure HRow where
  us : List (Nat × Nat)
  zs : List (Nat × Value)
  ph : List Nat
  hs : List Nat
  out : (Nat → Value) → Value
  dep : ∀ H H' : Nat → Value, (∀ j, j ∈ hs → H j = H' j) → out H = out H'
def HRow.sh (r : HRow) : Row (fun _ _ => True) := ⟨r.us, r.zs, r.ph, .val undef⟩
def updV (H : Nat → Value) (i : Nat) (v : Value) : Nat → Value := fun j => bif Nat.beq j i then v else H j
theorem updV_eq (H : Nat → Value) (i : Nat) (v : Value) : updV H i v i = v := by simp [updV]
theorem updV_ne {H : Nat → Value} {i j : Nat} {v : Value} (h : j ≠ i) : updV H i v j = H j := by simp [updV, beqf h]
def HRow.fr (rows : List HRow) (r : HRow) (H : Nat → Value) : List (Nat × Value) :=
  r.us.map (fun p => (p.2, ((rows[p.1]?).map (·.out H)).getD undef)) ++ r.zs
def okHs (l : List Oper) (rows : List HRow) : Bool :=
  let B := befs l []
  rows.zipIdx.all fun q => q.1.hs.all fun j => Nat.beq j q.2 || (B.getD q.2 0).testBit j
def okAllH (n : Nat) (ss : List Nat) (l : List Oper) (rows : List HRow) : Bool := okAll n ss l (rows.map HRow.sh) && okHs l rows

def vb : Value → Option Bool
  | .bool b => some b
  | _ => none
/-- what is to be shown of one operation -/
def HOb (P : Program) (n : Nat) (Wd : Nat → (Nat → Value) → World → Prop) (ss : List Nat) (L0 : List (Nat × Value)) (rows : List HRow) (i : Nat) (o : Oper) (r : HRow) : Prop :=
  subL L0 r.zs ∧ ∀ (p : Nat), memN p r.ph = true → ∀ (H : Nat → Value) (w : World), Wd p H w →
    let R : Value → World → Prop := fun v w' => bif memN i ss then Wd (p + 1) (updV H i v) w' ∧ v = r.out (updV H i v) else Wd p H w' ∧ v = r.out H
    match o.guard with
    | none => Ok1 P o n (r.fr rows H) w R
    | some (j, b) => ∃ c rj, rows[j]? = some rj ∧ vb (rj.out H) = c ∧ (if c = some b then Ok1 P o n (r.fr rows H) w R else memN i ss = false ∧ undef = r.out H)

def HObs (P : Program) (n : Nat) (Wd : Nat → (Nat → Value) → World → Prop) (ss : List Nat) (L0 : List (Nat × Value)) (rows : List HRow) : Nat → List Oper → List HRow → Prop
  | i, o :: os, r :: rs => HOb P n Wd ss L0 rows i o r ∧ HObs P n Wd ss L0 rows (i + 1) os rs
  | _, _, _ => True

variable {P : Program} {n : Nat} {Wd : Nat → (Nat → Value) → World → Prop} {ss : List Nat} {L0 : List (Nat × Value)} {rows : List HRow}

theorem HObs.at : ∀ {os : List Oper} {rs : List HRow} {k : Nat}, HObs P n Wd ss L0 rows k os rs → ∀ (i : Nat) (o : Oper) (r : HRow), os[i]? = some o → rs[i]? = some r → HOb P n Wd ss L0 rows (k + i) o r
  | o :: os, r :: rs, k, h, 0, o', r', h1, h2 => by simp at h1 h2; subst h1; subst h2; exact h.1
  | o :: os, r :: rs, k, h, i + 1, o', r', h1, h2 => by
    have := HObs.at h.2 i o' r' (by simpa using h1) (by simpa using h2)
    rwa [show k + 1 + i = k + (i + 1) by omega] at this
  | [], rs, _, _, i, o', r', h1, _ => by simp at h1
  | _ :: _, [], _, _, i, o', r', _, h2 => by simp at h2

/-- the state in the middle of a region -/
structure HInv (l : List Oper) (n : Nat) (Wd : Nat → (Nat → Value) → World → Prop) (ss : List Nat) (L0 : List (Nat × Value)) (rows : List HRow) (listed : Array Bool) (p : Nat) (H : Nat → Value) (a : Act) (w : World) : Prop where
  size : listed.size = l.length
  closed : ∀ i o, l[i]? = some o → listed.getD i false = true → ∀ e ∈ o.after.toList, Region.binds .any e = true → listed.getD e.on false = true
  ple : p ≤ ss.length
  phase : ∀ k s, ss[k]? = some s → (listed.getD s false = true ↔ k < p)
  frame : a.tmps.size = n
  defers : a.defers = []
  wd : Wd p H w
  done : ∀ i o r d, l[i]? = some o → rows[i]? = some r → listed.getD i false = true → o.dst = some d → a.tmps.getD d undef = r.out H
  rest : ∀ s v, lk L0 s = some v → (∀ i o, l[i]? = some o → o.dst = some s → listed.getD i false = false) → a.tmps.getD s undef = v

variable {l : List Oper} {listed : Array Bool} {p : Nat} {H : Nat → Value} {a : Act} {w : World} {Q : Exit → Act → World → Prop}

theorem HInv.ahead (h : HInv l n Wd ss L0 rows listed p H a w) {i j : Nat} (ha : Ahead l i j) : listed.getD i false = true → listed.getD j false = true := by
  induction ha with
  | edge h1 h2 h3 => exact fun hi => h.closed _ _ h1 hi _ h2 h3
  | trans _ _ ih1 ih2 => exact fun hi => ih2 (ih1 hi)

theorem readyH_ahead (h : HInv l n Wd ss L0 rows listed p H a w) {i : Nat} (hr : i ∈ Region.ready .any l.toArray listed) {j : Nat} (ha : Ahead l i j) : listed.getD j false = true := by
  simp only [Region.ready, List.mem_filter, List.mem_range, Bool.and_eq_true] at hr
  obtain ⟨hi, _, hall⟩ := hr
  have direct : ∀ (o : Oper) (e : Edge), l[i]? = some o → e ∈ o.after.toList → Region.binds .any e = true → listed.getD e.on false = true := by
    intro o e ho he hb
    simp only [List.getElem?_toArray, ho, Option.map_some, Option.getD_some, Array.all_eq_true'] at hall
    have := hall e (by simpa using he)
    simpa [hb] using this
  have key : ∀ i' j', Ahead l i' j' → i' = i → listed.getD j' false = true := by
    intro i' j' ha'
    induction ha' with
    | edge h1 h2 h3 => intro e; subst e; exact direct _ _ h1 h2 h3
    | trans h1 h2 ih1 ih2 => exact fun e => h.ahead h2 (ih1 e)
  exact key i j ha rfl

theorem okHs.of (h : okHs l rows = true) : ∀ (i : Nat) (r : HRow), rows[i]? = some r → ∀ j, j ∈ r.hs → j = i ∨ Ahead l i j := by
  have hB := befs_ok l l [] (fun j o hj => by simpa using hj) (by simp)
  intro i r hr j hj
  simp only [okHs, List.all_eq_true, Bool.or_eq_true] at h
  rcases h (r, i) (mem_zipIdx' hr) j hj with h | h
  · exact .inl (Nat.eq_of_beq_eq_true h)
  · exact .inr (hB _ _ h)

theorem planH_step (ok : OkAll n ss l (rows.map HRow.sh)) (okh : ∀ (i : Nat) (r : HRow), rows[i]? = some r → ∀ j, j ∈ r.hs → j = i ∨ Ahead l i j) (hobs : HObs P n Wd ss L0 rows 0 l rows) (h : HInv l n Wd ss L0 rows listed p H a w) {i : Nat} (hr : i ∈ Region.ready .any l.toArray listed) :
    wpOp P l.toArray Q i (fun a' w' => ∃ p' H', HInv l n Wd ss L0 rows (listed.setIfInBounds i true) p' H' a' w') a w := by
  obtain ⟨hil, hnl⟩ := ready_lt hr
  have hil' : i < l.length := by simpa using hil
  have hnl' : listed.getD i false = false := by
    have : i < listed.size := by rw [h.size]; exact hil'
    simpa [this] using hnl
  obtain ⟨o, ho⟩ : ∃ o, l[i]? = some o := ⟨_, List.getElem?_eq_getElem hil'⟩
  obtain ⟨r, hrow⟩ : ∃ r, rows[i]? = some r := ⟨_, List.getElem?_eq_getElem (by have := ok.len; rw [List.length_map] at this; rw [this]; exact hil')⟩
  obtain ⟨hus, hzs, hgd, hph⟩ := ok.row i o r.sh ho (by rw [List.getElem?_map, hrow]; rfl)
  have hphase : memN p r.ph = true := by
    rcases hph p h.ple with h' | ⟨k, s, hk, h' | h'⟩
    · exact h'
    · obtain ⟨hkp, h'⟩ := h'
      have hs := (h.phase k s hk).2 hkp
      rcases h' with h' | h'
      · have := h.ahead h' hs; rw [hnl'] at this; simp at this
      · rw [h', hnl'] at hs; simp at hs
    · obtain ⟨hkp, h'⟩ := h'
      have hs := (h.phase k s hk).1 (readyH_ahead h hr h')
      omega
  obtain ⟨hsub, hob0⟩ := hobs.at i o r ho hrow
  rw [Nat.zero_add] at hob0
  have hob := hob0 p hphase
  have hlisted : ∀ u ∈ r.us, listed.getD u.1 false = true := fun u hu => readyH_ahead h hr (hus u hu).1
  have hholds : ∀ u ∈ r.us, ∀ r', rows[u.1]? = some r' → a.tmps.getD u.2 undef = r'.out H := by
    intro u hu r' hr'
    obtain ⟨ha, o', ho', hd'⟩ := hus u hu
    exact h.done u.1 o' r' u.2 ho' hr' (hlisted u hu) hd'
  have hF : Frm a n (r.fr rows H) := by
    refine ⟨h.frame, h.defers, fun t v hv => ?_⟩
    have hm := lk_mem hv
    simp only [HRow.fr, List.mem_append, List.mem_map, Prod.mk.injEq] at hm
    rcases hm with ⟨u, hu, rfl, rfl⟩ | hm
    · obtain ⟨_, o', ho', _⟩ := hus u hu
      obtain ⟨r', hr'⟩ : ∃ r', rows[u.1]? = some r' := by
        refine ⟨_, List.getElem?_eq_getElem ?_⟩
        have := ok.len
        rw [List.length_map] at this
        rw [this]
        rcases Nat.lt_or_ge u.1 l.length with h' | h'
        · exact h'
        · simp [List.getElem?_eq_none h'] at ho'
      simp only [hr', Option.map_some, Option.getD_some]
      exact hholds u hu r' hr'
    · refine h.rest t v (subL_mem hsub _ hm) fun j o' hj hd => ?_
      rcases hzs _ hm j o' hj hd with rfl | ha
      · exact hnl'
      · cases hlj : listed.getD j false with
        | false => rfl
        | true =>
          have := h.ahead ha hlj
          rw [hnl'] at this
          simp at this
  have hsz : i < listed.size := by rw [h.size]; exact hil'
  have hget : ∀ j, (listed.setIfInBounds i true).getD j false = if j = i then true else listed.getD j false := fun j => getD_set hsz
  -- the phase behind
  have hph2 : (bif memN i ss then p + 1 else p) ≤ ss.length ∧ ∀ k s, ss[k]? = some s → ((listed.setIfInBounds i true).getD s false = true ↔ k < (bif memN i ss then p + 1 else p)) := by
    have uniq : ∀ k k' : Nat, ss[k]? = some i → ss[k']? = some i → k = k' := by
      intro k k' hk hk'
      rcases Nat.lt_trichotomy k k' with hlt | he | hgt
      · have := readyH_ahead h hr (ok.chain k k' i i hk hk' hlt); rw [hnl'] at this; simp at this
      · exact he
      · have := readyH_ahead h hr (ok.chain k' k i i hk' hk hgt); rw [hnl'] at this; simp at this
    cases hmem : memN i ss with
    | false =>
      simp only [cond_false]
      refine ⟨h.ple, fun k s hk => ?_⟩
      have hne : s ≠ i := fun e => by
        have : i ∈ ss := by subst e; exact List.mem_of_getElem? hk
        rw [memN_iff.2 this] at hmem
        simp at hmem
      rw [hget, if_neg hne]
      exact h.phase k s hk
    | true =>
      simp only [cond_true]
      obtain ⟨k0, hk0⟩ := List.mem_iff_getElem?.1 (memN_iff.1 hmem)
      have hk0l : k0 < ss.length := by
        rcases Nat.lt_or_ge k0 ss.length with h' | h'
        · exact h'
        · simp [List.getElem?_eq_none h'] at hk0
      have h1 : ¬ k0 < p := fun hlt => by
        have := (h.phase k0 i hk0).2 hlt; rw [hnl'] at this; simp at this
      have h2 : ∀ k, k < k0 → k < p := by
        intro k hk
        obtain ⟨s, hs⟩ : ∃ s, ss[k]? = some s := ⟨_, List.getElem?_eq_getElem (by omega)⟩
        exact (h.phase k s hs).1 (readyH_ahead h hr (ok.chain k k0 s i hs hk0 hk))
      have hpk : p = k0 := by
        have := h.ple
        rcases Nat.lt_trichotomy p k0 with hlt | he | hgt
        · have := h2 p hlt; omega
        · exact he
        · omega
      refine ⟨by omega, fun k s hk => ?_⟩
      rw [hget]
      by_cases hsi : s = i
      · subst hsi
        have := uniq k k0 hk hk0
        rw [if_pos rfl]
        simp
        omega
      · rw [if_neg hsi, h.phase k s hk]
        have hne : k ≠ k0 := fun e => by subst e; rw [hk0] at hk; exact hsi (by simpa using hk.symm)
        omega
  have hkeep : ∀ (j : Nat) (r' : HRow), rows[j]? = some r' → listed.getD j false = true → ∀ v, r'.out (bif memN i ss then updV H i v else H) = r'.out H := by
    intro j r' hrj hlj v
    refine r'.dep _ _ fun jj hjj => ?_
    have hlt : listed.getD jj false = true := by
      rcases okh j r' hrj jj hjj with rfl | ha
      · exact hlj
      · exact h.ahead ha hlj
    cases memN i ss with
    | false => rfl
    | true => exact updV_ne fun e => by rw [e, hnl'] at hlt; simp at hlt
  have hfin : ∀ v w', (bif memN i ss then Wd (p + 1) (updV H i v) w' ∧ v = r.out (updV H i v) else Wd p H w' ∧ v = r.out H) → ∃ p' H', HInv l n Wd ss L0 rows (listed.setIfInBounds i true) p' H' (a.put o.dst v) w' := by
    intro v w' hR
    have hwd : Wd (bif memN i ss then p + 1 else p) (bif memN i ss then updV H i v else H) w' := by
      cases hm : memN i ss <;> rw [hm] at hR <;> exact hR.1
    have hv : v = r.out (bif memN i ss then updV H i v else H) := by
      cases hm : memN i ss <;> rw [hm] at hR <;> exact hR.2
    refine ⟨_, (bif memN i ss then updV H i v else H), by simp [h.size], ?_, hph2.1, hph2.2, ?_, ?_, hwd, ?_, ?_⟩
    · intro j o' hj hlj e he hb
      rw [hget] at hlj ⊢
      split
      · rfl
      · split at hlj
        · rename_i hji
          subst hji
          rw [ho] at hj
          cases hj
          exact ready_edges ho hr e he hb
        · exact h.closed j o' hj hlj e he hb
    · cases hd : o.dst <;> simp [Act.put, h.frame]
    · cases hd : o.dst <;> simp [Act.put, h.defers]
    · intro j o' r' d hj hrj hlj hd
      rw [hget] at hlj
      by_cases hji : j = i
      · subst hji
        rw [ho] at hj
        cases hj
        rw [hrow] at hrj
        cases hrj
        have hdn := ok.slot _ _ _ ho hd
        rw [← hv]
        simp only [hd, Act.put]
        simp [h.frame, hdn]
      · rw [if_neg hji] at hlj
        have hold := h.done j o' r' d hj hrj hlj hd
        have hne : o.dst ≠ some d := fun e => ok.once i j o o' ho hj (fun x => hji x.symm) (by rw [e]; simp) (by rw [e, hd])
        have : (a.put o.dst v).tmps.getD d undef = a.tmps.getD d undef := by
          cases hod : o.dst with
          | none => rfl
          | some d' =>
            have : d' ≠ d := fun e => hne (by rw [hod, e])
            simp [Act.put, Array.getElem?_setIfInBounds_ne this]
        rw [this, hkeep j r' hrj hlj v]
        exact hold
    · intro s u hs hno
      have hne : o.dst ≠ some s := fun e => by
        have := hno i o ho e
        rw [hget, if_pos rfl] at this
        simp at this
      have : (a.put o.dst v).tmps.getD s undef = a.tmps.getD s undef := by
        cases hod : o.dst with
        | none => rfl
        | some d' =>
          have : d' ≠ s := fun e => hne (by rw [hod, e])
          simp [Act.put, Array.getElem?_setIfInBounds_ne this]
      rw [this]
      refine h.rest s u hs fun j o' hj hd => ?_
      have := hno j o' hj hd
      rw [hget] at this
      split at this
      · simp at this
      · exact this
  have hob' := hob H w h.wd
  unfold wpOp
  simp only [List.getElem?_toArray, ho]
  cases hgu : o.guard with
  | none =>
    rw [hgu] at hob'
    rw [if_pos (by simp [Region.wanted, hgu])]
    exact .inl (hob' a _ Q hF fun v w' hR => hfin v w' hR)
  | some jb =>
    obtain ⟨j, b⟩ := jb
    rw [hgu] at hob'
    obtain ⟨c, rj, hrj, hout, hx⟩ := hob'
    obtain ⟨u, hu, huj⟩ := hgd j b hgu
    obtain ⟨ha, o', ho', hd'⟩ := hus u hu
    have hval : vb (a.tmps.getD u.2 undef) = c := by
      have := hholds u hu rj (by rw [huj]; exact hrj)
      rw [this]
      exact hout
    have hy : yielded l.toArray a.tmps j = c := by
      subst huj
      have hlt := ok.slot _ _ _ ho' hd'
      have hlt' : u.2 < a.tmps.size := by rw [h.frame]; exact hlt
      have hv2 : a.tmps[u.2]? = some (a.tmps.getD u.2 undef) := by
        rw [Array.getElem?_eq_getElem hlt']
        simp [hlt']
      rw [← hval]
      simp only [yielded, List.getElem?_toArray, ho', Option.bind_some, hd', hv2]
      generalize a.tmps.getD u.2 undef = x
      cases x <;> rfl
    by_cases hcb : c = some b
    · subst hcb
      simp only [if_true] at hx
      rw [if_pos (by simp [Region.wanted, hgu, hy])]
      exact .inl (hx a _ Q hF fun v w' hR => hfin v w' hR)
    · rw [if_neg hcb] at hx
      rw [if_neg (by simp [Region.wanted, hgu, hy, hcb])]
      have hwd : Wd (bif memN i ss then p + 1 else p) H w := by rw [hx.1]; exact h.wd
      -- nothing happens: the old facts stand as they stood
      refine ⟨_, H, by simp [h.size], ?_, hph2.1, hph2.2, ?_, ?_, hwd, ?_, ?_⟩
      · intro j o' hj hlj e he hb
        rw [hget] at hlj ⊢
        split
        · rfl
        · split at hlj
          · rename_i hji
            subst hji
            rw [ho] at hj
            cases hj
            exact ready_edges ho hr e he hb
          · exact h.closed j o' hj hlj e he hb
      · cases hd : o.dst <;> simp [Act.put, h.frame]
      · cases hd : o.dst <;> simp [Act.put, h.defers]
      · intro j o' r' d hj hrj hlj hd
        rw [hget] at hlj
        by_cases hji : j = i
        · subst hji
          rw [ho] at hj
          cases hj
          rw [hrow] at hrj
          cases hrj
          have hdn := ok.slot _ _ _ ho hd
          rw [← hx.2]
          simp only [hd, Act.put]
          simp [h.frame, hdn]
        · rw [if_neg hji] at hlj
          have hold := h.done j o' r' d hj hrj hlj hd
          have hne : o.dst ≠ some d := fun e => ok.once i j o o' ho hj (fun x => hji x.symm) (by rw [e]; simp) (by rw [e, hd])
          have : (a.put o.dst undef).tmps.getD d undef = a.tmps.getD d undef := by
            cases hod : o.dst with
            | none => rfl
            | some d' =>
              have : d' ≠ d := fun e => hne (by rw [hod, e])
              simp [Act.put, Array.getElem?_setIfInBounds_ne this]
          rw [this]
          exact hold
      · intro s u hs hno
        have hne : o.dst ≠ some s := fun e => by
          have := hno i o ho e
          rw [hget, if_pos rfl] at this
          simp at this
        have : (a.put o.dst undef).tmps.getD s undef = a.tmps.getD s undef := by
          cases hod : o.dst with
          | none => rfl
          | some d' =>
            have : d' ≠ s := fun e => hne (by rw [hod, e])
            simp [Act.put, Array.getElem?_setIfInBounds_ne this]
        rw [this]
        refine h.rest s u hs fun j o' hj hd => ?_
        have := hno j o' hj hd
        rw [hget] at this
        split at this
        · simp at this
        · exact this

/-- what is known when all is done -/
structure HDone (l : List Oper) (n : Nat) (Wd : Nat → (Nat → Value) → World → Prop) (ss : List Nat) (L0 : List (Nat × Value)) (rows : List HRow) (H : Nat → Value) (a : Act) (w : World) : Prop where
  frame : a.tmps.size = n
  defers : a.defers = []
  wd : Wd ss.length H w
  done : ∀ (i : Nat) (o : Oper) (r : HRow) (d : Nat), l[i]? = some o → rows[i]? = some r → o.dst = some d → a.tmps.getD d undef = r.out H
  rest : ∀ s v, lk L0 s = some v → (∀ (i : Nat) (o : Oper), l[i]? = some o → o.dst ≠ some s) → a.tmps.getD s undef = v

theorem planH_main (ok : OkAll n ss l (rows.map HRow.sh)) (okh : ∀ (i : Nat) (r : HRow), rows[i]? = some r → ∀ j, j ∈ r.hs → j = i ∨ Ahead l i j) (hobs : HObs P n Wd ss L0 rows 0 l rows)
    (hend : ∀ H a w, HDone l n Wd ss L0 rows H a w → Q .normal a w) :
    ∀ (fuel : Nat) (listed : Array Bool) (p : Nat) (H : Nat → Value) (a : Act) (w : World), HInv l n Wd ss L0 rows listed p H a w → left l.length listed ≤ fuel → wpAny P .any l.toArray Q fuel listed a w := by
  have whenAll : ∀ (listed : Array Bool) (p : Nat) (H : Nat → Value) (a : Act) (w : World), HInv l n Wd ss L0 rows listed p H a w → (∀ i, i < l.length → listed.getD i false = true) → Q .normal a w := by
    intro listed p H a w h hall
    have hp : p = ss.length := by
      rcases Nat.lt_or_ge p ss.length with hlt | hge
      · obtain ⟨s, hs⟩ : ∃ s, ss[p]? = some s := ⟨_, List.getElem?_eq_getElem hlt⟩
        have := (h.phase p s hs).1 (hall s (ok.inn p s hs))
        omega
      · have := h.ple; omega
    subst hp
    refine hend H a w ⟨h.frame, h.defers, h.wd, fun i o r d ho hr hd => ?_, fun s v hs hno => ?_⟩
    · refine h.done i o r d ho hr (hall i ?_) hd
      rcases Nat.lt_or_ge i l.length with h' | h'
      · exact h'
      · simp [List.getElem?_eq_none h'] at ho
    · exact h.rest s v hs fun i o ho hd => absurd hd (hno i o ho)
  have hready : ∀ (listed : Array Bool) (p : Nat) (H : Nat → Value) (a : Act) (w : World), HInv l n Wd ss L0 rows listed p H a w → Region.ready .any l.toArray listed = [] → ∀ i, i < l.length → listed.getD i false = true := by
    intro listed p H a w h hnil i0 hi0
    have : ∀ k i, i ≤ k → i < l.length → listed.getD i false = false → False := by
      intro k
      induction k with
      | zero =>
        intro i hik hil hif
        have hi0 : i = 0 := by omega
        subst hi0
        have ho : l[0]? = some l[0] := List.getElem?_eq_getElem hil
        have hmem : 0 ∈ Region.ready .any l.toArray listed := by
          simp only [Region.ready, List.mem_filter, List.mem_range, Bool.and_eq_true]
          refine ⟨by simpa using hil, ?_, ?_⟩
          · have : 0 < listed.size := by rw [h.size]; exact hil
            simpa [this] using hif
          · simp only [List.getElem?_toArray, ho, Option.map_some, Option.getD_some, Array.all_eq_true']
            intro e he
            cases hbd : Region.binds .any e with
            | false => simp
            | true => have := ok.back 0 _ ho e (by simpa using he) hbd; omega
        rw [hnil] at hmem
        simp at hmem
      | succ k ihk =>
        intro i hik hil hif
        by_cases hlow : ∃ j, j < i ∧ listed.getD j false = false
        · obtain ⟨j, hj, hjf⟩ := hlow
          exact ihk j (by omega) (by omega) hjf
        · have ho : l[i]? = some l[i] := List.getElem?_eq_getElem hil
          have hmem : i ∈ Region.ready .any l.toArray listed := by
            simp only [Region.ready, List.mem_filter, List.mem_range, Bool.and_eq_true]
            refine ⟨by simpa using hil, ?_, ?_⟩
            · have : i < listed.size := by rw [h.size]; exact hil
              simpa [this] using hif
            · simp only [List.getElem?_toArray, ho, Option.map_some, Option.getD_some, Array.all_eq_true']
              intro e he
              cases hbd : Region.binds .any e with
              | false => simp
              | true =>
                have hlt := ok.back i _ ho e (by simpa using he) hbd
                cases hb : listed.getD e.on false with
                | true => simp
                | false => exact absurd ⟨e.on, hlt, hb⟩ hlow
          rw [hnil] at hmem
          simp at hmem
    cases hb : listed.getD i0 false with
    | true => rfl
    | false => exact (this i0 i0 (Nat.le_refl _) hi0 hb).elim
  intro fuel
  induction fuel with
  | zero =>
    intro listed p H a w h hf
    have hall : ∀ i, i < l.length → listed.getD i false = true := by
      intro i hi
      have h0 : left l.length listed = 0 := by omega
      unfold left at h0
      rw [List.countP_eq_zero] at h0
      simpa using h0 i (by simpa using hi)
    refine ⟨?_, whenAll listed p H a w h hall⟩
    unfold Region.ready
    rw [List.filter_eq_nil_iff]
    intro i hi
    have hi' : i < l.length := by simpa using hi
    have h1 := hall i hi'
    have h2 : i < listed.size := by rw [h.size]; exact hi'
    have h3 : listed.getD i true = true := by simpa [h2] using h1
    rw [h3]
    simp
  | succ fuel ih =>
    intro listed p H a w h hf
    refine ⟨fun hnil => whenAll listed p H a w h (hready listed p H a w h hnil), fun i hi => ?_⟩
    refine wpOp_mono (fun a' w' h' => ?_) (planH_step (Q := Q) ok okh hobs h hi)
    obtain ⟨p', H', h'⟩ := h'
    refine ih _ p' H' a' w' h' ?_
    have hlt : i < l.length := by simpa using (ready_lt hi).1
    have hsz : i < listed.size := by rw [h.size]; exact hlt
    have hf' : listed.getD i false = false := by
      have := (ready_lt hi).2
      simpa [hsz] using this
    have := left_set hsz hlt hf'
    omega

/-- what the slots hold behind a region -/
def outH (H : Nat → Value) : List Oper → List HRow → List (Nat × Value)
  | o :: os, r :: rs => match o.dst with
    | some d => (d, r.out H) :: outH H os rs
    | none => outH H os rs
  | _, _ => []
theorem lk_outH {t : Nat} {v : Value} : ∀ {os : List Oper} {rs : List HRow}, lk (outH H os rs) t = some v →
    ∃ (i : Nat) (o : Oper) (r : HRow), os[i]? = some o ∧ rs[i]? = some r ∧ o.dst = some t ∧ v = r.out H
  | o :: os, r :: rs, h => by
    simp only [outH] at h
    cases hd : o.dst with
    | none =>
      rw [hd] at h
      obtain ⟨i, o', r', h1, h2, h3, h4⟩ := lk_outH h
      exact ⟨i + 1, o', r', by simpa using h1, by simpa using h2, h3, h4⟩
    | some d =>
      rw [hd] at h
      simp only [lk] at h
      by_cases e : d = t
      · subst e
        simp at h
        exact ⟨0, o, r, rfl, rfl, hd, h.symm⟩
      · rw [beqf e] at h
        obtain ⟨i, o', r', h1, h2, h3, h4⟩ := lk_outH h
        exact ⟨i + 1, o', r', by simpa using h1, by simpa using h2, h3, h4⟩
  | [], rs, h => by simp [outH, lk] at h
  | _ :: _, [], h => by simp [outH, lk] at h
theorem lk_outH_none {t : Nat} : ∀ {os : List Oper} {rs : List HRow}, lk (outH H os rs) t = none → ∀ (i : Nat) (o : Oper), i < rs.length → os[i]? = some o → o.dst ≠ some t
  | o :: os, r :: rs, h, i, o', hi, ho => by
    simp only [outH] at h
    cases i with
    | zero =>
      simp at ho
      subst ho
      intro hd
      rw [hd] at h
      simp [lk] at h
    | succ i =>
      have h' : lk (outH H os rs) t = none := by
        cases hd : o.dst with
        | none => rw [hd] at h; exact h
        | some d =>
          rw [hd] at h
          simp only [lk] at h
          by_cases e : d = t
          · subst e; simp at h
          · rw [beqf e] at h; exact h
      exact lk_outH_none h' i o' (by simpa using hi) (by simpa using ho)
  | [], rs, h, i, o', hi, ho => by simp at ho
  | _ :: _, [], h, i, o', hi, ho => by simp at hi

theorem HDone.frm (ok : OkAll n ss l (rows.map HRow.sh)) (h : HDone l n Wd ss L0 rows H a w) : Frm a n (outH H l rows ++ L0) := by
  refine ⟨h.frame, h.defers, fun t v ht => ?_⟩
  rw [lk_append] at ht
  cases ho : lk (outH H l rows) t with
  | some u =>
    rw [ho] at ht
    simp at ht
    subst ht
    obtain ⟨i, o, r, h1, h2, h3, h4⟩ := lk_outH ho
    rw [h4]
    exact h.done i o r t h1 h2 h3
  | none =>
    rw [ho] at ht
    refine h.rest t v ht fun i o hio => ?_
    have hi : i < l.length := by
      rcases Nat.lt_or_ge i l.length with h' | h'
      · exact h'
      · simp [List.getElem?_eq_none h'] at hio
    exact lk_outH_none ho i o (by have := ok.len; rw [List.length_map] at this; rw [this]; exact hi) hio

/-- the rule -/
theorem region_hist {rows : List HRow} {id : Nat} (hm : P.follows .mixedOrders = true) (Wd : Nat → (Nat → Value) → World → Prop) (ss : List Nat) (hok : okAllH n ss l rows = true) (hF : Frm a n L0) (h0 : ∀ H, Wd 0 H { w with drawn := w.drawn + 1 })
    (hobs : HObs P n Wd ss L0 rows 0 l rows)
    (hend : ∀ a' w' H, Wd ss.length H w' → Frm a' n (outH H l rows ++ L0) → Q .normal a' w') :
    (Code.region id l.toArray true).wp P Q a w := by
  simp only [okAllH, Bool.and_eq_true] at hok
  have ok := OkAll.of hok.1
  refine wp_region_any hm ?_
  refine planH_main ok (okHs.of hok.2) hobs (fun H a' w' hd => hend a' w' H hd.wd (hd.frm ok)) _ _ 0 (fun _ => undef) _ _ ?_ ?_
  · have h0' : ∀ j, (Array.replicate l.toArray.size false).getD j false = false := by
      intro j
      simp only [Array.getD_eq_getD_getElem?, Array.getElem?_replicate]
      split <;> rfl
    refine ⟨by simp, fun i o _ h => ?_, by omega, fun k s _ => ?_, hF.size, hF.defers, h0 _, fun i o r d _ _ h => ?_, fun s v hs _ => hF.get s v hs⟩
    · rw [h0'] at h; simp at h
    · rw [h0']; simp
    · rw [h0'] at h; simp at h
  · unfold left
    have := List.countP_le_length (l := List.range l.length) (p := fun i => !(Array.replicate l.toArray.size false).getD i false)
    simpa using this
end Go.Mi
