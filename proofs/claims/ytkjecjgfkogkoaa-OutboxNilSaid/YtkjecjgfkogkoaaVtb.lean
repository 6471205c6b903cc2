/- .. their walk. -/
import Derived.Test.YtkjecjgfkogkoaaVta
namespace Go.V
set_option linter.unusedSimpArgs false
set_option linter.unnecessarySimpa false
set_option linter.unusedVariables false

def topo (ops : Array Oper) : List Nat → Prop
  | [] => True
  | i :: V => (∀ j ∈ deps ops i, j ∈ V) ∧ topo ops V

theorem topo_deps {ops : Array Oper} : ∀ {V : List Nat}, topo ops V → ∀ i ∈ V, ∀ j ∈ deps ops i, j ∈ V
  | i :: V, h, i', hi, j, hj => by
    rcases List.mem_cons.1 hi with rfl | hi
    · exact List.mem_cons_of_mem _ (h.1 j hj)
    · exact List.mem_cons_of_mem _ (topo_deps h.2 i' hi j hj)

/-- The first one that is not done may be done. -/
theorem topo_first {ops : Array Oper} {listed : Array Bool} : ∀ {V : List Nat}, topo ops V → (∃ i ∈ V, listed.getD i true = false) → ∃ i ∈ V, listed.getD i true = false ∧ ∀ j ∈ deps ops i, listed.getD j true = true
  | [], _, h => by obtain ⟨i, hi, _⟩ := h; cases hi
  | i :: V, ht, h => by
    have cl := Classical.propDecidable
    by_cases hV : ∃ i ∈ V, listed.getD i true = false
    · obtain ⟨j, h1, h2, h3⟩ := topo_first ht.2 hV
      exact ⟨j, List.mem_cons_of_mem _ h1, h2, h3⟩
    · obtain ⟨j, hj, hjl⟩ := h
      rcases List.mem_cons.1 hj with rfl | hj
      · refine ⟨j, by simp, hjl, fun k hk => ?_⟩
        cases hkl : listed.getD k true with
        | true => rfl
        | false => exact absurd ⟨k, ht.1 k hk, hkl⟩ hV
      · exact absurd ⟨j, hj, hjl⟩ hV

theorem countP_less {α : Type} {p q : α → Bool} : ∀ (l : List α), (∀ x, q x = true → p x = true) → (∃ x ∈ l, p x = true ∧ q x = false) → l.countP q < l.countP p
  | [], _, h => by obtain ⟨x, hx, _⟩ := h; cases hx
  | y :: l, hi, h => by
    have le : l.countP q ≤ l.countP p := List.countP_mono_left (fun x _ => hi x)
    obtain ⟨x, hx, h1, h2⟩ := h
    rcases List.mem_cons.1 hx with rfl | hx
    · rw [List.countP_cons_of_pos h1, List.countP_cons_of_neg (by simp [h2])]; omega
    · have := countP_less l hi ⟨x, hx, h1, h2⟩
      by_cases hq : q y = true
      · rw [List.countP_cons_of_pos hq, List.countP_cons_of_pos (hi y hq)]; omega
      · rw [List.countP_cons_of_neg hq]
        have : l.countP p ≤ (y :: l).countP p := by rw [List.countP_cons]; omega
        omega

def cnt (n : Nat) (listed : Array Bool) : Nat := (List.range n).countP fun i => !listed.getD i true

theorem cnt_set {n i : Nat} {listed : Array Bool} (hi : i < n) (hl : listed.getD i true = false) (hs : listed.size = n) : cnt n (listed.setIfInBounds i true) < cnt n listed := by
  refine countP_less _ (fun x hx => ?_) ⟨i, List.mem_range.2 hi, by simp [hl], ?_⟩
  · by_cases hxi : x = i
    · subst hxi; simp [hl]
    · rw [getD_set_ne true (Ne.symm hxi)] at hx; exact hx
  · rw [Array.getD_eq_getD_getElem?, Array.getElem?_setIfInBounds_self_of_lt (by omega)]; rfl

section drawn
variable {P : Program} {S : Start} {Γ : List (Nat × Contract)} {ops : Array Oper} {al : List AOper} {Q : Exit → Act → World → Prop} {K : SS → Prop}

theorem ready_of {listed : Array Bool} {i : Nat} (hi : i < ops.size) (hs : listed.size = ops.size) (hl : listed.getD i true = false) (hd : ∀ j ∈ deps ops i, j < ops.size ∧ listed.getD j true = true) : i ∈ Region.ready .any ops listed := by
  refine mem_ready.2 ⟨hl, ops[i], Array.getElem?_eq_getElem hi, fun e he hb => ?_⟩
  obtain ⟨h1, h2⟩ := hd e.on ((mem_deps (Array.getElem?_eq_getElem hi)).2 ⟨e, he, hb, rfl⟩)
  rw [Array.getD_eq_getD_getElem?, Array.getElem?_eq_getElem (by omega)] at h2 ⊢
  exact h2

/-- A step ahead. -/
theorem virt_ahead (hO : Okd P S ops al) {V : List Nat} {listed : Array Bool} {a b : Act} {w : World} (hv : Virt P ops V listed a b w) (ht : topo ops V) {i : Nat} (hlt : i < ops.size) (hiV : i ∉ V) (hdeps : ∀ j ∈ deps ops i, j ∈ V) {d : Nat} (hd : dstOf ops i = some d) (hdl : d < b.tmps.size) (hR : ∀ k, Anti ops k i → listed.getD k true = true) {v : Value}
    (hy : (Region.wanted ops[i] (yielded ops b.tmps) = true ∧ (execOp b.eval ops[i]).run P w = .ok (.value v) w) ∨ (Region.wanted ops[i] (yielded ops b.tmps) = false ∧ v = undef)) :
    Virt P ops (i :: V) listed a (b.put (some d) v) w := by
  have hi : ops[i]? = some ops[i] := Array.getElem?_eq_getElem hlt
  have hnot : listed.getD i true = false := by
    cases h : listed.getD i true with
    | false => rfl
    | true => exact absurd (hv.sub i hlt h) hiV
  have hod : (ops[i]).dst = some d := by unfold dstOf at hd; rw [hi] at hd; exact hd
  have hsel : ∀ cs bb, (ops[i]).op ≠ .select cs bb := fun cs bb => Region.noSelect_spec hO.sel i _ cs bb hi
  refine ⟨hv.defers, by simp only [Act.put, Array.size_setIfInBounds]; exact hv.size, fun k hk => ?_, fun j hj hjl o ho => ?_, fun j hj hjl => List.mem_cons_of_mem _ (hv.sub j hj hjl), hv.lsz, hv.down, fun k j hj hjl ha => ?_⟩
  · have hkd : d ≠ k := fun e => hk i (by simp) hnot (by rw [hd, e])
    simp only [Act.put]
    rw [Array.getElem?_setIfInBounds_ne hkd]
    exact hv.same k (fun j hj => hk j (List.mem_cons_of_mem _ hj))
  · rcases List.mem_cons.1 hj with rfl | hj
    · rw [hi] at ho; cases ho
      refine ⟨by rw [hod]; rfl, v, fun d' hd' => ?_, ?_⟩
      · rw [hod] at hd'; cases hd'
        simp only [Act.put]
        rw [Array.getElem?_setIfInBounds_self_of_lt hdl]
      · obtain ⟨e1, e2⟩ := same_exec (ops := ops) (o := ops[j]) (a := b.put (some d) v) (b := b) hsel (fun t ht' => by
          have : d ≠ t := fun e => by
            subst e
            exact hiV (hdeps j ((reads_spec (hO.reads j hlt) hi d ht' j hd).resolve_right (fun h => h.1 rfl)))
          simp only [Act.put]; rw [Array.getElem?_setIfInBounds_ne this])
        rw [e1, e2]; exact hy
    · obtain ⟨h1, h2⟩ := hv.ahead j hj hjl o ho
      exact ⟨h1, h2.put_other (hO := hO) ho hd (fun e => hiV (e ▸ hj)) (fun hdep => hiV (topo_deps ht j hj i hdep)) (fun ha => by rw [hR j ha] at hjl; cases hjl)⟩
  · rcases List.mem_cons.1 hj with rfl | hj
    · exact hR k ha
    · exact hv.anti k j hj hjl ha

theorem set_ne {listed : Array Bool} {i j : Nat} (h : j ≠ i) (dd : Bool) : (listed.setIfInBounds i true).getD j dd = listed.getD j dd := getD_set_ne dd (Ne.symm h)
theorem set_self {listed : Array Bool} {i : Nat} (h : i < listed.size) (dd : Bool) : (listed.setIfInBounds i true).getD i dd = true := by
  rw [Array.getD_eq_getD_getElem?, Array.getElem?_setIfInBounds_self_of_lt h]; rfl
theorem getD_tf {listed : Array Bool} {i : Nat} (h : i < listed.size) {c : Bool} : listed.getD i true = c ↔ listed.getD i false = c := by
  rw [Array.getD_eq_getD_getElem?, Array.getD_eq_getD_getElem?, Array.getElem?_eq_getElem h]; rfl

/-- Something may be done, or all of V is. -/
theorem ready_some {V : List Nat} {listed : Array Bool} (ht : topo ops V) (hV : ∀ j ∈ V, j < ops.size) (hs : listed.size = ops.size) (h0 : Region.ready .any ops listed = []) : ∀ j ∈ V, listed.getD j true = true := by
  intro j hj
  cases hl : listed.getD j true with
  | true => rfl
  | false =>
    obtain ⟨i, h1, h2, h3⟩ := topo_first ht ⟨j, hj, hl⟩
    have := ready_of (hV i h1) hs h2 (fun k hk => ⟨hV k (topo_deps ht i h1 k hk), h3 k hk⟩)
    rw [h0] at this; cases this

/-- The effect is done. -/
theorem virt_done (hO : Okd P S ops al) {V ef pend : List Nat} {listed : Array Bool} {a b b' : Act} {w w' : World} (hv : Virt P ops V listed a b w) (hVlt : ∀ j ∈ V, j < ops.size) {i : Nat} (hlt : i < ops.size) (hiV : i ∉ V) (hdeps : ∀ j ∈ deps ops i, j ∈ V)
    (hready : i ∈ Region.ready .any ops listed) (hef : ∀ j ∈ ef, listed.getD j true = true) (hpV : ∀ j ∈ pend, j ∈ V) (hC2 : ∀ j ∈ V, j ∈ ef ∨ j ∈ pend ∨ j ∈ clos ops 4000 (deps ops i) []) {v : Value}
    (hsz : b'.tmps.size = (b.put (ops[i]).dst v).tmps.size) (hsame : ∀ k, (∀ j ∈ pend, (listed.setIfInBounds i true).getD j true = false → dstOf ops j ≠ some k) → b'.tmps[k]? = (b.put (ops[i]).dst v).tmps[k]?)
    (hah : ∀ j ∈ pend, (listed.setIfInBounds i true).getD j true = false → ∀ o, ops[j]? = some o → o.dst.isSome = true ∧ Yl P ops o b' w') :
    Virt P ops (i :: V) (listed.setIfInBounds i true) (a.put (ops[i]).dst v) b' w' := by
  have hi : ops[i]? = some ops[i] := Array.getElem?_eq_getElem hlt
  obtain ⟨hun, o', ho', hall⟩ := mem_ready.1 hready
  rw [hi] at ho'; cases ho'
  have hdl : ∀ j ∈ deps ops i, listed.getD j false = true := fun j hj => by
    obtain ⟨e, he, hb, rfl⟩ := (mem_deps hi).1 hj
    exact hall e he hb
  refine ⟨?_, ?_, fun k hk => ?_, fun j hj hjl => ?_, fun j hj hjl => ?_, by simpa using hv.lsz, fun j hj hjl k hk => ?_, fun k j hj hjl ha => ?_⟩
  · cases hd : (ops[i]).dst <;> exact hv.defers
  · rw [hsz]
    cases hd : (ops[i]).dst with
    | none => exact hv.size
    | some d => simp only [Act.put, Array.size_setIfInBounds]; exact hv.size
  · rw [hsame k (fun j hj hjl => hk j (List.mem_cons_of_mem _ (hpV j hj)) hjl)]
    have hbase : a.tmps[k]? = b.tmps[k]? ∨ (ops[i]).dst = some k := by
      by_cases hdk : (ops[i]).dst = some k
      · exact .inr hdk
      · exact .inl (hv.same k (fun j hj hjl hjd => by
          have hji : j ≠ i := fun e => hiV (e ▸ hj)
          exact hk j (List.mem_cons_of_mem _ hj) (by rw [set_ne hji]; exact hjl) hjd))
    cases hd : (ops[i]).dst with
    | none => rw [hd] at hbase; exact hbase.resolve_right (by simp)
    | some d =>
      rw [hd] at hbase
      simp only [Act.put]
      by_cases hkd : d = k
      · subst hkd
        have := hv.size
        by_cases hlen : d < a.tmps.size
        · rw [Array.getElem?_setIfInBounds_self_of_lt hlen, Array.getElem?_setIfInBounds_self_of_lt (this ▸ hlen)]
        · have h1 : a.tmps.size ≤ d := Nat.le_of_not_lt hlen
          rw [Array.getElem?_eq_none (by rw [Array.size_setIfInBounds]; exact h1), Array.getElem?_eq_none (by rw [Array.size_setIfInBounds]; exact this ▸ h1)]
      · rw [Array.getElem?_setIfInBounds_ne hkd, Array.getElem?_setIfInBounds_ne hkd]
        exact hbase.resolve_right (by simpa using hkd)
  · rcases List.mem_cons.1 hj with rfl | hj
    · rw [set_self (by rw [hv.lsz]; exact hlt)] at hjl; cases hjl
    · have hji : j ≠ i := fun e => hiV (e ▸ hj)
      rcases hC2 j hj with h | h | h
      · rw [set_ne hji, hef j h] at hjl; cases hjl
      · exact hah j h hjl
      · have : ∀ k ∈ clos ops 4000 (deps ops i) [], k < ops.size ∧ listed.getD k false = true := by
          refine clos_spec ops (fun k => k < ops.size ∧ listed.getD k false = true) (fun k hk m hm => ?_) _ _ _ (fun k hk => ⟨hVlt k (hdeps k hk), hdl k hk⟩) (fun k hk => by cases hk)
          have h1 := hv.down k hk.1 ((getD_tf (by rw [hv.lsz]; exact hk.1)).2 hk.2) m hm
          refine ⟨?_, h1⟩
          rcases Nat.lt_or_ge m ops.size with h' | h'
          · exact h'
          · rw [Array.getD_eq_getD_getElem?, Array.getElem?_eq_none (by rw [hv.lsz]; exact h')] at h1; cases h1
        rw [set_ne hji, (getD_tf (by rw [hv.lsz]; exact (this j h).1)).2 (this j h).2] at hjl; cases hjl
  · by_cases hji : j = i
    · subst hji; simp
    · rw [set_ne hji] at hjl
      exact List.mem_cons_of_mem _ (hv.sub j hj hjl)
  · by_cases hji : j = i
    · subst hji; exact getD_set_true (hdl k hk)
    · rw [set_ne hji] at hjl
      exact getD_set_true (hv.down j hj hjl k hk)
  · rcases List.mem_cons.1 hj with rfl | hj
    · rw [set_self (by rw [hv.lsz]; exact hlt)] at hjl; cases hjl
    · have hji : j ≠ i := fun e => hiV (e ▸ hj)
      rw [set_ne hji] at hjl
      exact getD_set_tt (hv.anti k j hj hjl ha)

/-- What a ready operation waits for, all the way, is done. -/
theorem clos_listed {V : List Nat} {listed : Array Bool} {a b : Act} {w : World} (hv : Virt P ops V listed a b w) (hVlt : ∀ j ∈ V, j < ops.size) {i : Nat} (hlt : i < ops.size) (hdeps : ∀ j ∈ deps ops i, j ∈ V)
    (hready : i ∈ Region.ready .any ops listed) : ∀ k ∈ clos ops 4000 (deps ops i) [], listed.getD k true = true := by
  have hi : ops[i]? = some ops[i] := Array.getElem?_eq_getElem hlt
  obtain ⟨hun, o', ho', hall⟩ := mem_ready.1 hready
  rw [hi] at ho'; cases ho'
  have hdl : ∀ j ∈ deps ops i, listed.getD j false = true := fun j hj => by
    obtain ⟨e, he, hb, rfl⟩ := (mem_deps hi).1 hj
    exact hall e he hb
  have : ∀ k ∈ clos ops 4000 (deps ops i) [], k < ops.size ∧ listed.getD k false = true := by
    refine clos_spec ops (fun k => k < ops.size ∧ listed.getD k false = true) (fun k hk m hm => ?_) _ _ _ (fun k hk => ⟨hVlt k (hdeps k hk), hdl k hk⟩) (fun k hk => by cases hk)
    have h1 := hv.down k hk.1 ((getD_tf (by rw [hv.lsz]; exact hk.1)).2 hk.2) m hm
    refine ⟨?_, h1⟩
    rcases Nat.lt_or_ge m ops.size with h' | h'
    · exact h'
    · rw [Array.getD_eq_getD_getElem?, Array.getElem?_eq_none (by rw [hv.lsz]; exact h')] at h1; cases h1
  intro k hk
  exact (getD_tf (by rw [hv.lsz]; exact (this k hk).1)).2 (this k hk).2

theorem stage (hΓ : GOk P Γ) (hO : Okd P S ops al) (hQ : ∀ c x w, ¬ Q (.panic c) x w) (hfin : ∀ s' E' a', K s' → Sat S s' E' a' → Q .normal a' E'.w) :
    ∀ (items : List DI) (V ef : List Nat) (fuel : Nat) (listed : Array Bool) (s : SS) (E : En) (a b : Act), okItems ops al ops.size V ef items = true → topo ops V → (∀ j ∈ V, j < ops.size) → (∀ j ∈ ef, listed.getD j true = true) →
      cnt ops.size listed ≤ fuel → Virt P ops V listed a b E.w → Sat S s E b → runD Γ al items s K → wpAny P .any ops Q fuel listed a E.w
  | [], V, ef, fuel, listed, s, E, a, b, hok, ht, hV, hef, hc, hv, hs, h => by
    simp only [okItems, Bool.and_eq_true, List.all_eq_true, List.mem_range] at hok
    have hall : ∀ i, i < ops.size → i ∈ V := fun i hi => by have := hok.2 i hi; rw [List.contains_eq_mem] at this; simpa using this
    have done : ∀ (listed : Array Bool) (a : Act), Virt P ops V listed a b E.w → (∀ j ∈ V, listed.getD j true = true) → Q .normal a E.w := by
      intro listed a hv hl
      have he : a.tmps = b.tmps := Array.ext_getElem? fun k => hv.same k (fun j hj hjl => by rw [hl j hj] at hjl; cases hjl)
      refine hfin s E a h ⟨hs.hs, fun k => by rw [he]; exact hs.fr k, hs.ev, hs.id, hv.defers, by rw [he]; exact hs.size⟩
    have key : ∀ (fuel : Nat) (listed : Array Bool) (a : Act), cnt ops.size listed ≤ fuel → Virt P ops V listed a b E.w → wpAny P .any ops Q fuel listed a E.w := by
      intro fuel
      induction fuel with
      | zero =>
        intro listed a hc hv
        have hl : ∀ j ∈ V, listed.getD j true = true := by
          intro j hj
          cases hjl : listed.getD j true with
          | true => rfl
          | false => have := cnt_set (hV j hj) hjl hv.lsz; omega
        refine ⟨?_, done listed a hv hl⟩
        cases hr : Region.ready .any ops listed with
        | nil => rfl
        | cons i r =>
          have hi : i ∈ Region.ready .any ops listed := by rw [hr]; simp
          obtain ⟨h1, o, ho, _⟩ := mem_ready.1 hi
          rw [hl i (hall i (Array.getElem?_eq_some_iff.1 ho).1)] at h1; cases h1
      | succ fuel ih =>
        intro listed a hc hv
        refine ⟨fun h0 => done listed a hv (ready_some ht hV hv.lsz h0), fun i hi => ?_⟩
        obtain ⟨h1, o, ho, _⟩ := mem_ready.1 hi
        have hlt := (Array.getElem?_eq_some_iff.1 ho).1
        refine virt_real hv hO.sel (hO.reads i hlt) ho hi (hall i hlt) (fun v hv' => ih _ _ ?_ hv')
        have := cnt_set hlt h1 hv.lsz
        omega
    exact key fuel listed a hc hv
  | .q i :: r, V, ef, fuel, listed, s, E, a, b, hok, ht, hV, hef, hc, hv, hs, h => by
    simp only [okItems, Bool.and_eq_true, decide_eq_true_eq, Bool.not_eq_true', List.all_eq_true] at hok
    obtain ⟨⟨⟨⟨⟨hq, hlt⟩, hiV⟩, hdeps⟩, hRr⟩, hokr⟩ := hok
    have hR : ∀ k, Anti ops k i → listed.getD k true = true := by
      rintro k ⟨h1, h2⟩
      have hk : k < ops.size := by
        rcases Nat.lt_or_ge k ops.size with h | h
        · exact h
        · unfold rdsB at h1; rw [Array.getElem?_eq_none h] at h1; cases h1
      have := hRr k (List.mem_range.2 hk)
      rw [h1] at this
      simp only [Bool.not_true, Bool.false_or, Bool.or_eq_true, List.contains_eq_mem, decide_eq_true_eq] at this
      exact hef k (this.resolve_left h2)
    have hiV' : i ∉ V := by rw [List.contains_eq_mem] at hiV; simpa using hiV
    have hdeps' : ∀ j ∈ deps ops i, j ∈ V := fun j hj => by have := hdeps j hj; rw [List.contains_eq_mem] at this; simpa using this
    have hi : ops[i]? = some ops[i] := Array.getElem?_eq_getElem hlt
    have hok := hO.ok i _ hi
    obtain ⟨hdo, hdlt⟩ := okO_dst hok
    unfold isQ at hq
    simp only [Bool.and_eq_true] at hq
    obtain ⟨d, hd⟩ := Option.isSome_iff_exists.1 hq.2
    have hdi : dstOf ops i = some d := by unfold dstOf; rw [hi]; exact hdo.trans hd
    have hdl : d < b.tmps.size := by rw [hs.size]; exact hdlt d hd
    have hV' : ∀ j ∈ i :: V, j < ops.size := fun j hj => by
      rcases List.mem_cons.1 hj with rfl | hj
      · exact hlt
      · exact hV j hj
    have on : ∀ (s2 : SS) (v : Value), Sat S s2 E (b.put (some d) v) → runD Γ al r s2 K → ((Region.wanted ops[i] (yielded ops b.tmps) = true ∧ (execOp b.eval ops[i]).run P E.w = .ok (.value v) E.w) ∨ (Region.wanted ops[i] (yielded ops b.tmps) = false ∧ v = undef)) →
        wpAny P .any ops Q fuel listed a E.w := fun s2 v hs2 hk hy =>
      stage hΓ hO hQ hfin r (i :: V) ef fuel listed s2 E a _ hokr ⟨hdeps', ht⟩ hV' hef hc (virt_ahead hO hv ht hlt hiV' hdeps' hdi hdl hR hy) hs2 hk
    simp only [runD] at h
    unfold runE at h
    split at h
    · rename_i hg
      unfold step at h
      rw [hq.1] at h
      obtain ⟨x, v, hk, hx, hr⟩ := quiet_run hok hq.1 hs h
      rw [hd] at hk
      exact on _ v (hs.put (fun k hk' => by cases hk'; exact hdlt d hd) hx) hk (.inl ⟨okO_noguard hok hg b, hr⟩)
    · rename_i slot want hg
      split at h
      · rename_i c hcc
        have hw := okO_guard hok hg hs hcc
        have hslot : den E (.bool c) (b.tmps.getD slot undef) := by rw [← hcc]; exact hs.fr slot
        have hself : ∀ c' : Bool, c = c' → Sat S (s.put (some slot) (.bool c')) E b := by
          intro c' hc'
          refine hs.frame (fun k => ?_)
          rw [lkF_up]
          split
          · rename_i hk; subst hk; subst hc'; exact hslot
          · exact hs.fr k
        cases hcw : c == want with
        | true =>
          have h1 := sw_true h hcw
          have hcw' : c = want := by simpa using hcw
          unfold step at h1
          rw [hq.1] at h1
          obtain ⟨x, v, hk, hx, hr⟩ := quiet_run hok hq.1 (hself want hcw') h1
          rw [hd] at hk
          exact on _ v ((hself want hcw').put (fun k hk' => by cases hk'; exact hdlt d hd) hx) hk (.inl ⟨by rw [hw, hcw], hr⟩)
        | false =>
          have h1 := sw_false h hcw
          have hcw' : c = !want := by cases c <;> cases want <;> simp at hcw ⊢
          rw [hd] at h1
          exact on _ undef ((hself _ hcw').put (d := some d) (x := .tup []) (fun k hk' => by cases hk'; exact hdlt d hd) den_undef) h1 (.inr ⟨by rw [hw, hcw], rfl⟩)
      · rename_i hcc
        have hw := okO_guardT (ops := ops) hok hg hs hcc
        rw [hd] at h
        exact on _ undef (hs.put (d := some d) (x := .tup []) (fun k hk' => by cases hk'; exact hdlt d hd) den_undef) h (.inr ⟨hw, rfl⟩)
      · cases h
  | .e i pend :: r, V, ef, fuel, listed, s, E, a, b, hok, ht, hV, hef, hc, hv, hs, h => by
    simp only [okItems, Bool.and_eq_true, decide_eq_true_eq, Bool.not_eq_true', List.all_eq_true, List.mem_range, Bool.or_eq_true, beq_iff_eq, List.any_eq_true] at hok
    obtain ⟨⟨⟨⟨⟨⟨⟨hlt, hiV⟩, hdeps⟩, hC6⟩, hpend⟩, hpq⟩, hC2⟩, hokr⟩ := hok
    have mem : ∀ (l : List Nat) (x : Nat), l.contains x = true → x ∈ l := fun l x h => by rw [List.contains_eq_mem] at h; simpa using h
    have hiV' : i ∉ V := by rw [List.contains_eq_mem] at hiV; simpa using hiV
    have hdeps' : ∀ j ∈ deps ops i, j ∈ V := fun j hj => mem _ _ (hdeps j hj)
    have hi : ops[i]? = some ops[i] := Array.getElem?_eq_getElem hlt
    have hok := hO.ok i _ hi
    obtain ⟨hdo, hdlt⟩ := okO_dst hok
    have hV' : ∀ j ∈ i :: V, j < ops.size := fun j hj => by
      rcases List.mem_cons.1 hj with rfl | hj
      · exact hlt
      · exact hV j hj
    have hpV : ∀ j ∈ pend, j ∈ V := fun j hj => mem _ _ (hpq j hj).1
    have hC2' : ∀ j ∈ V, j ∈ ef ∨ j ∈ pend ∨ j ∈ clos ops 4000 (deps ops i) [] := fun j hj => by
      rcases hC2 j hj with (h | h) | h
      · exact .inl (mem _ _ h)
      · exact .inr (.inl (mem _ _ h))
      · exact .inr (.inr (mem _ _ h))
    have key : ∀ (fuel : Nat) (listed : Array Bool) (a : Act), (∀ j ∈ ef, listed.getD j true = true) → cnt ops.size listed ≤ fuel → Virt P ops V listed a b E.w → wpAny P .any ops Q fuel listed a E.w := by
      intro fuel
      induction fuel with
      | zero =>
        intro listed a _ hc hv
        exfalso
        have hun : listed.getD i true = false := by
          cases hl : listed.getD i true with
          | false => rfl
          | true => exact absurd (hv.sub i hlt hl) hiV'
        have := cnt_set hlt hun hv.lsz
        omega
      | succ fuel ih =>
        intro listed a hef hc hv
        have hun : listed.getD i true = false := by
          cases hl : listed.getD i true with
          | false => rfl
          | true => exact absurd (hv.sub i hlt hl) hiV'
        refine ⟨fun h0 => ?_, fun i' hi' => ?_⟩
        · exfalso
          have hl := ready_some ht hV hv.lsz h0
          have := ready_of hlt hv.lsz hun (fun j hj => ⟨hV j (hdeps' j hj), hl j (hdeps' j hj)⟩)
          rw [h0] at this; cases this
        · obtain ⟨h1, o, ho, hall⟩ := mem_ready.1 hi'
          have hlt' := (Array.getElem?_eq_some_iff.1 ho).1
          by_cases hi'V : i' ∈ V
          · refine virt_real hv hO.sel (hO.reads i' hlt') ho hi' hi'V (fun v hv' => ih _ _ (fun j hj => ?_) ?_ hv')
            · by_cases hji : j = i'
              · subst hji; rw [set_self (by rw [hv.lsz]; exact hlt')]
              · rw [set_ne hji]; exact hef j hj
            · have := cnt_set hlt' h1 hv.lsz
              omega
          · have hii : i' = i := by
              rcases hC6 i' hlt' with (h | h) | ⟨k, hk, hkV⟩
              · exact absurd (mem _ _ h) hi'V
              · exact h
              · exfalso
                obtain ⟨e, he, hb, rfl⟩ := (mem_deps ho).1 hk
                have h2 := hall e he hb
                have hklt : e.on < ops.size := by
                  rcases Nat.lt_or_ge e.on ops.size with h' | h'
                  · exact h'
                  · rw [Array.getD_eq_getD_getElem?, Array.getElem?_eq_none (by rw [hv.lsz]; exact h')] at h2; cases h2
                have := hv.sub e.on hklt ((getD_tf (by rw [hv.lsz]; exact hklt)).2 h2)
                rw [List.contains_eq_mem] at hkV
                simp [this] at hkV
            subst hii
            rw [hi] at ho; cases ho
            obtain ⟨he, hw⟩ := ready_like hv hO.sel (hO.reads i' hlt) hi hi'
            have hcl := clos_listed hv hV hlt hdeps' hi'
            have hef' : ∀ j ∈ i' :: V.filter (fun j => !pend.contains j), (listed.setIfInBounds i' true).getD j true = true := fun j hj => by
              by_cases hji : j = i'
              · subst hji; rw [set_self (by rw [hv.lsz]; exact hlt)]
              · rw [set_ne hji]
                rcases List.mem_cons.1 hj with e | hj
                · exact absurd e hji
                · obtain ⟨hj1, hj2⟩ := List.mem_filter.1 hj
                  rcases hC2' j hj1 with h | h | h
                  · exact hef j h
                  · rw [List.contains_eq_mem] at hj2; simp [h] at hj2
                  · exact hcl j h
            have hc' : cnt ops.size (listed.setIfInBounds i' true) ≤ fuel := by have := cnt_set hlt h1 hv.lsz; omega
            -- the effect, done
            have eff1 : ∀ (s0 : SS), Sat S s0 E b → step Γ (atA al i') s0 (andK (chkL al pend) fun s' => runD Γ al r s' K) →
                (ops[i']).wp P a E.w (wpAny P .any ops Q fuel (listed.setIfInBounds i' true)) Q := by
              intro s0 hs0 hst
              refine wp_like he hv.size hQ (step_sound hΓ hok hs0 hst fun s' E' v hk hs' => ?_)
              obtain ⟨hk1, hk2⟩ := hk
              obtain ⟨b', r1, r2, r3, r4⟩ := rerun hO (listed := listed.setIfInBounds i' true) pend _ hpend (fun j hj => ⟨hV j (hpV j hj), (hpq j hj).2⟩) hs' hk1
              exact ⟨v, rfl, stage hΓ hO hQ hfin r (i' :: V) (i' :: V.filter (fun j => !pend.contains j)) fuel _ s' E' _ b' hokr ⟨hdeps', ht⟩ hV' hef' hc'
                (virt_done hO hv hV hlt hiV' hdeps' hi' hef hpV hC2' r2 r3 r4) r1 hk2⟩
            simp only [runD] at h
            unfold runE at h
            unfold wpOp
            rw [hi]
            simp only
            rw [hw]
            split at h
            · rename_i hg
              rw [okO_noguard hok hg b, if_pos rfl]
              exact .inl (eff1 s hs h)
            · rename_i slot want hg
              split at h
              · rename_i c hcc
                rw [okO_guard hok hg hs hcc]
                have hslot : den E (.bool c) (b.tmps.getD slot undef) := by rw [← hcc]; exact hs.fr slot
                have hself : ∀ c' : Bool, c = c' → Sat S (s.put (some slot) (.bool c')) E b := by
                  intro c' hc'
                  refine hs.frame (fun k => ?_)
                  rw [lkF_up]
                  split
                  · rename_i hk; subst hk; subst hc'; exact hslot
                  · exact hs.fr k
                cases hcw : c == want with
                | true =>
                  rw [if_pos rfl]
                  exact .inl (eff1 _ (hself want (by simpa using hcw)) (sw_true h hcw))
                | false =>
                  rw [if_neg (by simp)]
                  have h3 := sw_false h hcw
                  have hcw' : c = !want := by cases c <;> cases want <;> simp at hcw ⊢
                  refine stage hΓ hO hQ hfin r (i' :: V) (i' :: V.filter (fun j => !pend.contains j)) fuel _ _ E _ (b.put (ops[i']).dst undef) hokr ⟨hdeps', ht⟩ hV' hef' hc' ?_ (by rw [hdo]; exact (hself _ hcw').put hdlt den_undef) h3
                  refine virt_done hO hv hV hlt hiV' hdeps' hi' hef (fun j hj => hj) (fun j hj => .inr (.inl hj)) rfl (fun _ _ => rfl) (fun j hj hjl o ho => ?_)
                  have hji : j ≠ i' := fun e => hiV' (e ▸ hj)
                  rw [set_ne hji] at hjl
                  obtain ⟨k1, k2⟩ := hv.ahead j hj hjl o ho
                  refine ⟨k1, ?_⟩
                  cases hd : (ops[i']).dst with
                  | none => exact k2
                  | some d => exact k2.put_other (hO := hO) ho (j := i') (by unfold dstOf; rw [hi]; exact hd) (Ne.symm hji) (fun hdep => hiV' (topo_deps ht j hj i' hdep)) (fun ha => by
                    have hjlt := hV j hj
                    have hoj : ops[j]? = some ops[j] := Array.getElem?_eq_getElem hjlt
                    have hr := hO.reads j hjlt
                    unfold okReads at hr
                    have h2 := List.all_eq_true.1 hr i' (List.mem_range.2 hlt)
                    rw [ha.1] at h2
                    simp only [Bool.not_true, Bool.false_or, Bool.or_eq_true, Bool.and_eq_true, bne_iff_ne, ne_eq, List.contains_eq_mem, decide_eq_true_eq] at h2
                    have h3 := (h2.resolve_left ha.2).2
                    obtain ⟨e, he, hb, hej⟩ := (mem_deps hi).1 h3
                    have h4 := hall e he hb
                    rw [hej] at h4
                    rw [(getD_tf (by rw [hv.lsz]; exact hjlt)).2 h4] at hjl; cases hjl)
              · rename_i hcc
                rw [okO_guardT (ops := ops) hok hg hs hcc, if_neg (by simp)]
                refine stage hΓ hO hQ hfin r (i' :: V) (i' :: V.filter (fun j => !pend.contains j)) fuel _ _ E _ (b.put (ops[i']).dst undef) hokr ⟨hdeps', ht⟩ hV' hef' hc' ?_ (by rw [hdo]; exact hs.put hdlt den_undef) h
                refine virt_done hO hv hV hlt hiV' hdeps' hi' hef (fun j hj => hj) (fun j hj => .inr (.inl hj)) rfl (fun _ _ => rfl) (fun j hj hjl o ho => ?_)
                have hji : j ≠ i' := fun e => hiV' (e ▸ hj)
                rw [set_ne hji] at hjl
                obtain ⟨k1, k2⟩ := hv.ahead j hj hjl o ho
                refine ⟨k1, ?_⟩
                cases hd : (ops[i']).dst with
                | none => exact k2
                | some d => exact k2.put_other (hO := hO) ho (j := i') (by unfold dstOf; rw [hi]; exact hd) (Ne.symm hji) (fun hdep => hiV' (topo_deps ht j hj i' hdep)) (fun ha => by
                  have hjlt := hV j hj
                  have hoj : ops[j]? = some ops[j] := Array.getElem?_eq_getElem hjlt
                  have hr := hO.reads j hjlt
                  unfold okReads at hr
                  have h2 := List.all_eq_true.1 hr i' (List.mem_range.2 hlt)
                  rw [ha.1] at h2
                  simp only [Bool.not_true, Bool.false_or, Bool.or_eq_true, Bool.and_eq_true, bne_iff_ne, ne_eq, List.contains_eq_mem, decide_eq_true_eq] at h2
                  have h3 := (h2.resolve_left ha.2).2
                  obtain ⟨e, he, hb, hej⟩ := (mem_deps hi).1 h3
                  have h4 := hall e he hb
                  rw [hej] at h4
                  rw [(getD_tf (by rw [hv.lsz]; exact hjlt)).2 h4] at hjl; cases hjl)
              · cases h
    exact key fuel listed a hef hc hv

/-- A REGION WHOSE ORDER IS OPEN. -/
theorem drawn_sound (hΓ : GOk P Γ) {items : List DI} (hok : okDr P S.nt ops al items = true) {id : Nat} (hQ : ∀ c x w, ¬ Q (.panic c) x w) (hfin : ∀ s' E' a', K s' → Sat S s' E' a' → Q .normal a' E'.w)
    {s : SS} {E : En} {a : Act} (hs : Sat S s E a) (h : runD Γ al items s K) : (Code.region id ops true).wp P Q a E.w := by
  simp only [okDr, Bool.and_eq_true, List.all_eq_true, List.mem_range] at hok
  obtain ⟨⟨⟨⟨⟨hm, hL⟩, hsel⟩, hdst⟩, hreads⟩, hit⟩ := hok
  have hlen : ∀ (l : List Oper) (l' : List AOper), okL P S.nt ops l l' = true → ∀ i o, l[i]? = some o → okO P S.nt ops o (atA l' i) = true := by
    intro l
    induction l with
    | nil => intro l' _ i o h; simp at h
    | cons x l ih =>
      intro l' hl i o h
      cases l' with
      | nil => simp [okL] at hl
      | cons y l' =>
        simp only [okL, Bool.and_eq_true] at hl
        cases i with
        | zero => simp at h; subst h; exact hl.1
        | succ i => exact ih l' hl.2 i o (by simpa using h)
  have dlt : ∀ i d, dstOf ops i = some d → i < ops.size := by
    intro i d h
    unfold dstOf at h
    cases ho : ops[i]? with
    | none => rw [ho] at h; cases h
    | some o => exact (Array.getElem?_eq_some_iff.1 ho).1
  have hO : Okd P S ops al := by
    refine ⟨fun i o hi => hlen _ _ hL i o (by simpa using hi), hsel, fun i j d hi hj => ?_, hreads⟩
    unfold okDst at hdst
    simp only [List.all_eq_true, List.mem_range] at hdst
    have := hdst i (dlt i d hi) j (dlt j d hj)
    rw [hi] at this
    simp only [Bool.or_eq_true, beq_iff_eq, bne_iff_ne, ne_eq] at this
    rcases this with h | h
    · exact h
    · exact absurd hj h
  refine wp_region_any hm ?_
  obtain ⟨h1, h2⟩ := hs.hs.same (Chg.drew E.w)
  have hf := hs.fr.ren h2
  rw [frRen_some] at hf
  have hev : Ev s.hp E s.hp { E with w := E.w.drew } := ⟨rfl, rfl, rfl, Nat.le_refl _, fun _ _ _ => rfl, fun _ h => .inl h, fun _ h => h, fun _ h => .inl h, rfl⟩
  have hs' : Sat S s { E with w := E.w.drew } a := ⟨h1, hf, hs.ev.trans hev, hs.id, hs.defers, hs.size⟩
  have hno : ∀ i, (Array.replicate ops.size false).getD i true = true → ¬ i < ops.size := by
    intro i h hi
    rw [Array.getD_eq_getD_getElem?, Array.getElem?_eq_getElem (by simpa using hi)] at h
    simp at h
  refine stage hΓ hO hQ hfin items [] [] ops.size _ s { E with w := E.w.drew } a a hit trivial (by simp) (by simp) ?_ ?_ hs' h
  · unfold cnt
    exact Nat.le_trans List.countP_le_length (by simp)
  · exact ⟨hs.defers, rfl, fun _ _ => rfl, (fun j hj => by cases hj), (fun i hi h => absurd hi (hno i h)), (by simp), (fun i hi h => absurd hi (hno i h)), (fun i j hj => by cases hj)⟩

end drawn
end Go.V
