/- Regions whose order is open, in effects too: every order is reckoned. -/
import Derived.Test.YtkjecjgfkogkoaaVtb
namespace Go.V
set_option linter.unusedSimpArgs false
set_option linter.unnecessarySimpa false
set_option linter.unusedVariables false

/-- The orders as a tree: a quiet operation; one that does something, or another one ('alt'). -/
inductive DT where
  | done
  | q (i : Nat) (r : DT)
  | e (i : Nat) (pend : List Nat) (r alt : DT)
  | no

def chs : DT → List Nat
  | .e i _ _ alt => i :: chs alt
  | _ => []

inductive Ch : DT → Nat → List Nat → DT → Prop where
  | here (i : Nat) (p : List Nat) (r alt : DT) : Ch (.e i p r alt) i p r
  | there {i : Nat} {p : List Nat} {r : DT} (j : Nat) (pj : List Nat) (rj : DT) {alt : DT} (h : Ch alt i p r) : Ch (.e j pj rj alt) i p r

theorem ch_of_mem : ∀ (t : DT) (i : Nat), i ∈ chs t → ∃ p r, Ch t i p r
  | .e j p r alt, i, h => by
    simp only [chs, List.mem_cons] at h
    rcases h with rfl | h
    · exact ⟨p, r, .here _ _ _ _⟩
    · obtain ⟨p', r', h'⟩ := ch_of_mem alt i h
      exact ⟨p', r', .there _ _ _ h'⟩
  | .done, i, h => by simp [chs] at h
  | .q _ _, i, h => by simp [chs] at h
  | .no, i, h => by simp [chs] at h

theorem Ch.size {t : DT} {i : Nat} {p : List Nat} {r : DT} (h : Ch t i p r) : SizeOf.sizeOf r < SizeOf.sizeOf t := by
  induction h with
  | here i p r alt => simp; omega
  | there j pj rj h ih => simp; omega

def runT (Γ : List (Nat × Contract)) (al : List AOper) : DT → SS → (SS → Prop) → Prop
  | .done, s, K => K s
  | .q i r, s, K => runE Γ (atA al i) s (fun s' => runT Γ al r s' K) (fun s' => runT Γ al r s' K)
  | .e i pend r alt, s, K => runE Γ (atA al i) s (andK (chkL al pend) (fun s' => runT Γ al r s' K)) (fun s' => runT Γ al r s' K) ∧ runT Γ al alt s K
  | .no, _, _ => True

theorem runT_ch {Γ : List (Nat × Contract)} {al : List AOper} {t : DT} {i : Nat} {p : List Nat} {r : DT} {s : SS} {K : SS → Prop} (h : Ch t i p r) (hr : runT Γ al t s K) :
    runE Γ (atA al i) s (andK (chkL al p) (fun s' => runT Γ al r s' K)) (fun s' => runT Γ al r s' K) := by
  induction h with
  | here i p r alt => simp only [runT] at hr; exact hr.1
  | there j pj rj h ih => simp only [runT] at hr; exact ih hr.2

/-- What is asked of a choice. -/
def okC (ops : Array Oper) (al : List AOper) (n : Nat) (V ef : List Nat) (i : Nat) (pend : List Nat) : Bool :=
  decide (i < n) && !V.contains i && (deps ops i).all V.contains && okPend ops pend && pend.all (fun j => V.contains j && isQ al j) &&
    (V.all fun j => ef.contains j || pend.contains j || (clos ops 4000 (deps ops i) []).contains j)

def okT (ops : Array Oper) (al : List AOper) (n : Nat) : Bool → List Nat → List Nat → DT → Bool
  | b, V, ef, .done => !b && (V.length == n && (List.range n).all V.contains)
  | b, V, ef, .q i r => !b && isQ al i && decide (i < n) && !V.contains i && (deps ops i).all V.contains && ((List.range n).all fun k => !rdsB ops k i || (deps ops k).contains i || ef.contains k) && okT ops al n false (i :: V) ef r
  | b, V, ef, .e i pend r alt => (b || ((List.range n).all fun j => V.contains j || (i :: chs alt).contains j || (deps ops j).any fun k => !V.contains k)) &&
    okC ops al n V ef i pend && okT ops al n false (i :: V) (i :: V.filter (fun j => !pend.contains j)) r && okT ops al n true V ef alt
  | b, _, _, .no => b

theorem okT_ch {ops : Array Oper} {al : List AOper} {n : Nat} {V ef : List Nat} {t : DT} {i : Nat} {p : List Nat} {r : DT} (h : Ch t i p r) : ∀ {b : Bool}, okT ops al n b V ef t = true →
    okC ops al n V ef i p = true ∧ okT ops al n false (i :: V) (i :: V.filter (fun j => !p.contains j)) r = true := by
  induction h with
  | here i p r alt => intro b ht; simp only [okT, Bool.and_eq_true] at ht; exact ⟨ht.1.1.2, ht.1.2⟩
  | there j pj rj h ih => intro b ht; simp only [okT, Bool.and_eq_true] at ht; exact ih ht.2

def okDt (P : Program) (nt : Nat) (ops : Array Oper) (al : List AOper) (t : DT) : Bool :=
  P.follows .mixedOrders && okL P nt ops ops.toList al && Region.noSelect ops && okDst ops ops.size && (List.range ops.size).all (okReads ops ops.size) && okT ops al ops.size false [] [] t

section drawn
variable {P : Program} {S : Start} {Γ : List (Nat × Contract)} {ops : Array Oper} {al : List AOper} {Q : Exit → Act → World → Prop} {K : SS → Prop}

theorem stageT (hΓ : GOk P Γ) (hO : Okd P S ops al) (hQ : ∀ c x w, ¬ Q (.panic c) x w) (hfin : ∀ s' E' a', K s' → Sat S s' E' a' → Q .normal a' E'.w) :
    ∀ (items : DT) (V ef : List Nat) (fuel : Nat) (listed : Array Bool) (s : SS) (E : En) (a b : Act), okT ops al ops.size false V ef items = true → topo ops V → (∀ j ∈ V, j < ops.size) → (∀ j ∈ ef, listed.getD j true = true) →
      cnt ops.size listed ≤ fuel → Virt P ops V listed a b E.w → Sat S s E b → runT Γ al items s K → wpAny P .any ops Q fuel listed a E.w
  | .done, V, ef, fuel, listed, s, E, a, b, hok, ht, hV, hef, hc, hv, hs, h => by
    simp only [okT, Bool.and_eq_true, List.all_eq_true, List.mem_range] at hok
    have hok := hok.2
    simp only [runT] at h
    have hall : ∀ i, i < ops.size → i ∈ V := fun i hi => by have := hok.2 i hi; rw [List.contains_eq_mem] at this; simpa using this
    have done : ∀ (listed : Array Bool) (a : Act), Virt P ops V listed a b E.w → (∀ j ∈ V, listed.getD j true = true) → Q .normal a E.w := by
      intro listed a hv hl
      have he : a.tmps = b.tmps := Array.ext_getElem? fun k => hv.same k (fun j hj hjl => by rw [hl j hj] at hjl; cases hjl)
      refine hfin s E a h ⟨hs.hs, fun k => by rw [he]; exact hs.fr k, hs.ev, hs.id, hv.defers, by rw [he]; exact hs.size⟩
    have key : ∀ (fuel : Nat) (listed : Array Bool) (a : Act), cnt ops.size listed ≤ fuel → Virt P ops V listed a b E.w → wpAny P .any ops Q fuel listed a E.w := by
      intro fuel
      induction fuel with
      | zero =>
        intro listed a hc hv
        have hl : ∀ j ∈ V, listed.getD j true = true := by
          intro j hj
          cases hjl : listed.getD j true with
          | true => rfl
          | false => have := cnt_set (hV j hj) hjl hv.lsz; omega
        refine ⟨?_, done listed a hv hl⟩
        cases hr : Region.ready .any ops listed with
        | nil => rfl
        | cons i r =>
          have hi : i ∈ Region.ready .any ops listed := by rw [hr]; simp
          obtain ⟨h1, o, ho, _⟩ := mem_ready.1 hi
          rw [hl i (hall i (Array.getElem?_eq_some_iff.1 ho).1)] at h1; cases h1
      | succ fuel ih =>
        intro listed a hc hv
        refine ⟨fun h0 => done listed a hv (ready_some ht hV hv.lsz h0), fun i hi => ?_⟩
        obtain ⟨h1, o, ho, _⟩ := mem_ready.1 hi
        have hlt := (Array.getElem?_eq_some_iff.1 ho).1
        refine virt_real hv hO.sel (hO.reads i hlt) ho hi (hall i hlt) (fun v hv' => ih _ _ ?_ hv')
        have := cnt_set hlt h1 hv.lsz
        omega
    exact key fuel listed a hc hv
  | .q i r, V, ef, fuel, listed, s, E, a, b, hok, ht, hV, hef, hc, hv, hs, h => by
    simp only [okT, Bool.and_eq_true, decide_eq_true_eq, Bool.not_eq_true', List.all_eq_true] at hok
    obtain ⟨⟨⟨⟨⟨⟨_, hq⟩, hlt⟩, hiV⟩, hdeps⟩, hRr⟩, hokr⟩ := hok
    have hR : ∀ k, Anti ops k i → listed.getD k true = true := by
      rintro k ⟨h1, h2⟩
      have hk : k < ops.size := by
        rcases Nat.lt_or_ge k ops.size with h | h
        · exact h
        · unfold rdsB at h1; rw [Array.getElem?_eq_none h] at h1; cases h1
      have := hRr k (List.mem_range.2 hk)
      rw [h1] at this
      simp only [Bool.not_true, Bool.false_or, Bool.or_eq_true, List.contains_eq_mem, decide_eq_true_eq] at this
      exact hef k (this.resolve_left h2)
    have hiV' : i ∉ V := by rw [List.contains_eq_mem] at hiV; simpa using hiV
    have hdeps' : ∀ j ∈ deps ops i, j ∈ V := fun j hj => by have := hdeps j hj; rw [List.contains_eq_mem] at this; simpa using this
    have hi : ops[i]? = some ops[i] := Array.getElem?_eq_getElem hlt
    have hok := hO.ok i _ hi
    obtain ⟨hdo, hdlt⟩ := okO_dst hok
    unfold isQ at hq
    simp only [Bool.and_eq_true] at hq
    obtain ⟨d, hd⟩ := Option.isSome_iff_exists.1 hq.2
    have hdi : dstOf ops i = some d := by unfold dstOf; rw [hi]; exact hdo.trans hd
    have hdl : d < b.tmps.size := by rw [hs.size]; exact hdlt d hd
    have hV' : ∀ j ∈ i :: V, j < ops.size := fun j hj => by
      rcases List.mem_cons.1 hj with rfl | hj
      · exact hlt
      · exact hV j hj
    have on : ∀ (s2 : SS) (v : Value), Sat S s2 E (b.put (some d) v) → runT Γ al r s2 K → ((Region.wanted ops[i] (yielded ops b.tmps) = true ∧ (execOp b.eval ops[i]).run P E.w = .ok (.value v) E.w) ∨ (Region.wanted ops[i] (yielded ops b.tmps) = false ∧ v = undef)) →
        wpAny P .any ops Q fuel listed a E.w := fun s2 v hs2 hk hy =>
      stageT hΓ hO hQ hfin r (i :: V) ef fuel listed s2 E a _ hokr ⟨hdeps', ht⟩ hV' hef hc (virt_ahead hO hv ht hlt hiV' hdeps' hdi hdl hR hy) hs2 hk
    simp only [runT] at h
    unfold runE at h
    split at h
    · rename_i hg
      unfold step at h
      rw [hq.1] at h
      obtain ⟨x, v, hk, hx, hr⟩ := quiet_run hok hq.1 hs h
      rw [hd] at hk
      exact on _ v (hs.put (fun k hk' => by cases hk'; exact hdlt d hd) hx) hk (.inl ⟨okO_noguard hok hg b, hr⟩)
    · rename_i slot want hg
      split at h
      · rename_i c hcc
        have hw := okO_guard hok hg hs hcc
        have hslot : den E (.bool c) (b.tmps.getD slot undef) := by rw [← hcc]; exact hs.fr slot
        have hself : ∀ c' : Bool, c = c' → Sat S (s.put (some slot) (.bool c')) E b := by
          intro c' hc'
          refine hs.frame (fun k => ?_)
          rw [lkF_up]
          split
          · rename_i hk; subst hk; subst hc'; exact hslot
          · exact hs.fr k
        cases hcw : c == want with
        | true =>
          have h1 := sw_true h hcw
          have hcw' : c = want := by simpa using hcw
          unfold step at h1
          rw [hq.1] at h1
          obtain ⟨x, v, hk, hx, hr⟩ := quiet_run hok hq.1 (hself want hcw') h1
          rw [hd] at hk
          exact on _ v ((hself want hcw').put (fun k hk' => by cases hk'; exact hdlt d hd) hx) hk (.inl ⟨by rw [hw, hcw], hr⟩)
        | false =>
          have h1 := sw_false h hcw
          have hcw' : c = !want := by cases c <;> cases want <;> simp at hcw ⊢
          rw [hd] at h1
          exact on _ undef ((hself _ hcw').put (d := some d) (x := .tup []) (fun k hk' => by cases hk'; exact hdlt d hd) den_undef) h1 (.inr ⟨by rw [hw, hcw], rfl⟩)
      · rename_i hcc
        have hw := okO_guardT (ops := ops) hok hg hs hcc
        rw [hd] at h
        exact on _ undef (hs.put (d := some d) (x := .tup []) (fun k hk' => by cases hk'; exact hdlt d hd) den_undef) h (.inr ⟨hw, rfl⟩)
      · cases h
  | .e i0 pend0 r0 alt, V, ef, fuel, listed, s, E, a, b, hok0, ht, hV, hef, hc, hv, hs, h0 => by
    have mem : ∀ (l : List Nat) (x : Nat), l.contains x = true → x ∈ l := fun l x h => by rw [List.contains_eq_mem] at h; simpa using h
    have hC6 : ∀ j, j < ops.size → (V.contains j = true ∨ j ∈ chs (.e i0 pend0 r0 alt)) ∨ ∃ k ∈ deps ops j, V.contains k = false := by
      intro j hj
      simp only [okT, Bool.and_eq_true, Bool.or_eq_true, Bool.false_or, List.all_eq_true, List.mem_range, List.any_eq_true, Bool.not_eq_true'] at hok0
      rcases hok0.1.1.1 j hj with (h | h) | h
      · exact .inl (.inl h)
      · exact .inl (.inr (by simp only [chs]; exact mem _ _ h))
      · exact .inr h
    obtain ⟨hlt0, hiV0, hdeps0⟩ : i0 < ops.size ∧ i0 ∉ V ∧ ∀ j ∈ deps ops i0, j ∈ V := by
      have h1 := (okT_ch (.here i0 pend0 r0 alt) hok0).1
      simp only [okC, Bool.and_eq_true, decide_eq_true_eq, Bool.not_eq_true', List.all_eq_true] at h1
      obtain ⟨⟨⟨⟨⟨hlt, hiV⟩, hdeps⟩, _⟩, _⟩, _⟩ := h1
      exact ⟨hlt, by rw [List.contains_eq_mem] at hiV; simpa using hiV, fun j hj => mem _ _ (hdeps j hj)⟩
    have key : ∀ (fuel : Nat) (listed : Array Bool) (a : Act), (∀ j ∈ ef, listed.getD j true = true) → cnt ops.size listed ≤ fuel → Virt P ops V listed a b E.w → wpAny P .any ops Q fuel listed a E.w := by
      intro fuel
      induction fuel with
      | zero =>
        intro listed a _ hc hv
        exfalso
        have hun : listed.getD i0 true = false := by
          cases hl : listed.getD i0 true with
          | false => rfl
          | true => exact absurd (hv.sub i0 hlt0 hl) hiV0
        have := cnt_set hlt0 hun hv.lsz
        omega
      | succ fuel ih =>
        intro listed a hef hc hv
        have hun : listed.getD i0 true = false := by
          cases hl : listed.getD i0 true with
          | false => rfl
          | true => exact absurd (hv.sub i0 hlt0 hl) hiV0
        refine ⟨fun hr0 => ?_, fun i' hi' => ?_⟩
        · exfalso
          have hl := ready_some ht hV hv.lsz hr0
          have := ready_of hlt0 hv.lsz hun (fun j hj => ⟨hV j (hdeps0 j hj), hl j (hdeps0 j hj)⟩)
          rw [hr0] at this; cases this
        · obtain ⟨h1, o, ho, hall⟩ := mem_ready.1 hi'
          have hlt' := (Array.getElem?_eq_some_iff.1 ho).1
          by_cases hi'V : i' ∈ V
          · refine virt_real hv hO.sel (hO.reads i' hlt') ho hi' hi'V (fun v hv' => ih _ _ (fun j hj => ?_) ?_ hv')
            · by_cases hji : j = i'
              · subst hji; rw [set_self (by rw [hv.lsz]; exact hlt')]
              · rw [set_ne hji]; exact hef j hj
            · have := cnt_set hlt' h1 hv.lsz
              omega
          · have hmem : i' ∈ chs (.e i0 pend0 r0 alt) := by
              rcases hC6 i' hlt' with (h | h) | ⟨k, hk, hkV⟩
              · exact absurd (mem _ _ h) hi'V
              · exact h
              · exfalso
                obtain ⟨e, he, hb, rfl⟩ := (mem_deps ho).1 hk
                have h2 := hall e he hb
                have hklt : e.on < ops.size := by
                  rcases Nat.lt_or_ge e.on ops.size with h' | h'
                  · exact h'
                  · rw [Array.getD_eq_getD_getElem?, Array.getElem?_eq_none (by rw [hv.lsz]; exact h')] at h2; cases h2
                have := hv.sub e.on hklt ((getD_tf (by rw [hv.lsz]; exact hklt)).2 h2)
                rw [List.contains_eq_mem] at hkV
                simp [this] at hkV
            obtain ⟨pend, r, hch⟩ := ch_of_mem _ _ hmem
            have hsize := hch.size
            obtain ⟨hokc, hokr⟩ := okT_ch hch hok0
            have h := runT_ch hch h0
            simp only [okC, Bool.and_eq_true, decide_eq_true_eq, Bool.not_eq_true', List.all_eq_true, Bool.or_eq_true] at hokc
            obtain ⟨⟨⟨⟨⟨hlt, hiV⟩, hdeps⟩, hpend⟩, hpq⟩, hC2⟩ := hokc
            have hiV' : i' ∉ V := by rw [List.contains_eq_mem] at hiV; simpa using hiV
            have hdeps' : ∀ j ∈ deps ops i', j ∈ V := fun j hj => mem _ _ (hdeps j hj)
            have hi : ops[i']? = some ops[i'] := Array.getElem?_eq_getElem hlt
            have hok := hO.ok i' _ hi
            obtain ⟨hdo, hdlt⟩ := okO_dst hok
            have hV' : ∀ j ∈ i' :: V, j < ops.size := fun j hj => by
              rcases List.mem_cons.1 hj with rfl | hj
              · exact hlt
              · exact hV j hj
            have hpV : ∀ j ∈ pend, j ∈ V := fun j hj => mem _ _ (hpq j hj).1
            have hC2' : ∀ j ∈ V, j ∈ ef ∨ j ∈ pend ∨ j ∈ clos ops 4000 (deps ops i') [] := fun j hj => by
              rcases hC2 j hj with (h | h) | h
              · exact .inl (mem _ _ h)
              · exact .inr (.inl (mem _ _ h))
              · exact .inr (.inr (mem _ _ h))
            rw [hi] at ho; cases ho
            obtain ⟨he, hw⟩ := ready_like hv hO.sel (hO.reads i' hlt) hi hi'
            have hcl := clos_listed hv hV hlt hdeps' hi'
            have hef' : ∀ j ∈ i' :: V.filter (fun j => !pend.contains j), (listed.setIfInBounds i' true).getD j true = true := fun j hj => by
              by_cases hji : j = i'
              · subst hji; rw [set_self (by rw [hv.lsz]; exact hlt)]
              · rw [set_ne hji]
                rcases List.mem_cons.1 hj with e | hj
                · exact absurd e hji
                · obtain ⟨hj1, hj2⟩ := List.mem_filter.1 hj
                  rcases hC2' j hj1 with h | h | h
                  · exact hef j h
                  · rw [List.contains_eq_mem] at hj2; simp [h] at hj2
                  · exact hcl j h
            have hc' : cnt ops.size (listed.setIfInBounds i' true) ≤ fuel := by have := cnt_set hlt h1 hv.lsz; omega
            -- the effect, done
            have eff1 : ∀ (s0 : SS), Sat S s0 E b → step Γ (atA al i') s0 (andK (chkL al pend) fun s' => runT Γ al r s' K) →
                (ops[i']).wp P a E.w (wpAny P .any ops Q fuel (listed.setIfInBounds i' true)) Q := by
              intro s0 hs0 hst
              refine wp_like he hv.size hQ (step_sound hΓ hok hs0 hst fun s' E' v hk hs' => ?_)
              obtain ⟨hk1, hk2⟩ := hk
              obtain ⟨b', r1, r2, r3, r4⟩ := rerun hO (listed := listed.setIfInBounds i' true) pend _ hpend (fun j hj => ⟨hV j (hpV j hj), (hpq j hj).2⟩) hs' hk1
              exact ⟨v, rfl, stageT hΓ hO hQ hfin r (i' :: V) (i' :: V.filter (fun j => !pend.contains j)) fuel _ s' E' _ b' hokr ⟨hdeps', ht⟩ hV' hef' hc'
                (virt_done hO hv hV hlt hiV' hdeps' hi' hef hpV hC2' r2 r3 r4) r1 hk2⟩
            unfold runE at h
            unfold wpOp
            rw [hi]
            simp only
            rw [hw]
            split at h
            · rename_i hg
              rw [okO_noguard hok hg b, if_pos rfl]
              exact .inl (eff1 s hs h)
            · rename_i slot want hg
              split at h
              · rename_i c hcc
                rw [okO_guard hok hg hs hcc]
                have hslot : den E (.bool c) (b.tmps.getD slot undef) := by rw [← hcc]; exact hs.fr slot
                have hself : ∀ c' : Bool, c = c' → Sat S (s.put (some slot) (.bool c')) E b := by
                  intro c' hc'
                  refine hs.frame (fun k => ?_)
                  rw [lkF_up]
                  split
                  · rename_i hk; subst hk; subst hc'; exact hslot
                  · exact hs.fr k
                cases hcw : c == want with
                | true =>
                  rw [if_pos rfl]
                  exact .inl (eff1 _ (hself want (by simpa using hcw)) (sw_true h hcw))
                | false =>
                  rw [if_neg (by simp)]
                  have h3 := sw_false h hcw
                  have hcw' : c = !want := by cases c <;> cases want <;> simp at hcw ⊢
                  refine stageT hΓ hO hQ hfin r (i' :: V) (i' :: V.filter (fun j => !pend.contains j)) fuel _ _ E _ (b.put (ops[i']).dst undef) hokr ⟨hdeps', ht⟩ hV' hef' hc' ?_ (by rw [hdo]; exact (hself _ hcw').put hdlt den_undef) h3
                  refine virt_done hO hv hV hlt hiV' hdeps' hi' hef (fun j hj => hj) (fun j hj => .inr (.inl hj)) rfl (fun _ _ => rfl) (fun j hj hjl o ho => ?_)
                  have hji : j ≠ i' := fun e => hiV' (e ▸ hj)
                  rw [set_ne hji] at hjl
                  obtain ⟨k1, k2⟩ := hv.ahead j hj hjl o ho
                  refine ⟨k1, ?_⟩
                  cases hd : (ops[i']).dst with
                  | none => exact k2
                  | some d => exact k2.put_other (hO := hO) ho (j := i') (by unfold dstOf; rw [hi]; exact hd) (Ne.symm hji) (fun hdep => hiV' (topo_deps ht j hj i' hdep)) (fun ha => by
                    have hjlt := hV j hj
                    have hoj : ops[j]? = some ops[j] := Array.getElem?_eq_getElem hjlt
                    have hr := hO.reads j hjlt
                    unfold okReads at hr
                    have h2 := List.all_eq_true.1 hr i' (List.mem_range.2 hlt)
                    rw [ha.1] at h2
                    simp only [Bool.not_true, Bool.false_or, Bool.or_eq_true, Bool.and_eq_true, bne_iff_ne, ne_eq, List.contains_eq_mem, decide_eq_true_eq] at h2
                    have h3 := (h2.resolve_left ha.2).2
                    obtain ⟨e, he, hb, hej⟩ := (mem_deps hi).1 h3
                    have h4 := hall e he hb
                    rw [hej] at h4
                    rw [(getD_tf (by rw [hv.lsz]; exact hjlt)).2 h4] at hjl; cases hjl)
              · rename_i hcc
                rw [okO_guardT (ops := ops) hok hg hs hcc, if_neg (by simp)]
                refine stageT hΓ hO hQ hfin r (i' :: V) (i' :: V.filter (fun j => !pend.contains j)) fuel _ _ E _ (b.put (ops[i']).dst undef) hokr ⟨hdeps', ht⟩ hV' hef' hc' ?_ (by rw [hdo]; exact hs.put hdlt den_undef) h
                refine virt_done hO hv hV hlt hiV' hdeps' hi' hef (fun j hj => hj) (fun j hj => .inr (.inl hj)) rfl (fun _ _ => rfl) (fun j hj hjl o ho => ?_)
                have hji : j ≠ i' := fun e => hiV' (e ▸ hj)
                rw [set_ne hji] at hjl
                obtain ⟨k1, k2⟩ := hv.ahead j hj hjl o ho
                refine ⟨k1, ?_⟩
                cases hd : (ops[i']).dst with
                | none => exact k2
                | some d => exact k2.put_other (hO := hO) ho (j := i') (by unfold dstOf; rw [hi]; exact hd) (Ne.symm hji) (fun hdep => hiV' (topo_deps ht j hj i' hdep)) (fun ha => by
                  have hjlt := hV j hj
                  have hoj : ops[j]? = some ops[j] := Array.getElem?_eq_getElem hjlt
                  have hr := hO.reads j hjlt
                  unfold okReads at hr
                  have h2 := List.all_eq_true.1 hr i' (List.mem_range.2 hlt)
                  rw [ha.1] at h2
                  simp only [Bool.not_true, Bool.false_or, Bool.or_eq_true, Bool.and_eq_true, bne_iff_ne, ne_eq, List.contains_eq_mem, decide_eq_true_eq] at h2
                  have h3 := (h2.resolve_left ha.2).2
                  obtain ⟨e, he, hb, hej⟩ := (mem_deps hi).1 h3
                  have h4 := hall e he hb
                  rw [hej] at h4
                  rw [(getD_tf (by rw [hv.lsz]; exact hjlt)).2 h4] at hjl; cases hjl)
              · cases h
    exact key fuel listed a hef hc hv
  | .no, V, ef, fuel, listed, s, E, a, b, hok, _, _, _, _, _, _, _ => by simp [okT] at hok
termination_by items => SizeOf.sizeOf items
decreasing_by
  all_goals first
    | (simp; omega)
    | (simpa using hsize)

/-- A REGION WHOSE ORDER IS OPEN, in effects too. -/
theorem drawnT_sound (hΓ : GOk P Γ) {items : DT} (hok : okDt P S.nt ops al items = true) {id : Nat} (hQ : ∀ c x w, ¬ Q (.panic c) x w) (hfin : ∀ s' E' a', K s' → Sat S s' E' a' → Q .normal a' E'.w)
    {s : SS} {E : En} {a : Act} (hs : Sat S s E a) (h : runT Γ al items s K) : (Code.region id ops true).wp P Q a E.w := by
  simp only [okDt, Bool.and_eq_true, List.all_eq_true, List.mem_range] at hok
  obtain ⟨⟨⟨⟨⟨hm, hL⟩, hsel⟩, hdst⟩, hreads⟩, hit⟩ := hok
  have hlen : ∀ (l : List Oper) (l' : List AOper), okL P S.nt ops l l' = true → ∀ i o, l[i]? = some o → okO P S.nt ops o (atA l' i) = true := by
    intro l
    induction l with
    | nil => intro l' _ i o h; simp at h
    | cons x l ih =>
      intro l' hl i o h
      cases l' with
      | nil => simp [okL] at hl
      | cons y l' =>
        simp only [okL, Bool.and_eq_true] at hl
        cases i with
        | zero => simp at h; subst h; exact hl.1
        | succ i => exact ih l' hl.2 i o (by simpa using h)
  have dlt : ∀ i d, dstOf ops i = some d → i < ops.size := by
    intro i d h
    unfold dstOf at h
    cases ho : ops[i]? with
    | none => rw [ho] at h; cases h
    | some o => exact (Array.getElem?_eq_some_iff.1 ho).1
  have hO : Okd P S ops al := by
    refine ⟨fun i o hi => hlen _ _ hL i o (by simpa using hi), hsel, fun i j d hi hj => ?_, hreads⟩
    unfold okDst at hdst
    simp only [List.all_eq_true, List.mem_range] at hdst
    have := hdst i (dlt i d hi) j (dlt j d hj)
    rw [hi] at this
    simp only [Bool.or_eq_true, beq_iff_eq, bne_iff_ne, ne_eq] at this
    rcases this with h | h
    · exact h
    · exact absurd hj h
  refine wp_region_any hm ?_
  obtain ⟨h1, h2⟩ := hs.hs.same (Chg.drew E.w)
  have hf := hs.fr.ren h2
  rw [frRen_some] at hf
  have hev : Ev s.hp E s.hp { E with w := E.w.drew } := ⟨rfl, rfl, rfl, Nat.le_refl _, fun _ _ _ => rfl, fun _ h => .inl h, fun _ h => h, fun _ h => .inl h, rfl⟩
  have hs' : Sat S s { E with w := E.w.drew } a := ⟨h1, hf, hs.ev.trans hev, hs.id, hs.defers, hs.size⟩
  have hno : ∀ i, (Array.replicate ops.size false).getD i true = true → ¬ i < ops.size := by
    intro i h hi
    rw [Array.getD_eq_getD_getElem?, Array.getElem?_eq_getElem (by simpa using hi)] at h
    simp at h
  refine stageT hΓ hO hQ hfin items [] [] ops.size _ s { E with w := E.w.drew } a a hit trivial (by simp) (by simp) ?_ ?_ hs' h
  · unfold cnt
    exact Nat.le_trans List.countP_le_length (by simp)
  · exact ⟨hs.defers, rfl, fun _ _ => rfl, (fun j hj => by cases hj), (fun i hi h => absurd hi (hno i h)), (by simp), (fun i hi h => absurd hi (hno i h)), (fun i j hj => by cases hj)⟩

end drawn
end Go.V
