/- The executor: regions in the text's order, code, loops, results; and that it is right. -/
import Derived.Test.YtkjecjgfkogkoaaVsa
namespace Go.V
set_option linter.unusedSimpArgs false
set_option linter.unnecessarySimpa false
set_option linter.unusedVariables false

section effects
variable {P : Program} {o : Oper} {S : Start} {s : SS} {E : En} {a : Act} {K : SV → SS → Prop} {next : Act → World → Prop} {Q : Exit → Act → World → Prop} {Γ : List (Nat × Contract)}

def AOp.isSt : AOp → Bool
  | .st _ _ _ => true
  | _ => false

theorem eff_sound (hΓ : GOk P Γ) {ao : AOp} (hok : okE P o.op ao = true) (hdst : ao.isSt = true → o.dst = none) (hs : Sat S s E a) (h : eff Γ ao s K) (hg : Goes S a o K next) : o.wp P a E.w next Q := by
  cases ao <;> first
    | exact e_isn hok hs h hg
    | exact e_alc hok hs h hg
    | exact e_box hok hs h hg
    | exact e_st hok (hdst rfl) hs h hg
    | exact e_app hok hs h hg
    | exact e_bsl hok hs h hg
    | exact e_mu hok hs h hg
    | exact e_mkm hok hs h hg
    | exact e_call hΓ hok hs h hg
    | exact e_callv hΓ hok hs h hg
    | exact h.elim
end effects

/-- Does the operation change nothing? -/
def AOp.quiet : AOp → Bool
  | .isn _ _ | .alc _ | .box _ | .bsl _ _ _ _ | .st _ _ _ | .app _ _ _ _ | .cpy _ _ _ | .mkm _ _ _ | .mks _ _ _ _ | .mu _ _ _ _ _ _ | .dl _ _ _ | .s2b _ | .call _ _ _ | .callv _ _ _ => false
  | _ => true

/-- On, with the value in its slot. -/
def goK (s : SS) (d : Option Nat) (K : SS → Prop) (v : SV) : Prop := K (s.put d v)
def goE (d : Option Nat) (K : SS → Prop) (v : SV) (s' : SS) : Prop := K (s'.put d v)

def step (Γ : List (Nat × Contract)) (o : AOper) (s : SS) (K : SS → Prop) : Prop :=
  match o.op.quiet with
  | true => evC o.op s (goK s o.dst K)
  | false => eff Γ o.op s (goE o.dst K)

def runL (Γ : List (Nat × Contract)) : List AOper → SS → (SS → Prop) → Prop
  | [], s, K => K s
  | o :: r, s, K => match o.guard with
    | none => step Γ o s (fun s' => runL Γ r s' K)
    | some (slot, want) => match lkF s.fr slot with
      | .bool b => sw (b == want) (step Γ o (s.put (some slot) (.bool want)) (fun s' => runL Γ r s' K)) (runL Γ r ((s.put (some slot) (.bool (!want))).put o.dst (.tup [])) K)
      | .tup [] => runL Γ r (s.put o.dst (.tup [])) K
      | _ => False

/-- The layer's text of an operation is the operation. -/
def okO (P : Program) (nt : Nat) (ops : Array Oper) (o : Oper) (ao : AOper) : Bool :=
  (o.dst == ao.dst) && (match ao.dst with | some d => decide (d < nt) | none => true) &&
  (match ao.op.quiet with
    | true => okQ P o.op ao.op
    | false => okE P o.op ao.op && (!ao.op.isSt || ao.dst.isNone)) &&
  (match o.guard, ao.guard with
    | none, none => true
    | some (j, want), some (slot, want') => (want == want') && ((ops[j]?).bind (·.dst) == some slot) && decide (slot < nt)
    | _, _ => false)

def okL (P : Program) (nt : Nat) (ops : Array Oper) : List Oper → List AOper → Bool
  | [], [] => true
  | o :: r, ao :: r' => okO P nt ops o ao && okL P nt ops r r'
  | _, _ => false

section run
variable {P : Program} {S : Start} {Γ : List (Nat × Contract)}

theorem Sat.put {s : SS} {E : En} {a : Act} (hs : Sat S s E a) {d : Option Nat} (hd : ∀ k, d = some k → k < S.nt) {x : SV} {v : Value} (hx : den E x v) : Sat S (s.put d x) E (a.put d v) := by
  cases d with
  | none => exact hs
  | some d => exact ⟨hs.hs, hs.fr.put (by rw [hs.size]; exact hd d rfl) hx, hs.ev, hs.id, hs.defers, by simp only [Act.put]; rw [Array.size_setIfInBounds]; exact hs.size⟩

theorem Sat.frame {s : SS} {E : En} {a : Act} (hs : Sat S s E a) {fr : List (Nat × SV)} (h : Fr E fr a) : Sat S ⟨fr, s.hp⟩ E a := ⟨hs.hs, h, hs.ev, hs.id, hs.defers, hs.size⟩

theorem step_sound (hΓ : GOk P Γ) {ops : Array Oper} {o : Oper} {ao : AOper} (hok : okO P S.nt ops o ao = true) {s : SS} {E : En} {a : Act} (hs : Sat S s E a) {K : SS → Prop} (h : step Γ ao s K) {next : Act → World → Prop} {Q : Exit → Act → World → Prop}
    (hn : ∀ s' E' v, K s' → Sat S s' E' (a.put o.dst v) → next (a.put o.dst v) E'.w) : o.wp P a E.w next Q := by
  simp only [okO, Bool.and_eq_true, beq_iff_eq] at hok
  obtain ⟨⟨⟨hd, hlt⟩, hop⟩, _⟩ := hok
  have hlt' : ∀ k, ao.dst = some k → k < S.nt := by
    intro k hk
    rw [hk] at hlt
    simpa using hlt
  unfold step at h
  split at h
  · rename_i hq
    rw [hq] at hop
    simp only at hop
    obtain ⟨q, he, hneed, hk⟩ := evC_spec h
    obtain ⟨hyp, v, hr, hv⟩ := ev_sound hop hs.hs hs.fr he hneed
    unfold Oper.wp Oper.upon
    rw [hr]
    exact hn _ _ _ (hk hyp) (by rw [hd]; exact hs.put hlt' hv)
  · rename_i hq
    rw [hq] at hop
    simp only [Bool.and_eq_true, Bool.or_eq_true, Bool.not_eq_true'] at hop
    refine eff_sound hΓ hop.1 (fun hst => ?_) hs h ?_
    · rcases hop.2 with h' | h'
      · rw [hst] at h'; cases h'
      · rw [hd]; exact Option.isNone_iff_eq_none.1 h'
    · intro x s' E' v hk hx hs'
      exact hn _ _ _ hk (by rw [hd]; exact hs'.put hlt' hx)

theorem yielded_den {ops : Array Oper} {j slot : Nat} {a : Act} {E : En} {b : Bool} (hj : (ops[j]?).bind (·.dst) = some slot) (h : den E (.bool b) (a.tmps.getD slot undef)) (hlt : slot < a.tmps.size) : yielded ops a.tmps j = some b := by
  simp only [den] at h
  unfold yielded
  rw [hj]
  rw [Array.getD_eq_getD_getElem?, Array.getElem?_eq_getElem hlt, Option.getD_some] at h
  simp [Array.getElem?_eq_getElem hlt, h]

theorem den_undef {E : En} : den E (.tup []) undef := by
  simp only [den]
  exact ⟨#[], rfl, by simp only [denL]⟩

theorem yielded_tup {ops : Array Oper} {E : En} {a : Act} {j slot : Nat} (hj : (ops[j]?).bind (·.dst) = some slot) (h : den E (.tup []) (a.tmps.getD slot undef)) : yielded ops a.tmps j = none := by
  unfold yielded
  rw [hj, Option.bind_some]
  cases hv : a.tmps[slot]? with
  | none => rfl
  | some v =>
    rw [Array.getD_eq_getD_getElem?, hv] at h
    simp only [den] at h
    obtain ⟨vs, h1, _⟩ := h
    simp only [Option.getD_some] at h1
    subst h1
    rfl

theorem runL_sound (hΓ : GOk P Γ) {ops : Array Oper} {Q : Exit → Act → World → Prop} : ∀ (l : List Oper) (al : List AOper) (n : Nat), ops.toList.drop n = l → okL P S.nt ops l al = true → ∀ (s : SS) (E : En) (a : Act) (K : SS → Prop), Sat S s E a → runL Γ al s K →
    (∀ s' E' a', K s' → Sat S s' E' a' → Q .normal a' E'.w) → wpOps P ops Q ((List.range l.length).map (n + ·)) a E.w
  | [], [], n, hn, _, s, E, a, K, hs, h, hq => hq _ _ _ h hs
  | [], _ :: _, n, hn, hok, _, _, _, _, _, _, _ => by simp [okL] at hok
  | _ :: _, [], n, hn, hok, _, _, _, _, _, _, _ => by simp [okL] at hok
  | o :: l, ao :: al, n, hn, hok, s, E, a, K, hs, h, hq => by
    simp only [okL, Bool.and_eq_true] at hok
    obtain ⟨hok, hokl⟩ := hok
    have hget : ops[n]? = some o := by
      have := congrArg (fun l => l[0]?) hn
      simpa using this
    have hn' : ops.toList.drop (n + 1) = l := by rw [← List.drop_drop, hn]; rfl
    have ih := fun s E a hs h => runL_sound hΓ l al (n + 1) hn' hokl s E a K hs h hq
    have hrange : (List.range (o :: l).length).map (n + ·) = n :: (List.range l.length).map (n + 1 + ·) := by
      rw [List.length_cons, List.range_succ_eq_map]
      simp [Function.comp_def]
      intro x _; omega
    rw [hrange]
    simp only [wpOps, hget]
    have hokc := hok
    simp only [okO, Bool.and_eq_true] at hok
    obtain ⟨⟨⟨hd, hlt⟩, _⟩, hgd⟩ := hok
    unfold runL at h
    split at h
    · rename_i hag
      rw [hag] at hgd
      have hog : o.guard = none := by cases hg : o.guard <;> simp [hg] at hgd; rfl
      have hw : Region.wanted o (yielded ops a.tmps) = true := by simp [Region.wanted, hog]
      rw [hw, if_pos rfl]
      exact .inl (step_sound hΓ hokc hs h fun s' E' v hk hs' => ih s' E' _ hs' hk)
    · rename_i slot want hag
      rw [hag] at hgd
      obtain ⟨j, hog⟩ : ∃ j, o.guard = some (j, want) ∧ (ops[j]?).bind (·.dst) = some slot ∧ slot < S.nt := by
        cases hg : o.guard with
        | none => simp [hg] at hgd
        | some x =>
          obtain ⟨j, w⟩ := x
          simp only [hg, Bool.and_eq_true, beq_iff_eq, decide_eq_true_eq] at hgd
          exact ⟨j, by rw [hgd.1.1], hgd.1.2, hgd.2⟩
      obtain ⟨hog, hj, hsl⟩ := hog
      split at h
      · rename_i b hb
        have hfr := hs.fr slot
        rw [hb] at hfr
        have hy := yielded_den hj hfr (by rw [hs.size]; exact hsl)
        have hself : ∀ c : Bool, b = c → Sat S (s.put (some slot) (.bool c)) E a := by
          intro c hc
          refine hs.frame (fun k => ?_)
          rw [lkF_up]
          split
          · rename_i hk
            subst hk; subst hc; exact hfr
          · exact hs.fr k
        by_cases hbw : b = want
        · have hw : Region.wanted o (yielded ops a.tmps) = true := by simp [Region.wanted, hog, hy, hbw]
          rw [hw, if_pos rfl]
          have h1 := sw_true h (by simp [hbw])
          exact .inl (step_sound hΓ hokc (hself want hbw) h1 fun s' E' v hk hs' => ih s' E' _ hs' hk)
        · have hw : Region.wanted o (yielded ops a.tmps) = false := by simp [Region.wanted, hog, hy, hbw]
          rw [hw, if_neg (by simp)]
          have h1 := sw_false h (by simp [hbw])
          have hlt' : ∀ k, ao.dst = some k → k < S.nt := by
            intro k hk
            rw [hk] at hlt
            simpa using hlt
          have hd' : o.dst = ao.dst := by simpa using hd
          refine ih _ E _ ?_ h1
          rw [hd']
          exact (hself (!want) (by cases b <;> cases want <;> simp at hbw ⊢)).put hlt' den_undef
      · rename_i hb
        have hfr := hs.fr slot
        rw [hb] at hfr
        have hw : Region.wanted o (yielded ops a.tmps) = false := by simp [Region.wanted, hog, yielded_tup hj hfr]
        rw [hw, if_neg (by simp)]
        have hlt' : ∀ k, ao.dst = some k → k < S.nt := by
          intro k hk
          rw [hk] at hlt
          simpa using hlt
        have hd' : o.dst = ao.dst := by simpa using hd
        refine ih _ E _ ?_ h
        rw [hd']
        exact hs.put hlt' den_undef
      · cases h

end run
end Go.V
