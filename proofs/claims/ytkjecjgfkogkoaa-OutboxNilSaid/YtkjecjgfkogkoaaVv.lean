/- A function meets its contract. -/
import Derived.Test.YtkjecjgfkogkoaaVu
namespace Go.V
set_option linter.unusedSimpArgs false
set_option linter.unnecessarySimpa false
set_option linter.unusedVariables false

def okRes (P : Program) : List ResultVar → List RT → Bool
  | [], [] => true
  | .tmp t :: r, .t n :: r' => t == n && okRes P r r'
  | .cell t T :: r, .c k n :: r' => t == k && (match n with
    | none => agOf P T == some false
    | some m => agOf P T == some true && szOf P T == some m) && okRes P r r'
  | vs, .w _ _ _ :: r' => okRes P vs r'
  | vs, .f _ :: r' => okRes P vs r'
  | _, _ => false

/-- One result. -/
def resM (tmps : Array Value) : ResultVar → Sem Value
  | .tmp t => pure (tmps.getD t undef)
  | .cell a t => do loadVar t (← asAddr (tmps.getD a undef))

theorem cell_res {P : Program} {S : Start} {s : SS} {E : En} {a : Act} (hs : Sat S s E a) {k T : Nat} {n : Option Nat} (hok : (match n with
    | none => agOf P T == some false
    | some m => agOf P T == some true && szOf P T == some m) = true) {x : SV} (hx : ptrV s.hp (lkF s.fr k) n = some x) : ∃ v, (resM a.tmps (.cell k T)).run P E.w = .ok v E.w ∧ den E x v := by
  have g := hs.fr k
  unfold ptrV at hx
  split at hx
  · rename_i i off hk
    rw [hk] at g
    unfold cellV at hx
    split at hx
    · rename_i cells hi
      have hseen : ∀ l, dropC cells off = some l → seen s.hp (.ptr i off) = some (True, l) := fun l hl => by simp only [seen, hi, hl, Option.map_some]
      cases n with
      | none =>
        simp only [headO] at hx
        split at hx
        · rename_i l hl
          obtain ⟨b, o, cur, T', fr, cs, r, hv, hb, hd, hc⟩ := seen_sound hs.hs g (hseen l hl) trivial
          obtain ⟨v, c2, rfl, h4⟩ := denC_head hc hx
          have hcell : E.w.cell? ⟨b, o, none⟩ = some v := by
            have := congrArg (fun l => l[0]?) hd
            simp [World.cell?, hb]
            simpa using this
          simp only [beq_iff_eq] at hok
          exact ⟨v, by simp [resM, -Array.getD_eq_getD_getElem?, hv, asAddr, loadVar, isAgg_run hok, hcell], h4⟩
        · cases hx
      | some m =>
        simp only [takeO] at hx
        split at hx
        · rename_i l hl
          simp only [aggO] at hx
          split at hx
          · rename_i l' hl'
            cases hx
            obtain ⟨b, o, cur, T', fr, cs, r, hv, hb, hd, hc⟩ := seen_sound hs.hs g (hseen l hl) trivial
            obtain ⟨h4, h5⟩ := denC_take _ _ _ _ hc hl'
            have hlen : (cs.take m).length = m := by simp; omega
            have hd' : cur.toList.drop o = cs.take m ++ (cs.drop m ++ r) := by rw [← List.append_assoc, List.take_append_drop]; exact hd
            have hrun := loadCells_run (P := P) hb hd'
            rw [hlen] at hrun
            simp only [Bool.and_eq_true, beq_iff_eq] at hok
            refine ⟨.agg (cs.take m).toArray, ?_, ?_⟩
            · simp [resM, -Array.getD_eq_getD_getElem?, hv, asAddr, loadVar, isAgg_run hok.1, szOf_run hok.2, hrun]
            · simp only [den]; exact ⟨_, rfl, h4⟩
          · cases hx
        · cases hx
    · cases hx
  · cases hx

theorem mapM_res {P : Program} {S : Start} {s : SS} {E : En} {a : Act} (hs : Sat S s E a) : ∀ (vs : List ResultVar) (rs : List RT) (l : List SV), okRes P vs rs = true → resL s rs = some l →
    ∃ us, (vs.mapM (resM a.tmps)).run P E.w = .ok us E.w ∧ denL E l us
  | [], [], l, _, hl => by simp only [resL] at hl; cases hl; exact ⟨[], by simp, by simp [denL]⟩
  | vs, .w _ _ _ :: rs, l, h, hl => by
    have h' : okRes P vs rs = true := by cases vs <;> simpa [okRes] using h
    exact mapM_res hs vs rs l h' (by simpa only [resL] using hl)
  | vs, .f _ :: rs, l, h, hl => by
    have h' : okRes P vs rs = true := by cases vs <;> simpa [okRes] using h
    exact mapM_res hs vs rs l h' (by simpa only [resL] using hl)
  | [], .t _ :: _, l, h, _ => by simp [okRes] at h
  | [], .c _ _ :: _, l, h, _ => by simp [okRes] at h
  | _ :: _, [], l, h, _ => by simp [okRes] at h
  | .cell _ _ :: _, .t _ :: _, l, h, _ => by simp [okRes] at h
  | .tmp _ :: _, .c _ _ :: _, l, h, _ => by simp [okRes] at h
  | .tmp t :: vs, .t k :: rs, l, h, hl => by
    simp only [resL, consV] at hl
    split at hl
    · rename_i y hy
      split at hl
      · rename_i l' hl'
        cases hl
        simp only [okRes, Bool.and_eq_true, beq_iff_eq] at h
        obtain ⟨rfl, h⟩ := h
        simp only [resI] at hy
        cases hy
        obtain ⟨us, h4, h5⟩ := mapM_res hs vs rs l' h hl'
        have h1 : (resM a.tmps (.tmp t)).run P E.w = .ok (a.tmps.getD t undef) E.w := by simp only [resM, Sem.run_pure]
        refine ⟨a.tmps.getD t undef :: us, by simp only [List.mapM_cons, Sem.run_bind, Sem.run_pure, Result.andThen_ok, h1, h4], ?_⟩
        simp only [denL]
        exact ⟨_, us, rfl, hs.fr t, h5⟩
      · cases hl
    · cases hl
  | .cell t T :: vs, .c k n :: rs, l, h, hl => by
    simp only [resL, consV] at hl
    split at hl
    · rename_i y hy
      split at hl
      · rename_i l' hl'
        cases hl
        simp only [okRes, Bool.and_eq_true, beq_iff_eq] at h
        obtain ⟨⟨rfl, h1⟩, h⟩ := h
        obtain ⟨u, h2, h3⟩ := cell_res (P := P) hs (T := T) h1 hy
        obtain ⟨us, h4, h5⟩ := mapM_res hs vs rs l' h hl'
        refine ⟨u :: us, by simp only [List.mapM_cons, Sem.run_bind, Sem.run_pure, Result.andThen_ok, h2, h4], ?_⟩
        simp only [denL]
        exact ⟨u, us, rfl, h3, h5⟩
      · cases hl
    · cases hl

theorem results_run {P : Program} {S : Start} {s : SS} {E : En} {a : Act} (hs : Sat S s E a) {fn : Func} {rs : List RT} (h : okRes P fn.results.toList rs = true) {l : List SV} (hl : resL s rs = some l) : ∃ v, (results fn a.tmps).run P E.w = .ok v E.w ∧ den E (oneV l) v := by
  obtain ⟨us, h1, h2⟩ := mapM_res hs _ _ _ h hl
  have h3 : (results fn a.tmps).run P E.w = .ok (if h : us.toArray.size = 1 then us.toArray[0] else .tuple us.toArray) E.w := by
    unfold results
    rw [Array.mapM_eq_mapM_toList]
    simp only [Sem.run_bind, Sem.run_map, Sem.run_pure, Result.andThen_ok]
    have e : (fun x : ResultVar => (match x with
      | .tmp t => pure (a.tmps.getD t undef)
      | .cell b t => do loadVar t (← asAddr (a.tmps.getD b undef)) : Sem Value)) = resM a.tmps := by funext x; cases x <;> rfl
    erw [e, h1]
    rfl
  refine ⟨_, h3, ?_⟩
  match l, us, h2 with
  | [], [], _ => simp only [oneV, den]; exact ⟨_, rfl, by simp [denL]⟩
  | [], _ :: _, h2 => simp [denL] at h2
  | [x], us, h2 =>
    simp only [denL] at h2
    obtain ⟨v, r', rfl, h2, rfl⟩ := h2
    exact h2
  | x :: y :: r, us, h2 =>
    have h2' := h2
    simp only [denL] at h2'
    obtain ⟨v, r', rfl, _, v2, r2, rfl, _, _⟩ := h2'
    simp only [oneV, den]
    exact ⟨(v :: v2 :: r2).toArray, by simp, by simpa using h2⟩

section
variable {P : Program} {S : Start} {Γ : List (Nat × Contract)} {s : SS} {E : En} {a : Act}

theorem settleT_sat (hs : Sat S s E a) (t : Nat) : ∃ E', E'.w = E.w ∧ Sat S (settleT s t) E' a := by
  have hx := hs.fr t
  obtain ⟨E', e1, e2, e3, _⟩ := settle_sound hs hx
  refine ⟨E', e1, ?_⟩
  unfold settleT
  generalize settle s (lkF s.fr t) = R at e2 e3
  obtain ⟨x, s'⟩ := R
  refine e2.frame fun k => ?_
  rw [lkF_up]
  split
  · rename_i hk; subst hk; exact e3
  · exact e2.fr k

theorem settleTs_sat : ∀ (ts : List RT) (s : SS) (E : En), Sat S s E a → ∃ E', E'.w = E.w ∧ Sat S (settleTs ts s) E' a
  | [], s, E, hs => ⟨E, rfl, hs⟩
  | .c _ _ :: r, s, E, hs => settleTs_sat r s E hs
  | .w i r0 c :: r, s, E, hs => by
    obtain ⟨E', e1, e2⟩ := swpS_sat hs i (cellV (s.hp[r0]?) c none)
    obtain ⟨E2, e3, e4⟩ := settleTs_sat r _ E' e2
    exact ⟨E2, e3.trans e1, e4⟩
  | .f k :: r, s, E, hs => by
    obtain ⟨E', e1, e2⟩ := frzS_sat hs (lkF s.fr k)
    obtain ⟨E2, e3, e4⟩ := settleTs_sat r _ E' e2
    exact ⟨E2, e3.trans e1, e4⟩
  | .t t :: r, s, E, hs => by
    obtain ⟨E', e1, e2⟩ := settleT_sat hs t
    obtain ⟨E2, e3, e4⟩ := settleTs_sat r _ E' e2
    exact ⟨E2, e3.trans e1, e4⟩

theorem frArgs_den {args : List SV} {vs : List Value} (h : denL E args vs) : ∀ (n : Nat) (tmps : Array Value), (∀ j v, vs[j]? = some v → tmps.getD (n + j) undef = v) → ∀ k, den E (lkF (frArgs n args) k) (tmps.getD k undef) := by
  induction args generalizing vs with
  | nil => intro n tmps _ k; simp only [frArgs, lkF, den]
  | cons x r ih =>
    intro n tmps ht k
    simp only [denL] at h
    obtain ⟨v, r', rfl, h1, h2⟩ := h
    simp only [frArgs, lkF]
    cases hk : n == k with
    | true =>
      have : n = k := by simpa using hk
      subst this
      simp only [cond_true]
      have := ht 0 v (by simp)
      rw [Nat.add_zero] at this
      rw [this]; exact h1
    | false =>
      simp only [cond_false]
      refine ih h2 (n + 1) tmps (fun j u hj => ?_) k
      have := ht (j + 1) u (by simpa using hj)
      rw [← this]; congr 1; omega

theorem denL_length {E : En} : ∀ (l : List SV) (vs : List Value), denL E l vs → vs.length = l.length
  | [], vs, h => by simp only [denL] at h; subst h; rfl
  | x :: r, vs, h => by
    simp only [denL] at h
    obtain ⟨v, r', rfl, _, h2⟩ := h
    simp [denL_length r r' h2]

/-- A FUNCTION MEETS ITS CONTRACT. -/
theorem sound_of_rc {f : FuncId} {fn : Func} {c : Code} {ac : AS} {rs : List RT} {C : Contract} (hf : P.funcs[f]? = some fn) (hb : fn.body = some c) (hok : okS P fn.ntmps c ac = true) (hres : okRes P fn.results.toList rs = true) (hΓ : GOk P Γ)
    (h : ∀ args hp K, C args hp K → args.length ≤ fn.ntmps ∧ ∃ L, rc Γ L hp.length ac (fin hp.length rs K) ⟨frArgs 0 args, hp⟩) : Sound P f C := by
  intro args hp K hC E vs hhs hd
  obtain ⟨hlen, L, hrc⟩ := h args hp K hC
  have hl := denL_length _ _ hd
  refine calls_of_wp hf hb ?_
  let S : Start := ⟨hp, E, fn.ntmps⟩
  have hsat : Sat S ⟨frArgs 0 args, hp⟩ E { tmps := vs.toArray ++ Array.replicate (fn.ntmps - vs.toArray.size) undef, defers := [] } := by
    refine ⟨hhs, frArgs_den hd 0 _ (fun j v hj => ?_), Ev.refl _ _, Id.refl _ _, rfl, ?_⟩
    · have hj' := (List.getElem?_eq_some_iff.1 hj).1
      rw [Nat.zero_add, Array.getD_eq_getD_getElem?, Array.getElem?_append_left (by simpa using hj')]
      simp [hj]
    · simp only [Array.size_append, List.size_toArray, Array.size_replicate]
      show vs.length + (fn.ntmps - vs.length) = fn.ntmps
      omega
  refine wp_mono (rc_sound (S := S) hΓ ac c _ _ E _ hok hsat hrc) ?_
  have done : ∀ (s : SS) (E' : En) (a' : Act), Sat S s E' a' → finS hp.length rs (settleTs rs s) K → a'.defers = [] ∧ ∃ v, (results fn a'.tmps).run P E'.w = .ok v E'.w ∧
      ∃ r hp' E'' v', Ending.returned v = .returned v' ∧ E''.w = E'.w ∧ K r hp' ∧ HS hp' E'' ∧ den E'' r v' ∧ Ev hp E hp' E'' ∧ Id hp.length E.ρ hp' E''.ρ := by
    intro s E' a' hs hk
    obtain ⟨E2, e1, e2⟩ := settleTs_sat rs s E' hs
    unfold finS finO at hk
    split at hk
    · rename_i l hl
      obtain ⟨v, hrun, hr⟩ := results_run e2 hres hl
      rw [e1] at hrun
      refine ⟨hs.defers, v, hrun, ?_⟩
      unfold finR finI at hk
      obtain ⟨h1, h2, h3⟩ := idx_ok e2 (refsHp hp.length (settleTs rs s).hp ++ (oneV l).refs)
      obtain ⟨h4, h5⟩ := sel_sat e2 h1 h2 h3
      refine ⟨_, _, _, _, rfl, ?_, hk, h4.hs, den_ren h5 _ _ hr, h4.ev, h4.id⟩
      exact e1
    · cases hk
  intro e a' w' hq
  cases e with
  | normal => obtain ⟨s, E', rfl, hs, hk⟩ := hq; exact done s E' a' hs hk
  | ret => obtain ⟨s, E', rfl, hs, hk⟩ := hq; exact done s E' a' hs hk
  | exit id => obtain ⟨s, E', rfl, hs, hk⟩ := hq; exact hk.elim
  | goto l => exact hq.elim
  | panic ch => exact hq.elim
  | outgrown => exact hq.elim

/-- The layer's text of function f is the function. -/
def okF (P : Program) (f : FuncId) (ac : AS) (rs : List RT) (n : Nat) : Bool :=
  match P.funcs[f]? with
  | some fn => match fn.body with
    | some c => okS P fn.ntmps c ac && okRes P fn.results.toList rs && decide (n ≤ fn.ntmps) && decide (fn.name ≠ "runtime.NumGoroutine")
    | none => false
  | none => false

theorem callable_of_okF {f : FuncId} {ac : AS} {rs : List RT} {n : Nat} (h : okF P f ac rs n = true) : Callable P f := by
  unfold okF at h
  split at h
  · rename_i fn hf
    split at h
    · rename_i c hb
      simp only [Bool.and_eq_true, decide_eq_true_eq] at h
      exact ⟨fn, hf, by simp [hb], h.2⟩
    · cases h
  · cases h

/-- .. and the whole: n arguments at most. -/
theorem sound_of_okF {f : FuncId} {ac : AS} {rs : List RT} {n : Nat} {C : Contract} (hok : okF P f ac rs n = true) (hΓ : GOk P Γ)
    (h : ∀ args hp K, C args hp K → args.length ≤ n ∧ ∃ L, rc Γ L hp.length ac (fin hp.length rs K) ⟨frArgs 0 args, hp⟩) : Sound P f C := by
  unfold okF at hok
  split at hok
  · rename_i fn hf
    split at hok
    · rename_i c hb
      simp only [Bool.and_eq_true, decide_eq_true_eq] at hok
      exact sound_of_rc hf hb hok.1.1.1 hok.1.1.2 hΓ (fun args hp K hC => ⟨Nat.le_trans (h args hp K hC).1 hok.1.2, (h args hp K hC).2⟩)
    · cases hok
  · cases hok
end

end Go.V
