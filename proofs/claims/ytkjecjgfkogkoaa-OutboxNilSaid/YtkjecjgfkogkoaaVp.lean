/- .. one by one. -/
import Derived.Test.YtkjecjgfkogkoaaVo
namespace Go.V
set_option linter.unusedSimpArgs false
set_option linter.unnecessarySimpa false
set_option linter.unusedVariables false

section effects
variable {P : Program} {o : Oper} {S : Start} {s : SS} {E : En} {a : Act} {K : SV → SS → Prop} {next : Act → World → Prop} {Q : Exit → Act → World → Prop} {Γ : List (Nat × Contract)}

theorem Id.push {n0 : Nat} {ρ0 : Nat → RV} {hp : List SB} {ρ : Nat → RV} (h : Id n0 ρ0 hp ρ) {b' : SB} {rv' : RV} {N : Nat} (hN : N = hp.length) : Id n0 ρ0 (hp ++ [b']) (upR ρ N rv') := by
  refine ⟨by have := h.le; simp; omega, fun j sb hj hs => ?_⟩
  have hj' : j < hp.length := Nat.lt_of_lt_of_le hj h.le
  rw [List.getElem?_append_left hj'] at hs
  rw [upd_other _ _ (by omega)]
  exact h.id j sb hj hs

theorem Id.ren' {n0 : Nat} {ρ0 : Nat → RV} {hp : List SB} {ρ : Nat → RV} (h : Id n0 ρ0 hp ρ) {i : Nat} {b' : SB} {rv' : RV} (hb : ∀ rv0, idok (hp.getD i .gone) rv0 (ρ i) → idok b' rv0 rv') (hi : i < hp.length) :
    Id n0 ρ0 (hp.set i b') (upR ρ i rv') := by
  have := h.set (f := some) hb hi
  rwa [map_ren_some] at this

/-- A NEW RESOURCE, in the state. -/
theorem Sat.push (hs : Sat S s E a) {b' : SB} {w' : World} {rv' : RV} (hc : Chg E.w w' (fun _ => False)) (hn : ∀ b, rv'.blk = some b → E.w.heap.size ≤ b ∧ b < w'.heap.size)
    (ho : SBok { E with N := E.N + 1, ρ := upR E.ρ E.N rv', w := w' } rv' b') : Sat S (pushS s b') { E with N := E.N + 1, ρ := upR E.ρ E.N rv', w := w' } a := by
  obtain ⟨h1, h2⟩ := hs.hs.push hc hn ho
  have hf := hs.fr.ren h2
  rw [frRen_some] at hf
  exact ⟨h1, hf, hs.ev.trans (Ev.push hs.hs hc fun b hb => (hn b hb).1), hs.id.push hs.hs.n, hs.defers, hs.size⟩

theorem Ren.push (hs : Sat S s E a) {w' : World} {rv' : RV} (hc : Chg E.w w' (fun _ => False)) : Ren E { E with N := E.N + 1, ρ := upR E.ρ E.N rv', w := w' } some := by
  refine ⟨fun a b ha hab => ?_, fun _ hb => hb, fun _ hb => .inl hb, fun b hb => hc.keep b (hs.hs.old b hb) (fun x => x)⟩
  cases hab
  exact ⟨Nat.lt_succ_of_lt ha, upd_other _ _ (by omega)⟩

theorem den_push (hs : Sat S s E a) {w' : World} {rv' : RV} (hc : Chg E.w w' (fun _ => False)) {x : SV} {v : Value} (hx : den E x v) : den { E with N := E.N + 1, ρ := upR E.ρ E.N rv', w := w' } x v := by
  have := den_ren (Ren.push (rv' := rv') hs hc) x v hx
  rwa [SV.ren_some] at this

theorem denC_push (hs : Sat S s E a) {w' : World} {rv' : RV} (hc : Chg E.w w' (fun _ => False)) {l : List SV} {cs : List Value} (hx : denC E l cs) : denC { E with N := E.N + 1, ρ := upR E.ρ E.N rv', w := w' } l cs := by
  have := denC_ren (Ren.push (rv' := rv') hs hc) l cs hx
  rwa [SV.renL_some] at this

/-- A new struct. -/
theorem newStruct (hs : Sat S s E a) {l : List SV} {cs : Array Value} {T : TypeId} (hl : denC E l cs.toList) (hk : K (.ptr s.hp.length 0) (pushS s (.struct l))) (hg : Goes S a o K next)
    (hr : (execOp a.eval o).run P E.w = .ok (.value (.pointer (some ⟨E.w.heap.size, 0, none⟩))) (E.w.alloc (.cells cs T))) : o.wp P a E.w next Q := by
  have hc := Chg.alloc E.w (.cells cs T)
  have hs' := hs.push (b' := .struct l) (rv' := ⟨some E.w.heap.size, undef⟩) hc (fun b hb => by cases hb; simp) ⟨E.w.heap.size, cs, T, (0, 0), rfl, heap_alloc_new E.w _, .inl rfl, denC_push hs hc hl⟩
  refine goes_value hg hk ?_ hs' hr
  simp only [den]
  refine ⟨by show s.hp.length < E.N + 1; have := hs.hs.n; omega, E.w.heap.size, ?_, rfl⟩
  show (upR E.ρ E.N _ s.hp.length).blk = _
  rw [← hs.hs.n, upd_same]

theorem e_alc {zs : List SV} (hok : okE P o.op (.alc zs) = true) (hs : Sat S s E a) (h : eff Γ (.alc zs) s K) (hg : Goes S a o K next) : o.wp P a E.w next Q := by
  cases ho : o.op <;> simp only [okE, ho] at hok <;> first | cases hok | skip
  rename_i T
  split at hok
  · rename_i z hz
    refine newStruct (T := T) hs (cstC_sound (E := E) zs _ hok) h hg ?_
    have hzr : (zeroValue T).run P E.w = .ok z E.w := by
      unfold zeroOf at hz
      cases hi : P.info? T with
      | none => rw [hi] at hz; cases hz
      | some i => rw [hi] at hz; simp at hz; simp [zeroValue, typeInfo, hi, hz]
    simp [execOp, ho, Instr.alloc, hzr, newVar, newRow]
  · cases hok

theorem e_box {y : Opd} (hok : okE P o.op (.box y) = true) (hs : Sat S s E a) (h : eff Γ (.box y) s K) (hg : Goes S a o K next) : o.wp P a E.w next Q := by
  cases ho : o.op <;> simp only [okE, ho] at hok <;> first | cases hok | skip
  rename_i T x
  have g := get_sound hok hs.fr
  simp only [eff] at h
  split at h
  · rename_i l hl
    refine newStruct (T := T) hs (flat_cells g hl) h hg ?_
    simp [execOp, ho, Instr.box, newVar, newRow]
  · cases h

theorem e_mkm {va : Bool} {kt vt : Ty} (hok : okE P o.op (.mkm va kt vt) = true) (hs : Sat S s E a) (h : eff Γ (.mkm va kt vt) s K) (hg : Goes S a o K next) : o.wp P a E.w next Q := by
  cases ho : o.op <;> simp only [okE, ho] at hok <;> first | cases hok | skip
  rename_i T r
  have hr0 : r = none := by simpa using hok
  subst hr0
  have hc := Chg.alloc E.w (.map #[] 0)
  have hs' := hs.push (rv' := ⟨some E.w.heap.size, undef⟩) (b' := .map va kt vt []) hc (fun b hb => by cases hb; simp)
    ⟨E.w.heap.size, #[], 0, rfl, heap_alloc_new E.w _, ⟨by simp [rdM], by simp, by simp, by simp, by simp⟩⟩
  refine goes_value hg h (v := .map (some E.w.heap.size)) ?_ hs' ?_
  · simp only [den]
    refine ⟨by show s.hp.length < E.N + 1; have := hs.hs.n; omega, E.w.heap.size, ?_, rfl⟩
    show (upR E.ρ E.N _ s.hp.length).blk = _
    rw [← hs.hs.n, upd_same]
  · simp [execOp, ho, Instr.makeMap]

theorem parts_sound (hf : Fr E s.fr a) {sz n : Nat} : ∀ (k : Nat) (parts : List (Nat × Operand)) (ys : List (Nat × Opd)) (l : List SV), okPartsS n k parts ys = true → partsC s sz ys = some l →
    ∃ vs : List Value, (parts.map fun x => (x.1, a.eval x.2)) = (vs.zipIdx k).map (fun x => (x.2, x.1)) ∧ k + vs.length = n ∧ (∀ v ∈ vs, v.cells.size = sz) ∧ denC E l (vs.flatMap fun v => v.cells.toList)
  | k, [], [], l, h, hl => by
    simp only [okPartsS, beq_iff_eq] at h
    simp only [partsC] at hl
    cases hl
    exact ⟨[], by simp, by simpa using h, by simp, by simp [denC]⟩
  | k, [], _ :: _, l, h, hl => by simp [okPartsS] at h
  | k, _ :: _, [], l, h, hl => by simp [okPartsS] at h
  | k, (i, x) :: r, (j, y) :: r', l, h, hl => by
    simp only [okPartsS, Bool.and_eq_true, beq_iff_eq] at h
    obtain ⟨⟨rfl, h1⟩, h2⟩ := h
    simp only [partsC] at hl
    split at hl
    · rename_i l1 hl1
      split at hl
      · rename_i hw
        split at hl
        · rename_i l2 hl2
          cases hl
          obtain ⟨vs, e1, e2, e3, e4⟩ := parts_sound hf (i + 1) r r' l2 h2 hl2
          have g := flat_cells (get_sound h1 hf) hl1
          refine ⟨a.eval x :: vs, by simp [e1], by simp; omega, fun v hv => ?_, ?_⟩
          · rcases List.mem_cons.1 hv with rfl | hv
            · have := denC_width _ _ g
              rw [← hw, ← this]; simp
            · exact e3 v hv
          · rw [List.flatMap_cons]
            exact denC_append _ _ _ _ g e4
        · cases hl
      · cases hl
    · cases hl

theorem e_bsl {eb n : Nat} {t : Ty} {ys : List (Nat × Opd)} (hok : okE P o.op (.bsl eb t n ys) = true) (hs : Sat S s E a) (h : eff Γ (.bsl eb t n ys) s K) (hg : Goes S a o K next) : o.wp P a E.w next Q := by
  cases ho : o.op <;> simp only [okE, ho] at hok <;> first | cases hok | skip
  rename_i T m parts
  simp only [Bool.and_eq_true, beq_iff_eq, decide_eq_true_eq, bne_iff_ne, ne_eq] at hok
  obtain ⟨⟨⟨⟨⟨rfl, h1⟩, h2⟩, h3⟩, h4⟩, h5⟩ := hok
  split at h5
  · rename_i e hT
    simp only [Bool.and_eq_true, beq_iff_eq] at h5
    obtain ⟨hsz, hz⟩ := h5
    split at hz
    · rename_i z hz0
      have hzs : z.cells.size = t.size := by simpa using hz
      simp only [eff, bsl1] at h
      split at h
      · rename_i l hl
        obtain ⟨vs, e1, e2, e3, e4⟩ := parts_sound hs.fr 0 parts.toList ys l h1 hl
        obtain ⟨E', f1, f2, f3, f4, f5⟩ := frzAll_sound (SV.rowsL l) s l E _ hs e4
        unfold bsl2 at h
        split at h
        · rename_i xs hxs
          obtain ⟨g1, g2⟩ := ofSvL_sound t m _ xs _ hxs f3
          rw [Nat.zero_add] at e2
          have hzr : ∀ w, (zeroValue e).run P w = .ok z w := by
            intro w
            unfold zeroOf at hz0
            cases hi : P.info? e with
            | none => rw [hi] at hz0; cases hz0
            | some i => rw [hi] at hz0; simp at hz0; simp [zeroValue, typeInfo, hi, hz0]
          have hrow : ∀ (cells : Array Value), cells.size = m * t.size → ∃ cells', Instr.fill (fun i => some (i * t.size, t.size)) cells (parts.toList.map fun x => (x.1, a.eval x.2)) = some cells' ∧ cells'.toList = vs.flatMap fun v => v.cells.toList := by
            intro cells hcs
            obtain ⟨cells', k1, k2, k3⟩ := fill_seq t.size vs 0 cells e3 (by rw [hcs, Nat.zero_add, e2]; exact Nat.le_refl _)
            refine ⟨cells', by rw [e1]; exact k1, ?_⟩
            rw [k3, Nat.zero_mul, Nat.zero_add, e2, List.drop_of_length_le (by simp [hcs])]
            simp
          have hm24 : ¬ (16777216 < m * t.size) := by omega
          have hmle : m ≤ 16777216 := Nat.le_trans (Nat.le_mul_of_pos_right _ (Nat.pos_of_ne_zero h4)) h2
          have hparts : (parts.map fun (i, x) => (i, a.eval x)).toList = parts.toList.map fun x => (x.1, a.eval x.2) := by simp
          have hrun : ∃ cells' : Array Value, (execOp a.eval o).run P E.w = .ok (.value (.slice (some ⟨E.w.heap.size, 0, none⟩) m m)) (E.w.alloc (.cells cells' e)) ∧ cells'.toList = vs.flatMap fun v => v.cells.toList := by
            by_cases hm0 : m * t.size = 0
            · obtain ⟨cells', k1, k2⟩ := hrow ((Array.range (m * t.size)).map ((#[] : Array Value)[· % (#[] : Array Value).size]!)) (by simp)
              refine ⟨cells', ?_, k2⟩
              simp [execOp, ho, Instr.buildSlice, run_underlying hT, szOf_run hsz, hm24, hm0, newRow]
              simp [hm0] at k1
              simp [k1]
            · obtain ⟨cells', k1, k2⟩ := hrow ((Array.range (m * t.size)).map (z.cells[· % z.cells.size]!)) (by simp)
              refine ⟨cells', ?_, k2⟩
              simp [execOp, ho, Instr.buildSlice, run_underlying hT, szOf_run hsz, hm24, hm0, hzr, newRow]
              simp [k1]
          obtain ⟨cells', hr, hcl⟩ := hrun
          rw [← f1] at hr ⊢
          have hc := Chg.alloc E'.w (.cells cells' e)
          have hlen : cells'.size = m * t.size := by
            have := rdL_length (rd_length t) xs _ g2
            rw [← hcl, g1] at this
            simpa using this
          have hmono := rdL_mono (fun x c hx => rd_mono (F' := E'.Fz) (w' := E'.w.alloc (.cells cells' e)) (fun _ h => h) (fun b hb => hc.keep b (f2.hs.old b (.inl hb)) (fun h => h)) t x c hx) _ _ g2
          rw [← hcl] at hmono
          by_cases hm : m = 0
          · have hx0 : xs = [] := List.length_eq_zero_iff.1 (g1.trans hm)
            have hs' := f2.push (b' := .row true eb t xs) (rv' := ⟨none, .slice (some ⟨E'.w.heap.size, 0, none⟩) m m⟩) hc (fun b hb => (by cases hb)) (.inl ⟨⟨some ⟨E'.w.heap.size, 0, none⟩, by rw [hm]⟩, rfl, hx0⟩)
            refine goes_value hg h ?_ hs' hr
            simp only [den]
            refine ⟨by show _ < E'.N + 1; have := f2.hs.n; omega, ?_, rfl⟩
            show _ = (upR E'.ρ E'.N _ _).val
            rw [← f2.hs.n, upd_same]
          · have hs' := f2.push (b' := .row true eb t xs) (rv' := ⟨some E'.w.heap.size, .slice (some ⟨E'.w.heap.size, 0, none⟩) m m⟩) hc (fun b hb => by cases hb; simp)
              (.inr ⟨E'.w.heap.size, 0, m, cells', e, (0, 0), cells'.toList, by rw [g1], rfl, heap_alloc_new E'.w _, .inl rfl, by rw [g1]; exact Nat.le_refl _, by simp only [maxLen]; omega, by rw [hlen]; omega, by rw [g1]; exact h3, by rw [g1, List.drop_zero, List.take_of_length_le (by rw [Array.length_toList, hlen]; exact Nat.le_refl _)], hmono⟩)
            refine goes_value hg h ?_ hs' hr
            simp only [den]
            refine ⟨by show _ < E'.N + 1; have := f2.hs.n; omega, ?_, rfl⟩
            show _ = (upR E'.ρ E'.N _ _).val
            rw [← f2.hs.n, upd_same]
        · cases h
      · cases h
    · cases hz
  · cases h5

theorem map_arr {α β : Type} (f : α → β) (xs : Array α) : (xs.toList.map f).toArray = xs.map f := by
  apply Array.ext'; simp

theorem e_call (hΓ : GOk P Γ) {f : Nat} {ms : List (Option (Nat × Ty))} {ys : List Opd} (hok : okE P o.op (.call f ms ys) = true) (hs : Sat S s E a) (h : eff Γ (.call f ms ys) s K) (hg : Goes S a o K next) : o.wp P a E.w next Q := by
  simp only [okE] at hok
  split at hok
  · rename_i g args ts ho
    simp only [Bool.and_eq_true, beq_iff_eq] at hok
    obtain ⟨rfl, h1⟩ := hok
    simp only [eff] at h
    split at h
    · rename_i C hC
      obtain ⟨hsound, fn, hfn, hbody, hname⟩ := hΓ f C hC
      have hd := okOpds_sound hs.fr _ _ h1
      have hcall := call_sound hsound hs hd h
      have hrun : (execOp a.eval o).run P E.w = .ok (.enter f (args.toList.map a.eval).toArray) E.w := by
        obtain ⟨body, hb⟩ := Option.isSome_iff_exists.1 hbody
        rw [map_arr]
        simp [execOp, ho, resolve, Act.eval, Deferred.ofValue, invoke, callFunc, hfn, hname, hb]
      unfold Oper.wp Oper.upon
      rw [hrun]
      refine hcall.mono ?_
      rintro e w' ⟨r, s', E', v, rfl, rfl, hk, hr, hs'⟩
      exact hg r s' E' v hk hr hs'
    · cases h
  · cases hok

theorem e_callv (hΓ : GOk P Γ) {y : Opd} {ms : List (Option (Nat × Ty))} {ys : List Opd} (hok : okE P o.op (.callv y ms ys) = true) (hs : Sat S s E a) (h : eff Γ (.callv y ms ys) s K) (hg : Goes S a o K next) : o.wp P a E.w next Q := by
  have app : ∀ (l1 l2 : List SV) (v1 v2 : List Value), denL E l1 v1 → denL E l2 v2 → denL E (l1 ++ l2) (v1 ++ v2) := by
    intro l1
    induction l1 with
    | nil => intro l2 v1 v2 h1 h2; simp only [denL] at h1; subst h1; exact h2
    | cons x r ih =>
      intro l2 v1 v2 h1 h2
      simp only [denL, List.cons_append] at h1 ⊢
      obtain ⟨v, r', rfl, h3, h4⟩ := h1
      exact ⟨v, r' ++ v2, rfl, h3, ih _ _ _ h4 h2⟩
  simp only [okE] at hok
  split at hok
  · rename_i x args ts ho
    simp only [Bool.and_eq_true] at hok
    obtain ⟨h0, h1⟩ := hok
    have g := get_sound h0 hs.fr
    simp only [eff] at h
    split at h
    · rename_i f caps hy
      rw [hy] at g
      simp only [den] at g
      obtain ⟨cs, hv, hcs⟩ := g
      split at h
      · rename_i C hC
        obtain ⟨hsound, fn, hfn, hbody, hname⟩ := hΓ f C hC
        have hd := app _ _ _ _ (okOpds_sound hs.fr _ _ h1) hcs
        have hcall := call_sound hsound hs hd h
        have harr : (args.toList.map a.eval ++ cs.toList).toArray = args.map a.eval ++ cs := by apply Array.ext'; simp
        have hrun : (execOp a.eval o).run P E.w = .ok (.enter f (args.toList.map a.eval ++ cs.toList).toArray) E.w := by
          rw [harr]
          obtain ⟨body, hb⟩ := Option.isSome_iff_exists.1 hbody
          simp [execOp, ho, resolve, hv, Deferred.ofValue, invoke, callFunc, hfn, hname, hb]
        unfold Oper.wp Oper.upon
        rw [hrun]
        refine hcall.mono ?_
        rintro e w' ⟨r, s', E', v, rfl, rfl, hk, hr, hs'⟩
        exact hg r s' E' v hk hr hs'
      · cases h
    · cases h
  · cases hok

end effects
end Go.V
