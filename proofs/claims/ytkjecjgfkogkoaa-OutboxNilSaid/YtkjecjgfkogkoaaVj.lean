/- Structs that are built, function values, slice expressions; and all quiet operations in one. -/
import Derived.Test.YtkjecjgfkogkoaaVi
namespace Go.V
set_option linter.unusedSimpArgs false
set_option linter.unnecessarySimpa false
set_option linter.unusedVariables false

theorem fill_fold (off : Nat) : ∀ (l : List Value) (k : Nat) (cells : Array Value), off + k + l.length ≤ cells.size →
    ((l.zipIdx k).foldl (fun (cs : Array Value) (x : Value × Nat) => cs.setIfInBounds (off + x.2) x.1) cells).toList = cells.toList.take (off + k) ++ (l ++ cells.toList.drop (off + k + l.length))
  | [], k, cells, h => by simp
  | v :: l, k, cells, h => by
    simp only [List.zipIdx_cons, List.foldl_cons]
    rw [fill_fold off l (k + 1) _ (by simp at h ⊢; omega)]
    have := list_seg_step cells.toList (off + k) v l (by simp at h ⊢; omega)
    simp only [Array.toList_setIfInBounds]
    simp only [List.append_assoc] at this
    rw [show off + (k + 1) = off + k + 1 by omega, this]
    simp [Nat.add_assoc]

section quiet
variable {P : Program} {o : Oper} {s : SS} {E : En} {a : Act} {q : QR}

theorem one_cell {x : SV} {v : Value} (hv : den E x v) (h : x.one = true) : v.oneCell' = true := by
  cases x <;> simp only [SV.one, Bool.false_eq_true] at h <;> simp only [den] at hv
  · rw [hv.1]; rfl
  · rw [hv]; rfl
  · rw [hv.1]; rfl
  · rcases hv with ⟨_, _, _, rfl, _⟩ | ⟨_, _, _, _, _, _, _, rfl, _⟩ <;> rfl
  · rw [hv]; rfl
  · rw [hv]; rfl
  · rw [hv]; rfl
  · rw [hv]; rfl
  · rw [hv]; rfl
  · obtain ⟨_, _, _, rfl⟩ := hv; rfl
  · exact hv.2.2
  · rcases hv.2.2 with ⟨_, _, _, _, rfl⟩ | ⟨b, o, l, c, _, _, ad, rfl, _⟩ <;> rfl
  · obtain ⟨_, _, _, rfl⟩ := hv; rfl
  · obtain ⟨_, _, _, _, _, _, rfl⟩ := hv; rfl
  · obtain ⟨_, _, _, _, _, _, _, rfl⟩ := hv; rfl
  · obtain ⟨_, _, _, rfl⟩ := hv; rfl
  · obtain ⟨_, rfl, _⟩ := hv; rfl
  · exact hv

theorem cells_one {v : Value} (h : v.oneCell' = true) : v.cells = #[v] := by cases v <;> simp [Value.oneCell'] at h <;> rfl

theorem one_noArr {x : SV} (h : x.one = true) : x.isArr = false := by cases x <;> simp [SV.one] at h <;> rfl

/-- Values that may lie in cells: each is one cell. -/
theorem denC_one {E : En} : ∀ (l : List SV) (cs : List Value), denC E l cs → (∀ x ∈ l, x.one = true ∨ x.isArr = true) → ∀ v ∈ cs, v.oneCell' = true := by
  have rdone : ∀ (w : World) (F : Nat → Prop) (t : Ty) (x : t.den) (c : List Value), rd w F t x c → ∀ v ∈ c, v.oneCell' = true := by
    intro w F t
    induction t with
    | pair a b iha ihb =>
      intro x c h v hv
      simp only [rd] at h
      obtain ⟨c1, c2, rfl, h1, h2⟩ := h
      rcases List.mem_append.1 hv with hv | hv
      · exact iha _ _ h1 v hv
      · exact ihb _ _ h2 v hv
    | int k => intro x c h v hv; simp only [rd] at h; rw [h.1] at hv; simp at hv; subst hv; rfl
    | byte => intro x c h v hv; simp only [rd] at h; rw [h] at hv; simp at hv; subst hv; rfl
    | bool => intro x c h v hv; simp only [rd] at h; rw [h] at hv; simp at hv; subst hv; rfl
    | str => intro x c h v hv; simp only [rd] at h; rw [h.1] at hv; simp at hv; subst hv; rfl
    | sl eb t _ =>
      intro x c h v hv
      simp only [rd] at h
      obtain ⟨v', rfl, h⟩ := h
      simp at hv; subst hv
      rcases h with ⟨_, _, _, rfl, _⟩ | ⟨_, _, _, _, _, _, _, rfl, _⟩ <;> rfl
    | unit => intro x c h v hv; simp only [rd] at h; subst h; cases hv
  intro l
  induction l with
  | nil => intro cs h _ v hv; simp only [denC] at h; subst h; cases hv
  | cons x r ih =>
    intro cs h hx v hv
    by_cases ha : x.isArr = true
    · cases x <;> simp only [SV.isArr, Bool.false_eq_true] at ha
      rename_i n t xs
      simp only [denC] at h
      obtain ⟨c1, c2, rfl, _, _, h4, h5⟩ := h
      rcases List.mem_append.1 hv with hv | hv
      · have : ∀ (xs : List t.den) (c : List Value), rdL (rd E.w E.Fz t) xs c → ∀ v ∈ c, v.oneCell' = true := by
          intro xs
          induction xs with
          | nil => intro c h v hv; simp only [rdL] at h; subst h; cases hv
          | cons y ys ih2 =>
            intro c h v hv
            obtain ⟨d1, d2, rfl, h1, h2⟩ := h
            rcases List.mem_append.1 hv with hv | hv
            · exact rdone _ _ _ _ _ h1 v hv
            · exact ih2 _ h2 v hv
        exact this xs c1 h4 v hv
      · exact ih c2 h5 (fun y hy => hx y (List.mem_cons_of_mem _ hy)) v hv
    · have ha' : x.isArr = false := by simpa using ha
      rw [denC_cons ha'] at h
      obtain ⟨v', c2, rfl, h2, h3⟩ := h
      rcases List.mem_cons.1 hv with rfl | hv
      · exact one_cell h2 ((hx x (by simp)).resolve_right ha)
      · exact ih c2 h3 (fun y hy => hx y (List.mem_cons_of_mem _ hy)) v hv

theorem flat_cells {x : SV} {v : Value} {l : List SV} (hv : den E x v) (h : flatS x = some l) : denC E l v.cells.toList := by
  by_cases ha : ∃ l', x = .agg l'
  · obtain ⟨l', rfl⟩ := ha
    simp only [flatS] at h
    cases h
    simp only [den] at hv
    obtain ⟨cs, rfl, hc⟩ := hv
    exact hc
  · have h' : x.one = true ∧ l = [x] := by
      cases x <;> simp only [flatS] at h <;> first | (split at h <;> first | (rename_i ho; cases h; exact ⟨ho, rfl⟩) | cases h) | exact absurd ⟨_, rfl⟩ ha
    obtain ⟨h1, rfl⟩ := h'
    rw [cells_one (one_cell hv h1), denC_cons (one_noArr h1)]
    exact ⟨v, [], rfl, hv, by simp only [denC]⟩

theorem fill_sound (hf : Fr E s.fr a) {pl : List (Nat × Nat)} : ∀ (parts : List (Nat × Operand)) (ps : List (Nat × Nat × Opd)) (l l' : List SV) (cells : Array Value), okParts pl parts ps = true → denC E l cells.toList → bldC s l ps = some l' →
    ∃ cs, Instr.fill (fun x => pl[x]?) cells (parts.map fun x => (x.1, a.eval x.2)) = some cs ∧ denC E l' cs.toList
  | [], [], l, l', cells, hok, hc, hb => by simp only [bldC] at hb; cases hb; exact ⟨cells, rfl, hc⟩
  | [], _ :: _, l, l', cells, hok, hc, hb => by simp [okParts] at hok
  | _ :: _, [], l, l', cells, hok, hc, hb => by simp [okParts] at hok
  | (f, x) :: r, (off, n, y) :: r', l, l', cells, hok, hc, hb => by
    simp only [okParts, Bool.and_eq_true, beq_iff_eq] at hok
    obtain ⟨⟨h1, h2⟩, h3⟩ := hok
    simp only [bldC] at hb
    split at hb
    · cases hb
    · rename_i new hnew
      split at hb
      · rename_i hw
        split at hb
        · rename_i l2 hs
          have hv := flat_cells (get_sound h2 hf) hnew
          obtain ⟨h4, h5⟩ := denC_spl hc hv hs
          have hlen : (a.eval x).cells.size = n := by rw [← hw, ← denC_width _ _ hv]; simp
          have hfit : off + (a.eval x).cells.size ≤ cells.size := by simpa using h5
          have hfold : ((a.eval x).cells.zipIdx.foldl (fun (cs : Array Value) (x : Value × Nat) => cs.setIfInBounds (off + x.2) x.1) cells).toList = cells.toList.take off ++ ((a.eval x).cells.toList ++ cells.toList.drop (off + (a.eval x).cells.toList.length)) := by
            have := fill_fold off (a.eval x).cells.toList 0 cells (by simpa using hfit)
            rw [← Array.foldl_toList, Array.toList_zipIdx]
            simpa using this
          obtain ⟨cs, h6, h7⟩ := fill_sound hf r r' l2 l' _ h3 (by rw [hfold]; exact h4) hb
          refine ⟨cs, ?_, h7⟩
          simp only [List.map_cons, Instr.fill, h1]
          rw [if_neg (by simp only [ne_eq, Bool.or_eq_true, decide_eq_true_eq, not_or, Decidable.not_not]; exact ⟨hlen, by simpa using hfit⟩)]
          exact h6
        · cases hb
      · cases hb

theorem q_bld {zs : List SV} {ps : List (Nat × Nat × Opd)} (hok : okQ P o.op (.bld zs ps) = true) (hf : Fr E s.fr a) (he : ev (.bld zs ps) s = some q) : Comes1 P o a E q := by
  cases ho : o.op <;> simp only [okQ, ho] at hok <;> first | cases hok | skip
  rename_i T parts
  simp only [Bool.and_eq_true] at hok
  obtain ⟨h1, h2⟩ := hok
  split at h1
  · rename_i pl hpl
    split at h2
    · rename_i z hz
      simp only [ev] at he
      cases hb : bldC s zs ps with
      | none => rw [hb] at he; cases he
      | some l =>
        rw [hb] at he
        cases he
        obtain ⟨cs, h3, h4⟩ := fill_sound (a := a) hf _ _ _ _ z.cells h1 (cstC_sound _ _ h2) hb
        refine ⟨trivial, .agg cs, ?_, by simp only [den]; exact ⟨cs, rfl, h4⟩⟩
        have hbuilt : P.built T (parts.map fun (x : Nat × Operand) => (x.1, a.eval x.2)).toList = some cs := by
          unfold Program.built
          unfold zeroOf at hz
          unfold placesOf at hpl
          cases hi : P.info? T with
          | none => rw [hi] at hz; cases hz
          | some it =>
            rw [hi] at hz
            simp only [Option.bind_some] at hz
            split at hpl
            · rename_i fs hu
              simp only [hu, hz, hpl]
              simpa using h3
            · cases hpl
        have hrun : (Instr.build T (parts.map fun (i, x) => (i, a.eval x))).run P E.w = .ok (.agg cs) E.w := run_build E.w T _ cs hbuilt
        simp only [execOp, ho, Sem.run_bind, hrun, Result.andThen_ok]
        rfl
    · cases h2
  · cases h1

theorem q_mkf {f : Nat} {caps : List Opd} (hok : okQ P o.op (.mkf f caps) = true) (hf : Fr E s.fr a) (he : ev (.mkf f caps) s = some q) : Comes1 P o a E q := by
  simp only [okQ] at hok
  split at hok
  · rename_i g first cs ho
    simp only [Bool.and_eq_true, beq_iff_eq] at hok
    obtain ⟨⟨rfl, h1⟩, h2⟩ := hok
    have h1' : first = #[] := by simpa using h1
    subst h1'
    simp only [ev] at he
    cases he
    refine ⟨trivial, .func (.func g) #[] (cs.map a.eval), by simp [execOp, ho, Instr.makeFunc], ?_⟩
    simp only [den]
    exact ⟨_, rfl, by simpa using okOpds_sound hf _ _ h2⟩
  · cases hok

theorem bound_sound (hf : Fr E s.fr a) {d : Int} {l : Option Operand} {lo : Option Opd} {n : Int} (hok : okOpdO l lo = true) (hb : bound s d lo = some n) :
    (lo = none ∧ l = none ∧ n = d) ∨ ∃ x k, l = some x ∧ a.eval x = .int k n := by
  cases lo with
  | none => cases l <;> simp [okOpdO] at hok; simp only [bound] at hb; cases hb; exact .inl ⟨rfl, rfl, rfl⟩
  | some y =>
    cases l with
    | none => simp [okOpdO] at hok
    | some x =>
      simp only [okOpdO] at hok
      simp only [bound] at hb
      split at hb
      · rename_i k m hy
        cases hb
        have g := get_sound hok hf
        rw [hy] at g
        simp only [den] at g
        exact .inr ⟨x, k, rfl, g.1⟩
      · cases hb

/-- The bounds that a slice expression computes. -/
theorem bounds_run {P : Program} {w : World} {isS : Bool} {n cp : Nat} {l h : Option Operand} {l0 h0 : Int} (hl : (l = none ∧ l0 = 0) ∨ ∃ x k, l = some x ∧ a.eval x = .int k l0) (hh : (h = none ∧ h0 = n) ∨ ∃ x k, h = some x ∧ a.eval x = .int k h0)
    (h1 : 0 ≤ l0) (h2 : l0 ≤ h0) (h3 : h0 ≤ n) (h4 : n ≤ cp) :
    (Instr.sliceBounds isS n cp (l.map a.eval) (h.map a.eval) none).run P w = .ok (l0.toNat, h0.toNat, cp) w := by
  have e1 : h0 ≤ (cp : Int) := by omega
  have e2 : 0 ≤ h0 := by omega
  rcases hl with ⟨rfl, rfl⟩ | ⟨x, k, rfl, hx⟩ <;> rcases hh with ⟨rfl, rfl⟩ | ⟨x', k', rfl, hx'⟩
  · simp [Instr.sliceBounds]
  · simp [Instr.sliceBounds, Instr.sliceBound, hx', asIntOf, e1, e2]
  · have : l0 ≤ (n : Int) := by omega
    simp [Instr.sliceBounds, Instr.sliceBound, hx, asIntOf, h1, this]
  · have : l0 ≤ (h0.toNat : Int) := by omega
    simp [Instr.sliceBounds, Instr.sliceBound, hx, hx', asIntOf, e1, e2, h1]
    intro hc; omega

theorem q_slS {y : Opd} {lo hi : Option Opd} (hok : okQ P o.op (.slS y lo hi) = true) (hf : Fr E s.fr a) (he : ev (.slS y lo hi) s = some q) (hn : q.need) : Comes1 P o a E q := by
  cases ho : o.op <;> simp only [okQ, ho] at hok <;> first | cases hok | skip
  rename_i T x l h m
  simp only [Bool.and_eq_true] at hok
  obtain ⟨⟨⟨⟨h1, h2⟩, h3⟩, h4⟩, h5⟩ := hok
  have hm : m = none := by simpa using h4
  subst hm
  have hu := okKind_i h5
  have g := get_sound h1 hf
  simp only [ev] at he
  split at he
  · rename_i b hy
    rw [hy] at g
    simp only [den] at g
    split at he
    · rename_i l0 h0 hl hh
      cases he
      simp only at hn
      have b1 := (bound_sound hf h2 hl).imp (fun h => And.intro h.2.1 h.2.2) id
      have b2 := (bound_sound hf h3 hh).imp (fun h => And.intro h.2.1 h.2.2) id
      have hr := bounds_run (P := P) (w := E.w) (isS := false) (cp := b.size) b1 b2 hn.1 hn.2.1 hn.2.2 (Nat.le_refl _)
      refine ⟨trivial, .string (b.extract l0.toNat h0.toNat), ?_, ?_⟩
      · simp [execOp, ho, g.1, Instr.sliceAt, Instr.slice, run_underlying hu, hr]
      · simp only [den]
        refine ⟨trivial, ?_⟩
        have : (b.extract l0.toNat h0.toNat).size ≤ b.size := by simp [ByteArray.size_extract]; omega
        exact Nat.le_trans this g.2
    · cases he
  · cases he

theorem slice_run {T e sz : Nat} (hu : P.underlying T = some (.slice e)) (hs : szOf P e = some sz) {x : Operand} {l h : Option Operand} {A : Option Addr} {n cp : Nat} {l0 h0 : Int} (hx : a.eval x = .slice A n cp)
    (hl : (l = none ∧ l0 = 0) ∨ ∃ x k, l = some x ∧ a.eval x = .int k l0) (hh : (h = none ∧ h0 = n) ∨ ∃ x k, h = some x ∧ a.eval x = .int k h0) (h1 : 0 ≤ l0) (h2 : l0 ≤ h0) (h3 : h0 ≤ n) (h4 : n ≤ cp) (ho : o.op = .slice T x l h none) {w : World} :
    (execOp a.eval o).run P w = .ok (.value (.slice (if cp = l0.toNat then A else A.map (·.add (l0.toNat * sz))) (h0.toNat - l0.toNat) (cp - l0.toNat))) w := by
  have hr := bounds_run (P := P) (w := w) (isS := true) (cp := cp) hl hh h1 h2 h3 h4
  simp [execOp, ho, hx, Instr.sliceAt, Instr.slice, run_underlying hu, hr, szOf_run hs]

theorem slr_cap {α : Type} {w : World} {F : Nat → Prop} {R : α → List Value → Prop} {eb sz : Nat} {xs : List α} {A : Option Addr} {n c : Nat} (h : slv w F R eb sz xs (.slice A n c)) : n = xs.length ∧ n ≤ c := by
  rcases h with ⟨rfl, A', c', he, _⟩ | ⟨b, off, cap, cur, T, fr, cs, he, _, _, h1, _⟩
  · injection he with _ e2 e3; subst e2; simp
  · injection he with _ e2 e3; subst e2; subst e3; exact ⟨rfl, h1⟩

theorem q_slR (h : HS s.hp E) {sz : Nat} {y : Opd} {lo hi : Option Opd} (hok : okQ P o.op (.slR sz y lo hi) = true) (hf : Fr E s.fr a) (he : ev (.slR sz y lo hi) s = some q) (hn : q.need) : Comes1 P o a E q := by
  cases ho : o.op <;> simp only [okQ, ho] at hok <;> first | cases hok | skip
  rename_i T x l hh m
  simp only [Bool.and_eq_true] at hok
  obtain ⟨⟨⟨⟨h1, h2⟩, h3⟩, h4⟩, h5⟩ := hok
  have hm : m = none := by simpa using h4
  subst hm
  have g := get_sound h1 hf
  split at h5
  · rename_i e hu
    have hsz := beq_iff_eq.1 h5
    simp only [ev] at he
    split at he
    · rename_i hy
      rw [hy] at g
      simp only [den] at g
      split at he
      · rename_i l0 h0 hl hhi
        cases he
        simp only at hn
        obtain ⟨rfl, rfl⟩ := hn
        have b1 := (bound_sound hf h2 hl).imp (fun h => And.intro h.2.1 h.2.2) id
        have b2 := (bound_sound hf h3 hhi).imp (fun h => And.intro h.2.1 h.2.2) id
        refine ⟨trivial, .slice none 0 0, ?_, by simp only [den]⟩
        have := slice_run (o := o) (w := E.w) hu hsz g b1 (h0 := 0) (by simpa using b2) (by omega) (by omega) (by omega) (by omega) ho
        simpa using this
      · cases he
    · rename_i p eb t xs hy
      rw [hy] at g
      split at he
      · rename_i hszt
        split at he
        · rename_i l0 h0 hl hhi
          cases he
          simp only at hn
          simp only [den] at g
          have b1 := (bound_sound hf h2 hl).imp (fun h => And.intro h.2.1 h.2.2) id
          have b2 := (bound_sound hf h3 hhi).imp (fun h => And.intro h.2.1 h.2.2) id
          obtain ⟨A, c, hv⟩ : ∃ A c, a.eval x = .slice A xs.length c := by
            rcases g with ⟨hx, A, c, hv, _⟩ | ⟨b, off, cap, cur, T, fr, cs, hv, _⟩
            · exact ⟨A, c, by rw [hv, hx]; rfl⟩
            · exact ⟨_, _, hv⟩
          have hcap : xs.length ≤ c := by have := slr_cap (hv ▸ g); exact this.2
          refine ⟨trivial, _, slice_run (o := o) (w := E.w) hu hsz hv b1 b2 hn.1 hn.2.1 hn.2.2 hcap ho, ?_⟩
          simp only [den]
          rcases g with ⟨hx, A', c', hv', hc', ha'⟩ | ⟨b, off, cap, cur, T, fr, cs, hv', hr⟩
          · have : h0.toNat - l0.toNat = 0 := by have := hn.2.2; rw [hx] at this; simp at this; omega
            refine .inl ⟨by rw [hx]; simp, _, _, by rw [this], ?_, ?_⟩
            · rw [hv] at hv'; injection hv' with _ _ e3; omega
            · intro hnone
              rw [hv] at hv'; injection hv' with e1 _ e3
              split at hnone
              · subst e3; omega
              · rw [e1] at hnone
                cases A' with
                | none => have := ha' rfl; omega
                | some _ => cases hnone
          · rw [hv] at hv'
            injection hv' with e1 _ e3
            subst e3
            rw [e1]
            have hl' : l0.toNat ≤ h0.toNat := by omega
            have hh' : h0.toNat ≤ xs.length := by omega
            have hadd : (⟨b, off, none⟩ : Addr).add (l0.toNat * sz) = ⟨b, off + l0.toNat * sz, none⟩ := by unfold Addr.add; split <;> simp_all
            have e2 : (if c = l0.toNat then some (⟨b, off, none⟩ : Addr) else (some (⟨b, off, none⟩ : Addr)).map (·.add (l0.toNat * sz))) = some (if c = l0.toNat then ⟨b, off, none⟩ else ⟨b, off + l0.toNat * sz, none⟩) := by
              simp only [Option.map_some, hadd]; split <;> rfl
            rw [e2]
            exact slr_part (rd_length t) (F := E.F p) (eb := eb) (b := b) (o := off) (l := xs.length) (c := c) (lo := l0.toNat) (hi := h0.toNat) (.inr ⟨b, off, c, cur, T, fr, cs, rfl, hr⟩) hl' hh' (fun hne => by rw [if_neg hne, hszt])
        · cases he
      · cases he
    · rename_i j hy
      rw [hy] at g
      split at he
      · rename_i mv eb t xs hj
        split at he
        · rename_i l0 h0 hl hhi
          split at he
          · rename_i hszt
            cases he
            simp only at hn
            simp only [den] at g
            have b1 := (bound_sound hf h2 hl).imp (fun h => And.intro h.2.1 h.2.2) id
            have b2 := (bound_sound hf h3 hhi).imp (fun h => And.intro h.2.1 h.2.2) id
            obtain ⟨hlt, hv, _⟩ := g
            rcases h.ok j _ hj with ⟨⟨ad, hval⟩, _, hx⟩ | ⟨b, off, cap, cur, T', fr, cs, hval, hb, hh', hz, hle, hr⟩
            · rw [hval] at hv
              have hx0 : xs.length = 0 := by rw [hx]; rfl
              have e0 : l0 = 0 ∧ h0 = 0 := by omega
              refine ⟨trivial, _, slice_run (o := o) (w := E.w) (n := 0) (cp := 0) hu hsz hv b1 (by rw [hx0] at b2; exact b2) hn.1 hn.2.1 (by omega) (Nat.le_refl _) ho, ?_⟩
              simp only [den]
              obtain ⟨rfl, rfl⟩ := e0
              exact ⟨hlt, by simp, .inl ⟨rfl, rfl, ad, hval, by simp⟩⟩
            · rw [hval] at hv
              refine ⟨trivial, _, slice_run (o := o) (w := E.w) hu hsz hv b1 b2 hn.1 hn.2.1 hn.2.2 hle ho, ?_⟩
              simp only [den]
              have hadd : (⟨b, off, none⟩ : Addr).add (l0.toNat * sz) = ⟨b, off + l0.toNat * sz, none⟩ := by unfold Addr.add; split <;> simp_all
              have e2 : (if cap = l0.toNat then some (⟨b, off, none⟩ : Addr) else (some (⟨b, off, none⟩ : Addr)).map (·.add (l0.toNat * sz))) = some (if cap = l0.toNat then ⟨b, off, none⟩ else ⟨b, off + l0.toNat * sz, none⟩) := by
                simp only [Option.map_some, hadd]; split <;> rfl
              exact ⟨hlt, by omega, .inr ⟨b, off, xs.length, cap, hval, by omega, _, by rw [e2], fun hne => by rw [if_neg hne]⟩⟩
          · cases he
        · cases he
      · cases he
    · rename_i j a' b' sz' hy
      rw [hy] at g
      split at he
      · rename_i mv eb t xs hj
        split at he
        · rename_i l0 h0 hl hhi
          split at he
          · rename_i hszt
            cases he
            simp only at hn
            simp only [den] at g
            have b1 := (bound_sound hf h2 hl).imp (fun h => And.intro h.2.1 h.2.2) id
            have b2 := (bound_sound hf h3 hhi).imp (fun h => And.intro h.2.1 h.2.2) id
            obtain ⟨hlt, hle, g⟩ := g
            rcases g with ⟨rfl, rfl, ad, hval, hv⟩ | ⟨b, off, n, c, hval, hbn, ad, hv, had⟩
            · have e0 : l0 = 0 ∧ h0 = 0 := by simp at hn; omega
              refine ⟨trivial, _, slice_run (o := o) (w := E.w) (n := 0) (cp := 0) hu hsz hv b1 (by simpa using b2) hn.1 hn.2.1 (by simpa using hn.2.2) (Nat.le_refl _) ho, ?_⟩
              simp only [den]
              obtain ⟨rfl, rfl⟩ := e0
              exact ⟨hlt, by simp, .inl ⟨rfl, rfl, ad, hval, by simp⟩⟩
            · have hcap : n ≤ c := by
                rcases h.ok j _ hj with ⟨⟨ad', hval'⟩, _, _⟩ | ⟨b2', off', cap, cur, T', fr, cs, hval', _, _, _, hle', _⟩
                · rw [hval] at hval'; injection hval' with _ e2 e3; omega
                · rw [hval] at hval'; injection hval' with _ e2 e3; omega
              refine ⟨trivial, _, slice_run (o := o) (w := E.w) hu hsz hv b1 b2 hn.1 hn.2.1 hn.2.2 (by omega) ho, ?_⟩
              simp only [den]
              refine ⟨hlt, by omega, .inr ⟨b, off, n, c, hval, by omega, if c - a' = l0.toNat then ad else ad.add (l0.toNat * sz), ?_, ?_⟩⟩
              · have e1 : a' + h0.toNat - (a' + l0.toNat) = h0.toNat - l0.toNat := by omega
                have e2 : c - (a' + l0.toNat) = c - a' - l0.toNat := by omega
                rw [e1, e2]
                congr 1
                split <;> rfl
              · intro hne
                have hne' : ¬ (c - a' = l0.toNat) := by omega
                rw [if_neg hne', had (by omega)]
                have hadd : (⟨b, off + a' * sz', none⟩ : Addr).add (l0.toNat * sz) = ⟨b, off + a' * sz' + l0.toNat * sz, none⟩ := by unfold Addr.add; split <;> simp_all
                rw [hadd, hszt.1, Nat.add_mul, Nat.add_assoc]
          · cases he
        · cases he
      · cases he
    · cases he
  · cases h5

theorem ev_sound {ao : AOp} (hok : okQ P o.op ao = true) (h : HS s.hp E) (hf : Fr E s.fr a) (he : ev ao s = some q) (hn : q.need) : Comes1 P o a E q := by
  cases ao with
  | mv _ => exact q_mv hok hf he
  | pick _ _ _ => exact q_pick hok hf he
  | nck _ => exact q_nck hok hf he
  | fld _ _ _ => exact q_fld hok hf he
  | fa _ _ => exact q_fa hok hf he
  | ia _ _ _ => exact q_ia h hok hf he hn
  | iaA _ _ _ _ => exact q_iaA hok hf he hn
  | ixS _ _ => exact q_ixS hok hf he hn
  | ld _ => exact q_ld h hok hf he hn
  | ldA _ _ => exact q_ldA h hok hf he hn
  | bin _ _ _ => exact q_bin hok hf he hn
  | binB _ _ _ => exact q_binB hok hf he
  | eqn _ _ _ _ => exact q_eqn hok hf he
  | not _ => exact q_not hok hf he
  | neg _ => exact q_neg hok hf he
  | cv _ _ => exact q_cv hok hf he
  | cvS _ => exact q_cvS hok hf he
  | b2s _ => exact q_b2s h hok hf he
  | ext _ _ => exact q_ext hok hf he
  | len _ _ => exact q_len h hok hf he
  | mm _ _ _ => exact q_mm hok hf he
  | lk _ _ _ _ _ _ => exact q_lk h hok hf he
  | bld _ _ => exact q_bld hok hf he
  | mkf _ _ => exact q_mkf hok hf he
  | slS _ _ _ => exact q_slS hok hf he hn
  | slR _ _ _ _ => exact q_slR h hok hf he hn
  | _ => simp only [okQ] at hok; cases hok

end quiet
end Go.V
