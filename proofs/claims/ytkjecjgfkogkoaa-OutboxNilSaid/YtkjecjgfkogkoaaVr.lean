/- Stores and appends, from the state's side. -/
import Derived.Test.YtkjecjgfkogkoaaVqb
namespace Go.V
set_option linter.unusedSimpArgs false
set_option linter.unnecessarySimpa false
set_option linter.unusedVariables false

section effects
variable {P : Program} {o : Oper} {S : Start} {s : SS} {E : En} {a : Act} {K : SV → SS → Prop} {next : Act → World → Prop} {Q : Exit → Act → World → Prop} {Γ : List (Nat × Contract)}

theorem ones_spec {l : Option (List SV)} (h : ones l = true) : ∃ l', l = some l' ∧ onesL l' = true := by
  cases l with
  | none => simp [ones] at h
  | some l => exact ⟨l, rfl, h⟩

theorem e_st {n : Nat} {y z : Opd} (hok : okE P o.op (.st n y z) = true) (hdst : o.dst = none) (hs : Sat S s E a) (h : eff Γ (.st n y z) s K) (hg : Goes S a o K next) : o.wp P a E.w next Q := by
  cases ho : o.op <;> simp only [okE, ho] at hok <;> first | cases hok | skip
  rename_i T x v
  simp only [Bool.and_eq_true, beq_iff_eq] at hok
  obtain ⟨⟨h1, h2⟩, h3⟩ := hok
  have g1 := get_sound h1 hs.fr
  have g2 := get_sound h2 hs.fr
  have hrun : ∀ (w w' : World), (Instr.storeAt T (a.eval x) (a.eval v)).run P w = .ok () w' → (execOp a.eval o).run P w = .ok .skip w' := by
    intro w w' hw
    simp [execOp, ho, hw]
  simp only [eff, stores] at h
  generalize s.get y = X at h g1
  split at h
  · rename_i he
    split at h
    · rename_i l hl
      obtain ⟨h4, h⟩ := h
      obtain ⟨E', e1, e2, e3, e4, e5⟩ := frzAll_sound (SV.rowsL l) s l E _ hs (flat_cells g2 hl)
      rw [← e1]
      refine st1_sound h3 e2 ?_ ⟨e3, denC_one _ _ e3 (onesL_spec h4)⟩ hg h (hrun _) hdst
      cases X <;> simp [isEl] at he
      simp only [den] at g1 ⊢
      rw [e4, e5]; exact g1
    · cases h
  · obtain ⟨h4, h⟩ := h
    obtain ⟨l, hl, h4⟩ := ones_spec h4
    rw [hl] at h
    obtain ⟨E', e1, e2, e3, e4, _, e5⟩ := settle_sound hs g2
    rw [← e1]
    have hnew : NewC E' l (a.eval v) := flat_one e3 hl (onesL_spec h4)
    have go : ∀ X', den E' X' (a.eval x) → st1 n (settle s (s.get z)).2 X' (some l) K → o.wp P a E'.w next Q := fun X' h6 h7 => st1_sound h3 e2 h6 hnew hg h7 (hrun _) hdst
    have hblk : ∀ (i : Nat) cells, (settle s (s.get z)).2.hp[i]? = some (.struct cells) → E'.ρ i = E.ρ i := fun i cells hi => e5 i (by rw [hi]; intro mv eb t xs h; cases h)
    have h' := h
    simp only [st1] at h
    split at h
    · split at h
      · rename_i i off _
        split at h
        · rename_i cells hi
          refine go _ ?_ h'
          simp only [den] at g1 ⊢
          rw [e4, hblk i cells hi]; exact g1
        · cases h
      · rename_i hx
        simp [isEl] at hx
      · rename_i i off m sz _
        split at h
        · rename_i cells hi
          refine go _ ?_ h'
          simp only [den] at g1 ⊢
          rw [e4, hblk i cells hi]; exact g1
        · cases h
      · cases h
    · cases h

/-- Resource i is another row now, wherever it lies. -/
theorem Sat.mov (hs : Sat S s E a) {i : Nat} {mv : Bool} {eb eb' : Nat} {t t' : Ty} {xs : List t.den} {xs' : List t'.den} (hi : s.hp[i]? = some (.row mv eb t xs)) {w' : World} {rv' : RV} (hc : Chg E.w w' (fun b => (E.ρ i).blk = some b))
    (hn : ∀ b, rv'.blk = some b → ((E.ρ i).blk = some b ∨ E.w.heap.size ≤ b) ∧ b < w'.heap.size)
    (ho : SBok { E with ρ := upR E.ρ i rv', w := w' } rv' (.row true eb' t' xs')) : Sat S (movS s i (.row true eb' t' xs')) { E with ρ := upR E.ρ i rv', w := w' } a := by
  have hlt : i < s.hp.length := (List.getElem?_eq_some_iff.1 hi).1
  have hb := hs.hs.upd (sb' := .row true eb' t' xs') (f := but i) (rv' := rv') hi rfl (.inl rfl) hc hn ho rfl
  have he := Ev.upd (sb' := .row true eb' t' xs') (f := but i) (rv' := rv') hi rfl hc (fun b hb => (hn b hb).1)
  exact ⟨hb.1, hs.fr.ren hb.2, hs.ev.trans he, hs.id.set (fun _ _ => trivial) hlt, hs.defers, hs.size⟩

theorem rd_one {w : World} {F : Nat → Prop} : ∀ (t : Ty) (x : t.den) (cs : List Value), rd w F t x cs → ∀ v ∈ cs, v.oneCell' = true
  | .int _, _, cs, h, v, hv => by simp only [rd] at h; obtain ⟨rfl, _⟩ := h; simp at hv; subst hv; rfl
  | .byte, _, cs, h, v, hv => by simp only [rd] at h; subst h; simp at hv; subst hv; rfl
  | .bool, _, cs, h, v, hv => by simp only [rd] at h; subst h; simp at hv; subst hv; rfl
  | .str, _, cs, h, v, hv => by simp only [rd] at h; obtain ⟨rfl, _⟩ := h; simp at hv; subst hv; rfl
  | .sl _ _, _, cs, h, v, hv => by simp only [rd] at h; obtain ⟨u, rfl, h⟩ := h; simp at hv; subst hv; exact slv_one h
  | .pair a b, x, cs, h, v, hv => by
    simp only [rd] at h
    obtain ⟨c1, c2, rfl, h1, h2⟩ := h
    rcases List.mem_append.1 hv with hv | hv
    · exact rd_one a _ _ h1 v hv
    · exact rd_one b _ _ h2 v hv
  | .unit, _, cs, h, v, hv => by simp only [rd] at h; subst h; cases hv

theorem rdL_one {w : World} {F : Nat → Prop} {t : Ty} : ∀ (xs : List t.den) (cs : List Value), rdL (rd w F t) xs cs → ∀ v ∈ cs, v.oneCell' = true
  | [], cs, h, v, hv => by simp only [rdL] at h; subst h; cases hv
  | x :: xs, cs, h, v, hv => by
    obtain ⟨c1, c2, rfl, h1, h2⟩ := h
    rcases List.mem_append.1 hv with hv | hv
    · exact rd_one t _ _ h1 v hv
    · exact rdL_one xs _ h2 v hv

/-- What is laid behind a list: so many elements, these cells. -/
structure SrcOk (P : Program) (w : World) (v : Value) (n sz : Nat) (news : List Value) : Prop where
  len : ∀ w', (Builtin.lenOf v).run P w' = .ok n w'
  cells : ∀ w', w'.heap = w.heap → (Builtin.firstCells sz n v).run P w' = .ok news.toArray w'

theorem src_slice {P : Program} {w : World} {F : Nat → Prop} {eb : Nat} {t : Ty} {xs : List t.den} {v : Value} (h : slv w F (rd w F t) eb t.size xs v) : ∃ news, SrcOk P w v xs.length t.size news ∧ rdL (rd w F t) xs news := by
  rcases h with ⟨rfl, A, c, rfl, _, _⟩ | ⟨b, off, cap, cur, T, fr, cs, rfl, h2, h3, h4, h5, h6, h7, h8⟩
  · refine ⟨[], ⟨fun w' => by simp [Builtin.lenOf], fun w' _ => ?_⟩, rfl⟩
    cases A with
    | none => simp [Builtin.firstCells]
    | some A => have := run_loadCells_list (P := P) w' A [] (by simp); simpa [Builtin.firstCells] using this
  · refine ⟨cs, ⟨fun w' => by simp [Builtin.lenOf], fun w' hw => ?_⟩, h8⟩
    obtain ⟨r, h9, _⟩ := take_append_of (a := cs) (b := []) (by rw [h7]; simp)
    have h10 := loadCells_run (P := P) (w := w') (by rw [hw]; exact h3) h9
    rw [rdL_length (rd_length t) xs cs h8] at h10
    simpa [Builtin.firstCells] using h10

theorem src_str {P : Program} {w : World} {F : Nat → Prop} {s : ByteArray} : SrcOk P w (.string s) s.size 1 (s.data.toList.map fun b => .int .u8 (b.toNat : Int)) ∧ rdL (rd w F .byte) (s.data.toList : List UInt8) (s.data.toList.map fun b => .int .u8 (b.toNat : Int)) := by
  refine ⟨⟨fun w' => by simp [Builtin.lenOf], fun w' _ => ?_⟩, ?_⟩
  · simp only [Builtin.firstCells]
    have e : (s.extract 0 s.size) = s := by simp
    rw [e]
    simp only [Sem.run_pure, Result.ok.injEq, and_true]
    apply Array.ext'; simp
  · generalize s.data.toList = l
    induction l with
    | nil => rfl
    | cons b l ih => exact ⟨[.int .u8 (b.toNat : Int)], _, rfl, by simp only [rd], ih⟩

theorem srcOf_sound {P : Program} {hp : List SB} {E : En} (h : HS hp E) {x : SV} {v : Value} (hx : den E x v) {t : Ty} {ys : List t.den} (hs : srcOf hp t x = some ys) : ∃ news, SrcOk P E.w v ys.length t.size news ∧ rdL (rd E.w E.Fz t) ys news := by
  have go : ∀ (C : Cont) (hC : cont hp x = some C) (ht : C.t = t), (C.p || t.flat) = true → castT ht C.xs = ys → ∃ news, SrcOk P E.w v ys.length t.size news ∧ rdL (rd E.w E.Fz t) ys news := by
    rintro ⟨p, eb, t', xs⟩ hC ht hp' hys
    simp only at ht hp' hys
    subst ht
    simp only [castT_self] at hys
    subst hys
    have h1 := cont_sound h hx hC
    simp only at h1
    have h2 : ∀ (x : t'.den) c, rd E.w (E.F p) t' x c → rd E.w E.Fz t' x c := by
      intro x c hx
      rcases Bool.or_eq_true _ _ ▸ hp' with rfl | hf
      · exact rd_mono (fun b hb => hb.elim id (fun h => by cases h.1)) (fun _ _ => rfl) _ x c hx
      · exact rd_flat _ hf x c hx
    have h3 := slv_mono (F' := fun _ => True) (R' := rd E.w (fun _ => True) t') (fun _ _ => trivial) (fun _ _ => rfl) (fun x c hx => rd_mono (fun _ _ => trivial) (fun _ _ => rfl) _ x c hx) h1
    -- the cells are read twice: as they lie, and as they stay
    rcases h1 with ⟨rfl, A, c, rfl, h4, h5⟩ | ⟨b, off, cap, cur, T, fr, cs, rfl, h4, h5, h6, h7, h8, h9, h10⟩
    · obtain ⟨news, h6, h7⟩ := src_slice (P := P) h3
      exact ⟨news, h6, by simp only [rdL] at h7 ⊢; exact h7⟩
    · have h11 : slv E.w (fun _ => True) (rd E.w E.Fz t') eb t'.size xs (.slice (some ⟨b, off, none⟩) xs.length cap) := .inr ⟨b, off, cap, cur, T, fr, cs, rfl, trivial, h5, h6, h7, h8, h9, rdL_mono h2 _ _ h10⟩
      refine ⟨cs, ⟨fun w' => by simp [Builtin.lenOf], fun w' hw => ?_⟩, rdL_mono h2 _ _ h10⟩
      obtain ⟨r, h12, _⟩ := take_append_of (a := cs) (b := []) (by rw [h9]; simp)
      have h13 := loadCells_run (P := P) (w := w') (by rw [hw]; exact h5) h12
      rw [rdL_length (rd_length t') xs cs h10] at h13
      simpa [Builtin.firstCells] using h13
  unfold srcOf at hs
  split at hs
  · cases hs
    simp only [den] at hx
    subst hx
    exact ⟨[], ⟨fun w' => by simp [Builtin.lenOf], fun w' _ => by simp [Builtin.firstCells]⟩, rfl⟩
  · split at hs
    · rename_i b ht
      cases hs
      subst ht
      simp only [den] at hx
      obtain ⟨rfl, _⟩ := hx
      have := src_str (P := P) (w := E.w) (F := E.Fz) (s := b)
      simp only [castT_self]
      exact ⟨_, by simpa [Ty.size] using this.1, this.2⟩
    · cases hs
  · split at hs
    · rename_i C hC
      split at hs
      · rename_i ht
        split at hs
        · rename_i hp'
          cases hs
          exact go C hC ht hp' rfl
        · cases hs
      · cases hs
    · cases hs

end effects
end Go.V
