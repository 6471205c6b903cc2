/- Stores and appends. -/
import Derived.Test.YtkjecjgfkogkoaaVpb
namespace Go.V
set_option linter.unusedSimpArgs false
set_option linter.unnecessarySimpa false
set_option linter.unusedVariables false

theorem splice_row {α : Type} (M V : List α) (p off n sz N : Nat) (hV : V.length = n) (h1 : off + n ≤ sz) (h2 : p + sz ≤ N) (h3 : N ≤ M.length) :
    (M.take (p + off) ++ (V ++ M.drop (p + off + n))).take N =
      (M.take N).take p ++ (((M.drop p).take sz).take off ++ (V ++ ((M.drop p).take sz).drop (off + n))) ++ (M.take N).drop (p + sz) := by
  apply List.ext_getElem?
  intro j
  simp only [List.getElem?_take, List.getElem?_append, List.getElem?_drop, List.length_take, List.length_append, List.length_drop, hV]
  grind

theorem splice_arr {α : Type} (M V A B C : List α) (p n : Nat) (hV : V.length = n) (hM : M = A ++ (B ++ C)) (h2 : p + n ≤ B.length) :
    M.take (A.length + p) ++ (V ++ M.drop (A.length + p + n)) = A ++ ((B.take p ++ V ++ B.drop (p + n)) ++ C) := by
  subst hM
  apply List.ext_getElem?
  intro j
  simp only [List.getElem?_take, List.getElem?_append, List.getElem?_drop, List.length_take, List.length_append, List.length_drop, hV]
  grind

section effects
variable {P : Program} {o : Oper} {S : Start} {s : SS} {E : En} {a : Act} {K : SV → SS → Prop} {next : Act → World → Prop} {Q : Exit → Act → World → Prop} {Γ : List (Nat × Contract)}

theorem upR_self (ρ : Nat → RV) (i : Nat) : upR ρ i (ρ i) = ρ := by funext j; unfold upR; split <;> simp_all

/-- Resource i's block alone is written. -/
theorem ren_same (hs : HS s.hp E) {i : Nat} {sb : SB} (hi : s.hp[i]? = some sb) (hl : sb.live = true) {w' : World} (hc : Chg E.w w' (fun b => (E.ρ i).blk = some b)) : Ren E { E with w := w' } some := by
  refine ⟨fun a b ha hab => by cases hab; exact ⟨ha, rfl⟩, fun _ hb => hb, fun _ hb => .inl hb, fun b hb => hc.keep b (hs.old b hb) (fun hx => ?_)⟩
  have := hs.own b ⟨i, sb, hi, hl, hx⟩
  rcases hb with hb | hb
  · exact this.2.1 hb
  · exact this.2.2 hb

theorem Sat.setSame (hs : Sat S s E a) {i : Nat} {sb sb' : SB} (hi : s.hp[i]? = some sb) (hl : sb.live = true) {w' : World} (hc : Chg E.w w' (fun b => (E.ρ i).blk = some b)) (ho : SBok { E with w := w' } (E.ρ i) sb') (hl' : sb'.live = true)
    (hid : ∀ rv0, idok sb rv0 (E.ρ i) → idok sb' rv0 (E.ρ i)) : Sat S (setS s i sb') { E with w := w' } a := by
  have hlt : i < s.hp.length := (List.getElem?_eq_some_iff.1 hi).1
  have hown : ∀ b, (E.ρ i).blk = some b → ((E.ρ i).blk = some b ∨ E.w.heap.size ≤ b) ∧ b < w'.heap.size := fun b hb => ⟨.inl hb, Nat.lt_of_lt_of_le (hs.hs.own b ⟨i, sb, hi, hl, hb⟩).1 hc.size⟩
  have hb := hs.hs.upd (sb' := sb') (f := some) (rv' := E.ρ i) hi hl (.inr ⟨rfl, rfl⟩) hc hown (by rw [upR_self]; exact ho) hl'
  rw [upR_self, map_ren_some] at hb
  have he := Ev.upd (sb' := sb') (f := some) (rv' := E.ρ i) hi hl hc (fun b hb => (hown b hb).1)
  rw [upR_self, map_ren_some] at he
  have hf := hs.fr.ren hb.2
  rw [frRen_some] at hf
  have hid' := hs.id.ren' (b' := sb') (rv' := E.ρ i) (fun rv0 h => hid rv0 (by rw [List.getD_eq_getElem?_getD, hi] at h; exact h)) hlt
  rw [upR_self] at hid'
  exact ⟨hb.1, hf, hs.ev.trans he, hid', hs.defers, hs.size⟩

theorem den_w {i : Nat} {sb : SB} (hs : HS s.hp E) (hi : s.hp[i]? = some sb) (hl : sb.live = true) {w' : World} (hc : Chg E.w w' (fun b => (E.ρ i).blk = some b)) {l : List SV} {cs : List Value} (h : denC E l cs) : denC { E with w := w' } l cs := by
  have := denC_ren (ren_same hs hi hl hc) l cs h
  rwa [SV.renL_some] at this

/-- What is stored: cells, each of one value. -/
structure NewC (E : En) (new : List SV) (v : Value) : Prop where
  den : denC E new v.cells.toList
  one : ∀ x ∈ v.cells.toList, x.oneCell' = true

theorem flat_one {x : SV} {v : Value} {l : List SV} (hv : den E x v) (h : flatS x = some l) (hl : ∀ y ∈ l, y.one = true ∨ y.isArr = true) : NewC E l v :=
  ⟨flat_cells hv h, denC_one l _ (flat_cells hv h) hl⟩

theorem st1_sound {T n : Nat} (hn : szOf P T = some n) (hs : Sat S s E a) {x : SV} {va vv : Value} (hx : den E x va) {new : List SV} (hnew : NewC E new vv) (hg : Goes S a o K next) (h : st1 n s x (some new) K)
    (hrun : ∀ w', (Instr.storeAt T va vv).run P E.w = .ok () w' → (execOp a.eval o).run P E.w = .ok .skip w') (hdst : o.dst = none) : o.wp P a E.w next Q := by
  have done : ∀ {s' : SS} {E' : En}, K .junk s' → Sat S s' E' a → (Instr.storeAt T va vv).run P E.w = .ok () E'.w → o.wp P a E.w next Q := by
    intro s' E' hk hs' hr
    unfold Oper.wp Oper.upon
    rw [hrun _ hr]
    exact hg .junk s' E' undef hk (by simp only [den]) hs'
  simp only [st1] at h
  split at h
  · rename_i hw
    have hlen := denC_width new _ hnew.den
    have hvs : vv.cells.size = n := by rw [← hw, ← hlen]; simp
    split at h
    · -- a struct
      rename_i i off
      simp only [den] at hx
      obtain ⟨_, b, hb, rfl⟩ := hx
      split at h
      · rename_i cells hi
        split at h
        · rename_i cells' hsp
          obtain ⟨b', cur, T', fr, h1, h2, h3, h4⟩ := hs.hs.ok i _ hi
          rw [hb] at h1; cases h1
          obtain ⟨h5, h6⟩ := denC_spl h4 hnew.den hsp
          have hr := storeAt_run (P := P) hn hvs h2 h3 (by rw [Array.length_toList, hvs] at h6; simpa using h6) hnew.one (o := off)
          have hc : Chg E.w (E.w.setRow b (cur.toList.take off ++ (vv.cells.toList ++ cur.toList.drop (off + n))).toArray) (fun c => (E.ρ i).blk = some c) :=
            (Chg.setRow _ _ _).mono (fun c hcb => by subst hcb; exact hb)
          refine done h (hs.setSame hi rfl hc ?_ rfl (fun _ hid => hid)) hr
          refine ⟨b, _, T', fr, hb, setRow_heap _ _ _ _ _ _ h2, ?_, ?_⟩
          · have : (cur.toList.take off ++ (vv.cells.toList ++ cur.toList.drop (off + n))).toArray.size = cur.size := by
              simp [hvs] at h6 ⊢; omega
            rw [this]; exact h3
          · rw [Array.length_toList, hvs] at h5
            exact den_w hs.hs hi rfl hc h5
        · cases h
      · cases h
    · -- an element of a row
      rename_i i m sz off
      simp only [den] at hx
      obtain ⟨_, b, o', l', c, hval, rfl⟩ := hx
      split at h
      · rename_i mv eb t xs hi
        split at h
        · rename_i hsz
          split at h
          · rename_i l hsp
            split at h
            · rename_i y hof
              obtain ⟨hm, h⟩ := h
              have h := h hm
              rcases hs.hs.ok i _ hi with ⟨_, _, hx0⟩ | ⟨b', off', cap, cur, T', fr, cs, h1, h2, h3, h4, h5, h6, h7, h8, h9, h10⟩
              · rw [hx0] at hm; simp at hm
              · rw [hval] at h1
                injection h1 with e1 e2 e3
                injection e1 with e1
                injection e1 with e1 e4
                subst e1; subst e4; subst e3
                have hxm : xs[m]? = some (xs.getD m t.dflt) := by rw [List.getD_eq_getElem?_getD, List.getElem?_eq_getElem hm]; rfl
                obtain ⟨c0, r0, h11, h12⟩ := elem_at (rd_length t) h9 h10 hxm
                have h13 := denC_sv (E := E) true t _ _ (rd_mono (fun b hb => .inl hb) (fun _ _ => rfl) t _ c0 h11)
                obtain ⟨h14, h15⟩ := denC_spl h13 hnew.den hsp
                obtain ⟨d1, d2, h16, h17, h18⟩ := ofSv_sound t _ _ _ _ hof h14
                simp only [denC] at h18
                subst h18
                rw [List.append_nil] at h16
                have hc0 : c0.length = t.size := rd_length t _ _ h11
                have hlc := rdL_length (rd_length t) xs cs h10
                have hfit : (cur.toList.drop o').length ≥ xs.length * t.size := by
                  have := congrArg List.length h9
                  simp at this ⊢
                  omega
                have hcl : vv.cells.toList.length = n := by rw [Array.length_toList]; exact hvs
                have hbnd : o' + (m * sz + off) + n ≤ cur.size := by
                  rw [hcl] at h15
                  have h20 : m * t.size + t.size ≤ xs.length * t.size := by rw [← Nat.succ_mul]; exact Nat.mul_le_mul_right _ hm
                  simp at hfit
                  rw [hsz]
                  omega
                have hr := storeAt_run (P := P) hn hvs h3 h4 hbnd hnew.one
                have hc : Chg E.w (E.w.setRow b (cur.toList.take (o' + (m * sz + off)) ++ (vv.cells.toList ++ cur.toList.drop (o' + (m * sz + off) + n))).toArray) (fun c => (E.ρ i).blk = some c) :=
                  (Chg.setRow _ _ _).mono (fun c hcb => by subst hcb; exact h2)
                refine done h (hs.setSame hi rfl hc ?_ rfl (fun rv0 hid => by cases mv <;> exact hid)) hr
                have hsame := ren_same hs.hs hi rfl hc
                -- the row's cells, as they lie now
                have hcs := rdL_set (rd_length t) m xs cs y d1 h10 hm h17
                refine .inr ⟨b, o', c, _, T', fr, _, by rw [hval, e2, List.length_set], h2, setRow_heap _ _ _ _ _ _ h3, ?_, by simpa using h5, h6, ?_, by simpa using h8, rfl, ?_⟩
                · have : (cur.toList.take (o' + (m * sz + off)) ++ (vv.cells.toList ++ cur.toList.drop (o' + (m * sz + off) + n))).toArray.size = cur.size := by
                    simp [hvs]; omega
                  rw [this]; exact h4
                · have : (cur.toList.take (o' + (m * sz + off)) ++ (vv.cells.toList ++ cur.toList.drop (o' + (m * sz + off) + n))).toArray.size = cur.size := by
                    simp [hvs]; omega
                  rw [this]; exact h7
                · have key : ((cur.toList.take (o' + (m * sz + off)) ++ (vv.cells.toList ++ cur.toList.drop (o' + (m * sz + off) + n))).drop o').take ((xs.set m y).length * t.size) = cs.take (m * t.size) ++ d1 ++ cs.drop (m * t.size + d1.length) := by
                    have hd1 : d1.length = t.size := rd_length t _ _ h17
                    have hc0' : c0 = ((cur.toList.drop o').drop (m * t.size)).take t.size := by
                      rw [List.drop_drop, h12, ← hc0]; simp
                    have hsp2 := splice_row (cur.toList.drop o') vv.cells.toList (m * t.size) off n t.size (xs.length * t.size) hcl (by omega) (by rw [← Nat.succ_mul]; exact Nat.mul_le_mul_right _ hm) hfit
                    rw [← hc0', hcl.symm, h16, h9] at hsp2
                    rw [List.length_set, hd1, ← hsp2, hcl, hsz]
                    congr 1
                    rw [List.drop_append, List.drop_take, List.length_take]
                    have e5 : min (o' + (m * t.size + off)) cur.toList.length = o' + (m * t.size + off) := Nat.min_eq_left (by rw [← hsz]; simp; omega)
                    rw [e5, show o' - (o' + (m * t.size + off)) = 0 by omega, show o' + (m * t.size + off) - o' = m * t.size + off by omega, List.drop_zero, List.drop_drop, show o' + (m * t.size + off + n) = o' + (m * t.size + off) + n by omega]
                  show rdL _ _ (((cur.toList.take (o' + (m * sz + off)) ++ (vv.cells.toList ++ cur.toList.drop (o' + (m * sz + off) + n))).drop o').take ((xs.set m y).length * t.size))
                  rw [key]
                  exact rdL_mono (fun x c hx => rd_mono hsame.fz (fun b hb => hsame.mem b (.inl hb)) t x c hx) _ _ hcs
            · cases h
          · cases h
        · cases h
      · cases h
    · -- an element of an array in a struct
      rename_i i off m sz
      simp only [den] at hx
      obtain ⟨_, b, hb, rfl⟩ := hx
      split at h
      · rename_i cells hi
        split at h
        · rename_i pre hpre
          split at h
          · rename_i k t xs rest hdrop
            split at h
            · rename_i hsz
              split at h
              · rename_i y hof
                obtain ⟨hm, h⟩ := h
                have h := h hm
                obtain ⟨b', cur, T', fr, h1, h2, h3, h4⟩ := hs.hs.ok i _ hi
                rw [hb] at h1; cases h1
                obtain ⟨g1, g2⟩ := denC_take cells off pre _ h4 hpre
                obtain ⟨g3, _⟩ := denC_drop cells off _ _ h4 hdrop
                simp only [denC] at g3
                obtain ⟨c1, c2, g4, g5, g6, g7, g8⟩ := g3
                obtain ⟨d1, d2, h16, h17, h18⟩ := ofSv_sound t _ _ _ _ hof hnew.den
                simp only [denC] at h18
                subst h18
                rw [List.append_nil] at h16
                have hd1 : d1.length = t.size := rd_length t _ _ h17
                have hnt : n = t.size := by rw [← hd1, ← h16, Array.length_toList]; exact hvs.symm
                have hc1 := rdL_length (rd_length t) xs c1 g7
                have hcl : vv.cells.toList.length = n := by rw [Array.length_toList]; exact hvs
                have h20 : m * t.size + t.size ≤ c1.length := by rw [← Nat.succ_mul, hc1]; exact Nat.mul_le_mul_right _ (by omega)
                have hcur : cur.toList = cur.toList.take off ++ (c1 ++ c2) := by rw [← g4, List.take_append_drop]
                have hA : (cur.toList.take off).length = off := by rw [List.length_take]; omega
                have hbnd : off + m * sz + n ≤ cur.size := by
                  have := congrArg List.length hcur
                  simp only [List.length_append, hA, Array.length_toList] at this
                  rw [hsz]; omega
                have hr := storeAt_run (P := P) hn hvs h2 h3 hbnd hnew.one
                have hc : Chg E.w (E.w.setRow b (cur.toList.take (off + m * sz) ++ (vv.cells.toList ++ cur.toList.drop (off + m * sz + n))).toArray) (fun c => (E.ρ i).blk = some c) :=
                  (Chg.setRow _ _ _).mono (fun c hcb => by subst hcb; exact hb)
                refine done h (hs.setSame hi rfl hc ?_ rfl (fun _ hid => hid)) hr
                refine ⟨b, _, T', fr, hb, setRow_heap _ _ _ _ _ _ h2, ?_, ?_⟩
                · have : (cur.toList.take (off + m * sz) ++ (vv.cells.toList ++ cur.toList.drop (off + m * sz + n))).toArray.size = cur.size := by
                    simp [hvs]; omega
                  rw [this]; exact h3
                · refine den_w hs.hs hi rfl hc ?_
                  have key := splice_arr cur.toList vv.cells.toList _ c1 c2 (m * sz) n hcl hcur (by rw [hsz]; omega)
                  rw [hA] at key
                  show denC E _ (cur.toList.take (off + m * sz) ++ (vv.cells.toList ++ cur.toList.drop (off + m * sz + n)))
                  rw [key]
                  refine denC_append _ _ _ _ g1 ?_
                  simp only [denC]
                  have g9 := rdL_set (rd_length t) m xs c1 y d1 g7 (by omega) h17
                  rw [hd1] at g9
                  rw [h16, hsz, hnt]
                  exact ⟨_, c2, rfl, by simpa using g5, g6, g9, g8⟩
              · cases h
            · cases h
          · cases h
        · cases h
      · cases h
    · cases h
  · cases h

end effects
end Go.V
