/- Appends. -/
import Derived.Test.YtkjecjgfkogkoaaVr
namespace Go.V
set_option linter.unusedSimpArgs false
set_option linter.unnecessarySimpa false
set_option linter.unusedVariables false

/-- APPEND, in whatever form. -/
theorem append_run {P : Program} {w : World} {T U ty e : TypeId} {i : TypeInfo} {z : Value} (hT : P.underlying T = some (.slice e)) (hU : (∃ e, P.underlying U = some (.slice e)) ∨ P.underlying U = some .string) (hi : P.info? e = some i) (hz : i.zero = some z)
    (hzs : z.cells.size = i.size) {base : Option Addr} {sLen sCap : Nat} {x : Value} {n : Nat} {news olds : List Value} (hx : SrcOk P w x n i.size news)
    (ho : ∀ w', w'.heap = w.heap → (Builtin.firstCells i.size sLen (.slice base sLen sCap)).run P w' = .ok olds.toArray w') (hb : 1 ≤ i.bytes) (hfit : (sLen + n) * i.bytes ≤ 140737488355328) :
    (sLen + n ≤ sCap → (base = none ∧ (Builtin.append_ #[T, U] ty #[.slice base sLen sCap, x]).run P w = .ok (.slice none (sLen + n) sCap) w) ∨ ∃ a, base = some a ∧
      ∀ w', (storeCells (a.add (sLen * i.size)) news).run P w = .ok () w' → (Builtin.append_ #[T, U] ty #[.slice base sLen sCap, x]).run P w = .ok (.slice (some a) (sLen + n) sCap) w') ∧
    (sCap < sLen + n → ∃ cap, sLen + n ≤ cap ∧ cap ≤ maxLen ∧ (Builtin.append_ #[T, U] ty #[.slice base sLen sCap, x]).run P w =
      .ok (.slice (some ⟨w.heap.size, 0, none⟩) (sLen + n) cap) (w.drew.alloc (.cells (olds.toArray ++ news.toArray ++ Builtin.zeroCells z.cells (cap - (sLen + n))) e))) := by
  refine ⟨fun hroom => ?_, fun hgrow => ?_⟩
  · have hf := hx.cells w rfl
    cases base with
    | none =>
      refine .inl ⟨rfl, ?_⟩
      rcases hU with ⟨e', hU⟩ | hU <;> simp [Builtin.append_, run_underlying hT, run_underlying hU, sizeOf, typeInfo, hi, hx.len, hroom, hf]
    | some A =>
      refine .inr ⟨A, rfl, fun w' hw' => ?_⟩
      rcases hU with ⟨e', hU⟩ | hU <;> simp [Builtin.append_, run_underlying hT, run_underlying hU, sizeOf, typeInfo, hi, hx.len, hroom, hf, hw']
  · have hle : sLen + n ≤ 140737488355328 := Nat.le_trans (Nat.le_mul_of_pos_right _ hb) hfit
    refine ⟨grownCap w (sLen + n) sCap e, grownCap_ge _ _ _ _, grownCap_le_maxLen _ _ _ _ (by simp only [maxLen]; omega), ?_⟩
    have hn : ¬ (sLen + n ≤ sCap) := by omega
    have h63' : ¬ (9223372036854775807 < ((sLen : Int) + (n : Int))) := by omega
    have h48' : ¬ (281474976710656 < Builtin.nextslicecap (sLen + n) sCap * i.bytes) := by have := growslice_fits hgrow hfit; omega
    have hf := hx.cells w.drew rfl
    have hfo := ho w.drew rfl
    rcases hU with ⟨e', hU⟩ | hU <;>
      simp [Builtin.append_, run_underlying hT, run_underlying hU, sizeOf, typeInfo, zeroValue, hi, hz, hx.len, hn, h63', h48', Question.forced, hf, hfo, newRow, grownCap] <;>
      (congr 2; apply Array.ext'; simp)

theorem splice_app {α : Type} (M V : List α) (off L : Nat) (h1 : off + L + V.length ≤ M.length) :
    ((M.take (off + L) ++ V ++ M.drop (off + L + V.length)).drop off).take (L + V.length) = (M.drop off).take L ++ V := by
  apply List.ext_getElem?
  intro j
  simp only [List.getElem?_take, List.getElem?_append, List.getElem?_drop, List.length_take, List.length_append, List.length_drop]
  grind

theorem ownv_bound {α : Type} {w : World} {R : α → List Value → Prop} {rv : RV} {eb sz : Nat} {xs : List α} (h : ownv w R rv eb sz xs) : xs.length * eb ≤ 140737488355328 := by
  rcases h with ⟨_, _, rfl⟩ | ⟨b, off, cap, cur, T, fr, cs, h1, h2, h3, h4, h5, h6, h7, h8, h9, h10⟩
  · simp
  · exact h8

theorem slv_bound {α : Type} {w : World} {F : Nat → Prop} {R : α → List Value → Prop} {eb sz : Nat} {xs : List α} {v : Value} (h : slv w F R eb sz xs v) : xs.length * eb ≤ 140737488355328 := by
  rcases h with ⟨rfl, _⟩ | ⟨b, off, cap, cur, E, fr, cs, h1, h2, h3, h4, h5, h6, h7, h8⟩
  · simp
  · exact h6

theorem srcH_sound {hp : List SB} {E : En} (h : HS hp E) {x : SV} {v : Value} (hx : den E x v) : srcH hp x := by
  unfold srcH
  split
  · simp only [den] at hx; exact hx.2
  · split
    · rename_i C hC
      exact slv_bound (cont_sound h hx hC)
    · trivial

section effects
variable {P : Program} {o : Oper} {S : Start} {s : SS} {E : En} {a : Act} {K : SV → SS → Prop} {next : Act → World → Prop} {Q : Exit → Act → World → Prop} {Γ : List (Nat × Contract)}

/-- A list, with another one behind, in a row of its own: where it lies then. -/
theorem own_append {w : World} {F : Nat → Prop} {T U ty e : TypeId} {i : TypeInfo} {z : Value} (hT : P.underlying T = some (.slice e)) (hU : (∃ e, P.underlying U = some (.slice e)) ∨ P.underlying U = some .string) (hi : P.info? e = some i) (hz : i.zero = some z)
    {t : Ty} (hzs : z.cells.size = i.size) (hsz : i.size = t.size) (hsz0 : t.size ≠ 0) {rv : RV} {eb : Nat} (heb : i.bytes = eb) (hb : 1 ≤ eb) {xs ys : List t.den} (hown : ownv w (rd w F t) rv eb t.size xs) {x : Value} {news : List Value}
    (hx : SrcOk P w x ys.length t.size news) (hnews : rdL (rd w F t) ys news) (hfit : (xs.length + ys.length) * eb ≤ 140737488355328) (hF : ∀ b, F b → b < w.heap.size ∧ rv.blk ≠ some b) :
    ∃ rv' w', (Builtin.append_ #[T, U] ty #[rv.val, x]).run P w = .ok rv'.val w' ∧ Chg w w' (fun b => rv.blk = some b) ∧ (∀ b, rv'.blk = some b → rv.blk = some b ∨ (w.heap.size ≤ b ∧ b < w'.heap.size)) ∧
      ownv w' (rd w' F t) rv' eb t.size (xs ++ ys) ∧ rv'.val.oneCell' = true := by
  subst heb
  have hxn := hx
  rw [← hsz] at hx
  have hln := rdL_length (rd_length t) ys news hnews
  -- a new row
  have grow : ∀ (base : Option Addr) (sCap : Nat) (olds : List Value), rv.val = .slice base xs.length sCap → (∀ w', w'.heap = w.heap → (Builtin.firstCells i.size xs.length (.slice base xs.length sCap)).run P w' = .ok olds.toArray w') →
      rdL (rd w F t) xs olds → sCap < xs.length + ys.length → ∃ rv' w', (Builtin.append_ #[T, U] ty #[rv.val, x]).run P w = .ok rv'.val w' ∧ Chg w w' (fun b => rv.blk = some b) ∧ (∀ b, rv'.blk = some b → rv.blk = some b ∨ (w.heap.size ≤ b ∧ b < w'.heap.size)) ∧
      ownv w' (rd w' F t) rv' i.bytes t.size (xs ++ ys) ∧ rv'.val.oneCell' = true := by
    intro base sCap olds hv ho hro hg
    obtain ⟨cap, h1, h2, h3⟩ := (append_run (ty := ty) hT hU hi hz hzs hx ho hb hfit).2 hg
    rw [hv]
    have hchg : Chg w (w.drew.alloc (.cells (olds.toArray ++ news.toArray ++ Builtin.zeroCells z.cells (cap - (xs.length + ys.length))) e)) (fun _ => False) := (Chg.drew w).trans (Chg.alloc w.drew _)
    refine ⟨⟨some w.heap.size, .slice (some ⟨w.heap.size, 0, none⟩) (xs.length + ys.length) cap⟩, _, h3, hchg.mono (fun _ h => h.elim), fun b hb => (by cases hb; right; simp), ?_, rfl⟩
    have hlo := rdL_length (rd_length t) xs olds hro
    refine .inr ⟨w.heap.size, 0, cap, olds.toArray ++ news.toArray ++ Builtin.zeroCells z.cells (cap - (xs.length + ys.length)), e, (0, 0), _, by rw [List.length_append], rfl, ?_, .inl rfl, by rw [List.length_append]; exact h1, h2, ?_, by rw [List.length_append]; exact hfit, rfl, ?_⟩
    · exact heap_alloc_new w.drew _
    · simp only [Array.size_append, List.size_toArray, size_zeroCells, hlo, hln, hzs, hsz, Nat.zero_add]
      rw [← Nat.add_mul, ← Nat.add_mul]
      exact Nat.mul_le_mul_right _ (by omega)
    · have e1 : ((olds.toArray ++ news.toArray ++ Builtin.zeroCells z.cells (cap - (xs.length + ys.length))).toList.drop 0).take ((xs ++ ys).length * t.size) = olds ++ news := by
        have : (xs ++ ys).length * t.size = (olds ++ news).length := by rw [List.length_append, List.length_append, hlo, hln, Nat.add_mul]
        rw [this, List.drop_zero, Array.toList_append, Array.toList_append]
        exact List.take_left' (by simp)
      rw [e1]
      exact rdL_append _ _ _ _ (rdL_mono (fun x c hx => rd_mono (fun _ h => h) (fun b hb => hchg.keep b (hF b hb).1 (fun h => h)) t x c hx) _ _ hro) (rdL_mono (fun x c hx => rd_mono (fun _ h => h) (fun b hb => hchg.keep b (hF b hb).1 (fun h => h)) t x c hx) _ _ hnews)
  rcases hown with ⟨⟨ad, h1⟩, h2, rfl⟩ | ⟨b, off, cap, cur, T', fr, cs, h1, h2, h3, h4, h5, h6, h7, h8, h9, h10⟩
  · have ho : ∀ w', w'.heap = w.heap → (Builtin.firstCells i.size 0 (.slice ad 0 0)).run P w' = .ok (#[] : Array Value) w' := by
      intro w' _
      cases ad with
      | none => simp [Builtin.firstCells]
      | some A => have := run_loadCells_list (P := P) w' A [] (by simp); simpa [Builtin.firstCells] using this
    by_cases hy : ys.length = 0
    · have hys : ys = [] := List.length_eq_zero_iff.1 hy
      subst hys
      have hn0 : news = [] := by simpa using hln
      subst hn0
      have h11 := (append_run (ty := ty) hT hU hi hz hzs hx (olds := []) ho hb hfit).1 (by simp)
      rw [h1]
      rcases h11 with ⟨rfl, h12⟩ | ⟨A, rfl, h12⟩
      · exact ⟨⟨none, .slice none 0 0⟩, w, by simpa using h12, Chg.refl _ _, fun b hb => (by cases hb), .inl ⟨⟨none, rfl⟩, rfl, rfl⟩, rfl⟩
      · have := h12 w (by simp [storeCells])
        exact ⟨⟨none, .slice (some A) 0 0⟩, w, by simpa using this, Chg.refl _ _, fun b hb => (by cases hb), .inl ⟨⟨some A, rfl⟩, rfl, rfl⟩, rfl⟩
    · exact grow ad 0 [] h1 ho rfl (by simp; omega)
  · have hr : ∃ r, cur.toList.drop off = cs ++ r := by
      obtain ⟨r, h, _⟩ := take_append_of (a := cs) (b := []) (by rw [h9]; simp)
      exact ⟨r, h⟩
    obtain ⟨r, hr⟩ := hr
    have hlc := rdL_length (rd_length t) xs cs h10
    have ho : ∀ w', w'.heap = w.heap → (Builtin.firstCells i.size xs.length (.slice (some ⟨b, off, none⟩) xs.length cap)).run P w' = .ok cs.toArray w' := by
      intro w' hw
      have := loadCells_run (P := P) (w := w') (by rw [hw]; exact h3) hr
      rw [hlc, ← hsz] at this
      simpa [Builtin.firstCells] using this
    by_cases hroom : xs.length + ys.length ≤ cap
    · have h11 := (append_run (ty := ty) hT hU hi hz hzs hx ho hb hfit).1 hroom
      rcases h11 with ⟨h0, _⟩ | ⟨A, hA, h12⟩
      · cases h0
      · cases hA
        have hle : xs.length * t.size + ys.length * t.size ≤ cap * t.size := by rw [← Nat.add_mul]; exact Nat.mul_le_mul_right _ hroom
        have hst := run_storeCells_nf P b (off + xs.length * t.size) T' fr news 0 cur w h3 h4 (by rw [hln]; omega) (rdL_one ys news hnews)
        have hadd : (⟨b, off, none⟩ : Addr).add (xs.length * i.size) = ⟨b, off + xs.length * t.size, none⟩ := by rw [hsz]; unfold Addr.add; split <;> simp_all
        rw [← hadd, Nat.add_zero] at hst
        have h13 := h12 _ hst
        rw [h1]
        have hchg : Chg w (w.setRow b (cur.toList.take (off + xs.length * t.size) ++ news ++ cur.toList.drop (off + xs.length * t.size + news.length)).toArray) (fun c => rv.blk = some c) := (Chg.setRow _ _ _).mono (fun c hc => by subst hc; exact h2)
        have hsize : (cur.toList.take (off + xs.length * t.size) ++ news ++ cur.toList.drop (off + xs.length * t.size + news.length)).toArray.size = cur.size := by
          simp; omega
        refine ⟨⟨some b, _⟩, _, h13, hchg, fun c hc => .inl (by cases hc; exact h2), .inr ⟨b, off, cap, _, T', fr, _, by rw [List.length_append], rfl, setRow_heap _ _ _ _ _ _ h3, by rw [hsize]; exact h4, by rw [List.length_append]; exact hroom, h6, by rw [hsize]; exact h7, by rw [List.length_append]; exact hfit, rfl, ?_⟩, rfl⟩
        have e1 := splice_app cur.toList news off (xs.length * t.size) (by rw [hln]; simp; omega)
        rw [h9] at e1
        have e2 : (xs ++ ys).length * t.size = xs.length * t.size + news.length := by rw [List.length_append, hln, Nat.add_mul]
        rw [e2]
        show rdL _ _ (((cur.toList.take (off + xs.length * t.size) ++ news ++ cur.toList.drop (off + xs.length * t.size + news.length)).drop off).take (xs.length * t.size + news.length))
        rw [e1]
        have mono := fun (x : t.den) c hx => rd_mono (fun _ h => h) (fun b hb => hchg.keep b (hF b hb).1 (hF b hb).2) t x c hx
        exact rdL_append _ _ _ _ (rdL_mono mono _ _ h10) (rdL_mono mono _ _ hnews)
    · exact grow (some ⟨b, off, none⟩) cap cs h1 ho h10 (by omega)

theorem e_app {eb : Nat} {t : Ty} {y z : Opd} (hok : okE P o.op (.app eb t y z) = true) (hs : Sat S s E a) (h : eff Γ (.app eb t y z) s K) (hg : Goes S a o K next) : o.wp P a E.w next Q := by
  simp only [okE] at hok
  split at hok
  · rename_i args ts ho
    simp only [Bool.and_eq_true] at hok
    obtain ⟨h1, hok⟩ := hok
    obtain ⟨x, x', hargs, hx1, hx2⟩ := okOpds2 (a := a) h1
    split at hok
    · rename_i T U hts
      simp only [Bool.and_eq_true, Bool.or_eq_true] at hok
      obtain ⟨hok, hU⟩ := hok
      have hUu : (∃ e, P.underlying U = some (.slice e)) ∨ P.underlying U = some .string := hU.imp okKind_s okKind_i
      split at hok
      · rename_i e hT
        split at hok
        · rename_i i hi
          simp only [Bool.and_eq_true, beq_iff_eq, bne_iff_ne, ne_eq] at hok
          obtain ⟨⟨⟨⟨hsz, hby⟩, hsz0⟩, hb0⟩, hzz⟩ := hok
          split at hzz
          · rename_i zv hz
            have hzs : zv.cells.size = i.size := by rw [hsz]; simpa using hzz
            have g1 := get_sound hx1 hs.fr
            have g2 := get_sound hx2 hs.fr
            have hrun : ∀ {w w' : World} {v : Value}, (Builtin.append_ #[T, U] o.type #[a.eval x, a.eval x']).run P w = .ok v w' → (execOp a.eval o).run P w = .ok (.value v) w' := by
              intro w w' v hw
              have ha2 : args = #[x, x'] := by apply Array.ext'; simpa using hargs
              have ht2 : ts = #[T, U] := by apply Array.ext'; simpa using hts
              subst ha2; subst ht2
              obtain ⟨cs, hc⟩ := call_run (P := P) (a := a) (w := w) ho
              rw [hc]
              simp [builtin, hw]
            simp only [eff] at h
            obtain ⟨E', e1, e2, e3, e4, e5, e6⟩ := settle_sound hs g1
            cases hys : srcOf s.hp t (s.get z) with
            | none => rw [hys] at h; exact h.elim
            | some ys =>
              rw [hys] at h
              obtain ⟨news, hsrc, hnews⟩ := srcOf_sound (P := P) hs.hs g2 hys
              have hH : srcH s.hp (s.get z) := srcH_sound hs.hs g2
              generalize srcH s.hp (s.get z) = H at h hH
              rw [← e1] at hsrc hnews ⊢
              rw [← e5] at hnews
              generalize settle s (s.get y) = R at h e2 e3 e6
              obtain ⟨X, s'⟩ := R
              simp only at h e2 e3 e6
              simp only [app1] at h
              split at h
              · -- behind nothing
                obtain ⟨hfit, hk⟩ := h
                have hfit := hfit hH
                have hk := hk hfit
                simp only [den] at e3
                have hown : ownv E'.w (rd E'.w E'.Fz t) ⟨none, .slice none 0 0⟩ eb t.size ([] : List t.den) := .inl ⟨⟨none, rfl⟩, rfl, rfl⟩
                obtain ⟨rv', w', r1, r2, r3, r4, r5⟩ := own_append (ty := o.type) hT hUu hi hz hzs hsz hsz0 hby (by omega) hown hsrc hnews (by simpa using hfit) (fun b hb => ⟨e2.hs.old b (.inl hb), by simp⟩)
                rw [← e3] at r1
                have r2' : Chg E'.w w' (fun _ => False) := r2.mono (fun b hb => by cases hb)
                have hs' := e2.push (b' := .row true eb t ys) (rv' := rv') r2' (fun b hb => (r3 b hb).resolve_left (by simp)) (by show ownv w' (rd w' E'.Fz t) rv' eb t.size ys; simpa using r4)
                refine goes_value hg hk ?_ hs' (hrun r1)
                simp only [den]
                refine ⟨by show s'.hp.length < E'.N + 1; have := e2.hs.n; omega, ?_, r5⟩
                show _ = (upR E'.ρ E'.N _ s'.hp.length).val
                rw [← e2.hs.n, upd_same]
              · rename_i i'
                split at h
                · rename_i mv eb' t' xs hi'
                  split at h
                  · rename_i ht
                    subst ht
                    obtain ⟨heb', hfit, hk⟩ := h
                    subst heb'
                    simp only [castT_self] at hk
                    simp only [den] at e3
                    have hown := e2.hs.ok i' _ hi'
                    have hfit := hfit hH (ownv_bound hown)
                    have hk := hk hfit
                    obtain ⟨rv', w', r1, r2, r3, r4, r5⟩ := own_append (ty := o.type) hT hUu hi hz hzs hsz hsz0 hby (by omega) hown hsrc hnews hfit (fun b hb => ⟨e2.hs.old b (.inl hb), fun hx => (e2.hs.own b ⟨i', _, hi', rfl, hx⟩).2.1 hb⟩)
                    rw [← e3.2.1] at r1
                    have hs' := e2.mov (t' := t') (eb' := eb') (xs' := xs ++ ys) hi' (rv' := rv') r2 (fun b hb => by
                      rcases r3 b hb with h | h
                      · exact ⟨.inl h, Nat.lt_of_lt_of_le (e2.hs.own b ⟨i', _, hi', rfl, h⟩).1 r2.size⟩
                      · exact ⟨.inr h.1, h.2⟩) r4
                    refine goes_value hg hk ?_ hs' (hrun r1)
                    simp only [den]
                    refine ⟨e3.1, ?_, r5⟩
                    show _ = (upR E'.ρ i' _ i').val
                    rw [upd_same]
                  · cases h
                · cases h
              · cases h
          · cases hzz
        · cases hok
      · cases hok
    · cases hok
  · cases hok

end effects
end Go.V
