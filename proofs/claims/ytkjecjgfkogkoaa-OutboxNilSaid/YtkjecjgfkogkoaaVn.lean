/- What operations that write do to a symbolic state. -/
import Derived.Test.YtkjecjgfkogkoaaVm
namespace Go.V
set_option linter.unusedSimpArgs false
set_option linter.unnecessarySimpa false
set_option linter.unusedVariables false

theorem frozen_nf {w : World} {g o : Nat} {cur : Array Value} {t : TypeId} {fr : Nat × Nat} (hg : w.heap[g]? = some (.cells cur t fr)) (hf : nofz fr cur.size) (ho : o < cur.size) : w.frozen? ⟨g, o, none⟩ = false := by
  simp only [World.frozen?, hg]
  rcases hf with rfl | hf
  · simp
  · have : ¬ (fr.1 ≤ o) := by omega
    simp [this]

theorem run_storeCells_nf (P : Program) (g o : Nat) (t : TypeId) (fr : Nat × Nat) : ∀ (vs : List Value) (i : Nat) (cur : Array Value) (w : World), w.heap[g]? = some (.cells cur t fr) → nofz fr cur.size → o + i + vs.length ≤ cur.size → (∀ v ∈ vs, v.oneCell' = true) →
    (storeCells ⟨g, o, none⟩ vs i).run P w = .ok () (w.setRow g (cur.toList.take (o + i) ++ vs ++ cur.toList.drop (o + i + vs.length)).toArray)
  | [], i, cur, w, hg, _, _, _ => by
    simp only [storeCells, List.append_nil, List.length_nil, Nat.add_zero, List.take_append_drop, Array.toArray_toList]
    rw [setRow_self w g cur t fr hg]
    rfl
  | v :: rest, i, cur, w, hg, hf, hl, h1 => by
    have hi : o + i < cur.size := by simp at hl; omega
    have hadd : (⟨g, o, none⟩ : Addr).add i = ⟨g, o + i, none⟩ := by unfold Addr.add; split <;> simp_all
    have hcell : w.cell? ⟨g, o + i, none⟩ = some cur[o + i] := by simp [World.cell?, hg, hi]
    have hfro : w.frozen? ⟨g, o + i, none⟩ = false := frozen_nf hg hf hi
    have hst : (store ((⟨g, o, none⟩ : Addr).add i) v).run P w = .ok () (w.setRow g (cur.setIfInBounds (o + i) v)) := by
      rw [hadd, run_store P w _ v _ (h1 v (by simp)), hcell]
      simp [hfro, setCell_eq_setRow w g (o + i) cur t fr v hg]
    have ih := run_storeCells_nf P g o t fr rest (i + 1) (cur.setIfInBounds (o + i) v) (w.setRow g (cur.setIfInBounds (o + i) v)) (setRow_heap w g cur _ t _ hg) (by simpa using hf) (by simp at hl ⊢; omega) (fun x hx => h1 x (by simp [hx]))
    simp only [storeCells, Sem.run_bind, hst, Result.andThen_ok, ih, setRow_setRow]
    congr 3
    have e := list_seg_step cur.toList (o + i) v rest (by simp at hl ⊢; omega)
    simpa [Array.toList_setIfInBounds, Nat.add_assoc] using e

/-- A store of a value at an address in a block. -/
theorem storeAt_run {P : Program} {T n : Nat} {w : World} {g o : Nat} {cur : Array Value} {t : TypeId} {fr : Nat × Nat} {v : Value} (hn : szOf P T = some n) (hv : v.cells.size = n) (hg : w.heap[g]? = some (.cells cur t fr)) (hf : nofz fr cur.size)
    (ho : o + n ≤ cur.size) (h1 : ∀ x ∈ v.cells.toList, x.oneCell' = true) :
    (Instr.storeAt T (.pointer (some ⟨g, o, none⟩)) v).run P w = .ok () (w.setRow g (cur.toList.take o ++ (v.cells.toList ++ cur.toList.drop (o + n))).toArray) := by
  have h2 := run_storeCells_nf P g o t fr v.cells.toList 0 cur w hg hf (by simpa [hv] using ho) h1
  simp only [Nat.add_zero, List.append_assoc, Array.length_toList, hv] at h2
  simp [Instr.storeAt, Instr.sureAddr, storeVar, szOf_run hn, hv, h2]

/-! ### plain values out of symbolic cells -/
def castT {t' t : Ty} (h : t' = t) (xs : List t'.den) : List t.den := h ▸ xs
@[simp] theorem castT_self {t : Ty} (h : t = t) (xs : List t.den) : castT h xs = xs := rfl

def Ty.ofSv : (t : Ty) → List SV → Option (t.den × List SV)
  | .int k, l => match l with
    | .int k' n :: r => if k' = k then some (n, r) else none
    | _ => none
  | .byte, l => match l with
    | .int .u8 n :: r => some (UInt8.ofNat n.toNat, r)
    | _ => none
  | .bool, l => match l with
    | .bool b :: r => some (b, r)
    | _ => none
  | .str, l => match l with
    | .str s :: r => some (s, r)
    | _ => none
  | .sl eb t, l => match l with
    | .sl true eb' t' xs :: r => if h : t' = t then (if eb' = eb then some (castT h xs, r) else none) else none
    | .nils :: r => some ([], r)
    | _ => none
  | .pair a b, l => match a.ofSv l with
    | some (x, r) => match b.ofSv r with
      | some (y, r') => some ((x, y), r')
      | none => none
    | none => none
  | .unit, l => some ((), l)

theorem ofSv_sound {E : En} : ∀ (t : Ty) (l : List SV) (x : t.den) (r : List SV) (cs : List Value), t.ofSv l = some (x, r) → denC E l cs → ∃ c1 c2, cs = c1 ++ c2 ∧ rd E.w E.Fz t x c1 ∧ denC E r c2
  | .int k, l, x, r, cs, h, hc => by
    simp only [Ty.ofSv] at h
    split at h
    · split at h
      · rename_i k' n r' hk
        cases h; subst hk
        rw [denC_cons rfl] at hc
        obtain ⟨v, c2, rfl, h1, h2⟩ := hc
        simp only [den] at h1
        exact ⟨[v], c2, rfl, by simp only [rd]; exact ⟨by rw [h1.1], h1.2⟩, h2⟩
      · cases h
    · cases h
  | .byte, l, x, r, cs, h, hc => by
    simp only [Ty.ofSv] at h
    split at h
    · cases h
      rw [denC_cons rfl] at hc
      obtain ⟨v, c2, rfl, h1, h2⟩ := hc
      simp only [den] at h1
      refine ⟨[v], c2, rfl, ?_, h2⟩
      simp only [rd]
      rw [h1.1]
      obtain ⟨_, h3, h4⟩ := h1
      simp [IntKind.min, IntKind.max, IntKind.signed, IntKind.bits] at h3 h4
      simp
      omega
    · cases h
  | .bool, l, x, r, cs, h, hc => by
    simp only [Ty.ofSv] at h
    split at h
    · cases h
      rw [denC_cons rfl] at hc
      obtain ⟨v, c2, rfl, h1, h2⟩ := hc
      simp only [den] at h1
      exact ⟨[v], c2, rfl, by simp only [rd]; rw [h1], h2⟩
    · cases h
  | .str, l, x, r, cs, h, hc => by
    simp only [Ty.ofSv] at h
    split at h
    · cases h
      rw [denC_cons rfl] at hc
      obtain ⟨v, c2, rfl, h1, h2⟩ := hc
      simp only [den] at h1
      exact ⟨[v], c2, rfl, by simp only [rd]; exact ⟨by rw [h1.1], h1.2⟩, h2⟩
    · cases h
  | .sl eb t, l, x, r, cs, h, hc => by
    simp only [Ty.ofSv] at h
    split at h
    · split at h
      · split at h
        · rename_i eb' t' xs r' ht he
          cases h; subst ht; subst he
          rw [denC_cons rfl] at hc
          obtain ⟨v, c2, rfl, h1, h2⟩ := hc
          simp only [den] at h1
          refine ⟨[v], c2, rfl, ?_, h2⟩
          have up : ∀ b, E.F true b → E.Fz b := fun b hb => hb.elim id (fun h => by cases h.1)
          simp only [rd]
          exact ⟨v, rfl, slv_mono up (fun _ _ => rfl) (fun x c hx => rd_mono up (fun _ _ => rfl) _ x c hx) h1⟩
        · cases h
      · cases h
    · cases h
      rw [denC_cons rfl] at hc
      obtain ⟨v, c2, rfl, h1, h2⟩ := hc
      simp only [den] at h1
      exact ⟨[v], c2, rfl, by simp only [rd]; exact ⟨v, rfl, .inl ⟨rfl, none, 0, h1, by simp [maxLen], by simp⟩⟩, h2⟩
    · cases h
  | .pair a b, l, x, r, cs, h, hc => by
    simp only [Ty.ofSv] at h
    split at h
    · rename_i x1 r1 h1
      split at h
      · rename_i y1 r2 h2
        cases h
        obtain ⟨c1, c2, rfl, h3, h4⟩ := ofSv_sound a l x1 r1 cs h1 hc
        obtain ⟨c3, c4, rfl, h5, h6⟩ := ofSv_sound b r1 y1 _ c2 h2 h4
        exact ⟨c1 ++ c3, c4, by simp, by simp only [rd]; exact ⟨c1, c3, rfl, h3, h5⟩, h6⟩
      · cases h
    · cases h
  | .unit, l, x, r, cs, h, hc => by
    simp only [Ty.ofSv] at h
    cases h
    exact ⟨[], cs, rfl, by simp only [rd], hc⟩

/-! ### a part of a row in the row's place; rows frozen, one by one -/
def settle (s : SS) (x : SV) : SV × SS :=
  match x with
  | .vw i lo hi sz => match s.hp[i]? with
    | some (.row _ eb t xs) => if sz = t.size then (.own i, ⟨frRen (but i) s.fr, (s.hp.map (SB.ren (but i))).set i (.row true eb t ((xs.drop lo).take (hi - lo)))⟩) else (.junk1, s)
    | _ => (.junk1, s)
  | x => (x, s)

mutual
def SV.rows : SV → List Nat
  | .own i => [i]
  | .vw i _ _ _ => [i]
  | .agg l => SV.rowsL l
  | _ => []
def SV.rowsL : List SV → List Nat
  | [] => []
  | x :: r => x.rows ++ SV.rowsL r
end

def frzAll (s : SS) (l : List SV) : List Nat → SS × List SV
  | [] => (s, l)
  | i :: r => match s.hp[i]? with
    | some (.row _ eb t xs) => frzAll ⟨frTr (frzF i eb t xs) s.fr, (s.hp.map (SB.tr (frzF i eb t xs))).set i .gone⟩ (SV.trL (frzF i eb t xs) l) r
    | _ => frzAll s l r

theorem idok_ren {f : Nat → Option Nat} {b : SB} {rv0 rv : RV} (h : idok b rv0 rv) : idok (b.ren f) rv0 rv := by
  cases b with
  | struct _ => exact h
  | map _ _ _ _ => exact h
  | row mv _ _ _ => cases mv <;> exact h
  | gone => trivial

theorem Id.set {n0 : Nat} {ρ0 : Nat → RV} {hp : List SB} {ρ : Nat → RV} (h : Id n0 ρ0 hp ρ) {f : Nat → Option Nat} {i : Nat} {b' : SB} {rv' : RV} (hb : ∀ rv0, idok (hp.getD i .gone) rv0 (ρ i) → idok b' rv0 rv') (hi : i < hp.length) :
    Id n0 ρ0 ((hp.map (SB.ren f)).set i b') (upR ρ i rv') := by
  refine ⟨by simpa using h.le, fun j sb hj hs => ?_⟩
  rw [List.getElem?_set] at hs
  split at hs
  · rename_i hij
    subst hij
    rw [if_pos (by simpa using hi)] at hs
    cases hs
    rw [upd_same]
    refine hb _ ?_
    rw [List.getD_eq_getElem?_getD, List.getElem?_eq_getElem hi]
    exact h.id i _ hj (List.getElem?_eq_getElem hi)
  · rename_i hij
    rw [List.getElem?_map] at hs
    cases hs2 : hp[j]? with
    | none => rw [hs2] at hs; cases hs
    | some s =>
      rw [hs2] at hs
      cases hs
      rw [upd_other _ _ (fun e => hij e.symm)]
      exact idok_ren (h.id j s hj hs2)

theorem settle_sound {S : Start} {s : SS} {E : En} {a : Act} (hs : Sat S s E a) {x : SV} {v : Value} (hx : den E x v) : ∃ E', E'.w = E.w ∧ Sat S (settle s x).2 E' a ∧ den E' (settle s x).1 v ∧
    E'.N = E.N ∧ E'.Fz = E.Fz ∧ (∀ j, (∀ mv eb t xs, (settle s x).2.hp[j]? ≠ some (.row mv eb t xs)) → E'.ρ j = E.ρ j) := by
  cases x with
  | vw i lo hi sz =>
    simp only [settle]
    have hone := one_cell hx rfl
    split
    · rename_i mv eb t xs hi'
      split
      · rename_i hsz
        simp only [den] at hx
        obtain ⟨hlt, hle, hx⟩ := hx
        -- what the row is now
        obtain ⟨rv', hval, hblk, hown⟩ : ∃ rv' : RV, rv'.val = v ∧ (∀ b, rv'.blk = some b → (E.ρ i).blk = some b) ∧ ownv E.w (rd E.w E.Fz t) rv' eb t.size ((xs.drop lo).take (hi - lo)) := by
          rcases hx with ⟨rfl, rfl, ad, hv1, rfl⟩ | ⟨b, o, l, c, hv1, hle2, ad, rfl, had⟩
          · exact ⟨⟨none, _⟩, rfl, fun b hb => (by cases hb), .inl ⟨⟨ad, rfl⟩, rfl, by simp⟩⟩
          · by_cases hc : c = lo
            · have h0 : l ≤ c := by
                rcases hs.hs.ok i _ hi' with ⟨⟨ad', h1⟩, _, _⟩ | ⟨b', off, cap, cur, T, fr, cs, h1, h2, h3, h4, h5, _⟩
                · rw [hv1] at h1; injection h1 with _ e2 e3; omega
                · rw [hv1] at h1; injection h1 with _ e2 e3; omega
              have h1 : hi = lo := by omega
              subst hc; subst h1
              exact ⟨⟨none, _⟩, rfl, fun b hb => (by cases hb), .inl ⟨⟨some ad, by simp⟩, rfl, by simp⟩⟩
            · rcases hs.hs.ok i _ hi' with ⟨⟨ad', h1⟩, _, _⟩ | ⟨b', off, cap, cur, T, fr, cs, h1, h2, h3, h4, h5, h6, h7, h8, h9, h10⟩
              · rw [hv1] at h1; injection h1 with _ e2 e3; omega
              · rw [hv1] at h1
                injection h1 with e1 e2 e3
                injection e1 with e1
                injection e1 with e1 e4
                subst e1; subst e4; subst e2; subst e3
                have hlen : ((xs.drop lo).take (hi - lo)).length = hi - lo := by simp; omega
                refine ⟨⟨some b, _⟩, rfl, fun b0 hb0 => by rw [h2]; exact hb0, .inr ⟨b, o + lo * t.size, c - lo, cur, T, fr, _, ?_, rfl, h3, h4, by rw [hlen]; omega, by omega, ?_, ?_, rfl, ?_⟩⟩
                · rw [hlen, had hc, hsz]
                · have : o + lo * t.size + (c - lo) * t.size = o + c * t.size := by rw [Nat.add_assoc, ← Nat.add_mul]; congr 2; omega
                  omega
                · rw [hlen]; exact Nat.le_trans (Nat.mul_le_mul_right _ (by omega)) h8
                · rw [hlen]
                  have h11 := rdL_take (rd_length t) (hi - lo) _ _ (rdL_drop (rd_length t) lo xs cs h10)
                  rw [← h9] at h11
                  rw [List.drop_take, List.drop_drop, List.take_take] at h11
                  have e6 : min ((hi - lo) * t.size) (xs.length * t.size - lo * t.size) = (hi - lo) * t.size := by
                    rw [← Nat.sub_mul]
                    exact Nat.min_eq_left (Nat.mul_le_mul_right _ (by omega))
                  rwa [e6] at h11
        have hilt : i < s.hp.length := (List.getElem?_eq_some_iff.1 hi').1
        obtain ⟨h1, h2⟩ := hs.hs.upd (sb' := .row true eb t ((xs.drop lo).take (hi - lo))) hi' rfl (w' := E.w) (rv' := rv') (f := but i) (.inl rfl) (Chg.refl _ _) (fun b hb => ⟨.inl (hblk b hb), (hs.hs.own b ⟨i, _, hi', rfl, hblk b hb⟩).1⟩) hown rfl
        refine ⟨_, ?_, ⟨h1, hs.fr.ren h2, hs.ev.trans (Ev.upd hi' rfl (Chg.refl _ _) (fun b hb => .inl (hblk b hb))), hs.id.set (fun _ _ => trivial) hilt, hs.defers, hs.size⟩, ?_, ?_⟩
        · rfl
        · simp only [den]
          refine ⟨by rw [hs.hs.n]; exact hilt, ?_, hone⟩
          show v = (upR E.ρ i rv' i).val
          rw [upd_same, hval]
        · refine ⟨rfl, rfl, fun j hj => ?_⟩
          refine upd_other _ _ (fun e => ?_)
          subst e
          exact hj _ _ _ _ (by rw [List.getElem?_set_self (by simpa using hilt)])
      · exact ⟨E, rfl, hs, by simp only [den]; exact hone, rfl, rfl, fun _ _ => rfl⟩
    · exact ⟨E, rfl, hs, by simp only [den]; exact hone, rfl, rfl, fun _ _ => rfl⟩
  | _ => exact ⟨E, rfl, hs, hx, rfl, rfl, fun _ _ => rfl⟩

theorem Id.setTr {n0 : Nat} {ρ0 : Nat → RV} {hp : List SB} {ρ : Nat → RV} (h : Id n0 ρ0 hp ρ) {f : SV → SV} {i : Nat} : Id n0 ρ0 ((hp.map (SB.tr f)).set i .gone) ρ := by
  refine ⟨by simpa using h.le, fun j sb hj hs => ?_⟩
  rw [List.getElem?_set] at hs
  split at hs
  · split at hs
    · cases hs; trivial
    · cases hs
  · obtain ⟨s, hs2, rfl⟩ := SB.tr_get f hs
    exact idok_tr (h.id j s hj hs2)

theorem frzAll_sound {S : Start} {a : Act} : ∀ (idx : List Nat) (s : SS) (l : List SV) (E : En) (cs : List Value), Sat S s E a → denC E l cs → ∃ E', E'.w = E.w ∧ Sat S (frzAll s l idx).1 E' a ∧ denC E' (frzAll s l idx).2 cs ∧
    E'.N = E.N ∧ E'.ρ = E.ρ
  | [], s, l, E, cs, hs, hl => ⟨E, rfl, hs, hl, rfl, rfl⟩
  | i :: r, s, l, E, cs, hs, hl => by
    simp only [frzAll]
    split
    · rename_i mv eb t xs hi
      obtain ⟨h1, h2, h3⟩ := frz_sound hs.hs hi
      have hs' : Sat S ⟨frTr (frzF i eb t xs) s.fr, (s.hp.map (SB.tr (frzF i eb t xs))).set i .gone⟩ _ a := ⟨h1, hs.fr.tr h2 rfl, hs.ev.trans h3, hs.id.setTr, hs.defers, hs.size⟩
      obtain ⟨E', e1, e2, e3, e4, e5⟩ := frzAll_sound r _ _ _ cs hs' (denC_tr h2 l cs hl)
      exact ⟨E', e1, e2, e3, e4, e5⟩
    · exact frzAll_sound r s l E cs hs hl

end Go.V
