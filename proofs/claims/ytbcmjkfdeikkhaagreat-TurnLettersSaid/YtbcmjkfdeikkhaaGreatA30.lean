/- A part of the proof layer, or functions of the given program in it: contracts and their proofs. -/
import Derived.Test.YtbcmjkfdeikkhaaGreatA29
namespace Go.V
open Go.Proofs
open Go.Maps
set_option maxRecDepth 100000
set_option linter.unusedSimpArgs false
set_option linter.unnecessarySimpa false
set_option linter.unusedVariables false
/-! ### what an outbox keeps: its bytes are it -/
structure Inv (o : ByteArray) (l : List OutT.den) (ls : List LastT.den) (B : Int) : Prop where
  ko : keyOk o = true
  keys : KeysOk ls ls.length
  m64 : ls.length ≤ 64
  l32 : l.length ≤ 32
  lets : ∀ x ∈ l, x.2.2.2.2.length ≤ 4 ∧ x.2.1 = o ∧ (lookM .str (.int .u64) ls x.1).getD (0 : Int) ≠ 0
  ser : serOk ls l = true
  bnd : ∀ x ∈ ls, x.2 ≤ B

theorem keyOk_size {s : ByteArray} (h : keyOk s = true) : 1 ≤ s.size ∧ s.size ≤ 40 := by
  rw [keyOk_eq] at h
  simpa using h
theorem keyOk_ne {s : ByteArray} (h : keyOk s = true) : s ≠ ByteArray.empty := by
  rintro rfl
  exact absurd h (by decide)
theorem Inv.new {o : ByteArray} (h : keyOk o = true) : Inv o [] [] 0 :=
  ⟨h, ⟨rfl, List.Pairwise.nil, fun x hx => by simp at hx⟩, by simp, by simp, fun x hx => by simp at hx, rfl, fun x hx => by simp at hx⟩
theorem Inv.mono {o : ByteArray} {l : List OutT.den} {ls : List LastT.den} {B B' : Int} (h : Inv o l ls B) (hB : B ≤ B') : Inv o l ls B' :=
  ⟨h.ko, h.keys, h.m64, h.l32, h.lets, h.ser, fun x hx => Int.le_trans (h.bnd x hx) hB⟩
theorem Inv.key {o : ByteArray} {l : List OutT.den} {ls : List LastT.den} {B : Int} (h : Inv o l ls B) {x : OutT.den} (hx : x ∈ l) : keyOk x.1 = true := by
  have h1 := (h.lets x hx).2.2
  cases hs : lookM .str (.int .u64) ls x.1 with
  | none => rw [hs] at h1; exact absurd rfl h1
  | some s => exact (h.keys.key _ (look_mem hs)).1
theorem Inv.pop {o : ByteArray} {x : OutT.den} {l : List OutT.den} {ls : List LastT.den} {B : Int} (h : Inv o (x :: l) ls B) : Inv o l ls B := by
  refine ⟨h.ko, h.keys, h.m64, ?_, fun y hy => h.lets y (List.mem_cons_of_mem _ hy), ?_, h.bnd⟩
  · have := h.l32
    simp only [List.length_cons] at this
    omega
  · have := h.ser
    rw [serOk, Bool.and_eq_true] at this
    exact this.2
theorem setR_mem {ls : List LastT.den} {to : ByteArray} {s : Int} {y : LastT.den} (h : y ∈ setR ls to s) : y = (to, s) ∨ y ∈ ls := by
  induction ls with
  | nil => simp only [setR, List.mem_singleton] at h; exact .inl h
  | cons x r ih =>
    rw [setR] at h
    split at h
    · rcases List.mem_cons.1 h with rfl | h
      · exact .inr (by simp)
      · rcases ih h with h | h
        · exact .inl h
        · exact .inr (List.mem_cons_of_mem _ h)
    · split at h
      · rcases List.mem_cons.1 h with h | h
        · exact .inl h
        · exact .inr (List.mem_cons_of_mem _ h)
      · rcases List.mem_cons.1 h with h | h
        · exact .inl h
        · exact .inr h
theorem setR_srt {ls : List LastT.den} {to : ByteArray} {s : Int} (h : ls.Pairwise fun x y => ltS x.1 y.1 = true) : (setR ls to s).Pairwise fun x y => ltS x.1 y.1 = true := by
  induction ls with
  | nil => exact List.pairwise_singleton _ _
  | cons x r ih =>
    rw [List.pairwise_cons] at h
    rw [setR]
    split
    · rename_i hc
      rw [List.pairwise_cons]
      refine ⟨fun y hy => ?_, ih h.2⟩
      rcases setR_mem hy with rfl | hy
      · exact hc
      · exact h.1 y hy
    · rename_i hc
      split
      · rename_i he
        rw [List.pairwise_cons]
        refine ⟨fun y hy => ?_, h.2⟩
        rw [← he]
        exact h.1 y hy
      · rename_i he
        have hlt : ltS to x.1 = true := by
          cases h4 : ltS to x.1 with
          | true => rfl
          | false => exact absurd (ltS_tot (by simpa using hc) h4) he
        rw [List.pairwise_cons, List.pairwise_cons]
        refine ⟨fun y hy => ?_, h⟩
        rcases List.mem_cons.1 hy with rfl | hy
        · exact hlt
        · exact ltS_trans hlt (h.1 y hy)
theorem there_lookM {ls : List LastT.den} (h : ls.Pairwise fun x y => ltS x.1 y.1 = true) (to : ByteArray) : thereL ls to = lookM .str (.int .u64) ls to := by
  rw [thereL_eq, lookR_srt h]
theorem sub2 (S s : Int) (c : Nat) (h : s = S + 1) : S - (c : Nat) = s - ((c + 1 : Nat) : Int) := by omega
theorem sub3 (v S : Int) (c : Nat) (h1 : (c : Int) < S) (h2 : v = S - (c : Nat)) (h3 : S ≤ 18446744073709551615) : 0 ≤ v ∧ v ≤ 18446744073709551615 := by omega
theorem Inv.send {o : ByteArray} {l : List OutT.den} {ls : List LastT.den} {B : Int} (h : Inv o l ls B) (hB : B ≤ 18446744073709551000) (hB0 : 0 ≤ B) {to : ByteArray} {xs : List Int} (hk : keyOk to = true) (hx : xs.length ≤ 4) (hl : l.length < 32) {s : Int} (hm : (setF ls to s).length ≤ 64) (kind : Int) (hs : s = IntKind.u64.wrap ((thereL ls to).getD (0 : Int) + 1)) :
    Inv o (l ++ [(to, o, s, kind, xs)]) (setF ls to s) (B + 1) := by
  have hS : 0 ≤ (thereL ls to).getD (0 : Int) ∧ (thereL ls to).getD (0 : Int) ≤ B := by
    rw [there_lookM h.keys.srt]
    cases hq : lookM .str (.int .u64) ls to with
    | none => exact ⟨Int.le_refl _, hB0⟩
    | some S =>
      have h1 := h.keys.key _ (look_mem hq)
      have h2 := h.bnd _ (look_mem hq)
      exact ⟨h1.2.2.1, h2⟩
  rw [wu64 (by omega)] at hs
  have hmem : ∀ y ∈ setF ls to s, y = (to, s) ∨ y ∈ ls := fun y hy => setR_mem (by rw [← setF_eq]; exact hy)
  have hsrt : (setF ls to s).Pairwise fun x y => ltS x.1 y.1 = true := by rw [setF_eq]; exact setR_srt h.keys.srt
  have hlk : ∀ k, lookM .str (.int .u64) (setF ls to s) k = if k = to then some s else lookM .str (.int .u64) ls k := fun k => by
    rw [← there_lookM hsrt, thereL_eq, setF_eq, lookR_set, lookR_srt h.keys.srt]
  refine ⟨h.ko, ⟨rfl, hsrt, fun y hy => ?_⟩, hm, by simp only [List.length_append, List.length_singleton]; omega, fun y hy => ?_, ?_, fun y hy => ?_⟩
  · rcases hmem y hy with rfl | hy
    · exact ⟨hk, by show s ≠ 0; omega, by show 0 ≤ s; omega, by show s ≤ _; omega⟩
    · exact h.keys.key y hy
  · rw [hlk]
    rcases List.mem_append.1 hy with hy | hy
    · have h1 := h.lets y hy
      refine ⟨h1.1, h1.2.1, ?_⟩
      split
      · show s ≠ 0; omega
      · exact h1.2.2
    · simp only [List.mem_singleton] at hy
      subst hy
      refine ⟨hx, rfl, ?_⟩
      rw [if_pos rfl]
      show s ≠ 0; omega
  · have hso := serOk_all.1 h.ser
    rw [serOk_all]
    intro a x r e
    rcases List.eq_nil_or_concat r with rfl | ⟨r', z, rfl⟩
    · have e1 := List.append_inj_right' e rfl
      simp only [List.cons.injEq, and_true] at e1
      subst e1
      rw [hlk, if_pos rfl]
      simp only [cntT, Option.getD_some]
      exact ⟨by show ((0 : Nat) : Int) < s; omega, by show s = s - ((0 : Nat) : Int); omega⟩
    · rw [List.concat_eq_append] at e ⊢
      have e' : l ++ [(to, o, s, kind, xs)] = (a ++ x :: r') ++ [z] := by rw [e]; simp
      have e1 := List.append_inj_left' e' rfl
      have e2 := List.append_inj_right' e' rfl
      simp only [List.cons.injEq, and_true] at e2
      subst e2
      have h1 := hso a x r' e1
      rw [cntT_snoc, hlk]
      by_cases hxt : x.1 = to
      · rw [if_pos hxt, if_pos hxt.symm]
        rw [hxt, ← there_lookM h.keys.srt] at h1
        simp only [Option.getD_some]
        rw [hxt]
        exact ⟨by omega, h1.2.trans (sub2 _ _ _ hs)⟩
      · rw [if_neg hxt, if_neg (Ne.symm hxt)]
        exact h1
  · rcases hmem y hy with rfl | hy
    · show s ≤ _; omega
    · exact Int.le_trans (h.bnd y hy) (by omega)

theorem Inv.ok {o : ByteArray} {l : List OutT.den} {ls : List LastT.den} {B : Int} (h : Inv o l ls B) (hr : rng l) : ∀ x ∈ l, okLet x.2 := by
  intro x hx
  have h1 := h.lets x hx
  obtain ⟨a, r, e⟩ := List.append_of_mem hx
  have h2 := serOk_all.1 h.ser a x r e
  have h3 : (lookM .str (.int .u64) ls x.1).getD (0 : Int) ≤ 18446744073709551615 := by
    cases hs : lookM .str (.int .u64) ls x.1 with
    | none => exact by decide
    | some s => exact (h.keys.key _ (look_mem hs)).2.2.2
  exact ⟨by rw [h1.2.1]; exact (keyOk_size h.ko).2, h1.1, sub3 _ _ _ h2.1 h2.2 h3, (hr x hx).1, (hr x hx).2⟩
theorem Inv.outOk {o : ByteArray} {l : List OutT.den} {ls : List LastT.den} {B : Int} (h : Inv o l ls B) : OutOk o l ls :=
  ⟨keyOk_ne h.ko, (keyOk_size h.ko).2, h.m64, fun y hy => (keyOk_size (h.keys.key y hy).1).2, h.l32, fun y hy => ⟨(keyOk_size (h.key hy)).2, by rw [(h.lets y hy).2.1]; exact (keyOk_size h.ko).2, (h.lets y hy).1⟩⟩

theorem keysN_enc {ls : List LastT.den} {n : Nat} (h : KeysOk ls n) (r : List UInt8) : ∀ i, i ≤ ls.length → keysN (some (lastsE ls ++ r)) i = some (ls.take i, some (lastsE (ls.drop i) ++ r))
  | 0, _ => by simp [keysN]
  | i + 1, hi => by
    rw [keysN, keysN_enc h r i (by omega)]
    have hlt : i < ls.length := by omega
    have hd : ls.drop i = ls[i] :: ls.drop (i + 1) := List.drop_eq_getElem_cons hlt
    have hx := h.key ls[i] (List.getElem_mem hlt)
    have e : lastsE (ls.drop i) ++ r = textB ls[i].1 ++ (numB ls[i].2 ++ (lastsE (ls.drop (i + 1)) ++ r)) := by
      rw [hd]; simp only [lastsE, List.flatMap_cons, List.append_assoc]
    rw [Option.bind_some, e]
    unfold keyStep
    simp only
    have hk40 := (keyOk_size hx.1).2
    rw [rdText_textB (by omega), rdNum_numB hx.2.2]
    have hlast : ltS (lastK (ls.take i)) ls[i].1 = true := by
      unfold lastK
      cases hl : (ls.take i).getLast? with
      | none => exact ltS_empty _ (keyOk_ne hx.1)
      | some y =>
        have hy : y ∈ ls.take i := List.mem_of_getLast? hl
        have hs := h.srt
        rw [← List.take_append_drop i ls, List.pairwise_append] at hs
        exact hs.2.2 y hy ls[i] (by rw [hd]; exact List.mem_cons_self)
    rw [if_neg (fun hh => by
      rcases hh with h9 | h9 | h9 | h9
      · cases h9
      · rw [hx.1] at h9; cases h9
      · exact hx.2.1 h9
      · rw [hlast] at h9; cases h9)]
    rw [← List.take_append_getElem hlt]
theorem outsN_enc {o : ByteArray} {l : List OutT.den} {ls : List LastT.den} {B : Int} (h : Inv o l ls B) (hr : rng l) (r : List UInt8) : ∀ i, i ≤ l.length → outsN o ls (some (outsE l ++ r)) i = some (l.take i, some (outsE (l.drop i) ++ r))
  | 0, _ => by simp [outsN]
  | i + 1, hi => by
    rw [outsN, outsN_enc h hr r i (by omega)]
    have hlt : i < l.length := by omega
    have hd : l.drop i = l[i] :: l.drop (i + 1) := List.drop_eq_getElem_cons hlt
    have hm := List.getElem_mem hlt
    have hx := h.ok hr _ hm
    have h1 := h.lets _ hm
    have hk := h.key hm
    have e : outsE (l.drop i) ++ r = textB l[i].1 ++ (textB ⟨(letB l[i].2).toArray⟩ ++ (outsE (l.drop (i + 1)) ++ r)) := by
      rw [hd]; simp only [outsE, List.flatMap_cons, List.append_assoc]
    rw [Option.bind_some, e]
    unfold outStep
    simp only
    have hk40 := (keyOk_size hk).2
    have hb := letB_length l[i].2
    have hbs : (⟨(letB l[i].2).toArray⟩ : ByteArray).size = (letB l[i].2).length := by show (letB l[i].2).toArray.size = _; simp
    have ho := (keyOk_size h.ko).2
    have hf : (l[i].2.1 : ByteArray).size ≤ 40 := by rw [h1.2.1]; exact ho
    have ha := h1.1
    rw [rdText_textB (by omega), rdText_textB (by rw [hbs]; omega)]
    have ed : decL (⟨(letB l[i].2).toArray⟩ : ByteArray).data.toList = some l[i].2 := decL_letB hx
    rw [ed]
    simp only
    rw [if_neg (fun hh => by
      rcases hh with h9 | h9 | h9
      · cases h9
      · exact h9 h1.2.1
      · exact h1.2.2 h9)]
    rw [← List.take_append_getElem hlt]
theorem dec_enc {o : ByteArray} {l : List OutT.den} {ls : List LastT.den} {B : Int} (h : Inv o l ls B) (hr : rng l) : decOut (outR o l ls) = some (o, l, ls) := by
  have hm := h.m64
  have hl := h.l32
  have e : outR o l ls = textB o ++ (numB ls.length ++ (lastsE ls ++ (numB l.length ++ (outsE l ++ [])))) := by unfold outR; simp
  unfold decOut
  rw [e]
  have ho := (keyOk_size h.ko).2
  rw [rdText_textB (by omega)]
  simp only
  rw [rdNum_numB (by omega)]
  simp only
  rw [if_neg (fun hh => by
    rcases hh with h9 | h9
    · rw [h.ko] at h9; cases h9
    · omega), Int.toNat_natCast, keysN_enc h.keys _ _ (Nat.le_refl _), List.take_length, List.drop_length]
  simp only [lastsE, List.flatMap_nil, List.nil_append]
  rw [rdNum_numB (by omega)]
  simp only
  rw [if_neg (by omega), Int.toNat_natCast, outsN_enc h hr _ _ (Nat.le_refl _), List.take_length, List.drop_length]
  simp only [outsE, List.flatMap_nil, List.nil_append]
  rw [if_pos ⟨h.ser, trivial⟩]

/-! ### the map's keys are the document's -/
theorem perm_of_sub {l1 l2 : List (List UInt8)} (h1 : l1.Nodup) (h2 : ∀ x ∈ l1, x ∈ l2) (h3 : l2.length ≤ l1.length) : l2.Perm l1 := by
  induction l1 generalizing l2 with
  | nil =>
    have : l2 = [] := List.eq_nil_of_length_eq_zero (by simpa using h3)
    subst this
    exact List.Perm.refl _
  | cons x r ih =>
    rw [List.nodup_cons] at h1
    have hx := h2 x (by simp)
    refine (List.perm_cons_erase hx).trans (List.Perm.cons _ (ih h1.2 (fun y hy => ?_) ?_))
    · exact (List.mem_erase_of_ne (fun e => h1.1 (by rw [← e]; exact hy))).2 (h2 y (List.mem_cons_of_mem _ hy))
    · rw [List.length_erase_of_mem hx]
      simp only [List.length_cons] at h3
      omega
theorem keys_perm {m : List (ByteArray × Int)} {ls : List LastT.den} {n : Nat} (hk : KeysOk ls n) (h : Rel m ls) : (keysB (vt := .int .u64) m).Perm (keysB (vt := .int .u64) ls) := by
  refine perm_of_sub ?_ (fun x hx => ?_) (by simp [keysB, h.1])
  · rw [List.Nodup, keysB, List.pairwise_map]
    refine hk.srt.imp fun {a b} hab e => ?_
    rw [ltS_eq, e, decide_eq_true_eq] at hab
    exact List.lt_irrefl _ hab
  · obtain ⟨y, hy, rfl⟩ := List.mem_map.1 hx
    refine List.mem_map.2 ⟨(y.1, y.2), look_mem ?_, rfl⟩
    rw [h.2, there_lookM hk.srt, look_key hk hy]
theorem srtK_of {m : List (ByteArray × Int)} {ls : List LastT.den} {n : Nat} (hk : KeysOk ls n) (h : Rel m ls) : srtK (vt := .int .u64) m = ls.map Prod.fst := by
  have h1 := keys_perm hk h
  unfold srtK
  rw [mergeSort_of_perm h1]
  have h2 : (keysB (vt := .int .u64) ls).mergeSort leB = keysB (vt := .int .u64) ls := by
    apply List.mergeSort_of_pairwise
    unfold keysB
    rw [List.pairwise_map]
    refine hk.srt.imp fun {a b} hab => ?_
    rw [ltS_eq, decide_eq_true_eq] at hab
    show decide (_ ≤ _) = true
    rw [decide_eq_true_eq]
    exact List.le_of_lt hab
  rw [h2]
  unfold keysB
  rw [List.map_map]
  refine List.map_congr_left fun x _ => ?_
  exact toList_toArrayB x.1
theorem keysE_of {m : List (ByteArray × Int)} {ls : List LastT.den} {n : Nat} (hk : KeysOk ls n) (h : Rel m ls) : keysE m (ls.map Prod.fst) = lastsE ls := by
  unfold keysE lastsE
  rw [List.flatMap_map]
  have : ∀ x ∈ ls, (lookM .str (.int .u64) m x.1).getD (0 : Int) = x.2 := fun x hx => by
    rw [h.2, there_lookM hk.srt, look_key hk hx]; rfl
  clear hk h
  induction ls with
  | nil => rfl
  | cons x r ih =>
    simp only [List.flatMap_cons]
    rw [this x (by simp), ih (fun y hy => this y (List.mem_cons_of_mem _ hy))]
theorem enc_rel {o : ByteArray} {l : List OutT.den} {m : List (ByteArray × Int)} {ls : List LastT.den} {n : Nat} (hk : KeysOk ls n) (h : Rel m ls) : outE o l m = outR o l ls := by
  unfold outE outR
  rw [srtK_of hk h, keysE_of hk h, h.1]
theorem OutOk.rel {o : ByteArray} {l : List OutT.den} {m : List (ByteArray × Int)} {ls : List LastT.den} {n : Nat} (hk : KeysOk ls n) (h : Rel m ls) (ok : OutOk o l ls) : OutOk o l m :=
  ⟨ok.o0, ok.o40, by rw [h.1]; exact ok.m64, fun y hy => by
    have := (keys_perm hk h).mem_iff.1 (List.mem_map.2 ⟨y, hy, rfl⟩)
    obtain ⟨z, hz, e⟩ := List.mem_map.1 this
    rw [← ba_ext e]; exact ok.k40 z hz, ok.l32, ok.x40⟩
end Go.V
