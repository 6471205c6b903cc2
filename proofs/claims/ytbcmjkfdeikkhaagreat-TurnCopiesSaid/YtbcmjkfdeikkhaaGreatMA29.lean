/- A part of the proof layer, or functions of the given program in it: contracts and their proofs. -/
import Derived.Test.YtbcmjkfdeikkhaaGreatMA25
namespace Go.V
open Go.Proofs
set_option maxRecDepth 100000
set_option linter.unusedSimpArgs false
set_option linter.unnecessarySimpa false
set_option linter.unusedVariables false
theorem ltS_empty (s : ByteArray) (h : s ≠ ByteArray.empty) : ltS ByteArray.empty s = true := by
  cases h1 : ltS ByteArray.empty s with
  | true => rfl
  | false =>
    cases h2 : ltS s ByteArray.empty with
    | true =>
      rw [ltS_eq] at h2
      have : (ByteArray.empty.data.toList : List UInt8) = [] := rfl
      rw [this] at h2
      simp at h2
    | false => exact absurd (ltS_tot h2 h1) h
theorem lookR_srt {ls : List LastT.den} (h : ls.Pairwise fun x y => ltS x.1 y.1 = true) (k : ByteArray) : lookR ls k = lookM .str (.int .u64) ls k := by
  induction ls with
  | nil => rfl
  | cons x r ih =>
    rw [List.pairwise_cons] at h
    have ih := ih h.2
    rw [lookR]
    unfold lookM at ih ⊢
    rw [List.find?_cons]
    by_cases h1 : x.1 = k
    · have e : Ty.beq .str x.1 k = true := by rw [beq_str]; simpa using h1
      rw [e]
      subst h1
      rw [ltS_irr]
      simp
    · have e : Ty.beq .str x.1 k = false := by rw [beq_str]; simpa using h1
      rw [e]
      by_cases h2 : ltS x.1 k = true
      · rw [if_pos h2, ih]
      · rw [if_neg h2, if_neg h1]
        have h3 : ltS k x.1 = true := by
          cases h4 : ltS k x.1 with
          | true => rfl
          | false => exact absurd (ltS_tot (by simpa using h2) h4) h1
        have hn : r.find? (fun e => Ty.beq .str e.1 k) = none := List.find?_eq_none.2 (fun y hy => by
          rw [beq_str]
          simp only [decide_eq_true_eq]
          intro e
          have := h.1 y hy
          rw [e, ltS_asy h3] at this
          cases this)
        rw [hn]
        rfl
theorem look_key {ls : List LastT.den} {n : Nat} (h : KeysOk ls n) {x : LastT.den} (hx : x ∈ ls) : lookM .str (.int .u64) ls x.1 = some x.2 := by
  rw [← lookR_srt h.srt]
  have hs := h.srt
  clear h
  induction ls with
  | nil => simp at hx
  | cons y r ih =>
    rw [List.pairwise_cons] at hs
    rcases List.mem_cons.1 hx with rfl | hx
    · rw [lookR, ltS_irr]; simp
    · rw [lookR, if_pos (hs.1 x hx)]
      exact ih hx hs.2
theorem look_mem {ls : List LastT.den} {k : ByteArray} {s : Int} (h : lookM .str (.int .u64) ls k = some s) : (k, s) ∈ ls := by
  unfold lookM at h
  cases hf : ls.find? (fun e => Ty.beq .str e.1 k) with
  | none => rw [hf] at h; cases h
  | some y =>
    rw [hf] at h
    have h1 := List.find?_some hf
    have h2 := List.mem_of_find?_eq_some hf
    simp only [beq_str, decide_eq_true_eq] at h1
    cases h
    subst h1
    exact h2
theorem sub1 (S : Int) (c : Nat) : S - ((c + 1 : Nat) : Int) + 1 = S - (c : Nat) := by omega
theorem serOk_all {ls : List LastT.den} : ∀ {l : List OutT.den}, serOk ls l = true ↔ ∀ (a : List OutT.den) (x : OutT.den) (r : List OutT.den), l = a ++ x :: r → (cntT x.1 r : Int) < (lookM .str (.int .u64) ls x.1).getD (0 : Int) ∧ x.2.2.1 = (lookM .str (.int .u64) ls x.1).getD (0 : Int) - (cntT x.1 r : Nat)
  | [] => by simp [serOk]
  | y :: l => by
    have e0 : cntT y.1 (y :: l) = cntT y.1 l + 1 := by rw [cntT, if_pos rfl]
    rw [serOk, Bool.and_eq_true, Bool.and_eq_true, serOk_all (l := l), decide_eq_true_eq, decide_eq_true_eq, e0]
    constructor
    · rintro ⟨⟨h1, h3⟩, h2⟩ a x r e
      cases a with
      | nil =>
        rw [List.nil_append] at e
        injection e with e1 e2
        subst e1 e2
        exact ⟨by omega, h3.trans (sub1 _ _)⟩
      | cons b a =>
        rw [List.cons_append] at e
        injection e with e1 e2
        exact h2 a x r e2
    · intro h
      have h1 := h [] y l rfl
      exact ⟨⟨by omega, h1.2.trans (sub1 _ _).symm⟩, fun a x r e => h (y :: a) x r (by rw [e]; rfl)⟩
end Go.V
namespace Go.V
open Go.Proofs
open Go.Maps
set_option maxRecDepth 100000
set_option linter.unusedSimpArgs false
set_option linter.unnecessarySimpa false
set_option linter.unusedVariables false
/-! ### what an outbox keeps: its bytes are it -/
structure Inv (o : ByteArray) (l : List OutT.den) (ls : List LastT.den) (B : Int) : Prop where
  ko : keyOk o = true
  keys : KeysOk ls ls.length
  m64 : ls.length ≤ 64
  l32 : l.length ≤ 32
  lets : ∀ x ∈ l, x.2.2.2.2.length ≤ 4 ∧ x.2.1 = o ∧ (lookM .str (.int .u64) ls x.1).getD (0 : Int) ≠ 0
  ser : serOk ls l = true
  bnd : ∀ x ∈ ls, x.2 ≤ B

theorem keyOk_size {s : ByteArray} (h : keyOk s = true) : 1 ≤ s.size ∧ s.size ≤ 40 := by
  rw [keyOk_eq] at h
  simpa using h
theorem keyOk_ne {s : ByteArray} (h : keyOk s = true) : s ≠ ByteArray.empty := by
  rintro rfl
  exact absurd h (by decide)
theorem Inv.new {o : ByteArray} (h : keyOk o = true) : Inv o [] [] 0 :=
  ⟨h, ⟨rfl, List.Pairwise.nil, fun x hx => by simp at hx⟩, by simp, by simp, fun x hx => by simp at hx, rfl, fun x hx => by simp at hx⟩
theorem Inv.mono {o : ByteArray} {l : List OutT.den} {ls : List LastT.den} {B B' : Int} (h : Inv o l ls B) (hB : B ≤ B') : Inv o l ls B' :=
  ⟨h.ko, h.keys, h.m64, h.l32, h.lets, h.ser, fun x hx => Int.le_trans (h.bnd x hx) hB⟩
theorem Inv.key {o : ByteArray} {l : List OutT.den} {ls : List LastT.den} {B : Int} (h : Inv o l ls B) {x : OutT.den} (hx : x ∈ l) : keyOk x.1 = true := by
  have h1 := (h.lets x hx).2.2
  cases hs : lookM .str (.int .u64) ls x.1 with
  | none => rw [hs] at h1; exact absurd rfl h1
  | some s => exact (h.keys.key _ (look_mem hs)).1
theorem Inv.pop {o : ByteArray} {x : OutT.den} {l : List OutT.den} {ls : List LastT.den} {B : Int} (h : Inv o (x :: l) ls B) : Inv o l ls B := by
  refine ⟨h.ko, h.keys, h.m64, ?_, fun y hy => h.lets y (List.mem_cons_of_mem _ hy), ?_, h.bnd⟩
  · have := h.l32
    simp only [List.length_cons] at this
    omega
  · have := h.ser
    rw [serOk, Bool.and_eq_true] at this
    exact this.2
theorem setR_mem {ls : List LastT.den} {to : ByteArray} {s : Int} {y : LastT.den} (h : y ∈ setR ls to s) : y = (to, s) ∨ y ∈ ls := by
  induction ls with
  | nil => simp only [setR, List.mem_singleton] at h; exact .inl h
  | cons x r ih =>
    rw [setR] at h
    split at h
    · rcases List.mem_cons.1 h with rfl | h
      · exact .inr (by simp)
      · rcases ih h with h | h
        · exact .inl h
        · exact .inr (List.mem_cons_of_mem _ h)
    · split at h
      · rcases List.mem_cons.1 h with h | h
        · exact .inl h
        · exact .inr (List.mem_cons_of_mem _ h)
      · rcases List.mem_cons.1 h with h | h
        · exact .inl h
        · exact .inr h
theorem setR_srt {ls : List LastT.den} {to : ByteArray} {s : Int} (h : ls.Pairwise fun x y => ltS x.1 y.1 = true) : (setR ls to s).Pairwise fun x y => ltS x.1 y.1 = true := by
  induction ls with
  | nil => exact List.pairwise_singleton _ _
  | cons x r ih =>
    rw [List.pairwise_cons] at h
    rw [setR]
    split
    · rename_i hc
      rw [List.pairwise_cons]
      refine ⟨fun y hy => ?_, ih h.2⟩
      rcases setR_mem hy with rfl | hy
      · exact hc
      · exact h.1 y hy
    · rename_i hc
      split
      · rename_i he
        rw [List.pairwise_cons]
        refine ⟨fun y hy => ?_, h.2⟩
        rw [← he]
        exact h.1 y hy
      · rename_i he
        have hlt : ltS to x.1 = true := by
          cases h4 : ltS to x.1 with
          | true => rfl
          | false => exact absurd (ltS_tot (by simpa using hc) h4) he
        rw [List.pairwise_cons, List.pairwise_cons]
        refine ⟨fun y hy => ?_, h⟩
        rcases List.mem_cons.1 hy with rfl | hy
        · exact hlt
        · exact ltS_trans hlt (h.1 y hy)
theorem there_lookM {ls : List LastT.den} (h : ls.Pairwise fun x y => ltS x.1 y.1 = true) (to : ByteArray) : thereL ls to = lookM .str (.int .u64) ls to := by
  rw [thereL_eq, lookR_srt h]
theorem sub2 (S s : Int) (c : Nat) (h : s = S + 1) : S - (c : Nat) = s - ((c + 1 : Nat) : Int) := by omega
theorem sub3 (v S : Int) (c : Nat) (h1 : (c : Int) < S) (h2 : v = S - (c : Nat)) (h3 : S ≤ 18446744073709551615) : 0 ≤ v ∧ v ≤ 18446744073709551615 := by omega
theorem Inv.send {o : ByteArray} {l : List OutT.den} {ls : List LastT.den} {B : Int} (h : Inv o l ls B) (hB : B ≤ 18446744073709551000) (hB0 : 0 ≤ B) {to : ByteArray} {xs : List Int} (hk : keyOk to = true) (hx : xs.length ≤ 4) (hl : l.length < 32) {s : Int} (hm : (setF ls to s).length ≤ 64) (kind : Int) (hs : s = IntKind.u64.wrap ((thereL ls to).getD (0 : Int) + 1)) :
    Inv o (l ++ [(to, o, s, kind, xs)]) (setF ls to s) (B + 1) := by
  have hS : 0 ≤ (thereL ls to).getD (0 : Int) ∧ (thereL ls to).getD (0 : Int) ≤ B := by
    rw [there_lookM h.keys.srt]
    cases hq : lookM .str (.int .u64) ls to with
    | none => exact ⟨Int.le_refl _, hB0⟩
    | some S =>
      have h1 := h.keys.key _ (look_mem hq)
      have h2 := h.bnd _ (look_mem hq)
      exact ⟨h1.2.2.1, h2⟩
  rw [wu64 (by omega)] at hs
  have hmem : ∀ y ∈ setF ls to s, y = (to, s) ∨ y ∈ ls := fun y hy => setR_mem (by rw [← setF_eq]; exact hy)
  have hsrt : (setF ls to s).Pairwise fun x y => ltS x.1 y.1 = true := by rw [setF_eq]; exact setR_srt h.keys.srt
  have hlk : ∀ k, lookM .str (.int .u64) (setF ls to s) k = if k = to then some s else lookM .str (.int .u64) ls k := fun k => by
    rw [← there_lookM hsrt, thereL_eq, setF_eq, lookR_set, lookR_srt h.keys.srt]
  refine ⟨h.ko, ⟨rfl, hsrt, fun y hy => ?_⟩, hm, by simp only [List.length_append, List.length_singleton]; omega, fun y hy => ?_, ?_, fun y hy => ?_⟩
  · rcases hmem y hy with rfl | hy
    · exact ⟨hk, by show s ≠ 0; omega, by show 0 ≤ s; omega, by show s ≤ _; omega⟩
    · exact h.keys.key y hy
  · rw [hlk]
    rcases List.mem_append.1 hy with hy | hy
    · have h1 := h.lets y hy
      refine ⟨h1.1, h1.2.1, ?_⟩
      split
      · show s ≠ 0; omega
      · exact h1.2.2
    · simp only [List.mem_singleton] at hy
      subst hy
      refine ⟨hx, rfl, ?_⟩
      rw [if_pos rfl]
      show s ≠ 0; omega
  · have hso := serOk_all.1 h.ser
    rw [serOk_all]
    intro a x r e
    rcases List.eq_nil_or_concat r with rfl | ⟨r', z, rfl⟩
    · have e1 := List.append_inj_right' e rfl
      simp only [List.cons.injEq, and_true] at e1
      subst e1
      rw [hlk, if_pos rfl]
      simp only [cntT, Option.getD_some]
      exact ⟨by show ((0 : Nat) : Int) < s; omega, by show s = s - ((0 : Nat) : Int); omega⟩
    · rw [List.concat_eq_append] at e ⊢
      have e' : l ++ [(to, o, s, kind, xs)] = (a ++ x :: r') ++ [z] := by rw [e]; simp
      have e1 := List.append_inj_left' e' rfl
      have e2 := List.append_inj_right' e' rfl
      simp only [List.cons.injEq, and_true] at e2
      subst e2
      have h1 := hso a x r' e1
      rw [cntT_snoc, hlk]
      by_cases hxt : x.1 = to
      · rw [if_pos hxt, if_pos hxt.symm]
        rw [hxt, ← there_lookM h.keys.srt] at h1
        simp only [Option.getD_some]
        rw [hxt]
        exact ⟨by omega, h1.2.trans (sub2 _ _ _ hs)⟩
      · rw [if_neg hxt, if_neg (Ne.symm hxt)]
        exact h1
  · rcases hmem y hy with rfl | hy
    · show s ≤ _; omega
    · exact Int.le_trans (h.bnd y hy) (by omega)

theorem Inv.ok {o : ByteArray} {l : List OutT.den} {ls : List LastT.den} {B : Int} (h : Inv o l ls B) (hr : rng l) : ∀ x ∈ l, okLet x.2 := by
  intro x hx
  have h1 := h.lets x hx
  obtain ⟨a, r, e⟩ := List.append_of_mem hx
  have h2 := serOk_all.1 h.ser a x r e
  have h3 : (lookM .str (.int .u64) ls x.1).getD (0 : Int) ≤ 18446744073709551615 := by
    cases hs : lookM .str (.int .u64) ls x.1 with
    | none => exact by decide
    | some s => exact (h.keys.key _ (look_mem hs)).2.2.2
  exact ⟨by rw [h1.2.1]; exact (keyOk_size h.ko).2, h1.1, sub3 _ _ _ h2.1 h2.2 h3, (hr x hx).1, (hr x hx).2⟩
theorem Inv.outOk {o : ByteArray} {l : List OutT.den} {ls : List LastT.den} {B : Int} (h : Inv o l ls B) : OutOk o l ls :=
  ⟨keyOk_ne h.ko, (keyOk_size h.ko).2, h.m64, fun y hy => (keyOk_size (h.keys.key y hy).1).2, h.l32, fun y hy => ⟨(keyOk_size (h.key hy)).2, by rw [(h.lets y hy).2.1]; exact (keyOk_size h.ko).2, (h.lets y hy).1⟩⟩

theorem keysN_enc {ls : List LastT.den} {n : Nat} (h : KeysOk ls n) (r : List UInt8) : ∀ i, i ≤ ls.length → keysN (some (lastsE ls ++ r)) i = some (ls.take i, some (lastsE (ls.drop i) ++ r))
  | 0, _ => by simp [keysN]
  | i + 1, hi => by
    rw [keysN, keysN_enc h r i (by omega)]
    have hlt : i < ls.length := by omega
    have hd : ls.drop i = ls[i] :: ls.drop (i + 1) := List.drop_eq_getElem_cons hlt
    have hx := h.key ls[i] (List.getElem_mem hlt)
    have e : lastsE (ls.drop i) ++ r = textB ls[i].1 ++ (numB ls[i].2 ++ (lastsE (ls.drop (i + 1)) ++ r)) := by
      rw [hd]; simp only [lastsE, List.flatMap_cons, List.append_assoc]
    rw [Option.bind_some, e]
    unfold keyStep
    simp only
    have hk40 := (keyOk_size hx.1).2
    rw [rdText_textB (by omega), rdNum_numB hx.2.2]
    have hlast : ltS (lastK (ls.take i)) ls[i].1 = true := by
      unfold lastK
      cases hl : (ls.take i).getLast? with
      | none => exact ltS_empty _ (keyOk_ne hx.1)
      | some y =>
        have hy : y ∈ ls.take i := List.mem_of_getLast? hl
        have hs := h.srt
        rw [← List.take_append_drop i ls, List.pairwise_append] at hs
        exact hs.2.2 y hy ls[i] (by rw [hd]; exact List.mem_cons_self)
    rw [if_neg (fun hh => by
      rcases hh with h9 | h9 | h9 | h9
      · cases h9
      · rw [hx.1] at h9; cases h9
      · exact hx.2.1 h9
      · rw [hlast] at h9; cases h9)]
    rw [← List.take_append_getElem hlt]
theorem outsN_enc {o : ByteArray} {l : List OutT.den} {ls : List LastT.den} {B : Int} (h : Inv o l ls B) (hr : rng l) (r : List UInt8) : ∀ i, i ≤ l.length → outsN o ls (some (outsE l ++ r)) i = some (l.take i, some (outsE (l.drop i) ++ r))
  | 0, _ => by simp [outsN]
  | i + 1, hi => by
    rw [outsN, outsN_enc h hr r i (by omega)]
    have hlt : i < l.length := by omega
    have hd : l.drop i = l[i] :: l.drop (i + 1) := List.drop_eq_getElem_cons hlt
    have hm := List.getElem_mem hlt
    have hx := h.ok hr _ hm
    have h1 := h.lets _ hm
    have hk := h.key hm
    have e : outsE (l.drop i) ++ r = textB l[i].1 ++ (textB ⟨(letB l[i].2).toArray⟩ ++ (outsE (l.drop (i + 1)) ++ r)) := by
      rw [hd]; simp only [outsE, List.flatMap_cons, List.append_assoc]
    rw [Option.bind_some, e]
    unfold outStep
    simp only
    have hk40 := (keyOk_size hk).2
    have hb := letB_length l[i].2
    have hbs : (⟨(letB l[i].2).toArray⟩ : ByteArray).size = (letB l[i].2).length := by show (letB l[i].2).toArray.size = _; simp
    have ho := (keyOk_size h.ko).2
    have hf : (l[i].2.1 : ByteArray).size ≤ 40 := by rw [h1.2.1]; exact ho
    have ha := h1.1
    rw [rdText_textB (by omega), rdText_textB (by rw [hbs]; omega)]
    have ed : decL (⟨(letB l[i].2).toArray⟩ : ByteArray).data.toList = some l[i].2 := decL_letB hx
    rw [ed]
    simp only
    rw [if_neg (fun hh => by
      rcases hh with h9 | h9 | h9
      · cases h9
      · exact h9 h1.2.1
      · exact h1.2.2 h9)]
    rw [← List.take_append_getElem hlt]
theorem dec_enc {o : ByteArray} {l : List OutT.den} {ls : List LastT.den} {B : Int} (h : Inv o l ls B) (hr : rng l) : decOut (outR o l ls) = some (o, l, ls) := by
  have hm := h.m64
  have hl := h.l32
  have e : outR o l ls = textB o ++ (numB ls.length ++ (lastsE ls ++ (numB l.length ++ (outsE l ++ [])))) := by unfold outR; simp
  unfold decOut
  rw [e]
  have ho := (keyOk_size h.ko).2
  rw [rdText_textB (by omega)]
  simp only
  rw [rdNum_numB (by omega)]
  simp only
  rw [if_neg (fun hh => by
    rcases hh with h9 | h9
    · rw [h.ko] at h9; cases h9
    · omega), Int.toNat_natCast, keysN_enc h.keys _ _ (Nat.le_refl _), List.take_length, List.drop_length]
  simp only [lastsE, List.flatMap_nil, List.nil_append]
  rw [rdNum_numB (by omega)]
  simp only
  rw [if_neg (by omega), Int.toNat_natCast, outsN_enc h hr _ _ (Nat.le_refl _), List.take_length, List.drop_length]
  simp only [outsE, List.flatMap_nil, List.nil_append]
  rw [if_pos ⟨h.ser, trivial⟩]

/-! ### the map's keys are the document's -/
theorem perm_of_sub {l1 l2 : List (List UInt8)} (h1 : l1.Nodup) (h2 : ∀ x ∈ l1, x ∈ l2) (h3 : l2.length ≤ l1.length) : l2.Perm l1 := by
  induction l1 generalizing l2 with
  | nil =>
    have : l2 = [] := List.eq_nil_of_length_eq_zero (by simpa using h3)
    subst this
    exact List.Perm.refl _
  | cons x r ih =>
    rw [List.nodup_cons] at h1
    have hx := h2 x (by simp)
    refine (List.perm_cons_erase hx).trans (List.Perm.cons _ (ih h1.2 (fun y hy => ?_) ?_))
    · exact (List.mem_erase_of_ne (fun e => h1.1 (by rw [← e]; exact hy))).2 (h2 y (List.mem_cons_of_mem _ hy))
    · rw [List.length_erase_of_mem hx]
      simp only [List.length_cons] at h3
      omega
theorem keys_perm {m : List (ByteArray × Int)} {ls : List LastT.den} {n : Nat} (hk : KeysOk ls n) (h : Rel m ls) : (keysB (vt := .int .u64) m).Perm (keysB (vt := .int .u64) ls) := by
  refine perm_of_sub ?_ (fun x hx => ?_) (by simp [keysB, h.1])
  · rw [List.Nodup, keysB, List.pairwise_map]
    refine hk.srt.imp fun {a b} hab e => ?_
    rw [ltS_eq, e, decide_eq_true_eq] at hab
    exact List.lt_irrefl _ hab
  · obtain ⟨y, hy, rfl⟩ := List.mem_map.1 hx
    refine List.mem_map.2 ⟨(y.1, y.2), look_mem ?_, rfl⟩
    rw [h.2, there_lookM hk.srt, look_key hk hy]
theorem srtK_of {m : List (ByteArray × Int)} {ls : List LastT.den} {n : Nat} (hk : KeysOk ls n) (h : Rel m ls) : srtK (vt := .int .u64) m = ls.map Prod.fst := by
  have h1 := keys_perm hk h
  unfold srtK
  rw [mergeSort_of_perm h1]
  have h2 : (keysB (vt := .int .u64) ls).mergeSort leB = keysB (vt := .int .u64) ls := by
    apply List.mergeSort_of_pairwise
    unfold keysB
    rw [List.pairwise_map]
    refine hk.srt.imp fun {a b} hab => ?_
    rw [ltS_eq, decide_eq_true_eq] at hab
    show decide (_ ≤ _) = true
    rw [decide_eq_true_eq]
    exact List.le_of_lt hab
  rw [h2]
  unfold keysB
  rw [List.map_map]
  refine List.map_congr_left fun x _ => ?_
  exact toList_toArrayB x.1
theorem keysE_of {m : List (ByteArray × Int)} {ls : List LastT.den} {n : Nat} (hk : KeysOk ls n) (h : Rel m ls) : keysE m (ls.map Prod.fst) = lastsE ls := by
  unfold keysE lastsE
  rw [List.flatMap_map]
  have : ∀ x ∈ ls, (lookM .str (.int .u64) m x.1).getD (0 : Int) = x.2 := fun x hx => by
    rw [h.2, there_lookM hk.srt, look_key hk hx]; rfl
  clear hk h
  induction ls with
  | nil => rfl
  | cons x r ih =>
    simp only [List.flatMap_cons]
    rw [this x (by simp), ih (fun y hy => this y (List.mem_cons_of_mem _ hy))]
theorem enc_rel {o : ByteArray} {l : List OutT.den} {m : List (ByteArray × Int)} {ls : List LastT.den} {n : Nat} (hk : KeysOk ls n) (h : Rel m ls) : outE o l m = outR o l ls := by
  unfold outE outR
  rw [srtK_of hk h, keysE_of hk h, h.1]
theorem Rel.self {ls : List LastT.den} {n : Nat} (hk : KeysOk ls n) : Rel ls ls := ⟨rfl, fun to => (there_lookM hk.srt to).symm⟩
theorem OutOk.rel {o : ByteArray} {l : List OutT.den} {m : List (ByteArray × Int)} {ls : List LastT.den} {n : Nat} (hk : KeysOk ls n) (h : Rel m ls) (ok : OutOk o l ls) : OutOk o l m :=
  ⟨ok.o0, ok.o40, by rw [h.1]; exact ok.m64, fun y hy => by
    have := (keys_perm hk h).mem_iff.1 (List.mem_map.2 ⟨y, hy, rfl⟩)
    obtain ⟨z, hz, e⟩ := List.mem_map.1 this
    rw [← ba_ext e]; exact ok.k40 z hz, ok.l32, ok.x40⟩
end Go.V
namespace Go.V
open Go.Proofs
set_option maxRecDepth 100000
set_option linter.unusedSimpArgs false
set_option linter.unnecessarySimpa false
set_option linter.unusedVariables false
/-! ### the journal -/
abbrev EvT : Ty := .pair (.int .i64) (.int .i64)
def jH (mv : Bool) (b : List Int) (ev : List EvT.den) (v : Int) : List SB := [.struct [.arr 8 (.int .i64) b, .own 1, .int .u64 v], .row mv 16 EvT ev]
def onJ (hp : List SB) (k : List Int → List EvT.den → Int → Prop) : Prop := ∃ b ev v, hp = jH false b ev v ∧ k b ev v
@[go_sem] theorem onJ_eq {b ev v k} : onJ [.struct [.arr 8 (.int .i64) (no_index b), .own 1, .int .u64 v], .row false 16 (.pair (.int .i64) (.int .i64)) (no_index ev)] k = k b ev v := by
  apply propext; constructor
  · rintro ⟨b', ev', v', h, hk⟩
    unfold jH at h
    cases h
    exact hk
  · exact fun h => ⟨b, ev, v, rfl, h⟩
theorem lt8_of {x : Int} (h : 7 < x) : ¬ x < 8 := by omega
theorem lt8_of2 {x : Int} (h : ¬ 7 < x) : x < 8 := by omega
theorem toNat_lt8 {x : Int} (h : 0 ≤ x ∧ x < 8) : x.toNat < 8 := by omega
@[go_sem] theorem flat_ev {p : Bool} : (p || Ty.flat (.pair (.int .i64) (.int .i64))) = true := by cases p <;> rfl
def okEv (e : EvT.den) : Bool := decide (0 ≤ e.1) && decide (e.1 < 8)
def appE (b : List Int) (ev : List EvT.den) : List Int := ev.foldl (fun b e => b.set e.1.toNat e.2) b
theorem appE_snoc (b : List Int) (ev : List EvT.den) (e : EvT.den) : appE b (ev ++ [e]) = (appE b ev).set e.1.toNat e.2 := by simp [appE]
theorem appE_length (b : List Int) (ev : List EvT.den) : (appE b ev).length = b.length := by
  induction ev generalizing b with
  | nil => rfl
  | cons e r ih => show (appE (b.set e.1.toNat e.2) r).length = _; rw [ih]; simp

def C72 : Contract := fun args hp K => match args, hp with
  | [], [] => K (.ptr 0 0) (jH true (List.replicate 8 0) [] 0)
  | _, _ => False
theorem s72 : Sound Tryz.prog 72 C72 := by
  refine sound_of_okF ok72 (Γ := []) .nil ?_
  intro args hp K h
  unfold C72 at h
  split at h
  · refine ⟨by simp, [], ?_⟩
    unfold jH at h
    simp (maxSteps := 2000000) only [a72, r72, go_sem, Nat.le_refl, Nat.reduceLeDiff, Nat.reduceSub, Nat.reduceMul, Nat.reduceBEq, Nat.reduceAdd]
    exact h
  · exact h.elim
/-- Clone of events -/
def C114 : Contract := fun args hp K => match args, hp with
  | [.vw 0 a b 2], [.row false 16 (.pair (.int .i64) (.int .i64)) xs] => K (.own 1) [.row false 16 EvT xs, .row true 16 EvT ((xs.drop a).take (b - a))]
  | _, _ => False
theorem s114 : Sound Tryz.prog 114 C114 := by
  refine sound_of_okF ok114 (Γ := []) .nil ?_
  intro args hp K h
  unfold C114 at h
  split at h
  · rename_i a b xs
    refine ⟨by simp, [], ?_⟩
    simp (maxSteps := 2000000) only [a114, r114, go_sem, eq_self, Nat.reduceLeDiff, Nat.reduceMul, Nat.reduceBEq, Nat.reduceAdd]
    intro c hc
    refine sw_intro (fun hb => ?_) (fun _ => ⟨id, fun _ => h⟩)
    rw [hc hb] at h
    exact h
  · exact h.elim
/-- .. is an event's register none? -/
def C86 : Contract := fun args hp K => match args, hp with
  | [.agg [.int .i64 r, .int .i64 v]], [] => K (.bool (!okEv (r, v))) []
  | _, _ => False
theorem s86 : Sound Tryz.prog 86 C86 := by
  refine sound_of_okF ok86 (Γ := []) .nil ?_
  intro args hp K h
  unfold C86 at h
  split at h
  · rename_i r v
    refine ⟨by simp, [], ?_⟩
    simp (maxSteps := 2000000) only [a86, r86, go_sem, Nat.reduceBEq]
    unfold okEv at h
    rintro c rfl
    refine sw_intro (fun hb => ?_) (fun hb => ?_) <;> simp only [decide_eq_true_eq, decide_eq_false_iff_not] at hb
    · rw [decide_eq_false (p := 0 ≤ (r, v).1) (by simp only; omega)] at h
      exact h
    · rintro c rfl
      rw [decide_eq_true (p := 0 ≤ (r, v).1) (by simp only; omega)] at h
      by_cases h8 : 8 ≤ r
      · rw [decide_eq_true h8]
        rw [decide_eq_false (p := (r, v).1 < 8) (by simp only; omega)] at h
        exact h
      · rw [decide_eq_false h8]
        rw [decide_eq_true (p := (r, v).1 < 8) (by simp only; omega)] at h
        exact h
  · exact h.elim
def C113 : Contract := fun args hp K => match args, hp with
  | [.sl p 16 (.pair (.int .i64) (.int .i64)) ev, .fn 86 []], [] => ∀ m : Int, ((ev : List EvT.den).all okEv = true → m = -1) → (ev.all okEv = false → 0 ≤ m) → K (.int .i64 m) []
  | _, _ => False
def L113 (p : Bool) (ev : List EvT.den) : LoopAnn := { G := Nat, I := fun i => ⟨[(0, .sl p 16 EvT ev), (1, .fn 86 []), (7, .int .i64 ev.length), (8, .int .i64 i)], []⟩, R := fun _ i => i ≤ ev.length ∧ (ev.take i).all okEv = true, μ := fun i => ev.length - i }
theorem L113_I {p ev} (i : Nat) : (L113 p ev).I i = ⟨[(0, .sl p 16 EvT ev), (1, .fn 86 []), (7, .int .i64 ev.length), (8, .int .i64 i)], []⟩ := rfl
theorem s113 : Sound Tryz.prog 113 C113 := by
  refine sound_of_okF ok113 (Γ := [(86, C86)]) (.cons s86 (callable_of_okF ok86) .nil) ?_
  intro args hp K h
  unfold C113 at h
  split at h
  · rename_i p ev
    refine ⟨by simp, [(1, L113 p ev)], ?_⟩
    simp (maxSteps := 2000000) only [a113, r113, go_sem, Int.reduceNeg, Nat.reduceBEq, Nat.reduceAdd]
    rintro _ _ n rfl
    refine loop_intro (A := L113 p ev) (0 : Nat) ?_ ⟨Nat.zero_le _, by simp⟩ ?_
    · simp (maxSteps := 2000000) only [L113_I, go_sem, Nat.reduceBEq]
      rfl
    · intro (i : Nat) (hi : i ≤ ev.length ∧ (ev.take i).all okEv = true)
      obtain ⟨hi, ha⟩ := hi
      simp (maxSteps := 2000000) only [L113_I, C86, go_sem, eq_self, Nat.le_refl, Int.natCast_nonneg, Int.ofNat_lt, Int.reduceNeg, Nat.reduceLeDiff, Nat.reduceSub, Nat.reduceBEq, Nat.reduceAdd]
      have := maxLen_val
      rintro c rfl
      refine sw_intro (fun hc => ?_) (fun hc => ?_) <;> simp only [decide_eq_true_eq, decide_eq_false_iff_not] at hc
      · refine nd_intro hc (sw_intro (fun hb => ?_) (fun hb => ?_))
        · rintro _ _ m hm
          rw [w64 (by omega)] at hm
          subst hm
          refine lpE_intro (A := L113 p ev) (i + 1 : Nat) ?_ ⟨hc, ?_⟩ (by show ev.length - (i + 1) < ev.length - i; omega)
          · simp (maxSteps := 2000000) only [L113_I, go_sem, Nat.reduceBEq]
            rfl
          · rw [← take_elt (t := EvT) hc, List.all_append, ha]
            simpa using hb
        · refine h _ (fun hall => ?_) (fun _ => by omega)
          have := List.all_eq_true.1 hall _ (List.mem_of_getElem? (elt_get (t := EvT) hc))
          rw [show okEv (elt EvT ev i) = okEv ((elt EvT ev i).1, (elt EvT ev i).2) from rfl, hb] at this
          cases this
      · obtain rfl : i = ev.length := by omega
        rw [List.take_length] at ha
        exact h _ (fun _ => rfl) (fun hf => by rw [ha] at hf; cases hf)
  · exact h.elim
def C85 : Contract := fun args hp K => match args, hp with
  | [.sl p 16 (.pair (.int .i64) (.int .i64)) ev, .fn 86 []], [] => K (.bool (!(ev : List EvT.den).all okEv)) []
  | _, _ => False
theorem s85 : Sound Tryz.prog 85 C85 := by
  refine sound_of_okF ok85 (Γ := [(113, C113)]) (.cons s113 (callable_of_okF ok113) .nil) ?_
  intro args hp K h
  unfold C85 at h
  split at h
  · rename_i p ev
    refine ⟨by simp, [], ?_⟩
    simp (maxSteps := 2000000) only [a85, r85, C113, go_sem, eq_self, Int.reduceNeg, Nat.reduceBEq, Nat.reduceAdd]
    rintro m h1 h2 c rfl
    cases ha : ev.all okEv with
    | true =>
      rw [ha] at h
      rw [h1 ha]
      exact h
    | false =>
      rw [ha] at h
      have := h2 ha
      rw [decide_eq_true this]
      exact h
  · exact h.elim

/-- fold -/
def C87 : Contract := fun args hp K => match args with
  | [.ptr 0 0, .int .i64 n] => onJ hp fun b ev v => (0 ≤ n ∧ n ≤ ev.length) ∧ b.length = 8 ∧ ev.all okEv = true ∧ K (.tup []) (jH true (appE b (ev.take n.toNat)) (ev.drop n.toNat) v)
  | _ => False
def L87 (b : List Int) (ev : List EvT.den) (v : Int) (n : Nat) : LoopAnn := { G := Nat, I := fun i => ⟨[(0, .ptr 0 0), (1, .int .i64 n), (11, .vw 1 0 n 2), (12, .int .i64 n), (13, .int .i64 i)], [.struct [.arr 8 (.int .i64) (appE b (ev.take i)), .own 1, .int .u64 v], .row false 16 EvT ev]⟩, R := fun _ i => i ≤ n, μ := fun i => n - i }
theorem L87_I {b ev v n} (i : Nat) : (L87 b ev v n).I i = ⟨[(0, .ptr 0 0), (1, .int .i64 n), (11, .vw 1 0 n 2), (12, .int .i64 n), (13, .int .i64 i)], [.struct [.arr 8 (.int .i64) (appE b (ev.take i)), .own 1, .int .u64 v], .row false 16 EvT ev]⟩ := rfl
theorem s87 : Sound Tryz.prog 87 C87 := by
  refine sound_of_okF ok87 (Γ := [(114, C114)]) (.cons s114 (callable_of_okF ok114) .nil) ?_
  intro args hp K h
  unfold C87 at h
  split at h
  · rename_i n
    obtain ⟨b, ev, v, rfl, hn, hb, hok, h⟩ := h
    refine ⟨by simp, [(1, L87 b ev v n.toNat)], ?_⟩
    unfold jH at h ⊢
    simp (maxSteps := 2000000) only [a87, r87, go_sem, eq_self, Int.le_refl, Nat.le_refl, Int.reduceToNat, Nat.reduceSub, Nat.reduceMul, Nat.reduceBEq, Nat.reduceAdd]
    refine nd_intro hn ?_
    obtain ⟨n, rfl⟩ := Int.eq_ofNat_of_zero_le hn.1
    simp only [Int.toNat_natCast, Nat.sub_zero] at h ⊢
    have hl : (List.take n ev).length = n := by rw [List.length_take]; omega
    rw [hl]
    rintro _ _ m rfl
    refine loop_intro (A := L87 b ev v n) (0 : Nat) ?_ (Nat.zero_le _) ?_
    · simp (maxSteps := 2000000) only [L87_I, go_sem, Nat.reduceBEq]
      rfl
    · intro (i : Nat) (hi : i ≤ n)
      simp (maxSteps := 2000000) only [L87_I, C114, go_sem, eq_self, and_self, Int.le_refl, Nat.le_refl, Int.natCast_nonneg, Int.ofNat_lt, Int.ofNat_le, Nat.reduceLeDiff, Nat.reduceSub, Nat.reduceMul, Nat.reduceLT, Nat.reduceBEq, Nat.reduceAdd]
      have := maxLen_val
      rintro c rfl
      refine sw_intro (fun hc => ?_) (fun hc => ?_) <;> simp only [decide_eq_true_eq, decide_eq_false_iff_not] at hc
      · have hlt : i < ev.length := by omega
        have hx : okEv (elt EvT ev i) = true := List.all_eq_true.1 hok _ (List.mem_of_getElem? (elt_get (t := EvT) hlt))
        unfold okEv at hx
        simp only [Bool.and_eq_true, decide_eq_true_eq] at hx
        refine nd_intro ⟨by omega, by omega⟩ (nd_intro hlt (nd_intro hx (nd_intro (toNat_lt8 hx) ?_)))
        rintro _ _ m hm
        rw [w64 (by omega)] at hm
        subst hm
        refine lpE_intro (A := L87 b ev v n) (i + 1 : Nat) ?_ hc (by show n - (i + 1) < n - i; omega)
        simp (maxSteps := 2000000) only [L87_I, go_sem, Nat.reduceBEq]
        rw [← take_elt (t := EvT) hlt, appE_snoc]
        rfl
      · obtain rfl : i = n := by omega
        refine nd_intro (by omega) ?_
        rw [List.take_of_length_le (l := ev.drop i) (by rw [List.length_drop]; exact Nat.le_refl _)]
        exact h
  · exact h.elim
/-- The journal behind more events. -/
def jAdd (b : List Int) (ev l : List EvT.den) : List Int × List EvT.den := (appE b ((ev ++ l).take ((ev ++ l).length - 16)), (ev ++ l).drop ((ev ++ l).length - 16))
/-- Add -/
def C26 : Contract := fun args hp K => match args with
  | [.ptr 0 0, .sl p 16 (.pair (.int .i64) (.int .i64)) l] => onJ hp fun b ev v => b.length = 8 ∧ ev.all okEv = true ∧ ev.length ≤ 16 ∧ l.length ≤ 1000000 ∧
      ((l : List EvT.den).all okEv = false → K (.int .i64 3) hp) ∧
      ((l : List EvT.den).all okEv = true → K (.int .i64 0) (jH true (jAdd b ev l).1 (jAdd b ev l).2 (IntKind.u64.wrap (v + (l.length : Nat)))))
  | _ => False
theorem s26 : Sound Tryz.prog 26 C26 := by
  refine sound_of_okF ok26 (Γ := [(85, C85), (87, C87)]) (.cons s85 (callable_of_okF ok85) (.cons s87 (callable_of_okF ok87) .nil)) ?_
  intro args hp K h
  unfold C26 at h
  split at h
  · rename_i p l
    obtain ⟨b, ev, v, rfl, hb, hok, hl, hl2, h1, h2⟩ := h
    refine ⟨by simp, [], ?_⟩
    unfold jH at h1 h2 ⊢
    simp (maxSteps := 2000000) only [a26, r26, C85, C87, jH, go_sem, eq_self, Nat.le_refl, Nat.reduceLeDiff, Nat.reduceSub, Nat.reduceMul, Nat.reduceLT, Nat.reduceBEq, Nat.reduceAdd]
    have := maxLen_val
    refine sw_intro (fun ha => ⟨fun _ _ => by omega, ?_⟩) (fun ha => h1 ha)
    rintro _ _ _ m rfl _ m1 hm1 _ _ m2 hm2 _ _ m3 rfl _ _ m4 hm4 m5 hm5
    rw [wu64 (by omega)] at hm1
    subst hm1
    have hlen : (ev ++ l).length = ev.length + l.length := List.length_append
    rw [hlen] at hm4
    rw [w64 (by omega)] at hm4
    have hm5' : m5 = ((ev.length + l.length - 16 : Nat) : Int) := by
      rw [hm5, hm4]; split <;> omega
    subst hm5'
    refine ⟨⟨by omega, by rw [hlen]; omega⟩, hb, by rw [List.all_append, hok, ha]; rfl, ?_⟩
    have h2 := h2 ha
    unfold jAdd at h2
    rw [hlen] at h2
    rw [hm2, Int.toNat_natCast]
    exact h2
  · exact h.elim
/-- drop -/
def C88 : Contract := fun args hp K => match args with
  | [.ptr 0 0] => onJ hp fun b ev v => b.length = 8 ∧ ∃ x r, ev = x :: r ∧ okEv x = true ∧ K (.tup []) (jH true (b.set x.1.toNat x.2) r v)
  | _ => False
theorem s88 : Sound Tryz.prog 88 C88 := by
  refine sound_of_okF ok88 (Γ := []) .nil ?_
  intro args hp K h
  unfold C88 at h
  split at h
  · obtain ⟨b, ev, v, rfl, hb, x, r, rfl, hx, h⟩ := h
    refine ⟨by simp, [], ?_⟩
    unfold jH at h ⊢
    simp (maxSteps := 2000000) only [a88, r88, go_sem, eq_self, Int.natCast_pos, Int.le_refl, Nat.le_refl, Int.reduceLE, Int.reduceToNat, Nat.reduceLeDiff, Nat.reduceSub, Nat.reduceMul, Nat.reduceBEq, Nat.reduceAdd]
    have e0 : elt EvT (x :: r) 0 = x := rfl
    have hx2 := hx
    unfold okEv at hx2
    simp only [Bool.and_eq_true, decide_eq_true_eq] at hx2
    rw [e0]
    refine nd_intro (by omega) (nd_intro hx2 (nd_intro (toNat_lt8 hx2) (nd_intro (by omega) ⟨id, fun _ => ?_⟩)))
    rw [List.take_of_length_le (by omega)]
    exact h
  · exact h.elim
theorem jAdd_step (b : List Int) (ev l : List EvT.den) (x : EvT.den) (h : ev.length ≤ 16) : 
    (((jAdd b ev l).2 ++ [x]).length ≤ 16 → jAdd b ev (l ++ [x]) = ((jAdd b ev l).1, (jAdd b ev l).2 ++ [x])) ∧
    (16 < ((jAdd b ev l).2 ++ [x]).length → ∃ y r, (jAdd b ev l).2 ++ [x] = y :: r ∧ jAdd b ev (l ++ [x]) = ((jAdd b ev l).1.set y.1.toNat y.2, r)) := by
  unfold jAdd
  simp only [← List.append_assoc]
  generalize hE : ev ++ l = E
  have hd : (E.drop (E.length - 16) ++ [x]) = (E ++ [x]).drop (E.length - 16) := by
    rw [List.drop_append_of_le_length (by omega)]
  have ht : E.take (E.length - 16) = (E ++ [x]).take (E.length - 16) := by
    rw [List.take_append_of_le_length (by omega)]
  have hl : (E ++ [x]).length = E.length + 1 := by simp
  rw [hd, ht]
  generalize hF : E ++ [x] = F at *
  refine ⟨fun h => ?_, fun h => ?_⟩
  · rw [List.length_drop] at h
    have e : F.length - 16 = E.length - 16 := by omega
    rw [e]
  · rw [List.length_drop] at h
    have e : F.length - 16 = E.length - 16 + 1 := by omega
    have hlt : E.length - 16 < F.length := by omega
    refine ⟨F[E.length - 16], F.drop (E.length - 16 + 1), List.drop_eq_getElem_cons hlt, ?_⟩
    rw [e, ← List.take_append_getElem hlt, appE_snoc]
theorem jAdd_len (b : List Int) (ev l : List EvT.den) : (jAdd b ev l).2.length ≤ 16 ∧ (jAdd b ev l).1.length = b.length := by
  unfold jAdd
  refine ⟨?_, appE_length _ _⟩
  simp only [List.length_drop]; omega
theorem jAdd_ok {b : List Int} {ev l : List EvT.den} (h1 : ev.all okEv = true) (h2 : l.all okEv = true) : (jAdd b ev l).2.all okEv = true := by
  unfold jAdd
  rw [List.all_eq_true] at *
  intro x hx
  rcases List.mem_append.1 (List.mem_of_mem_drop hx) with h | h
  · exact h1 x h
  · exact h2 x h
theorem jAdd_nil (b : List Int) (ev : List EvT.den) (h : ev.length ≤ 16) : jAdd b ev [] = (b, ev) := by
  unfold jAdd
  rw [List.append_nil, show ev.length - 16 = 0 by omega]
  rfl
/-- Add, of the document -/
def C27 : Contract := fun args hp K => match args with
  | [.ptr 0 0, .sl p 16 (.pair (.int .i64) (.int .i64)) l] => onJ hp fun b ev v => b.length = 8 ∧ ev.all okEv = true ∧ ev.length ≤ 16 ∧ (0 ≤ v ∧ v + l.length ≤ 18446744073709551615) ∧
      ((l : List EvT.den).all okEv = false → K (.int .i64 3) hp) ∧
      ((l : List EvT.den).all okEv = true → K (.int .i64 0) (jH true (jAdd b ev l).1 (jAdd b ev l).2 (v + (l.length : Nat))))
  | _ => False
def L27 (p : Bool) (l : List EvT.den) (b : List Int) (ev : List EvT.den) (v : Int) : LoopAnn := { G := Nat, I := fun i => ⟨[(0, .ptr 0 0), (1, .sl p 16 EvT l), (8, .int .i64 l.length), (9, .int .i64 i)], jH false b ev v⟩, R := fun _ i => i ≤ l.length ∧ (l.take i).all okEv = true, μ := fun i => l.length - i }
theorem L27_I {p l b ev v} (i : Nat) : (L27 p l b ev v).I i = ⟨[(0, .ptr 0 0), (1, .sl p 16 EvT l), (8, .int .i64 l.length), (9, .int .i64 i)], jH false b ev v⟩ := rfl
def M27 (p : Bool) (l : List EvT.den) (b : List Int) (ev : List EvT.den) (v : Int) : LoopAnn := { G := Nat, I := fun i => ⟨[(0, .ptr 0 0), (1, .sl p 16 EvT l), (28, .int .i64 l.length), (29, .int .i64 i)], jH true (jAdd b ev (l.take i)).1 (jAdd b ev (l.take i)).2 (v + (i : Nat))⟩, R := fun _ i => i ≤ l.length, μ := fun i => l.length - i }
theorem M27_I {p l b ev v} (i : Nat) : (M27 p l b ev v).I i = ⟨[(0, .ptr 0 0), (1, .sl p 16 EvT l), (28, .int .i64 l.length), (29, .int .i64 i)], jH true (jAdd b ev (l.take i)).1 (jAdd b ev (l.take i)).2 (v + (i : Nat))⟩ := rfl
theorem s27 : Sound Tryz.prog 27 C27 := by
  refine sound_of_okF ok27 (Γ := [(88, C88)]) (.cons s88 (callable_of_okF ok88) .nil) ?_
  intro args hp K h
  unfold C27 at h
  split at h
  · rename_i p l
    obtain ⟨b, ev, v, rfl, hb, hok, hl, hv, h1, h2⟩ := h
    refine ⟨by simp, [(1, L27 p l b ev v), (2, M27 p l b ev v)], ?_⟩
    unfold jH at h1 h2 ⊢
    simp (maxSteps := 2000000) only [a27, r27, go_sem, Nat.le_refl, Nat.reduceSub, Nat.reduceMul, Nat.reduceBEq, Nat.reduceAdd]
    have := maxLen_val
    rintro _ _ m rfl
    refine loop_intro (A := L27 p l b ev v) (0 : Nat) ?_ ⟨Nat.zero_le _, by simp⟩ ?_
    · simp (maxSteps := 2000000) only [L27_I, jH, go_sem, Nat.reduceBEq]
      rfl
    · intro (i : Nat) (hi : i ≤ l.length ∧ (l.take i).all okEv = true)
      obtain ⟨hi, ha⟩ := hi
      simp (maxSteps := 2000000) only [L27_I, jH, go_sem, eq_self, Nat.le_refl, Int.natCast_nonneg, Int.ofNat_lt, Nat.reduceSub, Nat.reduceMul, Nat.reduceBEq, Nat.reduceAdd]
      rintro c rfl
      refine sw_intro (fun hc => ?_) (fun hc => ?_) <;> simp only [decide_eq_true_eq, decide_eq_false_iff_not] at hc
      · have hx : (elt EvT l i) ∈ l := List.mem_of_getElem? (elt_get (t := EvT) hc)
        have bad : okEv (elt EvT l i) = false → l.all okEv = false := fun hb => by
          cases ht : l.all okEv with
          | false => rfl
          | true => rw [List.all_eq_true.1 ht _ hx] at hb; cases hb
        refine nd_intro hc ?_
        rintro c rfl
        refine sw_intro (fun h0 => ?_) (fun h0 => ?_) <;> simp only [decide_eq_true_eq, decide_eq_false_iff_not] at h0
        · exact h1 (bad (by unfold okEv; rw [decide_eq_false (p := 0 ≤ (elt EvT l i).1) (fun hh => Int.not_lt.2 hh h0)]; rfl))
        · refine nd_intro hc ?_
          rintro c rfl
          refine sw_intro (fun h7 => ?_) (fun h7 => ?_) <;> simp only [decide_eq_true_eq, decide_eq_false_iff_not] at h7
          · exact h1 (bad (by unfold okEv; rw [decide_eq_false (p := (elt EvT l i).1 < 8) (lt8_of h7)]; simp))
          · rintro _ _ m hm
            rw [w64 (by omega)] at hm
            subst hm
            refine lpE_intro (A := L27 p l b ev v) (i + 1 : Nat) ?_ ⟨hc, ?_⟩ (by show l.length - (i + 1) < l.length - i; omega)
            · simp (maxSteps := 2000000) only [L27_I, jH, go_sem, Nat.reduceBEq]
              rfl
            · rw [← take_elt (t := EvT) hc, List.all_append, ha]
              have : okEv (elt EvT l i) = true := by
                unfold okEv
                rw [decide_eq_true (p := 0 ≤ (elt EvT l i).1) (Int.not_lt.1 h0), decide_eq_true (p := (elt EvT l i).1 < 8) (lt8_of2 h7)]
                rfl
              simp [this]
      · obtain rfl : i = l.length := by omega
        rw [List.take_length] at ha
        have h2 := h2 ha
        rintro _ _ m rfl
        refine loop_intro (A := M27 p l b ev v) (0 : Nat) ?_ (Nat.zero_le _) ?_
        · simp (maxSteps := 2000000) only [M27_I, jH, go_sem, Nat.reduceBEq]
          rw [List.take_zero, jAdd_nil b ev hl]
          rw [show v + ((0 : Nat) : Int) = v by omega]
          rfl
        · intro (i : Nat) (hi : i ≤ l.length)
          simp (maxSteps := 2000000) only [M27_I, jH, C88, go_sem, eq_self, and_self, Nat.le_refl, Int.natCast_nonneg, Int.ofNat_lt, Nat.reduceLeDiff, Nat.reduceSub, Nat.reduceMul, Nat.reduceLT, Nat.reduceBEq, Nat.reduceAdd]
          rintro c rfl
          refine sw_intro (fun hc => ?_) (fun hc => ?_) <;> simp only [decide_eq_true_eq, decide_eq_false_iff_not] at hc
          · have jl := jAdd_len b ev (l.take i)
            have st := jAdd_step b ev (l.take i) (elt EvT l i) hl
            rw [take_elt (t := EvT) hc] at st
            have hxs : ((elt EvT l i).1, (elt EvT l i).2) = elt EvT l i := rfl
            rw [hxs]
            generalize elt EvT l i = x at *
            have hok2 := jAdd_ok (b := b) (l := l.take (i + 1)) hok (by rw [List.all_eq_true] at *; exact fun y hy => ha y (List.mem_of_mem_take hy))
            have hokx := jAdd_ok (b := b) (l := l.take i) hok (by rw [List.all_eq_true] at *; exact fun y hy => ha y (List.mem_of_mem_take hy))
            generalize hJ : jAdd b ev (l.take i) = J at *
            have hJ1 : (J.2 ++ [x]).length = J.2.length + 1 := by simp
            have hjl := jl.1
            refine nd_intro hc ⟨fun _ => by omega, ?_⟩
            rintro _ _ _ m hm _ _ m1 rfl c rfl
            rw [wu64 (by omega)] at hm
            subst hm
            have ev2 : v + (i : Int) + 1 = v + ((i + 1 : Nat) : Int) := by omega
            refine sw_intro (fun hg => ?_) (fun hg => ?_) <;> simp only [decide_eq_true_eq, decide_eq_false_iff_not] at hg
            · obtain ⟨y, r, hy, hj⟩ := st.2 (by omega)
              refine ⟨by rw [jl.2, hb], y, r, hy, ?_, ?_⟩
              · have hm : y ∈ J.2 ++ [x] := by rw [hy]; exact List.mem_cons_self
                have hne : J.2 ≠ [] := fun h9 => by have h8 : J.2.length = 0 := by rw [h9]; rfl
                                                    omega
                obtain ⟨z, r2, hz⟩ := List.exists_cons_of_ne_nil hne
                rw [hz, List.cons_append] at hy
                injection hy with hy1 _
                rw [← hy1]
                exact List.all_eq_true.1 hokx z (by rw [hz]; exact List.mem_cons_self)
              · rintro _ _ m hm
                rw [w64 (by omega)] at hm
                subst hm
                refine lpE_intro (A := M27 p l b ev v) (i + 1 : Nat) ?_ hc (by show l.length - (i + 1) < l.length - i; omega)
                simp (maxSteps := 2000000) only [M27_I, jH, go_sem, Nat.reduceBEq]
                rw [hj, ev2]
                rfl
            · have hj := st.1 (by omega)
              rintro _ _ m hm
              rw [w64 (by omega)] at hm
              subst hm
              refine lpE_intro (A := M27 p l b ev v) (i + 1 : Nat) ?_ hc (by show l.length - (i + 1) < l.length - i; omega)
              simp (maxSteps := 2000000) only [M27_I, jH, go_sem, Nat.reduceBEq]
              rw [hj, ev2]
              rfl
          · obtain rfl : i = l.length := by omega
            rw [List.take_length]
            exact h2
  · exact h.elim
end Go.V
namespace Go.V
open Go.Proofs
set_option maxRecDepth 100000
set_option linter.unusedSimpArgs false
set_option linter.unnecessarySimpa false
set_option linter.unusedVariables false
theorem lt8_le {x : Int} (h : x < 8) : x ≤ 8 := by omega
def evsB (ev : List EvT.den) : List UInt8 := ev.flatMap fun e => numB e.1 ++ numB (zig e.2)
def jB (b : List Int) (ev : List EvT.den) (v : Int) : List UInt8 := numB v ++ intsB b ++ numB ev.length ++ evsB ev
theorem evsB_snoc (ev : List EvT.den) (e : EvT.den) : evsB (ev ++ [e]) = evsB ev ++ numB e.1 ++ numB (zig e.2) := by simp [evsB]
theorem evsB_length (ev : List EvT.den) : (evsB ev).length ≤ 18 * ev.length := by
  induction ev with
  | nil => simp [evsB]
  | cons x r ih =>
    have h1 := (numB_length x.1).2
    have h2 := (numB_length (zig x.2)).2
    simp only [evsB, List.flatMap_cons, List.length_append, List.length_cons] at ih ⊢
    omega
theorem jB_length (b : List Int) (ev : List EvT.den) (v : Int) : (jB b ev v).length ≤ 18 + 9 * b.length + 18 * ev.length := by
  have h1 := (numB_length v).2
  have h2 := intsB_length b
  have h3 := (numB_length (ev.length : Int)).2
  have h4 := evsB_length ev
  simp only [jB, List.length_append]; omega
def rngJ (b : List Int) (ev : List EvT.den) : Prop := inI b ∧ ∀ e ∈ ev, in64 e.2
/-- Encode -/
def C60 : Contract := fun args hp K => match args with
  | [.ptr 0 0] => onJ hp fun b ev v => b.length = 8 ∧ ev.all okEv = true ∧ ev.length ≤ 16 ∧ (rngJ b ev → K (.own 2) (jH false b ev v ++ [.row true 1 .byte (jB b ev v)]))
  | _ => False
def L60 (b : List Int) (ev : List EvT.den) (v : Int) : LoopAnn := { G := Nat, I := fun i => ⟨[(0, .ptr 0 0), (3, .ptr 2 0), (20, .agg [.arr 8 (.int .i64) b]), (21, .int .i64 i)], jH false b ev v ++ [.struct [.own 3], .row true 1 .byte (numB v ++ intsB (b.take i))]⟩, R := fun _ i => i ≤ 8 ∧ inI (b.take i), μ := fun i => 8 - i }
theorem L60_I {b ev v} (i : Nat) : (L60 b ev v).I i = ⟨[(0, .ptr 0 0), (3, .ptr 2 0), (20, .agg [.arr 8 (.int .i64) b]), (21, .int .i64 i)], jH false b ev v ++ [.struct [.own 3], .row true 1 .byte (numB v ++ intsB (b.take i))]⟩ := rfl
def M60 (b : List Int) (ev : List EvT.den) (v : Int) : LoopAnn := { G := Nat, I := fun i => ⟨[(3, .ptr 2 0), (39, .own 1), (40, .int .i64 ev.length), (41, .int .i64 i)], jH false b ev v ++ [.struct [.own 3], .row true 1 .byte (numB v ++ intsB b ++ numB ev.length ++ evsB (ev.take i))]⟩, R := fun _ i => i ≤ ev.length ∧ ∀ e ∈ ev.take i, in64 e.2, μ := fun i => ev.length - i }
theorem M60_I {b ev v} (i : Nat) : (M60 b ev v).I i = ⟨[(3, .ptr 2 0), (39, .own 1), (40, .int .i64 ev.length), (41, .int .i64 i)], jH false b ev v ++ [.struct [.own 3], .row true 1 .byte (numB v ++ intsB b ++ numB ev.length ++ evsB (ev.take i))]⟩ := rfl
theorem s60 : Sound Tryz.prog 60 C60 := by
  refine sound_of_okF ok60 (Γ := [(58, C58), (59, C59), (108, C108), (63, C63)]) (.cons s58 (callable_of_okF ok58) (.cons s59 (callable_of_okF ok59) (.cons s108 (callable_of_okF ok108) (.cons s63 (callable_of_okF ok63) .nil)))) ?_
  intro args hp K h
  unfold C60 at h
  split at h
  · obtain ⟨b, ev, v, rfl, hb, hok, hl, h⟩ := h
    refine ⟨by simp, [(1, L60 b ev v), (2, M60 b ev v)], ?_⟩
    unfold jH at h ⊢
    simp (maxSteps := 2000000) only [a60, r60, C58, C59, wrH, go_sem, eq_self, Nat.le_refl, Nat.reduceLeDiff, Nat.reduceSub, Nat.reduceMul, Nat.reduceLT, Nat.reduceBEq, Nat.reduceAdd]
    have b1 := (numB_length v).2
    have b2 : ∀ i, (intsB (b.take i)).length ≤ 72 := fun i => by
      have h1 := intsB_length (b.take i)
      have h2 : (b.take i).length ≤ 8 := by rw [List.length_take]; omega
      omega
    have b3 := (numB_length (ev.length : Int)).2
    have b4 : ∀ i, (evsB (ev.take i)).length ≤ 288 := fun i => by
      have h1 := evsB_length (ev.take i)
      have h2 : (ev.take i).length ≤ 16 := by rw [List.length_take]; omega
      omega
    have hmx := maxLen_val
    refine loop_intro (A := L60 b ev v) (0 : Nat) ?_ ⟨Nat.zero_le _, fun x hx => by simp at hx⟩ ?_
    · simp (maxSteps := 2000000) only [L60_I, jH, go_sem, Nat.reduceBEq, Nat.reduceAdd]
      simp [intsB]
    · intro (i : Nat) (hi : i ≤ 8 ∧ inI (b.take i))
      obtain ⟨hi, hin⟩ := hi
      simp (maxSteps := 2000000) only [L60_I, jH, C108, C59, wrH, go_sem, eq_self, Nat.le_refl, Int.natCast_nonneg, Int.ofNat_lt, Nat.reduceSub, Nat.reduceMul, Nat.reduceLT, Nat.reduceBEq, Nat.reduceAdd]
      have hb2 := b2 i
      rintro c rfl
      refine sw_intro (fun hc => ?_) (fun hc => ?_) <;> simp only [decide_eq_true_eq, decide_eq_false_iff_not] at hc
      · have hc' : i < 8 := by omega
        refine nd_intro hc' ⟨by simp only [List.length_append]; omega, ?_⟩
        rintro hx64 _ _ m hm
        rw [w64 (by omega)] at hm
        subst hm
        have hlt : i < b.length := by omega
        refine lpE_intro (A := L60 b ev v) (i + 1 : Nat) ?_ ⟨hc', fun x hx => ?_⟩ (by show 8 - (i + 1) < 8 - i; omega)
        rotate_left
        · rw [← take_elt (t := .int .i64) hlt] at hx
          rcases List.mem_append.1 hx with hx | hx
          · exact hin x hx
          · simp only [List.mem_singleton] at hx
            subst hx
            exact hx64
        simp (maxSteps := 2000000) only [L60_I, jH, go_sem, Nat.reduceBEq, Nat.reduceAdd]
        rw [← take_elt (t := .int .i64) hlt, intsB_snoc]
        simp only [List.append_assoc]
        rfl
      · obtain rfl : i = 8 := by omega
        have e8 : b.take 8 = b := List.take_of_length_le (by omega)
        rw [e8] at hin hb2 ⊢
        rintro _ _ m rfl _ m1 hm1
        rw [wu64 (by omega)] at hm1
        subst hm1
        refine ⟨by simp only [List.length_append]; omega, ?_⟩
        rintro _ _ m rfl
        refine loop_intro (A := M60 b ev v) (0 : Nat) ?_ ⟨Nat.zero_le _, fun x hx => by simp at hx⟩ ?_
        · simp (maxSteps := 2000000) only [M60_I, jH, go_sem, Nat.reduceBEq, Nat.reduceAdd]
          simp [evsB]
        · intro (i : Nat) (hi : i ≤ ev.length ∧ ∀ e ∈ ev.take i, in64 e.2)
          obtain ⟨hi, hin2⟩ := hi
          simp (maxSteps := 2000000) only [M60_I, jH, C108, C59, C63, wrH, go_sem, eq_self, Nat.le_refl, Int.natCast_nonneg, Int.ofNat_lt, Nat.reduceLeDiff, Nat.reduceSub, Nat.reduceLT, Nat.reduceBEq, Nat.reduceAdd]
          have hb4 := b4 i
          rintro c rfl
          refine sw_intro (fun hc => ?_) (fun hc => ?_) <;> simp only [decide_eq_true_eq, decide_eq_false_iff_not] at hc
          · have hx : okEv (elt EvT ev i) = true := List.all_eq_true.1 hok _ (List.mem_of_getElem? (elt_get (t := EvT) hc))
            unfold okEv at hx
            simp only [Bool.and_eq_true, decide_eq_true_eq] at hx
            refine nd_intro hc ?_
            have b5 := (numB_length (elt EvT ev i).1).2
            rintro _ m hm
            rw [wu64 (by have := hx.1; have := lt8_le hx.2; exact ⟨hx.1, Int.le_trans this (by decide)⟩)] at hm
            subst hm
            refine ⟨by simp only [List.length_append]; omega, by simp only [List.length_append]; omega, ?_⟩
            rintro hx64 _ _ m hm
            rw [w64 (by omega)] at hm
            subst hm
            refine lpE_intro (A := M60 b ev v) (i + 1 : Nat) ?_ ⟨hc, fun x hx => ?_⟩ (by show ev.length - (i + 1) < ev.length - i; omega)
            rotate_left
            · rw [← take_elt (t := EvT) hc] at hx
              rcases List.mem_append.1 hx with hx | hx
              · exact hin2 x hx
              · simp only [List.mem_singleton] at hx
                subst hx
                exact hx64
            simp (maxSteps := 2000000) only [M60_I, jH, go_sem, Nat.reduceBEq, Nat.reduceAdd]
            rw [← take_elt (t := EvT) hc, evsB_snoc]
            simp only [List.append_assoc]
            rfl
          · obtain rfl : i = ev.length := by omega
            rw [List.take_length] at hin2 ⊢
            exact h ⟨hin, hin2⟩
  · exact h.elim
end Go.V
