/- A part of the proof layer, or functions of the given program in it: contracts and their proofs. -/
import Derived.Test.YthfkoeoaehkoaaaGreatDoorMS10
import Derived.Test.YthfkoeoaehkoaaaGreatDoorMVzb
import Derived.Test.YthfkoeoaehkoaaaGreatDoorProg
import Derived.Shelf.Strings.OnBuilder
import Derived.Shelf.Strconv.Itoa4
import Derived.Shelf.LaysM
namespace Go.V
set_option linter.unusedSimpArgs false
set_option linter.unnecessarySimpa false
set_option linter.unusedVariables false
open Go.Lib (decDigits itoa)
/-! ### what is read is printed as it was -/
theorem digb1 : ∀ n, n < 256 → 48 ≤ n → n ≤ 57 → (hexT.getD (n - 48) 0).toNat = n := by decide +kernel
theorem digb2 : ∀ n, n < 256 → 97 ≤ n → n ≤ 102 → (hexT.getD (n - 87) 0).toNat = n := by decide +kernel
theorem digV_back {a : UInt8} {x : Nat} (h : digV a = some x) : hexT.getD x 0 = a ∧ x < 16 := by
 have ha := UInt8.toNat_lt a
 unfold digV at h
 split at h
 ·rename_i h1
  cases h
  exact ⟨UInt8.toNat_inj.1 (digb1 _ ha h1.1 h1.2), by omega⟩
 ·split at h
  ·rename_i h1
   cases h
   exact ⟨UInt8.toNat_inj.1 (digb2 _ ha h1.1 h1.2), by omega⟩
  ·cases h
theorem unhex_back : ∀ (l k : List UInt8), unhexL l = some k → hexL k = l ∧ l.length = 2 * k.length
 | [], k, h => by cases h; exact ⟨rfl, rfl⟩
 | [_], k, h => by cases h
 | a :: b :: r, k, h => by
  simp only [unhexL] at h
  cases ha : digV a with
  | none => rw [ha] at h; cases h
  | some x =>
   cases hb : digV b with
   | none => rw [ha, hb] at h; cases h
   | some y =>
    rw [ha, hb] at h
    simp only at h
    obtain ⟨k', hk', rfl⟩ := Option.map_eq_some_iff.1 h
    obtain ⟨h1, h2⟩ := digV_back ha
    obtain ⟨h3, h4⟩ := digV_back hb
    obtain ⟨ih, il⟩ := unhex_back r k' hk'
    refine ⟨?_, by simp only [List.length_cons]; omega⟩
    show hexT.getD ((UInt8.ofNat (16 * x + y)).toNat / 16) 0 :: hexT.getD ((UInt8.ofNat (16 * x + y)).toNat % 16) 0 :: hexL k' = _
    have e : (UInt8.ofNat (16 * x + y)).toNat = 16 * x + y := by
     rw [UInt8.toNat_ofNat']
     omega
    have e1 : (16 * x + y) / 16 = x := by omega
    have e2 : (16 * x + y) % 16 = y := by omega
    rw [e, e1, e2, h1, h3, ih]
theorem dec_len : ∀ (k u : Nat), u < 10 ^ (k + 1) → (decDigits u).length ≤ k + 1
 | 0, u, h => by rw [dec_small (by simpa using h)]; simp
 | k + 1, u, h => by
  by_cases hu : u < 10
  ·rw [dec_small hu]; simp
  ·rw [dec_big hu, List.length_append]
   have := dec_len k (u / 10) (by rw [Nat.pow_succ] at h; omega)
   simp only [List.length_cons, List.length_nil]
   omega
theorem bs_back (s : ByteArray) : bsOf s.data.toList = s := by cases s; simp [bsOf]
theorem size_list (s : ByteArray) : s.data.toList.length = s.size := by simp
theorem natF_word {w : ByteArray} {n : Nat} (h : natF w.data.toList = some n) : utoaB n = w ∧ w.size ≤ 20 := by
 have e := dec_natF h
 have hb := (parse_natF h).2
 have hl := dec_len 19 n (by omega)
 rw [e, size_list] at hl
 exact ⟨by unfold utoaB; rw [e, bs_back], hl⟩
theorem numI_word {w : ByteArray} {v : Int} (h : numI w.data.toList = some v) : itoaB v = w ∧ w.size ≤ 20 := by
 obtain ⟨hp, e⟩ := numI_parse h
 refine ⟨by unfold itoaB; rw [e, bs_back], ?_⟩
 have hb := Go.Lib.parseIntB_bounds hp
 have e3 : ((2 ^ (64 - 1) : Nat) : Int) = 9223372036854775808 := by decide
 rw [e3] at hb
 rw [← size_list, ← e]
 unfold itoa
 split
 ·have := dec_len 18 v.natAbs (by omega)
  simp only [List.length_cons]
  omega
 ·have := dec_len 18 v.toNat (by omega)
  omega
theorem hex_word {w : ByteArray} {l : List UInt8} (h : unhexF w = some l) (hk : keyOk (bsOf l) = true) : hexW (bsOf l) = w ∧ w.size ≤ 80 := by
 obtain ⟨h1, h2⟩ := unhex_back _ _ h
 rw [keyOk_eq, Bool.and_eq_true, decide_eq_true_eq, decide_eq_true_eq, bsOf_size] at hk
 refine ⟨?_, ?_⟩
 ·unfold hexW
  rw [if_neg (fun e => by
   have := congrArg ByteArray.size e
   rw [bsOf_size] at this
   have h0 : ByteArray.empty.size = 0 := rfl
   omega)]
  unfold hexB
  rw [bs_list, h1, bs_back]
 ·rw [← size_list, h2]; omega
theorem step_word {k : UInt8} {w : ByteArray} {c d : Cmd} (h : stepC k w c = some d) (hk : smallK k) : w.size ≤ 80 ∧
    ((k = 99 ∧ ∃ n, d = { c with client := n } ∧ utoaB n = w) ∨ (k = 115 ∧ ∃ n, d = { c with serial := n } ∧ utoaB n = w) ∨ (k = 105 ∧ ∃ n, d = { c with ints := c.ints ++ [n] } ∧ itoaB n = w) ∨
      ((k = 107 ∨ k = 110) ∧ ∃ x, d = { c with keys := c.keys ++ [x] } ∧ hexW x = w)) := by
  unfold stepC at h
  split at h
  · rename_i e
    obtain ⟨n, hn, rfl⟩ := Option.map_eq_some_iff.1 h
    obtain ⟨h1, h2⟩ := natF_word hn
    exact ⟨by omega, .inl ⟨e, n, rfl, h1⟩⟩
  rename_i e99
  split at h
  · rename_i e
    obtain ⟨n, hn, rfl⟩ := Option.map_eq_some_iff.1 h
    obtain ⟨h1, h2⟩ := natF_word hn
    exact ⟨by omega, .inr (.inl ⟨e, n, rfl, h1⟩)⟩
  rename_i e115
  split at h
  · rename_i e
    obtain ⟨n, hn, rfl⟩ := Option.map_eq_some_iff.1 h
    obtain ⟨h1, h2⟩ := numI_word hn
    exact ⟨by omega, .inr (.inr (.inl ⟨e, n, rfl, h1⟩))⟩
  rename_i e105
  have hkn : k = 107 ∨ k = 110 := by
    rcases hk with e | e | e | e | e
    · exact absurd e e99
    · exact absurd e e115
    · exact .inl e
    · exact .inr e
    · exact absurd e e105
  split at h
  · rename_i e
    cases h
    refine ⟨by rw [e.2]; decide, .inr (.inr (.inr ⟨hkn, ByteArray.empty, rfl, ?_⟩))⟩
    rw [e.2]
    rfl
  · split at h
    · rename_i l hl
      split at h
      · rename_i hko
        cases h
        obtain ⟨h1, h2⟩ := hex_word hl hko
        exact ⟨h2, .inr (.inr (.inr ⟨hkn, _, rfl, h1⟩))⟩
      · cases h
    · cases h
theorem go_print : ∀ (ks : List UInt8) (ws : List ByteArray) (c d : Cmd), goC ks ws c = some d → ws.length = ks.length → (∀ k ∈ ks, smallK k ∧ k ≠ 99 ∧ k ≠ 115) →
  (∀ w ∈ ws, w.size ≤ 80) ∧ ∃ kl il, d = { c with keys := c.keys ++ kl, ints := c.ints ++ il } ∧ il.length = ks.count 105 ∧
   ∀ (P : Cmd) (acc : List ByteArray) (kr : List ByteArray) (nr : List Int), ks.foldl (prStep P) ⟨acc, kl ++ kr, il ++ nr⟩ = ⟨acc ++ ws, kr, nr⟩
 | [], [], c, d, h, _, _ => by
  have : c = d := by simpa [goC] using h
  subst this
  exact ⟨by simp, [], [], by simp, rfl, by simp⟩
 | [], _ :: _, c, d, h, hl, _ => by simp at hl
 | _ :: _, [], c, d, h, hl, _ => by simp at hl
 | k :: ks, w :: ws, c, d, h, hl, hk => by
  rw [goC] at h
  cases hs : stepC k w c with
  | none => rw [hs] at h; cases h
  | some c' =>
   rw [hs] at h
   have hk0 := hk k (List.mem_cons_self ..)
   obtain ⟨k1, k2⟩ := step_word hs hk0.1
   obtain ⟨i1, kl, il, i2, i3, i4⟩ := go_print ks ws c' d h (by simpa using hl) (fun x hx => hk x (List.mem_cons_of_mem _ hx))
   refine ⟨fun x hx => ?_, ?_⟩
   ·rcases List.mem_cons.1 hx with rfl | hx
    ·exact k1
    ·exact i1 x hx
   rcases k2 with ⟨e, _⟩ | ⟨e, _⟩ | ⟨e, n, rfl, hn⟩ | ⟨e, x, rfl, hx⟩
   ·exact absurd e hk0.2.1
   ·exact absurd e hk0.2.2
   ·subst e
    refine ⟨kl, n :: il, by rw [i2]; simp, by rw [List.count_cons, List.length_cons, i3]; simp, fun P acc kr nr => ?_⟩
    rw [List.foldl_cons, pr_i]
    simp only [List.cons_append]
    rw [i4, hn]
    simp
   ·refine ⟨x :: kl, il, by rw [i2]; simp, ?_, fun P acc kr nr => ?_⟩
    ·rw [List.count_cons, i3]
     rcases e with rfl | rfl <;> simp
    ·have ek : prStep P ⟨acc, x :: kl ++ kr, il ++ nr⟩ k = ⟨acc ++ [hexW x], kl ++ kr, il ++ nr⟩ := by
      rcases e with rfl | rfl <;> simp [prStep]
     rw [List.foldl_cons, ek, i4, hx]
     simp
/-! ### words and their joint -/
theorem foldW_app (a : ByteArray) : ∀ (r : List ByteArray) (x : ByteArray), r.foldl addW (a ++ x) = a ++ r.foldl addW x
 | [], x => rfl
 | w :: r, x => by
  rw [List.foldl_cons, List.foldl_cons]
  have : addW (a ++ x) w = a ++ addW x w := by simp [addW, ByteArray.append_assoc]
  rw [this, foldW_app a r]
theorem join_cons2 (w y : ByteArray) (r : List ByteArray) : joinB (w :: y :: r) = w ++ blankB ++ joinB (y :: r) := by
 show (r.foldl addW (addW w y)) = _
 unfold addW
 exact foldW_app _ _ _
theorem bs_app (a b : List UInt8) : bsOf (a ++ b) = bsOf a ++ bsOf b := by
 apply ByteArray.ext
 simp [bsOf, ByteArray.data_append]
theorem splitL_cons2 (l : List UInt8) : ∃ y ys, splitL 32 l = y :: ys := by
 induction l with
 | nil => exact ⟨[], [], rfl⟩
 | cons x r ih =>
  obtain ⟨y, ys, e⟩ := ih
  by_cases h : x = 32
  ·exact ⟨[], y :: ys, by rw [splitL_eq h, e]⟩
  ·exact ⟨x :: y, ys, splitL_ne h e⟩
theorem join_split : ∀ l : List UInt8, joinB ((splitL 32 l).map bsOf) = bsOf l
 | [] => rfl
 | x :: r => by
  obtain ⟨y, ys, e⟩ := splitL_cons2 r
  have ih := join_split r
  rw [e] at ih
  by_cases h : x = 32
  ·subst h
   rw [splitL_eq rfl, e, List.map_cons, List.map_cons, join_cons2]
   rw [List.map_cons] at ih
   rw [ih]
   have : bsOf (32 :: r) = bsOf [] ++ bsOf [32] ++ bsOf r := by rw [← bs_app, ← bs_app]; rfl
   rw [this]
   rfl
  ·rw [splitL_ne h e]
   rw [List.map_cons] at ih ⊢
   have e1 : bsOf (x :: y) = bsOf [x] ++ bsOf y := by rw [← bs_app]; rfl
   have e2 : bsOf (x :: r) = bsOf [x] ++ bsOf r := by rw [← bs_app]; rfl
   rw [e2, ← ih]
   show (ys.map bsOf).foldl addW (bsOf (x :: y)) = _
   rw [e1]
   exact foldW_app _ _ _
theorem join_words (s : ByteArray) : joinB (wordsB s) = s := by
 unfold wordsB
 rw [join_split, bs_back]
theorem shape_len (w : ByteArray) (n : Nat) (l : List UInt8) (h : kindsF w n = some l) : l.length ≤ 8 ∧ w.size ≤ 10 := by
 unfold kindsF at h
 split at h
 ·rename_i e
  cases h
  subst e
  refine ⟨?_, by decide⟩
  simp only [List.length_append, List.length_cons, List.length_nil, List.length_replicate]
  omega
 split at h
 ·rename_i e
  cases h
  subst e
  exact ⟨by decide, by decide⟩
 split at h
 ·rename_i e
  cases h
  refine ⟨by decide, ?_⟩
  rcases e with rfl | rfl | rfl | rfl | rfl <;> decide
 split at h
 ·rename_i e
  cases h
  subst e
  exact ⟨by decide, by decide⟩
 split at h
 ·rename_i e
  cases h
  subst e
  exact ⟨by decide, by decide⟩
 split at h
 ·rename_i e
  cases h
  refine ⟨by decide, ?_⟩
  rcases e with rfl | rfl | rfl | rfl <;> decide
 ·cases h
theorem read_text {s : ByteArray} {d : Cmd} (h : parseC s = .ok d) : prText d = s ∧ (∀ w ∈ (wordsB s).tail, w.size ≤ 80) ∧ ((wordsB s).tail).length ≤ 8 := by
 obtain ⟨hsz, w0, ws, ks, hw, hk, hl, hg, hd⟩ := parseC_ok h
 have fin : prWords d = w0 :: ws → prText d = s := by
  intro e
  unfold prText
  rw [e, ← hw, join_words]
 rw [hw, List.tail_cons]
 rcases shape_cases w0 with ho | ⟨_, h2⟩ | ⟨l, h1, h2, h3, h4, h5⟩
 ·subst ho
  rw [kinds_offer] at hk
  cases hk
  have hln := hl
  simp only [List.length_append, List.length_cons, List.length_nil, List.length_replicate] at hl
  match ws, hg, hl, hw, hln, fin with
  | a :: b :: r, hg, hl, hw, hln, fin =>
   have hm : (a :: b :: r).length - 4 = min ((a :: b :: r).length - 4) 4 := by omega
   simp only [List.cons_append, goC] at hg
   cases h1 : stepC 99 a ⟨offerW, [], 0, 0, []⟩ with
   | none => rw [h1] at hg; cases hg
   | some c1 =>
    rw [h1] at hg
    simp only at hg
    cases h2 : stepC 115 b c1 with
    | none => rw [h2] at hg; cases hg
    | some c2 =>
     rw [h2] at hg
     simp only at hg
     obtain ⟨sa, ka⟩ := step_word h1 (.inl rfl)
     obtain ⟨sb, kb⟩ := step_word h2 (.inr (.inl rfl))
     have hr : r.length = ((107 : UInt8) :: 105 :: ([] ++ List.replicate (min ((a :: b :: r).length - 4) 4) 105)).length := by
      simp only [List.length_cons, List.nil_append, List.length_replicate] at hl ⊢
      omega
     obtain ⟨i1, kl, il, i2, i3, i4⟩ := go_print _ r c2 d hg hr (by
      intro k hk
      simp only [List.nil_append, List.mem_cons, List.mem_replicate] at hk
      rcases hk with rfl | rfl | ⟨_, rfl⟩
      ·exact ⟨.inr (.inr (.inl rfl)), by decide, by decide⟩
      ·exact ⟨.inr (.inr (.inr (.inr rfl))), by decide, by decide⟩
      ·exact ⟨.inr (.inr (.inr (.inr rfl))), by decide, by decide⟩)
     have ea : ∃ n, c1 = ⟨offerW, [], n, 0, []⟩ ∧ utoaB n = a := by
      rcases ka with ⟨_, n, e, e2⟩ | ⟨e, _⟩ | ⟨e, _⟩ | ⟨e, _⟩
      ·exact ⟨n, e, e2⟩
      ·exact absurd e (by decide)
      ·exact absurd e (by decide)
      ·exact absurd e (by decide)
     obtain ⟨n1, rfl, en1⟩ := ea
     have eb : ∃ n, c2 = ⟨offerW, [], n1, n, []⟩ ∧ utoaB n = b := by
      rcases kb with ⟨e, _⟩ | ⟨_, n, e, e2⟩ | ⟨e, _⟩ | ⟨e, _⟩
      ·exact absurd e (by decide)
      ·exact ⟨n, e, e2⟩
      ·exact absurd e (by decide)
      ·exact absurd e (by decide)
     obtain ⟨n2, rfl, en2⟩ := eb
     simp only [List.nil_append] at i2
     refine ⟨fin ?_, ?_, ?_⟩
     ·subst i2
      have hil : il.length = min ((a :: b :: r).length - 4) 4 + 1 := by
       rw [i3, List.nil_append, List.count_cons, List.count_cons, List.count_replicate_self]
       simp
      have hpk : prKinds ⟨offerW, kl, n1, n2, il⟩ = (99 : UInt8) :: 115 :: (107 : UInt8) :: 105 :: ([] ++ List.replicate (min ((a :: b :: r).length - 4) 4) 105) := by
       unfold prKinds
       rw [kinds_offer]
       have : min (3 + il.length - 4) 4 = min ((a :: b :: r).length - 4) 4 := by omega
       simp only [this]
       rfl
      unfold prWords
      rw [hpk, List.foldl_cons, List.foldl_cons]
      have e1 : prStep ⟨offerW, kl, n1, n2, il⟩ (prStep ⟨offerW, kl, n1, n2, il⟩ ⟨[offerW], kl, il⟩ 99) 115 = ⟨[offerW, a, b], kl ++ [], il ++ []⟩ := by
       simp [prStep, en1, en2]
      show (List.foldl _ (prStep ⟨offerW, kl, n1, n2, il⟩ (prStep ⟨offerW, kl, n1, n2, il⟩ ⟨[offerW], kl, il⟩ 99) 115) _).ws = _
      rw [e1, i4]
      rfl
     ·intro w hx
      rcases List.mem_cons.1 hx with rfl | hx
      ·exact sa
      rcases List.mem_cons.1 hx with rfl | hx
      ·exact sb
      ·exact i1 w hx
     ·omega
  | [a], hg, hl, hw, hln, fin => simp at hl
  | [], hg, hl, hw, hln, fin => simp at hl
 ·rw [h2] at hk; cases hk
 ·rw [h2] at hk
  cases hk
  obtain ⟨i1, kl, il, i2, i3, i4⟩ := go_print _ ws _ d hg hl (fun k hk => ⟨h3 k hk, h5 k hk⟩)
  simp only [List.nil_append] at i2
  refine ⟨fin ?_, i1, ?_⟩
  ·subst i2
   unfold prWords prKinds
   rw [h2]
   have := i4 ⟨w0, kl, 0, 0, il⟩ [w0] [] []
   rw [List.append_nil, List.append_nil] at this
   show (List.foldl (prStep ⟨w0, kl, 0, 0, il⟩) (⟨[w0], kl, il⟩ : PS) ks).ws = _
   rw [this]
   rfl
  ·have hh := (shape_len w0 0 ks (h2 0)).1
   omega
theorem joinB_size : ∀ (r : List ByteArray) (x : ByteArray), (∀ w ∈ r, w.size ≤ 80) → (r.foldl addW x).size ≤ x.size + 81 * r.length
 | [], x, _ => by simp
 | w :: r, x, h => by
  have h1 := joinB_size r (addW x w) (fun y hy => h y (List.mem_cons_of_mem _ hy))
  have h2 := h w (List.mem_cons_self ..)
  rw [addW_size] at h1
  rw [List.foldl_cons, List.length_cons]
  omega
theorem read_short {s : ByteArray} {d : Cmd} (h : parseC s = .ok d) : s.size ≤ 700 := by
 obtain ⟨_, h2, h3⟩ := read_text h
 obtain ⟨hsz, w0, ws, ks, hw, hk, hl, hg, hd⟩ := parseC_ok h
 rw [hw, List.tail_cons] at h2 h3
 have e := join_words s
 rw [hw] at e
 have h4 := joinB_size ws w0 h2
 have h5 := (shape_len _ _ _ hk).2
 have e' : ws.foldl addW w0 = s := e
 rw [e'] at h4
 omega
theorem printC_some {c : Cmd} {s : ByteArray} (h : printC c = some s) : parseC s = .ok c := by
 unfold printC at h
 split at h
 ·rename_i d hd
  split at h
  ·rename_i e
   cases h
   rw [hd, e]
  ·cases h
 ·cases h
/-! ### a blank more -/
theorem splitL_snoc : ∀ l : List UInt8, splitL 32 (l ++ [32]) = splitL 32 l ++ [[]]
 | [] => rfl
 | x :: r => by
  obtain ⟨y, ys, e⟩ := splitL_cons2 r
  have ih := splitL_snoc r
  rw [e] at ih
  rw [List.cons_append]
  by_cases h : x = 32
  ·rw [splitL_eq h, splitL_eq h, ih, e]
   rfl
  ·rw [splitL_ne h e, splitL_ne h ih]
   rfl
theorem words_snoc (s : ByteArray) : wordsB (s ++ blankB) = wordsB s ++ [ByteArray.empty] := by
 unfold wordsB
 have : (s ++ blankB).data.toList = s.data.toList ++ [32] := by simp [ByteArray.data_append, blankB]
 rw [this, splitL_snoc, List.map_append]
 rfl
theorem words_blank (s : ByteArray) : wordsB (blankB ++ s) = ByteArray.empty :: wordsB s := by
 unfold wordsB
 have : (blankB ++ s).data.toList = 32 :: s.data.toList := by simp [ByteArray.data_append, blankB]
 rw [this, splitL_eq rfl, List.map_cons]
 rfl
theorem goC_last : ∀ (ks : List UInt8) (ws : List ByteArray) (c : Cmd), ks.length = ws.length → goC (ks ++ [105]) (ws ++ [ByteArray.empty]) c = none
 | [], [], c, _ => by
  have : stepC 105 ByteArray.empty c = none := by
   unfold stepC
   rw [if_neg (by decide), if_neg (by decide), if_pos rfl]
   rfl
  simp only [List.nil_append, goC, this]
 | [], _ :: _, c, h => by simp at h
 | _ :: _, [], c, h => by simp at h
 | k :: ks, w :: ws, c, h => by
  simp only [List.cons_append, goC]
  cases stepC k w c with
  | none => rfl
  | some c' => exact goC_last ks ws c' (by simpa using h)
theorem blank_behind {s : ByteArray} {d : Cmd} (h : parseC s = .ok d) : parseC (s ++ blankB) = .error 2 := by
 have hs := read_short h
 obtain ⟨hsz, w0, ws, ks, hw, hk, hl, hg, hd⟩ := parseC_ok h
 have hb : blankB.size = 1 := rfl
 unfold parseC
 rw [if_neg (by rw [size_app]; omega), words_snoc, hw]
 simp only [List.cons_append, List.headD_cons, List.length_cons, Nat.add_sub_cancel, List.tail_cons, List.length_append, List.length_nil]
 rcases shape_cases w0 with ho | ⟨_, h2⟩ | ⟨l, h1, h2, h3, h4, h5⟩
 ·subst ho
  rw [kinds_offer] at hk
  cases hk
  rw [kinds_offer]
  simp only
  simp only [List.length_append, List.length_cons, List.length_nil, List.length_replicate] at hl ⊢
  split
  ·rename_i hl2
   have e : min (ws.length + (0 + 1) - 4) 4 = min (ws.length - 4) 4 + 1 := by omega
   have e2 : ([99, 115, 107, 105] ++ List.replicate (min (ws.length + (0 + 1) - 4) 4) (105 : UInt8)) = ([99, 115, 107, 105] ++ List.replicate (min (ws.length - 4) 4) 105) ++ [105] := by
    rw [e, List.replicate_succ', List.append_assoc]
   rw [e2, goC_last]
   simp only [List.length_append, List.length_cons, List.length_nil, List.length_replicate]
   omega
  ·rfl
 ·rw [h2] at hk; cases hk
 ·rw [h2] at hk
  cases hk
  rw [h2]
  simp only
  rw [if_neg (by omega)]
theorem blank_ahead {s : ByteArray} {d : Cmd} (h : parseC s = .ok d) : parseC (blankB ++ s) = .error 2 := by
 have hs := read_short h
 have hb : blankB.size = 1 := rfl
 unfold parseC
 rw [if_neg (by rw [size_app]; omega), words_blank]
 have : ∀ n, kindsF ByteArray.empty n = none := by
  intro n
  unfold kindsF
  rw [if_neg (by decide), if_neg (by decide), if_neg (by decide), if_neg (by decide), if_neg (by decide), if_neg (by decide)]
 simp only [List.headD_cons, this]
end Go.V
namespace Go.V
open Go.Proofs
set_option maxRecDepth 100000
set_option maxHeartbeats 8000000
set_option linter.unusedSimpArgs false
set_option linter.unnecessarySimpa false
set_option linter.unusedVariables false
theorem onL_den {t : Ty} {eb : Nat} {x : SV} {k : List t.den → Prop} (h : onL t eb x k) : ∃ p xs, k xs ∧ x.isArr = false ∧ ∀ E v, den E x v → den E (.sl p eb t xs) v := by
 rcases h with ⟨rfl, h⟩ | ⟨p, xs, rfl, h⟩
 ·refine ⟨true, [], h, rfl, fun E v hv => ?_⟩
  simp only [den] at hv ⊢
  subst hv
  exact .inl ⟨rfl, none, 0, rfl, by decide, fun _ => rfl⟩
 ·exact ⟨p, xs, h, rfl, fun E v hv => hv⟩
theorem take_next {t : Ty} {xs ys : List t.den} {i : Nat} (h1 : i < xs.length) (h2 : i < ys.length) (h : xs.take i = ys.take i) (he : elt t xs i = elt t ys i) : xs.take (i + 1) = ys.take (i + 1) := by
 rw [← take_elt h1, ← take_elt h2, h, he]
theorem cmd_den {E : En} {w : ByteArray} {c s : Int} {x y x' y' : SV} {v : Value} (hx : x.isArr = false) (hy : y.isArr = false) (hx' : x'.isArr = false) (hy' : y'.isArr = false) (h1 : ∀ v, den E x v → den E x' v) (h2 : ∀ v, den E y v → den E y' v)
  (h : den E (.agg [.str w, x, .int .u64 c, .int .u64 s, y]) v) : den E (.agg [.str w, x', .int .u64 c, .int .u64 s, y']) v := by
 simp only [den] at h ⊢
 obtain ⟨cs, rfl, h⟩ := h
 refine ⟨cs, rfl, ?_⟩
 rw [denC_cons rfl] at h ⊢
 obtain ⟨v1, c2, e1, d1, h⟩ := h
 refine ⟨v1, c2, e1, d1, ?_⟩
 rw [denC_cons hx] at h
 rw [denC_cons hx']
 obtain ⟨v2, c3, e2, d2, h⟩ := h
 refine ⟨v2, c3, e2, h1 _ d2, ?_⟩
 rw [denC_cons rfl] at h ⊢
 obtain ⟨v3, c4, e3, d3, h⟩ := h
 refine ⟨v3, c4, e3, d3, ?_⟩
 rw [denC_cons rfl] at h ⊢
 obtain ⟨v4, c5, e4, d4, h⟩ := h
 refine ⟨v4, c5, e4, d4, ?_⟩
 rw [denC_cons hy] at h
 rw [denC_cons hy']
 obtain ⟨v5, c6, e5, d5, h⟩ := h
 exact ⟨v5, c6, e5, h2 _ d5, h⟩
attribute [local irreducible] rc
def C34 : Contract := fun args hp K => match args, hp with
 | [.sl p 16 .str xs, .sl q 16 .str ys], [] => K (.bool (decide ((xs : List ByteArray) = ys))) []
 | _, _ => False
def Le34 (p q : Bool) (xs ys : List ByteArray) : LoopAnn := { G := Nat, I := fun i => ⟨[(0, .sl p 16 .str xs), (1, .sl q 16 .str ys), (12, .int .i64 xs.length), (13, .int .i64 i)], []⟩, R := fun _ i => i ≤ xs.length ∧ xs.take i = ys.take i, μ := fun i => xs.length - i }
theorem Le34_I {p q} {xs ys : List ByteArray} (i : Nat) : (Le34 p q xs ys).I i = ⟨[(0, .sl p 16 .str xs), (1, .sl q 16 .str ys), (12, .int .i64 xs.length), (13, .int .i64 i)], []⟩ := rfl
theorem s34 : Sound Tryz.prog 34 C34 := by
 refine sound_of_okF ok34 .nil ?_
 intro args hp K h
 unfold C34 at h
 split at h
 ·rename_i p xs q ys
  have hmx := maxLen_val
  refine ⟨by simp, [(1, Le34 p q xs ys)], ?_⟩
  simp (maxSteps:=9^9) only [a34, r34, go_sem, eq_self, and_self, Int.natCast_pos, Int.le_refl, Nat.le_refl, Int.natCast_nonneg, Int.ofNat_lt, Int.ofNat_le, Int.reduceLT, Int.reduceLE, Int.reduceEq, Int.reduceNe, Int.reduceAdd, Int.reduceSub, Int.reduceMul, Int.reduceToNat, Int.reduceNeg, Nat.reduceEqDiff, Nat.reduceLeDiff, Nat.reduceSub, Nat.reduceMul, Nat.reduceLT, Nat.reduceBEq, Nat.reduceAdd, Nat.reduceDiv, Nat.reduceMod]
  have hf : ¬ (xs : List ByteArray) = ys → K (.bool false) [] := fun hne => by rw [decide_eq_false hne] at h; exact h
  have ht : (xs : List ByteArray) = ys → K (.bool true) [] := fun e => by rw [decide_eq_true e] at h; exact h
  rintro _ _ m hm _ _ m2 hm2 c3 hc3
  refine swn hc3 (fun h0 => hf (fun e => h0 (by rw [hm, hm2, e]))) (fun h0 => ?_)
  have hl1 : xs.length = ys.length := by omega
  rintro _ _ _ rfl
  refine loop_intro (A := Le34 p q xs ys) (0 : Nat) ?_ ⟨by simp, by simp⟩ ?_
  ·simp (maxSteps:=9^9) only [Le34_I, go_sem, eq_self, and_self, Int.natCast_pos, Int.le_refl, Nat.le_refl, Int.natCast_nonneg, Int.ofNat_lt, Int.ofNat_le, Int.reduceLT, Int.reduceLE, Int.reduceEq, Int.reduceNe, Int.reduceAdd, Int.reduceSub, Int.reduceMul, Int.reduceToNat, Int.reduceNeg, Nat.reduceEqDiff, Nat.reduceLeDiff, Nat.reduceSub, Nat.reduceMul, Nat.reduceLT, Nat.reduceBEq, Nat.reduceAdd, Nat.reduceDiv, Nat.reduceMod]
   rfl
  ·rintro (i : Nat) (⟨g1, g2⟩ : i ≤ xs.length ∧ (xs : List ByteArray).take i = (ys : List ByteArray).take i)
   simp (maxSteps:=9^9) only [Le34_I, go_sem, eq_self, and_self, Int.natCast_pos, Int.le_refl, Nat.le_refl, Int.natCast_nonneg, Int.ofNat_lt, Int.ofNat_le, Int.reduceLT, Int.reduceLE, Int.reduceEq, Int.reduceNe, Int.reduceAdd, Int.reduceSub, Int.reduceMul, Int.reduceToNat, Int.reduceNeg, Nat.reduceEqDiff, Nat.reduceLeDiff, Nat.reduceSub, Nat.reduceMul, Nat.reduceLT, Nat.reduceBEq, Nat.reduceAdd, Nat.reduceDiv, Nat.reduceMod]
   intro c5 hc5
   refine swd hc5 (fun h2 => ?_) (fun h2 => ?_)
   ·refine nd_intro h2 (nd_intro (by omega) ?_)
    intro c6 hc6
    refine swn hc6 (fun h3 => hf (fun e => h3 (by rw [e]))) (fun h3 => ?_)
    rintro _ _ m5 hm5
    rw [w64 (by omega)] at hm5
    rw [hm5, show (i : Int) + 1 = ((i + 1 : Nat) : Int) by omega]
    exact lpE_intro (A := Le34 p q xs ys) (i + 1 : Nat) rfl ⟨h2, take_next (t := .str) h2 (by omega) g2 h3⟩ (by show xs.length - (i + 1) < xs.length - i; omega)
   ·refine ht ?_
    rw [List.take_of_length_le (by omega), List.take_of_length_le (by omega)] at g2
    exact g2
 ·exact h.elim
def C35 : Contract := fun args hp K => match args, hp with
 | [.sl p 8 (.int .i64) xs, .sl q 8 (.int .i64) ys], [] => K (.bool (decide ((xs : List Int) = ys))) []
 | _, _ => False
def Le35 (p q : Bool) (xs ys : List Int) : LoopAnn := { G := Nat, I := fun i => ⟨[(0, .sl p 8 (.int .i64) xs), (1, .sl q 8 (.int .i64) ys), (12, .int .i64 xs.length), (13, .int .i64 i)], []⟩, R := fun _ i => i ≤ xs.length ∧ xs.take i = ys.take i, μ := fun i => xs.length - i }
theorem Le35_I {p q} {xs ys : List Int} (i : Nat) : (Le35 p q xs ys).I i = ⟨[(0, .sl p 8 (.int .i64) xs), (1, .sl q 8 (.int .i64) ys), (12, .int .i64 xs.length), (13, .int .i64 i)], []⟩ := rfl
theorem s35 : Sound Tryz.prog 35 C35 := by
 refine sound_of_okF ok35 .nil ?_
 intro args hp K h
 unfold C35 at h
 split at h
 ·rename_i p xs q ys
  have hmx := maxLen_val
  refine ⟨by simp, [(1, Le35 p q xs ys)], ?_⟩
  simp (maxSteps:=9^9) only [a35, r35, go_sem, eq_self, and_self, Int.natCast_pos, Int.le_refl, Nat.le_refl, Int.natCast_nonneg, Int.ofNat_lt, Int.ofNat_le, Int.reduceLT, Int.reduceLE, Int.reduceEq, Int.reduceNe, Int.reduceAdd, Int.reduceSub, Int.reduceMul, Int.reduceToNat, Int.reduceNeg, Nat.reduceEqDiff, Nat.reduceLeDiff, Nat.reduceSub, Nat.reduceMul, Nat.reduceLT, Nat.reduceBEq, Nat.reduceAdd, Nat.reduceDiv, Nat.reduceMod]
  have hf : ¬ (xs : List Int) = ys → K (.bool false) [] := fun hne => by rw [decide_eq_false hne] at h; exact h
  have ht : (xs : List Int) = ys → K (.bool true) [] := fun e => by rw [decide_eq_true e] at h; exact h
  rintro _ _ m hm _ _ m2 hm2 c3 hc3
  refine swn hc3 (fun h0 => hf (fun e => h0 (by rw [hm, hm2, e]))) (fun h0 => ?_)
  have hl1 : xs.length = ys.length := by omega
  rintro _ _ _ rfl
  refine loop_intro (A := Le35 p q xs ys) (0 : Nat) ?_ ⟨by simp, by simp⟩ ?_
  ·simp (maxSteps:=9^9) only [Le35_I, go_sem, eq_self, and_self, Int.natCast_pos, Int.le_refl, Nat.le_refl, Int.natCast_nonneg, Int.ofNat_lt, Int.ofNat_le, Int.reduceLT, Int.reduceLE, Int.reduceEq, Int.reduceNe, Int.reduceAdd, Int.reduceSub, Int.reduceMul, Int.reduceToNat, Int.reduceNeg, Nat.reduceEqDiff, Nat.reduceLeDiff, Nat.reduceSub, Nat.reduceMul, Nat.reduceLT, Nat.reduceBEq, Nat.reduceAdd, Nat.reduceDiv, Nat.reduceMod]
   rfl
  ·rintro (i : Nat) (⟨g1, g2⟩ : i ≤ xs.length ∧ (xs : List Int).take i = (ys : List Int).take i)
   simp (maxSteps:=9^9) only [Le35_I, go_sem, eq_self, and_self, Int.natCast_pos, Int.le_refl, Nat.le_refl, Int.natCast_nonneg, Int.ofNat_lt, Int.ofNat_le, Int.reduceLT, Int.reduceLE, Int.reduceEq, Int.reduceNe, Int.reduceAdd, Int.reduceSub, Int.reduceMul, Int.reduceToNat, Int.reduceNeg, Nat.reduceEqDiff, Nat.reduceLeDiff, Nat.reduceSub, Nat.reduceMul, Nat.reduceLT, Nat.reduceBEq, Nat.reduceAdd, Nat.reduceDiv, Nat.reduceMod]
   intro c5 hc5
   refine swd hc5 (fun h2 => ?_) (fun h2 => ?_)
   ·refine nd_intro h2 (nd_intro (by omega) ?_)
    intro c6 hc6
    refine swn hc6 (fun h3 => hf (fun e => h3 (by rw [e]))) (fun h3 => ?_)
    rintro _ _ m5 hm5
    rw [w64 (by omega)] at hm5
    rw [hm5, show (i : Int) + 1 = ((i + 1 : Nat) : Int) by omega]
    exact lpE_intro (A := Le35 p q xs ys) (i + 1 : Nat) rfl ⟨h2, take_next (t := .int .i64) h2 (by omega) g2 h3⟩ (by show xs.length - (i + 1) < xs.length - i; omega)
   ·refine ht ?_
    rw [List.take_of_length_le (by omega), List.take_of_length_le (by omega)] at g2
    exact g2
 ·exact h.elim
theorem use34 {p q : Bool} {xs ys : List ByteArray} {K : SV → List SB → Prop} (h : K (.bool (decide (xs = ys))) []) : C34 [.sl p 16 .str xs, .sl q 16 .str ys] [] K := h
theorem use35 {p q : Bool} {xs ys : List Int} {K : SV → List SB → Prop} (h : K (.bool (decide (xs = ys))) []) : C35 [.sl p 8 (.int .i64) xs, .sl q 8 (.int .i64) ys] [] K := h
def C12a : Contract := fun args hp K => match args, hp with
 | [.agg [.str w, .sl p1 16 .str k1, .int .u64 c, .int .u64 s, .sl p2 8 (.int .i64) i1], .agg [.str w', .sl p3 16 .str k2, .int .u64 c', .int .u64 s', .sl p4 8 (.int .i64) i2]], [] => K (.bool (decide (w = w' ∧ c = c' ∧ s = s' ∧ (k1 : List ByteArray) = k2 ∧ (i1 : List Int) = i2))) []
 | _, _ => False
attribute [local irreducible] C34 C35
theorem s12a : Sound Tryz.prog 12 C12a := by
 refine sound_of_okF ok12 (.cons s34 (callable_of_okF ok34) (.cons s35 (callable_of_okF ok35) .nil)) ?_
 intro args hp K h
 unfold C12a at h
 split at h
 ·rename_i w p1 k1 c s p2 i1 w' p3 k2 c' s' p4 i2
  have hf : ¬ (w = w' ∧ c = c' ∧ s = s' ∧ (k1 : List ByteArray) = k2 ∧ (i1 : List Int) = i2) → K (.bool false) [] := fun hne => by rw [decide_eq_false hne] at h; exact h
  have ht : (w = w' ∧ c = c' ∧ s = s' ∧ (k1 : List ByteArray) = k2 ∧ (i1 : List Int) = i2) → K (.bool true) [] := fun e => by rw [decide_eq_true e] at h; exact h
  clear h
  refine ⟨by simp, [], ?_⟩
  simp (maxSteps:=9^9) only [a12, r12, go_sem, eq_self, and_self, Int.natCast_pos, Int.le_refl, Nat.le_refl, Int.natCast_nonneg, Int.ofNat_lt, Int.ofNat_le, Int.reduceLT, Int.reduceLE, Int.reduceEq, Int.reduceNe, Int.reduceAdd, Int.reduceSub, Int.reduceMul, Int.reduceToNat, Int.reduceNeg, Nat.reduceEqDiff, Nat.reduceLeDiff, Nat.reduceSub, Nat.reduceMul, Nat.reduceLT, Nat.reduceBEq, Nat.reduceAdd, Nat.reduceDiv, Nat.reduceMod]
  intro b1 hb1
  refine swd9 hb1 (fun e1 => ?_) (fun e1 => ?_)
  rotate_left
  ·exact hf (fun e => e1 e.1)
  intro b2 hb2
  refine swd9 hb2 (fun e2 => ?_) (fun e2 => ?_)
  rotate_left
  ·exact hf (fun e => e2 e.2.1)
  intro b3 hb3
  refine swd9 hb3 (fun e3 => ?_) (fun e3 => ?_)
  rotate_left
  ·exact hf (fun e => e3 e.2.2.1)
  refine use34 ?_
  simp (maxSteps:=9^9) only [go_sem, eq_self, and_self, Int.natCast_pos, Int.le_refl, Nat.le_refl, Int.natCast_nonneg, Int.ofNat_lt, Int.ofNat_le, Int.reduceLT, Int.reduceLE, Int.reduceEq, Int.reduceNe, Int.reduceAdd, Int.reduceSub, Int.reduceMul, Int.reduceToNat, Int.reduceNeg, Nat.reduceEqDiff, Nat.reduceLeDiff, Nat.reduceSub, Nat.reduceMul, Nat.reduceLT, Nat.reduceBEq, Nat.reduceAdd, Nat.reduceDiv, Nat.reduceMod]
  refine sw_intro (fun e4 => ?_) (fun e4 => ?_)
  rotate_left
  ·exact hf (fun e => of_decide_eq_false e4 e.2.2.2.1)
  refine use35 ?_
  simp (maxSteps:=9^9) only [go_sem, eq_self, and_self, Int.natCast_pos, Int.le_refl, Nat.le_refl, Int.natCast_nonneg, Int.ofNat_lt, Int.ofNat_le, Int.reduceLT, Int.reduceLE, Int.reduceEq, Int.reduceNe, Int.reduceAdd, Int.reduceSub, Int.reduceMul, Int.reduceToNat, Int.reduceNeg, Nat.reduceEqDiff, Nat.reduceLeDiff, Nat.reduceSub, Nat.reduceMul, Nat.reduceLT, Nat.reduceBEq, Nat.reduceAdd, Nat.reduceDiv, Nat.reduceMod]
  by_cases e5 : (i1 : List Int) = i2
  ·rw [decide_eq_true e5]
   exact ht ⟨e1, e2, e3, of_decide_eq_true e4, e5⟩
  ·rw [decide_eq_false e5]
   exact hf (fun e => e5 e.2.2.2.2)
 ·exact h.elim
def C12 : Contract := fun args hp K => match args, hp with
 | [.agg [.str w, x, .int .u64 c, .int .u64 s, y], .agg [.str w', x', .int .u64 c', .int .u64 s', y']], [] => onL .str 16 x fun k1 => onL (.int .i64) 8 y fun i1 => onL .str 16 x' fun k2 => onL (.int .i64) 8 y' fun i2 => K (.bool (decide (w = w' ∧ c = c' ∧ s = s' ∧ (k1 : List ByteArray) = k2 ∧ (i1 : List Int) = i2))) []
 | _, _ => False
theorem s12 : Sound Tryz.prog 12 C12 := by
 intro args hp K h E vs hs hg hd
 unfold C12 at h
 split at h
 ·rename_i w x c s y w' x' c' s' y'
  obtain ⟨p1, k1, h, a1, d1⟩ := onL_den h
  obtain ⟨p2, i1, h, a2, d2⟩ := onL_den h
  obtain ⟨p3, k2, h, a3, d3⟩ := onL_den h
  obtain ⟨p4, i2, h, a4, d4⟩ := onL_den h
  refine s12a [.agg [.str w, .sl p1 16 .str k1, .int .u64 c, .int .u64 s, .sl p2 8 (.int .i64) i1], .agg [.str w', .sl p3 16 .str k2, .int .u64 c', .int .u64 s', .sl p4 8 (.int .i64) i2]] [] K h E vs hs hg ?_
  simp only [denL] at hd ⊢
  obtain ⟨v, r, rfl, h1, v2, r2, rfl, h2, rfl⟩ := hd
  exact ⟨v, _, rfl, cmd_den a1 a2 rfl rfl (d1 E) (d2 E) h1, v2, _, rfl, cmd_den a3 a4 rfl rfl (d3 E) (d4 E) h2, rfl⟩
 ·exact h.elim
def C13 : Contract := fun args hp K => match args, hp with
 | [.agg [.str w, x, .int .u64 c, .int .u64 s, y]], [] => ((x = .nils ∧ y = .nils) ∨ ∃ k i, x = .sl true 16 .str k ∧ y = .sl true 8 (.int .i64) i) ∧ K (.agg [.str w, x, .int .u64 c, .int .u64 s, y]) []
 | _, _ => False
theorem s13 : Sound Tryz.prog 13 C13 := by
 refine sound_of_okF ok13 .nil ?_
 intro args hp K h
 unfold C13 at h
 split at h
 ·rename_i w x c s y
  obtain ⟨hx, h⟩ := h
  refine ⟨by simp, [], ?_⟩
  rcases hx with ⟨rfl, rfl⟩ | ⟨k, i, rfl, rfl⟩
  ·simp (maxSteps:=9^9) only [a13, r13, go_sem, eq_self, and_self, Int.natCast_pos, Int.le_refl, Nat.le_refl, Int.natCast_nonneg, Int.ofNat_lt, Int.ofNat_le, Int.reduceLT, Int.reduceLE, Int.reduceEq, Int.reduceNe, Int.reduceAdd, Int.reduceSub, Int.reduceMul, Int.reduceToNat, Int.reduceNeg, Nat.reduceEqDiff, Nat.reduceLeDiff, Nat.reduceSub, Nat.reduceMul, Nat.reduceLT, Nat.reduceBEq, Nat.reduceAdd, Nat.reduceDiv, Nat.reduceMod]
   exact h
  ·simp (maxSteps:=9^9) only [a13, r13, go_sem, eq_self, and_self, Int.natCast_pos, Int.le_refl, Nat.le_refl, Int.natCast_nonneg, Int.ofNat_lt, Int.ofNat_le, Int.reduceLT, Int.reduceLE, Int.reduceEq, Int.reduceNe, Int.reduceAdd, Int.reduceSub, Int.reduceMul, Int.reduceToNat, Int.reduceNeg, Nat.reduceEqDiff, Nat.reduceLeDiff, Nat.reduceSub, Nat.reduceMul, Nat.reduceLT, Nat.reduceBEq, Nat.reduceAdd, Nat.reduceDiv, Nat.reduceMod]
   exact h
 ·exact h.elim
end Go.V
namespace Go.V
set_option linter.unusedSimpArgs false
set_option linter.unnecessarySimpa false
open Go.Proofs
def a5 : AS := qS [q 1 (.box (.t 0)), q 2 (.mv qf)] [1] (.seq (qS [q 7 (.call 9 [] []), q 8 (.not (.t 7)), q0 9 8, qF 10 (.ldA 5 (.t 1)) 9, qF 11 (.call 15 [none] [.t 10]) 9, qF 12 (.not (.t 11)) 9, q 13 (.pick (.t 9) qt (.t 12))] [1,13] (.cond (.t 13) (qS
 [q 14 (.call 9 [] []), q0 2 14] [2] .ret) .skip)) (qS [q 16 (.ldA 5 (.t 1)), qX 17 17 [.t 16], qX 16 18 [.t 17], q0 15 18, q 19 (.ext (.t 15) 0), q 20 (.ext (.t 15) 1), q0 3 19, q0 4 20] [1,3,4] (qS [q 22 (.ldA 5 (.t 1)), qX 18 23 [.t 22],
 q0 21 23, q 24 (.ext (.t 21) 0), q 25 (.ext (.t 21) 1), q0 5 24, q0 6 25] [3,4,5,6] (qS [q0 26 3, q0 27 5, q 28 (.bin .eql (.t 26) (.t 27)), q0 29 28, q1 30 4 29, q1 31 6 29, qT 32 (.bin .eql (.t 30) (.t 31)) 29, q 33 (.pick (.t 29) (.t 32)
 qf), q0 2 33] [2] .ret))))
def r5 : List RT := [.t 2]
def r6 : List RT := [.t 4]
def a7 : AS := qS [q 2 (.box (.t 0)), q 4 (.mv qf)] [1,2] (.seq (qS [q 11 (.call 9 [] []), q 12 (.not (.t 11)), q0 13 12, qF 14 (.ldA 5 (.t 2)) 13, qF 15 (.call 15 [none] [.t 14]) 13, qF 16 (.not (.t 15)) 13, q 17 (.pick (.t 13) qt (.t 16)), q0 18 17, q2
 19 1 18, qF 20 (.len .i (.t 19)) 18, qF 21 (.bin .gtr (.t 20) (qI 100)) 18, q 22 (.pick (.t 18) qt (.t 21))] [1,2,22] (.cond (.t 22) (qS [q 23 (.call 9 [] []), q0 4 23] [4] .ret) .skip)) (qS [q 25 (.ldA 5 (.t 2)), qX 17 26 [.t 25], qX 16 27
 [.t 26], q0 24 27, q 28 (.ext (.t 24) 0), q 29 (.ext (.t 24) 1), q0 5 28, q0 6 29] [1,5,6] (.seq (qS [q0 30 6, q 31 (.bin .neq (.t 30) (qI 0))] [1,5,31] (.cond (.t 31) (qS [q 4 (.mv qt)] [4] .ret) .skip)) (qS [q0 33 5, q 34 (.bin .add (.t
 33) (.c (.str ⟨#[32]⟩))), qX 10 35 [.t 34], q0 32 35, q 36 (.ext (.t 32) 0), q 37 (.ext (.t 32) 1), q 7 (.alc [qE, .nils, .int .u64 0, .int .u64 0, .nils]), q6 5 7 36, q0 8 37] [1,5,8] (qS [q0 39 5, q 40 (.bin .add (.c (.str ⟨#[32]⟩)) (.t
 39)), qX 10 41 [.t 40], q0 38 41, q 42 (.ext (.t 38) 0), q 43 (.ext (.t 38) 1), q 9 (.alc [qE, .nils, .int .u64 0, .int .u64 0, .nils]), q6 5 9 42, q0 10 43] [1,5,8,10] (qS [q0 44 8, q 45 (.bin .eql (.t 44) (qI 2)), q0 46 45, q1 47 10 46, qT
 48 (.bin .eql (.t 47) (qI 2)) 46, q 49 (.pick (.t 46) (.t 48) qf), q0 50 49, q1 51 5 50, qT 52 (.bin .add (.t 51) (.c (.str ⟨#[32]⟩))) 50, q1 53 1 50, qT 54 (.bin .add (.t 52) (.t 53)) 50, qT 55 (.call 3 [none] [.t 54]) 50, q 56 (.pick (.t
 50) (.t 55) qf), q0 4 56] [4] .ret))))))
def r7 : List RT := [.t 4]
def a15 : AS := qS [q 1 (.box (.t 0)), q 2 (.mv qf)] [1] (.seq (qS [q3 4 1 1, q4 5 4, q 6 (.len .s (.t 5)), q 7 (.mv (qI 0))] [1,6,7] (.block 0 (.loop 1 [1,6,7] (qS [q 8 (.bin .lss (.t 7) (.t 6))] [1,6,7,8] (.seq (.cond (.t 8) .skip (.exit 0)) (.seq (.block
 1 (qS [q0 9 7, q0 3 9] [1,3,6,7] (qS [q3 10 1 1, q4 11 10, q0 12 3, q 13 (.ia 1 (.t 11) (.t 12)), q4 14 13, q 15 (.len .i (.t 14)), q 16 (.bin .gtr (.t 15) (qI 1000)), q0 17 16, q2 18 3 17, qF 19 (.bin .gtr (.t 18) (qI 100)) 17, q 20 (.pick
 (.t 17) qt (.t 19))] [1,6,7,20] (.cond (.t 20) (qS [q 2 (.mv qf)] [2] .ret) .skip)))) (.reg [q 21 (.bin .add (.t 7) (qI 1)), q0 7 21] [1,6,7]))))))) (qS [q3 22 4 1, q4 23 22, q 24 (.len .s (.t 23)), q 25 (.bin .leq (.t 24) (qI 500)), q0 26
 25, qT 27 (.fa 0 (.t 1)) 26, qT 28 (.ld (.t 27)) 26, qT 29 (.len .i (.t 28)) 26, qT 30 (.bin .leq (.t 29) (qI 1000)) 26, q 31 (.pick (.t 26) (.t 30) qf), q0 2 31] [2] .ret))
def r15 : List RT := [.t 2]
def a16 : AS := qS [q 1 (.box (.t 0)), q 2 (.mv (.c (qE))), q 3 (.mv (qI 0))] [1] (.seq (qS [q3 14 4 1, q4 15 14, q 16 (.len .s (.t 15)), q 17 (.bin .gtr (.t 16) (qI 1000)), q0 18 17, qF 19 (.fa 1 (.t 1)) 18, qF 20 (.ld (.t 19)) 18, qF 21 (.len .s (.t 20))
 18, qF 22 (.bin .gtr (.t 21) (qI 1000)) 18, q 23 (.pick (.t 18) qt (.t 22))] [1,23] (.cond (.t 23) (qS [q 2 (.mv (.c (qE))), q 3 (.mv (qI 1))] [2,3] .ret) .skip)) (qS [q3 25 0 1, q4 26 25, q3 27 4 1, q4 28 27, q 29 (.len .s (.t 28)), q 30
 (.bin .add (qI 3) (.t 29)), q 31 (.call 27 [none, none] [.t 26, .t 30]), q0 24 31, q 32 (.ext (.t 24) 0), q 33 (.ext (.t 24) 1), q0 4 32, q0 5 33] [1,4,5] (qS [q3 34 0 1, q4 35 34, q 36 (.bsl 16 .str 1 [(0, (.t 35))]), q0 6 36] [1,4,5,6]
 (.seq (.regD [q3 37 1 1, q4 38 37, q3 39 4 1, q4 40 39, q0 7 38, q0 8 40] [.q 0, .q 1, .q 2, .q 3, .q 4, .q 5] [1,4,5,6,7,8]) (.seq (qS [q0 41 4, q 42 (.s2b (.t 41)), q 43 (.len .s (.t 42)), q 44 (.mv (qI 0))] [1,5,6,7,8,42,43,44] (.block 0
 (.lift 6 none 16 .str (.lift 7 none 16 .str (.lift 8 none 8 (.int .i64) (.loop 1 [1,5,6,7,8,42,43,44] (qS [q 45 (.bin .lss (.t 44) (.t 43))] [1,5,6,7,8,42,43,44,45] (.seq (.cond (.t 45) .skip (.exit 0)) (.seq (.block 1 (qS [q 46 (.ia 1 (.t
 42) (.t 44)), q4 47 46, q0 10 47] [1,5,6,7,8,10,42,43,44] (.block 2 (qS [q0 49 10, q 50 (.bin .eql (.t 49) (.c (.int .u8 99))), q0 48 50] [1,5,6,7,8,10,42,43,44,48] (.cond (.t 48) (.reg [q0 51 6, q3 52 2 1, q4 53 52, q 54 (.call 38 [none,
 none] [.t 53, qI 10]), q 55 (.bsl 16 .str 1 [(0, (.t 54))]), q 56 (.app 16 .str (.t 51) (.t 55)), q0 6 56] [1,5,6,7,8,42,43,44]) (qS [q0 58 10, q 59 (.bin .eql (.t 58) (.c (.int .u8 115))), q0 57 59] [1,5,6,7,8,10,42,43,44,57] (.cond (.t 57)
 (.reg [q0 60 6, q3 61 3 1, q4 62 61, q 63 (.call 38 [none, none] [.t 62, qI 10]), q 64 (.bsl 16 .str 1 [(0, (.t 63))]), q 65 (.app 16 .str (.t 60) (.t 64)), q0 6 65] [1,5,6,7,8,42,43,44]) (qS [q0 67 10, q 68 (.bin .eql (.t 67) (.c (.int .u8
 105))), q0 69 68, q1 70 8 69, qT 71 (.len .s (.t 70)) 69, qT 72 (.bin .gtr (.t 71) (qI 0)) 69, q 73 (.pick (.t 69) (.t 72) qf), q0 66 73] [1,5,6,7,8,10,42,43,44,66] (.cond (.t 66) (.regD [q0 74 6, q0 75 8, q 76 (.ia 1 (.t 75) (qI 0)), q4 77
 76, q 78 (.call 39 [none, none] [.t 77, qI 10]), q 79 (.bsl 16 .str 1 [(0, (.t 78))]), q 80 (.app 16 .str (.t 74) (.t 79)), q0 81 8, q 82 (.slR 1 (.t 81) (some (qI 1)) none), q0 6 80, q0 8 82] [.q 0, .q 1, .q 2, .q 3, .q 7, .q 8, .e 4
 [0,7,8], .e 5 [0,7,8], .e 6 [7,8], .e 9 [7,8], .e 10 []] [1,5,6,7,8,42,43,44]) (qS [q0 84 10, q 85 (.bin .neq (.t 84) (.c (.int .u8 105))), q0 86 85, q1 87 7 86, qT 88 (.len .s (.t 87)) 86, qT 89 (.bin .gtr (.t 88) (qI 0)) 86, q 90 (.pick
 (.t 86) (.t 89) qf), q0 83 90] [1,5,6,7,8,42,43,44,83] (.cond (.t 83) (.regD [q0 91 6, q0 92 7, q 93 (.ia 1 (.t 92) (qI 0)), q4 94 93, qX 40 95 [.t 94], q 96 (.bsl 16 .str 1 [(0, (.t 95))]), q 97 (.app 16 .str (.t 91) (.t 96)), q0 98 7, q 99
 (.slR 1 (.t 98) (some (qI 1)) none), q0 6 97, q0 7 99] [.q 0, .q 1, .q 2, .q 3, .q 7, .q 8, .e 4 [0,7,8], .e 5 [0,7,8], .e 6 [7,8], .e 9 [7,8], .e 10 []] [1,5,6,7,8,42,43,44]) .skip))))))))))) (.reg [q 100 (.bin .add (.t 44) (qI 1)), q0 44
 100] [1,5,6,7,8,42,43,44])))))))))) (qS [q0 101 6, q 102 (.call 41 [(some (16, .str)), none] [.t 101, (.c (.str ⟨#[32]⟩))]), q0 11 102] [1,5,11] (qS [q0 104 11, qX 10 105 [.t 104], q0 103 105, q 106 (.ext (.t 103) 0), q 107 (.ext (.t 103)
 1), q 12 (.alc [qE, .nils, .int .u64 0, .int .u64 0, .nils]), q6 5 12 106, q0 13 107] [1,5,11,12,13] (.seq (qS [q0 108 5, q 109 (.not (.t 108)), q0 110 109, q2 111 13 110, qF 112 (.bin .neq (.t 111) (qI 0)) 110, q 113 (.pick (.t 110) qt (.t
 112)), q0 114 113, qF 115 (.fa 0 (.t 12)) 114, qF 116 (.ld (.t 115)) 114, qF 117 (.fa 0 (.t 1)) 114, qF 118 (.ld (.t 117)) 114, qF 119 (.bin .neq (.t 116) (.t 118)) 114, q 120 (.pick (.t 114) qt (.t 119)), q0 121 120, qF 122 (.fa 2 (.t 12))
 121, qF 123 (.ld (.t 122)) 121, qF 124 (.fa 2 (.t 1)) 121, qF 125 (.ld (.t 124)) 121, qF 126 (.bin .neq (.t 123) (.t 125)) 121, q 127 (.pick (.t 121) qt (.t 126)), q0 128 127, qF 129 (.fa 3 (.t 12)) 128, qF 130 (.ld (.t 129)) 128, qF 131
 (.fa 3 (.t 1)) 128, qF 132 (.ld (.t 131)) 128, qF 133 (.bin .neq (.t 130) (.t 132)) 128, q 134 (.pick (.t 128) qt (.t 133)), q0 135 134, qF 136 (.fa 1 (.t 12)) 135, qF 137 (.ld (.t 136)) 135, qF 138 (.fa 1 (.t 1)) 135, qF 139 (.ld (.t 138))
 135, qF 140 (.call 42 [none, none] [.t 137, .t 139]) 135, qF 141 (.not (.t 140)) 135, q 142 (.pick (.t 135) qt (.t 141)), q0 143 142, qF 144 (.fa 4 (.t 12)) 143, qF 145 (.ld (.t 144)) 143, qF 146 (.fa 4 (.t 1)) 143, qF 147 (.ld (.t 146))
 143, qF 148 (.call 43 [none, none] [.t 145, .t 147]) 143, qF 149 (.not (.t 148)) 143, q 150 (.pick (.t 143) qt (.t 149))] [11,150] (.cond (.t 150) (qS [q 2 (.mv (.c (qE))), q 3 (.mv (qI 1))] [2,3] .ret) .skip)) (qS [q0 151 11, q0 2 151, q 3
 (.mv (qI 0))] [2,3] .ret)))))))))
def r16 : List RT := [.t 2, .t 3]
def a17 : AS := qS [q 1 (.box (.t 0)), q 2 (.alc [qE, .nils, .int .u64 0, .int .u64 0, .nils])] [1,2] (.seq (.regT [q3 3 0 1, q4 4 3, q 5 (.bsl 16 .str 0 []), q3 6 1 1, q4 7 6, q 8 (.app 16 .str (.t 5) (.t 7)), q3 9 2 1, q4 10 9, q3 11 3 1, q4 12 11, q 13
 (.bsl 8 (.int .i64) 0 []), q3 14 4 1, q4 15 14, q 16 (.app 8 (.int .i64) (.t 13) (.t 15)), q 17 (.bld [qE, .nils, .int .u64 0, .int .u64 0, .nils] [(0, 1, (.t 4)), (1, 1, (.t 8)), (2, 1, (.t 10)), (3, 1, (.t 12)), (4, 1, (.t 16))]), q6 5 2
 17] (.q 0 (.q 1 (.q 3 (.q 4 (.q 6 (.q 7 (.q 8 (.q 9 (.q 11 (.q 12 (.e 2 [0,1,3,4,6,7,8,9,11,12] (.e 5 [0,1,6,7,8,9,11,12] (.e 10 [0,1,3,4,6,7,8,9,11,12] (.e 13 [0,1,6,7,8,9] (.q 14 (.e 15 [] .done .no)) .no) .no) (.e 10
 [0,1,3,4,6,7,8,9,11,12] (.e 5 [0,1,6,7,8,9,11,12] (.e 13 [0,1,6,7,8,9] (.q 14 (.e 15 [] .done .no)) .no) .no) .no)) (.e 10 [0,1,3,4,6,7,8,9,11,12] (.e 2 [0,1,3,4,6,7,8,9,11,12] (.e 5 [0,1,6,7,8,9,11,12] (.e 13 [0,1,6,7,8,9] (.q 14 (.e 15 []
 .done .no)) .no) .no) .no) .no)))))))))))) [2]) (.lift 2 (some 1) 16 .str (.lift 2 (some 4) 8 (.int .i64) .ret)))
def r17 : List RT := [.c 2 (some 5), .f 2]
def a37 : AS := qS [q 2 (.mv (.c (qE)))] [0] (qS [q0 3 0, qX 94 4 [.t 3], q0 2 4] [2] .ret)
def a40 : AS := qS [q 2 (.mv (.c (qE)))] [0] (.seq (qS [q0 3 0, q 4 (.bin .eql (.t 3) (.c (qE)))] [0,4] (.cond (.t 4) (qS [q 2 (.mv (.c (.str ⟨#[45]⟩)))] [2] .ret) .skip)) (qS [q0 5 0, qX 97 6 [.t 5], q0 2 6] [2] .ret))
def r40 : List RT := [.t 2]
def a42 : AS := qS [q 4 (.mv qf)] [0,1] (.seq (qS [q0 6 0, q 7 (.len .s (.t 6)), q0 8 1, q 9 (.len .s (.t 8)), q 10 (.bin .neq (.t 7) (.t 9))] [0,1,10] (.cond (.t 10) (qS [q 4 (.mv qf)] [4] .ret) .skip)) (.seq (qS [q0 11 0, q 12 (.len .s (.t 11)), q 13 (.mv
 (qI 0))] [0,1,12,13] (.block 0 (.loop 1 [0,1,12,13] (qS [q 14 (.bin .lss (.t 13) (.t 12))] [0,1,12,13,14] (.seq (.cond (.t 14) .skip (.exit 0)) (.seq (.block 1 (qS [q0 15 13, q0 5 15] [0,1,5,12,13] (.seq (.regD [q0 16 0, q0 17 5, q 18 (.ia 1
 (.t 16) (.t 17)), q4 19 18, q0 20 1, q0 21 5, q 22 (.ia 1 (.t 20) (.t 21)), q4 23 22, q 24 (.bin .neq (.t 19) (.t 23))] [.q 0, .q 1, .q 2, .q 3, .q 4, .q 5, .q 6, .q 7, .q 8] [0,1,12,13,24]) (.cond (.t 24) (qS [q 4 (.mv qf)] [4] .ret)
 .skip)))) (.reg [q 25 (.bin .add (.t 13) (qI 1)), q0 13 25] [0,1,12,13]))))))) (qS [q 4 (.mv qt)] [4] .ret)))
def r42 : List RT := [.t 4]
def a43 : AS := qS [q 4 (.mv qf)] [0,1] (.seq (qS [q0 6 0, q 7 (.len .s (.t 6)), q0 8 1, q 9 (.len .s (.t 8)), q 10 (.bin .neq (.t 7) (.t 9))] [0,1,10] (.cond (.t 10) (qS [q 4 (.mv qf)] [4] .ret) .skip)) (.seq (qS [q0 11 0, q 12 (.len .s (.t 11)), q 13 (.mv
 (qI 0))] [0,1,12,13] (.block 0 (.loop 1 [0,1,12,13] (qS [q 14 (.bin .lss (.t 13) (.t 12))] [0,1,12,13,14] (.seq (.cond (.t 14) .skip (.exit 0)) (.seq (.block 1 (qS [q0 15 13, q0 5 15] [0,1,5,12,13] (.seq (.regD [q0 16 0, q0 17 5, q 18 (.ia 1
 (.t 16) (.t 17)), q4 19 18, q0 20 1, q0 21 5, q 22 (.ia 1 (.t 20) (.t 21)), q4 23 22, q 24 (.bin .neq (.t 19) (.t 23))] [.q 0, .q 1, .q 2, .q 3, .q 4, .q 5, .q 6, .q 7, .q 8] [0,1,12,13,24]) (.cond (.t 24) (qS [q 4 (.mv qf)] [4] .ret)
 .skip)))) (.reg [q 25 (.bin .add (.t 13) (qI 1)), q0 13 25] [0,1,12,13]))))))) (qS [q 4 (.mv qt)] [4] .ret)))
def r43 : List RT := [.t 4]
def a44 : AS := qS [q 1 (.box (.t 0)), q 2 (.mv (.c (qE)))] [1] (qS [q3 8 0 1, q4 9 8, q0 3 9] [1,3] (qS [q 4 (.mv (qI 0)), q 5 (.mv (qI 0))] [1,3,4,5] (qS [q3 10 0 1, q4 11 10, qX 32 12 [.t 11], q0 6 12] [1,3,4,5,6] (.seq (qS [q0 13 6, q 14 (.rng (.t 13))]
 [1,3,4,5,6,14] (.block 0 (.loop 1 [1,3,4,5,6,14] (qS [q 15 (.nxt (.t 14)), q 16 (.ext (.t 15) 0)] [1,3,4,5,6,14,15,16] (.seq (.cond (.t 16) .skip (.exit 0)) (.block 1 (qS [q 17 (.ext (.t 15) 1), q0 7 17] [1,3,4,5,6,7,14] (qS [q0 18 6, q0 19
 7, q 20 (.ixS (.t 18) (.t 19))] [1,3,4,5,6,14,20] (.block 2 (qS [q 22 (.bin .eql (.t 20) (.c (.int .u8 99))), q0 21 22] [1,3,4,5,6,14,20,21] (.cond (.t 21) (.reg [q0 23 3, q 24 (.bin .add (.t 23) (.c (.str ⟨#[32]⟩))), q3 25 2 1, q4 26 25, qX
 100 27 [.t 26], q 28 (.bin .add (.t 24) (.t 27)), q0 3 28] [1,3,4,5,6,14]) (qS [q 30 (.bin .eql (.t 20) (.c (.int .u8 115))), q0 29 30] [1,3,4,5,6,14,20,29] (.cond (.t 29) (.reg [q0 31 3, q 32 (.bin .add (.t 31) (.c (.str ⟨#[32]⟩))), q3 33 3
 1, q4 34 33, qX 100 35 [.t 34], q 36 (.bin .add (.t 32) (.t 35)), q0 3 36] [1,3,4,5,6,14]) (.seq (qS [q 38 (.bin .eql (.t 20) (.c (.int .u8 107))), q0 37 38] [1,3,4,5,6,14,20,37] (.cond (.t 37) .skip (.reg [q 39 (.bin .eql (.t 20) (.c (.int
 .u8 110))), q0 37 39] [1,3,4,5,6,14,20,37]))) (.cond (.t 37) (.seq (qS [q0 40 4, q3 41 1 1, q4 42 41, q 43 (.len .s (.t 42)), q 44 (.bin .lss (.t 40) (.t 43))] [1,3,4,5,6,14,44] (.cond (.t 44) (.reg [q0 45 3, q 46 (.bin .add (.t 45) (.c
 (.str ⟨#[32]⟩))), q3 47 1 1, q4 48 47, q0 49 4, q 50 (.ia 1 (.t 48) (.t 49)), q4 51 50, qX 101 52 [.t 51], q 53 (.bin .add (.t 46) (.t 52)), q0 3 53] [1,3,4,5,6,14]) .skip)) (.reg [q0 54 4, q 55 (.bin .add (.t 54) (qI 1)), q0 4 55]
 [1,3,4,5,6,14])) (qS [q 57 (.bin .eql (.t 20) (.c (.int .u8 105))), q0 56 57] [1,3,4,5,6,14,20,56] (.cond (.t 56) (.seq (qS [q0 58 5, q3 59 4 1, q4 60 59, q 61 (.len .s (.t 60)), q 62 (.bin .lss (.t 58) (.t 61))] [1,3,4,5,6,14,62] (.cond (.t
 62) (.reg [q0 63 3, q 64 (.bin .add (.t 63) (.c (.str ⟨#[32]⟩))), q3 65 4 1, q4 66 65, q0 67 5, q 68 (.ia 1 (.t 66) (.t 67)), q4 69 68, qX 102 70 [.t 69], q 71 (.bin .add (.t 64) (.t 70)), q0 3 71] [1,3,4,5,6,14]) .skip)) (.reg [q0 72 5, q
 73 (.bin .add (.t 72) (qI 1)), q0 5 73] [1,3,4,5,6,14])) (qS [q 75 (.bin .eql (.t 20) (.c (.int .u8 97))), q0 74 75] [1,3,4,5,6,14,74] (.cond (.t 74) (.block 3 (.loop 2 [1,3,4,5,6,14] (.seq (qS [q0 76 5, q3 77 4 1, q4 78 77, q 79 (.len .s
 (.t 78)), q 80 (.bin .lss (.t 76) (.t 79)), q0 81 80, q1 82 3 81, qT 83 (.len .i (.t 82)) 81, qT 84 (.bin .lss (.t 83) (qI 2000)) 81, q 85 (.pick (.t 81) (.t 84) qf)] [1,3,4,5,6,14,85] (.cond (.t 85) .skip (.exit 3))) (.seq (.block 4 (.reg
 [q0 88 3, q 89 (.bin .add (.t 88) (.c (.str ⟨#[32]⟩))), q3 90 4 1, q4 91 90, q0 92 5, q 93 (.ia 1 (.t 91) (.t 92)), q4 94 93, qX 102 95 [.t 94], q 96 (.bin .add (.t 89) (.t 95)), q0 3 96] [1,3,4,5,6,14])) (.reg [q0 86 5, q 87 (.bin .add (.t
 86) (qI 1)), q0 5 87] [1,3,4,5,6,14]))))) .skip))))))))))))))))))) (qS [q0 97 3, q0 2 97] [2] .ret)))))
theorem ok7 : okF Tryz.prog 7 a7 r7 2 = true := by decide +kernel
theorem ok15 : okF Tryz.prog 15 a15 r15 1 = true := by decide +kernel
theorem ok16 : okF Tryz.prog 16 a16 r16 1 = true := by decide +kernel
theorem ok17 : okF Tryz.prog 17 a17 r17 1 = true := by decide +kernel
theorem ok40 : okF Tryz.prog 40 a40 r40 1 = true := by decide +kernel
theorem ok42 : okF Tryz.prog 42 a42 r42 2 = true := by decide +kernel
theorem ok43 : okF Tryz.prog 43 a43 r43 2 = true := by decide +kernel
end Go.V
namespace Go.Proofs
set_option linter.unusedSimpArgs false
set_option linter.unnecessarySimpa false
open Go.Shelf
def Tryz.jn_ren : Go.Shelf.Ren := ⟨fun | 156 => 41 | 165 => 98 | 166 => 99 | 169 => 70 | 240 => 150 | 241 => 177 | 276 => 234 | 277 => 265 | n => n, fun | 31 => 23 | 9 => 9 | 3 => 3 | 4 => 4 | 0 => 0 | 20 => 20 | 72 => 141 | 76 => 182 | 70 => 139 | 37 => 89 | 75 => 134 | 127 => 259 | 164 => 373 | 5 => 5 | 80 => 61 | n => n, fun | n => n⟩
theorem Tryz.jn : Go.Proofs.Lays.n156 Tryz.prog Tryz.jn_ren := {
 mixed := by kernel_rfl
 f156 := Tryz.func41.trans (congrArg some (by kernel_rfl))
 f165 := Tryz.func98.trans (congrArg some (by kernel_rfl))
 f166 := Tryz.func99.trans (congrArg some (by kernel_rfl))
 f169 := Tryz.func70.trans (congrArg some (by kernel_rfl))
 f240 := Tryz.func150.trans (congrArg some (by kernel_rfl))
 f241 := Tryz.func177.trans (congrArg some (by kernel_rfl))
 f276 := Tryz.func234.trans (congrArg some (by kernel_rfl))
 f277 := Tryz.func265.trans (congrArg some (by kernel_rfl))
 t0 := Tryz.underlying0
 a0 := Tryz.isAgg0
 z0 := Tryz.sizeOf0
 v0 := Tryz.zeroValue0
 t3 := Tryz.underlying3
 a3 := Tryz.isAgg3
 z3 := Tryz.sizeOf3
 v3 := Tryz.zeroValue3
 t4 := Tryz.underlying4
 a4 := Tryz.isAgg4
 z4 := Tryz.sizeOf4
 v4 := Tryz.zeroValue4
 t9 := Tryz.underlying9
 a9 := Tryz.isAgg9
 z9 := Tryz.sizeOf9
 v9 := Tryz.zeroValue9
 t20 := Tryz.underlying20
 a20 := Tryz.isAgg20
 z20 := Tryz.sizeOf20
 v20 := Tryz.zeroValue20
 t31 := Tryz.underlying23
 a31 := Tryz.isAgg23
 z31 := Tryz.sizeOf23
 v31 := Tryz.zeroValue23
 t37 := Tryz.underlying89
 a37 := Tryz.isAgg89
 z37 := Tryz.sizeOf89
 v37 := Tryz.zeroValue89
 t70 := Tryz.underlying139
 a70 := Tryz.isAgg139
 z70 := Tryz.sizeOf139
 v70 := Tryz.zeroValue139
 t72 := Tryz.underlying141
 a72 := Tryz.isAgg141
 z72 := Tryz.sizeOf141
 v72 := Tryz.zeroValue141
 t75 := Tryz.underlying134
 a75 := Tryz.isAgg134
 z75 := Tryz.sizeOf134
 v75 := Tryz.zeroValue134
 t76 := Tryz.underlying182
 a76 := Tryz.isAgg182
 z76 := Tryz.sizeOf182
 v76 := Tryz.zeroValue182
 t127 := Tryz.underlying259
 a127 := Tryz.isAgg259
 z127 := Tryz.sizeOf259
 v127 := Tryz.zeroValue259
 t164 := Tryz.underlying373
 a164 := Tryz.isAgg373
 z164 := Tryz.sizeOf373
 v164 := Tryz.zeroValue373 }
def Tryz.itoa_ren : Go.Shelf.Ren := ⟨fun | 171 => 37 | 243 => 94 | 246 => 96 | 283 => 173 | 284 => 174 | 285 => 175 | 286 => 176 | 129 => 261 | 317 => 260 | 318 => 262 | 319 => 263 | 320 => 264 | 337 => 313 | 338 => 314 | n => n, fun | 3 => 3 | 9 => 9 | 2 => 2 | 4 => 4 | 171 => 295 | 0 => 0 | 53 => 24 | 37 => 89 | 5 => 5 | 173 => 298 | 212 => 400 | 51 => 310 | 20 => 20 | 213 => 401 | 46 => 144 | 232 => 484 | 233 => 485 | n => n, fun | 17 => 0 | 18 => 6 | 19 => 7 | n => n⟩
theorem Tryz.itoa : Go.Proofs.LaysM.n171 Tryz.prog Tryz.itoa_ren := {
 mixed := by kernel_rfl
 f129 := Tryz.func261.trans (congrArg some (by kernel_rfl))
 f171 := Tryz.func37.trans (congrArg some (by kernel_rfl))
 f243 := Tryz.func94.trans (congrArg some (by kernel_rfl))
 f246 := Tryz.func96.trans (congrArg some (by kernel_rfl))
 f283 := Tryz.func173.trans (congrArg some (by kernel_rfl))
 f284 := Tryz.func174.trans (congrArg some (by kernel_rfl))
 f285 := Tryz.func175.trans (congrArg some (by kernel_rfl))
 f286 := Tryz.func176.trans (congrArg some (by kernel_rfl))
 f317 := Tryz.func260.trans (congrArg some (by kernel_rfl))
 f318 := Tryz.func262.trans (congrArg some (by kernel_rfl))
 f319 := Tryz.func263.trans (congrArg some (by kernel_rfl))
 f320 := Tryz.func264.trans (congrArg some (by kernel_rfl))
 f337 := Tryz.func313.trans (congrArg some (by kernel_rfl))
 f338 := Tryz.func314.trans (congrArg some (by kernel_rfl))
 t0 := Tryz.underlying0
 a0 := Tryz.isAgg0
 z0 := Tryz.sizeOf0
 v0 := Tryz.zeroValue0
 t2 := Tryz.underlying2
 a2 := Tryz.isAgg2
 z2 := Tryz.sizeOf2
 v2 := Tryz.zeroValue2
 t3 := Tryz.underlying3
 a3 := Tryz.isAgg3
 z3 := Tryz.sizeOf3
 v3 := Tryz.zeroValue3
 t4 := Tryz.underlying4
 a4 := Tryz.isAgg4
 z4 := Tryz.sizeOf4
 v4 := Tryz.zeroValue4
 t5 := Tryz.underlying5
 a5 := Tryz.isAgg5
 z5 := Tryz.sizeOf5
 v5 := Tryz.zeroValue5
 t9 := Tryz.underlying9
 a9 := Tryz.isAgg9
 z9 := Tryz.sizeOf9
 v9 := Tryz.zeroValue9
 t20 := Tryz.underlying20
 a20 := Tryz.isAgg20
 z20 := Tryz.sizeOf20
 v20 := Tryz.zeroValue20
 t37 := Tryz.underlying89
 a37 := Tryz.isAgg89
 z37 := Tryz.sizeOf89
 v37 := Tryz.zeroValue89
 t46 := Tryz.underlying144
 a46 := Tryz.isAgg144
 z46 := Tryz.sizeOf144
 v46 := Tryz.zeroValue144
 t51 := Tryz.underlying310
 a51 := Tryz.isAgg310
 z51 := Tryz.sizeOf310
 v51 := Tryz.zeroValue310
 t53 := Tryz.underlying24
 a53 := Tryz.isAgg24
 z53 := Tryz.sizeOf24
 v53 := Tryz.zeroValue24
 t171 := Tryz.underlying295
 a171 := Tryz.isAgg295
 z171 := Tryz.sizeOf295
 v171 := Tryz.zeroValue295
 t173 := Tryz.underlying298
 a173 := Tryz.isAgg298
 z173 := Tryz.sizeOf298
 v173 := Tryz.zeroValue298
 t212 := Tryz.underlying400
 a212 := Tryz.isAgg400
 z212 := Tryz.sizeOf400
 v212 := Tryz.zeroValue400
 t213 := Tryz.underlying401
 a213 := Tryz.isAgg401
 z213 := Tryz.sizeOf401
 t232 := Tryz.underlying484
 a232 := Tryz.isAgg484
 z232 := Tryz.sizeOf484
 v232 := Tryz.zeroValue484
 t233 := Tryz.underlying485
 a233 := Tryz.isAgg485
 z233 := Tryz.sizeOf485
 v233 := Tryz.zeroValue485
 g17 := by kernel_rfl
 g18 := by kernel_rfl
 g19 := by kernel_rfl
 i0 := by kernel_rfl
 i2 := by kernel_rfl
 i3 := by kernel_rfl
 i4 := by kernel_rfl
 i5 := by kernel_rfl
 i9 := by kernel_rfl
 i20 := by kernel_rfl
 i37 := by kernel_rfl
 i46 := by kernel_rfl
 i51 := by kernel_rfl
 i53 := by kernel_rfl
 i171 := by kernel_rfl
 i173 := by kernel_rfl
 i212 := by kernel_rfl
 i232 := by kernel_rfl
 i233 := by kernel_rfl
 m17 := by kernel_rfl
 m18 := by kernel_rfl
 m19 := by kernel_rfl }
end Go.Proofs
