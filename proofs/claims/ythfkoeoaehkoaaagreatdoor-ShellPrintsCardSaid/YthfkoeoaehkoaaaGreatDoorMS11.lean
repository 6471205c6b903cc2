/- A part of the proof layer, or functions of the given program in it: contracts and their proofs. -/
import Derived.Test.YthfkoeoaehkoaaaGreatDoorMB11
import Derived.Test.YthfkoeoaehkoaaaGreatDoorMN3
import Derived.Test.YthfkoeoaehkoaaaGreatDoorProg
import Derived.Shelf.Strings.OnBuilder
import Derived.Shelf.Strconv.Itoa4
import Derived.Shelf.LaysM
namespace Go.V
set_option linter.unusedSimpArgs false
set_option linter.unnecessarySimpa false
set_option linter.unusedVariables false
instance : DecidableEq Cmd := fun a b =>
 decidable_of_iff (a.word = b.word ∧ a.keys = b.keys ∧ a.client = b.client ∧ a.serial = b.serial ∧ a.ints = b.ints)
  ⟨fun ⟨h1, h2, h3, h4, h5⟩ => by
   cases a
   cases b
   simp only at h1 h2 h3 h4 h5
   subst h1 h2 h3 h4 h5
   rfl, fun h => by rw [h]; exact ⟨rfl, rfl, rfl, rfl, rfl⟩⟩
/-! ### a command's text -/
def hexW (s : ByteArray) : ByteArray := if s = ByteArray.empty then ⟨#[45]⟩ else hexB s
def addW (s w : ByteArray) : ByteArray := s ++ blankB ++ w
theorem size_app (a b : ByteArray) : (a ++ b).size = a.size + b.size := by simp [ByteArray.size_append]
theorem addW_size (s w : ByteArray) : (addW s w).size = s.size + 1 + w.size := by
 unfold addW
 rw [size_app, size_app]
 rfl
def joinB : List ByteArray → ByteArray
 | [] => ByteArray.empty
 | w :: r => r.foldl addW w
theorem joinB_snoc {ws : List ByteArray} (h : ws ≠ []) (x : ByteArray) : joinB (ws ++ [x]) = addW (joinB ws) x := by
 cases ws with
 | nil => exact absurd rfl h
 | cons w r => simp [joinB, List.foldl_append]
def allI : ByteArray → List Int → ByteArray × List Int
 | s, [] => (s, [])
 | s, n :: r => if s.size < 2000 then allI (addW s (itoaB n)) r else (s, n :: r)
structure RS where
 s : ByteArray
 ks : List ByteArray
 ns : List Int
def rawStep (c : Cmd) (g : RS) (k : UInt8) : RS :=
 if k = 99 then { g with s := addW g.s (utoaB c.client) }
 else if k = 115 then { g with s := addW g.s (utoaB c.serial) }
 else if k = 107 ∨ k = 110 then match g.ks with
  | [] => g
  | x :: r => { g with s := addW g.s (hexW x), ks := r }
 else if k = 105 then match g.ns with
  | [] => g
  | x :: r => { g with s := addW g.s (itoaB x), ns := r }
 else if k = 97 then ⟨(allI g.s g.ns).1, g.ks, (allI g.s g.ns).2⟩
 else g
def rawText (c : Cmd) : ByteArray := ((shapeR c.word).data.toList.foldl (rawStep c) ⟨c.word, c.keys, c.ints⟩).s
structure PS where
 ws : List ByteArray
 ks : List ByteArray
 ns : List Int
def prStep (c : Cmd) (g : PS) (k : UInt8) : PS :=
 if k = 99 then { g with ws := g.ws ++ [utoaB c.client] }
 else if k = 115 then { g with ws := g.ws ++ [utoaB c.serial] }
 else if k = 105 then match g.ns with
  | [] => g
  | x :: r => { g with ws := g.ws ++ [itoaB x], ns := r }
 else match g.ks with
  | [] => g
  | x :: r => { g with ws := g.ws ++ [hexW x], ks := r }
def prKinds (c : Cmd) : List UInt8 := (kindsF c.word (3 + c.ints.length)).getD []
def prWords (c : Cmd) : List ByteArray := ((prKinds c).foldl (prStep c) ⟨[c.word], c.keys, c.ints⟩).ws
def prText (c : Cmd) : ByteArray := joinB (prWords c)
def printC (c : Cmd) : Option ByteArray :=
 match parseC (rawText c) with
 | .ok d => if d = c then some (rawText c) else none
 | .error _ => none
/-! ### both texts are alike, where they are read back -/
def simP (p : PS) (g : RS) : Prop := p.ws ≠ [] ∧ joinB p.ws = g.s ∧ p.ks = g.ks ∧ p.ns = g.ns
def smallK (k : UInt8) : Prop := k = 99 ∨ k = 115 ∨ k = 107 ∨ k = 110 ∨ k = 105
theorem sim_step (c : Cmd) {p : PS} {g : RS} (h : simP p g) {k : UInt8} (hk : smallK k) : simP (prStep c p k) (rawStep c g k) := by
 obtain ⟨ws, ks, ns⟩ := p
 obtain ⟨s, ks', ns'⟩ := g
 obtain ⟨h0, h1, h2, h3⟩ := h
 simp only at h0 h1 h2 h3
 subst h1; subst h2; subst h3
 rcases hk with rfl | rfl | rfl | rfl | rfl
 ·exact ⟨by simp [prStep], by simp [prStep, rawStep, joinB_snoc h0], by simp [prStep, rawStep], by simp [prStep, rawStep]⟩
 ·exact ⟨by simp [prStep], by simp [prStep, rawStep, joinB_snoc h0], by simp [prStep, rawStep], by simp [prStep, rawStep]⟩
 ·cases ks with
  | nil => exact ⟨by simpa [prStep] using h0, by simp [prStep, rawStep], by simp [prStep, rawStep], by simp [prStep, rawStep]⟩
  | cons x r => exact ⟨by simp [prStep], by simp [prStep, rawStep, joinB_snoc h0], by simp [prStep, rawStep], by simp [prStep, rawStep]⟩
 ·cases ks with
  | nil => exact ⟨by simpa [prStep] using h0, by simp [prStep, rawStep], by simp [prStep, rawStep], by simp [prStep, rawStep]⟩
  | cons x r => exact ⟨by simp [prStep], by simp [prStep, rawStep, joinB_snoc h0], by simp [prStep, rawStep], by simp [prStep, rawStep]⟩
 ·cases ns with
  | nil => exact ⟨by simpa [prStep] using h0, by simp [prStep, rawStep], by simp [prStep, rawStep], by simp [prStep, rawStep]⟩
  | cons x r => exact ⟨by simp [prStep], by simp [prStep, rawStep, joinB_snoc h0], by simp [prStep, rawStep], by simp [prStep, rawStep]⟩
theorem sim_fold (c : Cmd) : ∀ (l : List UInt8) {p : PS} {g : RS}, simP p g → (∀ k ∈ l, smallK k) → simP (l.foldl (prStep c) p) (l.foldl (rawStep c) g)
 | [], _, _, h, _ => h
 | k :: l, _, _, h, hk => sim_fold c l (sim_step c h (hk k (List.mem_cons_self ..))) (fun x hx => hk x (List.mem_cons_of_mem _ hx))
def foldI (s : ByteArray) (l : List Int) : ByteArray := l.foldl (fun s n => addW s (itoaB n)) s
theorem foldI_le : ∀ (l : List Int) (s : ByteArray), s.size ≤ (foldI s l).size
 | [], s => Nat.le_refl _
 | n :: r, s => by
  have := foldI_le r (addW s (itoaB n))
  rw [addW_size] at this
  show s.size ≤ (foldI (addW s (itoaB n)) r).size
  omega
theorem allI_spec : ∀ (l : List Int) (s : ByteArray), (allI s l = (foldI s l, [])) ∨ (2000 ≤ (allI s l).1.size ∧ 2000 ≤ (foldI s l).size)
 | [], s => .inl rfl
 | n :: r, s => by
  unfold allI
  by_cases h : s.size < 2000
  ·rw [if_pos h]
   exact allI_spec r (addW s (itoaB n))
  ·rw [if_neg h]
   have h1 := foldI_le (n :: r) s
   exact .inr ⟨by show 2000 ≤ s.size; omega, by omega⟩
theorem allI_again : ∀ (l : List Int) (s : ByteArray), allI (allI s l).1 (allI s l).2 = allI s l
 | [], s => rfl
 | n :: r, s => by
  by_cases h : s.size < 2000
  ·have e : allI s (n :: r) = allI (addW s (itoaB n)) r := by
    conv => lhs; unfold allI
    rw [if_pos h]
   rw [e]
   exact allI_again r _
  ·have e : allI s (n :: r) = (s, n :: r) := by
    conv => lhs; unfold allI
    rw [if_neg h]
   rw [e]
   exact e
theorem raw_a (c : Cmd) (g : RS) : rawStep c g 97 = ⟨(allI g.s g.ns).1, g.ks, (allI g.s g.ns).2⟩ := by
 simp [rawStep]
theorem raw_4a (c : Cmd) (g : RS) : ([97, 97, 97, 97] : List UInt8).foldl (rawStep c) g = ⟨(allI g.s g.ns).1, g.ks, (allI g.s g.ns).2⟩ := by
 simp only [List.foldl_cons, List.foldl_nil, raw_a, allI_again]
theorem pr_i (c : Cmd) (g : PS) : prStep c g 105 = match g.ns with | [] => g | x :: r => { g with ws := g.ws ++ [itoaB x], ns := r } := by
 simp [prStep]
theorem pr_is (c : Cmd) : ∀ (n : Nat) (g : PS), g.ws ≠ [] → g.ns.length ≤ n → joinB ((List.replicate n (105 : UInt8)).foldl (prStep c) g).ws = foldI (joinB g.ws) g.ns
 | 0, ⟨ws, ks, []⟩, h0, h => rfl
 | 0, ⟨ws, ks, x :: r⟩, h0, h => by simp at h
 | n + 1, ⟨ws, ks, []⟩, h0, h => by
  rw [List.replicate_succ, List.foldl_cons, pr_i]
  exact pr_is c n ⟨ws, ks, []⟩ h0 (Nat.zero_le _)
 | n + 1, ⟨ws, ks, x :: r⟩, h0, h => by
  rw [List.replicate_succ, List.foldl_cons, pr_i]
  have h0' : ws ≠ [] := h0
  have := pr_is c n ⟨ws ++ [itoaB x], ks, r⟩ (by simp) (by simp at h ⊢; omega)
  simp only at this ⊢
  rw [this, joinB_snoc h0']
  rfl
theorem shape_cases (w : ByteArray) : w = offerW ∨ (shapeR w = ⟨#[63]⟩ ∧ ∀ n, kindsF w n = none) ∨ ∃ l, shapeR w = bsOf l ∧ (∀ n, kindsF w n = some l) ∧ (∀ k ∈ l, smallK k) ∧ l.count 105 ≤ 3 ∧ (∀ k ∈ l, k ≠ 99 ∧ k ≠ 115) := by
 by_cases n1 : w = offerW
 ·exact .inl n1
 right
 have n0 : ¬ w = ⟨#[111, 102, 102, 101, 114]⟩ := n1
 have mk : ∀ l : List UInt8, shapeR w = bsOf l → (∀ n, kindsF w n = some l) → (∀ k ∈ l, k = 107 ∨ k = 110 ∨ k = 105) → l.count 105 ≤ 3 → ∃ l, shapeR w = bsOf l ∧ (∀ n, kindsF w n = some l) ∧ (∀ k ∈ l, smallK k) ∧ l.count 105 ≤ 3 ∧ (∀ k ∈ l, k ≠ 99 ∧ k ≠ 115) := by
  intro l a b d e
  refine ⟨l, a, b, fun k hk => ?_, e, fun k hk => ?_⟩
  ·rcases d k hk with e | e | e
   ·exact .inr (.inr (.inl e))
   ·exact .inr (.inr (.inr (.inl e)))
   ·exact .inr (.inr (.inr (.inr e)))
  ·rcases d k hk with rfl | rfl | rfl <;> decide
 rcases Classical.em (w = ⟨#[116, 105, 99, 107]⟩) with e | n2
 ·exact .inr (mk [105] (by unfold shapeR; rw [if_neg n0, if_pos e]; rfl) (fun n => by unfold kindsF; rw [if_neg n0, if_pos e]) (by decide) (by decide))
 rcases Classical.em (w = ⟨#[112, 105, 99, 107]⟩ ∨ w = ⟨#[114, 101, 108, 97, 121]⟩ ∨ w = ⟨#[112, 97, 114, 100, 111, 110]⟩ ∨ w = ⟨#[115, 116, 97, 116, 101]⟩ ∨ w = ⟨#[109, 97, 105, 108]⟩) with e | n3
 ·exact .inr (mk [107] (by unfold shapeR; rw [if_neg n0, if_neg n2, if_pos e]; rfl) (fun n => by unfold kindsF; rw [if_neg n0, if_neg n2, if_pos e]) (by decide) (by decide))
 rcases Classical.em (w = ⟨#[114, 101, 109, 105, 110, 100]⟩) with e | n4
 ·exact .inr (mk [107, 110, 105, 105, 105] (by unfold shapeR; rw [if_neg n0, if_neg n2, if_neg n3, if_pos e]; rfl) (fun n => by unfold kindsF; rw [if_neg n0, if_neg n2, if_neg n3, if_pos e]) (by decide) (by decide))
 rcases Classical.em (w = ⟨#[99, 97, 110, 99, 101, 108]⟩) with e | n5
 ·exact .inr (mk [107, 110] (by unfold shapeR; rw [if_neg n0, if_neg n2, if_neg n3, if_neg n4, if_pos e]; rfl) (fun n => by unfold kindsF; rw [if_neg n0, if_neg n2, if_neg n3, if_neg n4, if_pos e]) (by decide) (by decide))
 rcases Classical.em (w = ⟨#[115, 101, 114, 118, 101]⟩ ∨ w = ⟨#[99, 104, 101, 99, 107, 112, 111, 105, 110, 116]⟩ ∨ w = ⟨#[107, 101, 121, 115]⟩ ∨ w = ⟨#[99, 108, 111, 99, 107]⟩) with e | n6
 ·exact .inr (mk [] (by unfold shapeR; rw [if_neg n0, if_neg n2, if_neg n3, if_neg n4, if_neg n5, if_pos e]; rfl) (fun n => by unfold kindsF; rw [if_neg n0, if_neg n2, if_neg n3, if_neg n4, if_neg n5, if_pos e]) (by decide) (by decide))
 exact .inl ⟨by unfold shapeR; rw [if_neg n0, if_neg n2, if_neg n3, if_neg n4, if_neg n5, if_neg n6], fun n => by unfold kindsF; rw [if_neg n0, if_neg n2, if_neg n3, if_neg n4, if_neg n5, if_neg n6]⟩
theorem kinds_offer (n : Nat) : kindsF offerW n = some ([99, 115, 107, 105] ++ List.replicate (min (n - 4) 4) 105) := by
 unfold kindsF
 exact if_pos rfl
theorem shape_offer : shapeR offerW = bsOf ([99, 115, 107, 105] ++ [97, 97, 97, 97]) := by
 unfold shapeR
 exact (if_pos rfl).trans rfl
theorem bs_list (l : List UInt8) : (bsOf l).data.toList = l := by simp [bsOf]
theorem texts (c : Cmd) : prText c = rawText c ∨ (1000 < (prText c).size ∧ 1000 < (rawText c).size) ∨ (c.word = offerW ∧ 5 < c.ints.length) ∨ (∀ n, kindsF c.word n = none) := by
 rcases shape_cases c.word with hw | ⟨h1, h2⟩ | ⟨l, h1, h2, h3, _, _⟩
 ·by_cases h5 : 5 < c.ints.length
  ·exact .inr (.inr (.inl ⟨hw, h5⟩))
  have hk : prKinds c = [99, 115, 107, 105] ++ List.replicate (min (3 + c.ints.length - 4) 4) 105 := by
   unfold prKinds
   rw [hw, kinds_offer]
   rfl
  have hs : (shapeR c.word).data.toList = [99, 115, 107, 105] ++ [97, 97, 97, 97] := by
   rw [hw, shape_offer, bs_list]
  have hsim := sim_fold c [99, 115, 107, 105] (p := ⟨[c.word], c.keys, c.ints⟩) (g := ⟨c.word, c.keys, c.ints⟩) ⟨by simp, rfl, rfl, rfl⟩ (by intro k hk; simp at hk; unfold smallK; rcases hk with e | e | e | e <;> simp [e])
  have hn : (([99, 115, 107, 105] : List UInt8).foldl (prStep c) ⟨[c.word], c.keys, c.ints⟩).ns.length ≤ min (3 + c.ints.length - 4) 4 := by
   cases hc : c.ints with
   | nil => cases hkk : c.keys <;> simp [prStep]
   | cons x r =>
    rw [hc] at h5
    simp only [List.length_cons] at h5
    cases hkk : c.keys <;> simp [prStep] <;> omega
  generalize hP : ([99, 115, 107, 105] : List UInt8).foldl (prStep c) ⟨[c.word], c.keys, c.ints⟩ = P at hsim hn
  generalize hG : ([99, 115, 107, 105] : List UInt8).foldl (rawStep c) ⟨c.word, c.keys, c.ints⟩ = G at hsim
  have e1 : prText c = foldI (joinB P.ws) P.ns := by
   unfold prText prWords
   rw [hk, List.foldl_append, hP]
   exact pr_is c _ P hsim.1 hn
  have e2 : rawText c = (allI G.s G.ns).1 := by
   unfold rawText
   rw [hs, List.foldl_append, hG, raw_4a]
  rw [e1, e2, hsim.2.1, hsim.2.2.2]
  rcases allI_spec G.ns G.s with h | h
  ·left; rw [h]
  ·right; left; omega
 ·exact .inr (.inr (.inr h2))
 ·left
  have hsim := sim_fold c l (p := ⟨[c.word], c.keys, c.ints⟩) (g := ⟨c.word, c.keys, c.ints⟩) ⟨by simp, rfl, rfl, rfl⟩ h3
  unfold prText prWords rawText prKinds
  rw [h2, h1, bs_list]
  exact hsim.2.1
/-! ### what is read -/
theorem stepC_word {k : UInt8} {w : ByteArray} {c d : Cmd} (h : stepC k w c = some d) : d.word = c.word ∧ d.ints.length ≤ c.ints.length + (if k = 105 then 1 else 0) := by
 unfold stepC at h
 split at h
 ·obtain ⟨n, _, rfl⟩ := Option.map_eq_some_iff.1 h
  exact ⟨rfl, by simp⟩
 split at h
 ·obtain ⟨n, _, rfl⟩ := Option.map_eq_some_iff.1 h
  exact ⟨rfl, by simp⟩
 split at h
 ·rename_i hk
  obtain ⟨n, _, rfl⟩ := Option.map_eq_some_iff.1 h
  exact ⟨rfl, by rw [if_pos hk]; simp⟩
 split at h
 ·cases h
  exact ⟨rfl, by simp⟩
 split at h
 ·split at h
  ·cases h
   exact ⟨rfl, by simp⟩
  ·cases h
 ·cases h
theorem goC_word : ∀ (ks : List UInt8) (ws : List ByteArray) (c d : Cmd), goC ks ws c = some d → d.word = c.word ∧ d.ints.length ≤ c.ints.length + ks.count 105
 | [], ws, c, d, h => by
  have : c = d := by cases ws <;> simpa [goC] using h
  subst this
  exact ⟨rfl, by simp⟩
 | k :: ks, [], c, d, h => by
  have : c = d := by simpa [goC] using h
  subst this
  exact ⟨rfl, by omega⟩
 | k :: ks, w :: ws, c, d, h => by
  rw [goC] at h
  cases hs : stepC k w c with
  | none => rw [hs] at h; cases h
  | some c' =>
   rw [hs] at h
   obtain ⟨h1, h2⟩ := goC_word ks ws c' d h
   obtain ⟨h3, h4⟩ := stepC_word hs
   refine ⟨h1.trans h3, ?_⟩
   rw [List.count_cons]
   by_cases hk : k = 105
   ·subst hk
    simp at h4 ⊢
    omega
   ·rw [if_neg hk] at h4
    omega
theorem parseC_ok {s : ByteArray} {d : Cmd} (h : parseC s = .ok d) : s.size ≤ 1000 ∧ ∃ w0 ws ks, wordsB s = w0 :: ws ∧ kindsF w0 ws.length = some ks ∧ ws.length = ks.length ∧ goC ks ws ⟨w0, [], 0, 0, []⟩ = some d ∧ d.word = w0 := by
 unfold parseC at h
 split at h
 ·cases h
 rename_i hs
 obtain ⟨w0, ws, hw, _⟩ := words_cons s
 rw [hw] at h
 simp only [List.headD_cons, List.length_cons, Nat.add_sub_cancel, List.tail_cons] at h
 split at h
 ·cases h
 rename_i ks hk
 split at h
 ·rename_i hl
  split at h
  ·rename_i c hc
   cases h
   exact ⟨by omega, w0, ws, ks, hw, hk, hl, hc, (goC_word ks ws _ _ hc).1⟩
  ·cases h
 ·cases h
theorem parseC_kinds {s : ByteArray} {d : Cmd} (h : parseC s = .ok d) : (∃ n, kindsF d.word n ≠ none) ∧ (d.word = offerW → d.ints.length ≤ 5) := by
 obtain ⟨_, w0, ws, ks, hw, hk, hl, hg, rfl⟩ := parseC_ok h
 refine ⟨⟨ws.length, by rw [hk]; simp⟩, fun ho => ?_⟩
 have := (goC_word _ _ _ _ hg).2
 rw [ho, kinds_offer] at hk
 cases hk
 refine Nat.le_trans this ?_
 rw [List.count_append, List.count_replicate_self]
 have e : List.count (105 : UInt8) [99, 115, 107, 105] = 1 := by decide
 rw [e]
 show 0 + _ ≤ 5
 omega
theorem print_same (c : Cmd) : (parseC (prText c) = .ok c → rawText c = prText c) ∧ (parseC (rawText c) = .ok c → prText c = rawText c) ∧ ((∃ t, parseC t = .ok c) → ∃ n, kindsF c.word n ≠ none) := by
 have key : ∀ t, parseC t = .ok c → t.size ≤ 1000 ∧ ¬ (c.word = offerW ∧ 5 < c.ints.length) ∧ ¬ (∀ n, kindsF c.word n = none) := by
  intro t ht
  have h1 := parseC_kinds ht
  refine ⟨(parseC_ok ht).1, fun e => ?_, fun e => ?_⟩
  ·have := h1.2 e.1
   omega
  ·obtain ⟨n, hn⟩ := h1.1
   exact hn (e n)
 refine ⟨fun h => ?_, fun h => ?_, fun ⟨t, h⟩ => (parseC_kinds h).1⟩
 ·obtain ⟨k1, k2, k3⟩ := key _ h
  rcases texts c with e | e | e | e
  ·exact e.symm
  ·omega
  ·exact absurd e k2
  ·exact absurd e k3
 ·obtain ⟨k1, k2, k3⟩ := key _ h
  rcases texts c with e | e | e | e
  ·exact e
  ·omega
  ·exact absurd e k2
  ·exact absurd e k3
end Go.V
namespace Go.V
set_option linter.unusedSimpArgs false
set_option linter.unnecessarySimpa false
set_option linter.unusedVariables false
open Go.Lib (decDigits itoa)
/-! ### what is read is printed as it was -/
theorem dec_len : ∀ (k u : Nat), u < 10 ^ (k + 1) → (decDigits u).length ≤ k + 1
 | 0, u, h => by rw [dec_small (by simpa using h)]; simp
 | k + 1, u, h => by
  by_cases hu : u < 10
  ·rw [dec_small hu]; simp
  ·rw [dec_big hu, List.length_append]
   have := dec_len k (u / 10) (by rw [Nat.pow_succ] at h; omega)
   simp only [List.length_cons, List.length_nil]
   omega
theorem bs_back (s : ByteArray) : bsOf s.data.toList = s := by cases s; simp [bsOf]
theorem size_list (s : ByteArray) : s.data.toList.length = s.size := by simp
/-! ### words and their joint -/
theorem shape_len (w : ByteArray) (n : Nat) (l : List UInt8) (h : kindsF w n = some l) : l.length ≤ 8 ∧ w.size ≤ 10 := by
 unfold kindsF at h
 split at h
 ·rename_i e
  cases h
  subst e
  refine ⟨?_, by decide⟩
  simp only [List.length_append, List.length_cons, List.length_nil, List.length_replicate]
  omega
 split at h
 ·rename_i e
  cases h
  subst e
  exact ⟨by decide, by decide⟩
 split at h
 ·rename_i e
  cases h
  refine ⟨by decide, ?_⟩
  rcases e with rfl | rfl | rfl | rfl | rfl <;> decide
 split at h
 ·rename_i e
  cases h
  subst e
  exact ⟨by decide, by decide⟩
 split at h
 ·rename_i e
  cases h
  subst e
  exact ⟨by decide, by decide⟩
 split at h
 ·rename_i e
  cases h
  refine ⟨by decide, ?_⟩
  rcases e with rfl | rfl | rfl | rfl <;> decide
 ·cases h
theorem printC_some {c : Cmd} {s : ByteArray} (h : printC c = some s) : parseC s = .ok c := by
 unfold printC at h
 split at h
 ·rename_i d hd
  split at h
  ·rename_i e
   cases h
   rw [hd, e]
  ·cases h
 ·cases h
/-! ### a blank more -/
end Go.V
namespace Go.V
open Go.Proofs
set_option maxRecDepth 100000
set_option maxHeartbeats 8000000
set_option linter.unusedSimpArgs false
set_option linter.unnecessarySimpa false
set_option linter.unusedVariables false
theorem onL_den {t : Ty} {eb : Nat} {x : SV} {k : List t.den → Prop} (h : onL t eb x k) : ∃ p xs, k xs ∧ x.isArr = false ∧ ∀ E v, den E x v → den E (.sl p eb t xs) v := by
 rcases h with ⟨rfl, h⟩ | ⟨p, xs, rfl, h⟩
 ·refine ⟨true, [], h, rfl, fun E v hv => ?_⟩
  simp only [den] at hv ⊢
  subst hv
  exact .inl ⟨rfl, none, 0, rfl, by decide, fun _ => rfl⟩
 ·exact ⟨p, xs, h, rfl, fun E v hv => hv⟩
theorem take_next {t : Ty} {xs ys : List t.den} {i : Nat} (h1 : i < xs.length) (h2 : i < ys.length) (h : xs.take i = ys.take i) (he : elt t xs i = elt t ys i) : xs.take (i + 1) = ys.take (i + 1) := by
 rw [← take_elt h1, ← take_elt h2, h, he]
theorem cmd_den {E : En} {w : ByteArray} {c s : Int} {x y x' y' : SV} {v : Value} (hx : x.isArr = false) (hy : y.isArr = false) (hx' : x'.isArr = false) (hy' : y'.isArr = false) (h1 : ∀ v, den E x v → den E x' v) (h2 : ∀ v, den E y v → den E y' v)
  (h : den E (.agg [.str w, x, .int .u64 c, .int .u64 s, y]) v) : den E (.agg [.str w, x', .int .u64 c, .int .u64 s, y']) v := by
 simp only [den] at h ⊢
 obtain ⟨cs, rfl, h⟩ := h
 refine ⟨cs, rfl, ?_⟩
 rw [denC_cons rfl] at h ⊢
 obtain ⟨v1, c2, e1, d1, h⟩ := h
 refine ⟨v1, c2, e1, d1, ?_⟩
 rw [denC_cons hx] at h
 rw [denC_cons hx']
 obtain ⟨v2, c3, e2, d2, h⟩ := h
 refine ⟨v2, c3, e2, h1 _ d2, ?_⟩
 rw [denC_cons rfl] at h ⊢
 obtain ⟨v3, c4, e3, d3, h⟩ := h
 refine ⟨v3, c4, e3, d3, ?_⟩
 rw [denC_cons rfl] at h ⊢
 obtain ⟨v4, c5, e4, d4, h⟩ := h
 refine ⟨v4, c5, e4, d4, ?_⟩
 rw [denC_cons hy] at h
 rw [denC_cons hy']
 obtain ⟨v5, c6, e5, d5, h⟩ := h
 exact ⟨v5, c6, e5, h2 _ d5, h⟩
attribute [local irreducible] rc
def C34 : Contract := fun args hp K => match args, hp with
 | [.sl p 16 .str xs, .sl q 16 .str ys], [] => K (.bool (decide ((xs : List ByteArray) = ys))) []
 | _, _ => False
def Le34 (p q : Bool) (xs ys : List ByteArray) : LoopAnn := { G := Nat, I := fun i => ⟨[(0, .sl p 16 .str xs), (1, .sl q 16 .str ys), (12, .int .i64 xs.length), (13, .int .i64 i)], []⟩, R := fun _ i => i ≤ xs.length ∧ xs.take i = ys.take i, μ := fun i => xs.length - i }
theorem Le34_I {p q} {xs ys : List ByteArray} (i : Nat) : (Le34 p q xs ys).I i = ⟨[(0, .sl p 16 .str xs), (1, .sl q 16 .str ys), (12, .int .i64 xs.length), (13, .int .i64 i)], []⟩ := rfl
theorem s34 : Sound Tryz.prog 34 C34 := by
 refine sound_of_okF ok34 .nil ?_
 intro args hp K h
 unfold C34 at h
 split at h
 ·rename_i p xs q ys
  have hmx := maxLen_val
  refine ⟨by simp, [(1, Le34 p q xs ys)], ?_⟩
  simp (maxSteps:=9^9) only [a34, r34, go_sem, eq_self, and_self, Int.natCast_pos, Int.le_refl, Nat.le_refl, Int.natCast_nonneg, Int.ofNat_lt, Int.ofNat_le, Int.reduceLT, Int.reduceLE, Int.reduceEq, Int.reduceNe, Int.reduceAdd, Int.reduceSub, Int.reduceMul, Int.reduceToNat, Int.reduceNeg, Nat.reduceEqDiff, Nat.reduceLeDiff, Nat.reduceSub, Nat.reduceMul, Nat.reduceLT, Nat.reduceBEq, Nat.reduceAdd, Nat.reduceDiv, Nat.reduceMod]
  have hf : ¬ (xs : List ByteArray) = ys → K (.bool false) [] := fun hne => by rw [decide_eq_false hne] at h; exact h
  have ht : (xs : List ByteArray) = ys → K (.bool true) [] := fun e => by rw [decide_eq_true e] at h; exact h
  rintro _ _ m hm _ _ m2 hm2 c3 hc3
  refine swn hc3 (fun h0 => hf (fun e => h0 (by rw [hm, hm2, e]))) (fun h0 => ?_)
  have hl1 : xs.length = ys.length := by omega
  rintro _ _ _ rfl
  refine loop_intro (A := Le34 p q xs ys) (0 : Nat) ?_ ⟨by simp, by simp⟩ ?_
  ·simp (maxSteps:=9^9) only [Le34_I, go_sem, eq_self, and_self, Int.natCast_pos, Int.le_refl, Nat.le_refl, Int.natCast_nonneg, Int.ofNat_lt, Int.ofNat_le, Int.reduceLT, Int.reduceLE, Int.reduceEq, Int.reduceNe, Int.reduceAdd, Int.reduceSub, Int.reduceMul, Int.reduceToNat, Int.reduceNeg, Nat.reduceEqDiff, Nat.reduceLeDiff, Nat.reduceSub, Nat.reduceMul, Nat.reduceLT, Nat.reduceBEq, Nat.reduceAdd, Nat.reduceDiv, Nat.reduceMod]
   rfl
  ·rintro (i : Nat) (⟨g1, g2⟩ : i ≤ xs.length ∧ (xs : List ByteArray).take i = (ys : List ByteArray).take i)
   simp (maxSteps:=9^9) only [Le34_I, go_sem, eq_self, and_self, Int.natCast_pos, Int.le_refl, Nat.le_refl, Int.natCast_nonneg, Int.ofNat_lt, Int.ofNat_le, Int.reduceLT, Int.reduceLE, Int.reduceEq, Int.reduceNe, Int.reduceAdd, Int.reduceSub, Int.reduceMul, Int.reduceToNat, Int.reduceNeg, Nat.reduceEqDiff, Nat.reduceLeDiff, Nat.reduceSub, Nat.reduceMul, Nat.reduceLT, Nat.reduceBEq, Nat.reduceAdd, Nat.reduceDiv, Nat.reduceMod]
   intro c5 hc5
   refine swd hc5 (fun h2 => ?_) (fun h2 => ?_)
   ·refine nd_intro h2 (nd_intro (by omega) ?_)
    intro c6 hc6
    refine swn hc6 (fun h3 => hf (fun e => h3 (by rw [e]))) (fun h3 => ?_)
    rintro _ _ m5 hm5
    rw [w64 (by omega)] at hm5
    rw [hm5, show (i : Int) + 1 = ((i + 1 : Nat) : Int) by omega]
    exact lpE_intro (A := Le34 p q xs ys) (i + 1 : Nat) rfl ⟨h2, take_next (t := .str) h2 (by omega) g2 h3⟩ (by show xs.length - (i + 1) < xs.length - i; omega)
   ·refine ht ?_
    rw [List.take_of_length_le (by omega), List.take_of_length_le (by omega)] at g2
    exact g2
 ·exact h.elim
def C35 : Contract := fun args hp K => match args, hp with
 | [.sl p 8 (.int .i64) xs, .sl q 8 (.int .i64) ys], [] => K (.bool (decide ((xs : List Int) = ys))) []
 | _, _ => False
def Le35 (p q : Bool) (xs ys : List Int) : LoopAnn := { G := Nat, I := fun i => ⟨[(0, .sl p 8 (.int .i64) xs), (1, .sl q 8 (.int .i64) ys), (12, .int .i64 xs.length), (13, .int .i64 i)], []⟩, R := fun _ i => i ≤ xs.length ∧ xs.take i = ys.take i, μ := fun i => xs.length - i }
theorem Le35_I {p q} {xs ys : List Int} (i : Nat) : (Le35 p q xs ys).I i = ⟨[(0, .sl p 8 (.int .i64) xs), (1, .sl q 8 (.int .i64) ys), (12, .int .i64 xs.length), (13, .int .i64 i)], []⟩ := rfl
theorem s35 : Sound Tryz.prog 35 C35 := by
 refine sound_of_okF ok35 .nil ?_
 intro args hp K h
 unfold C35 at h
 split at h
 ·rename_i p xs q ys
  have hmx := maxLen_val
  refine ⟨by simp, [(1, Le35 p q xs ys)], ?_⟩
  simp (maxSteps:=9^9) only [a35, r35, go_sem, eq_self, and_self, Int.natCast_pos, Int.le_refl, Nat.le_refl, Int.natCast_nonneg, Int.ofNat_lt, Int.ofNat_le, Int.reduceLT, Int.reduceLE, Int.reduceEq, Int.reduceNe, Int.reduceAdd, Int.reduceSub, Int.reduceMul, Int.reduceToNat, Int.reduceNeg, Nat.reduceEqDiff, Nat.reduceLeDiff, Nat.reduceSub, Nat.reduceMul, Nat.reduceLT, Nat.reduceBEq, Nat.reduceAdd, Nat.reduceDiv, Nat.reduceMod]
  have hf : ¬ (xs : List Int) = ys → K (.bool false) [] := fun hne => by rw [decide_eq_false hne] at h; exact h
  have ht : (xs : List Int) = ys → K (.bool true) [] := fun e => by rw [decide_eq_true e] at h; exact h
  rintro _ _ m hm _ _ m2 hm2 c3 hc3
  refine swn hc3 (fun h0 => hf (fun e => h0 (by rw [hm, hm2, e]))) (fun h0 => ?_)
  have hl1 : xs.length = ys.length := by omega
  rintro _ _ _ rfl
  refine loop_intro (A := Le35 p q xs ys) (0 : Nat) ?_ ⟨by simp, by simp⟩ ?_
  ·simp (maxSteps:=9^9) only [Le35_I, go_sem, eq_self, and_self, Int.natCast_pos, Int.le_refl, Nat.le_refl, Int.natCast_nonneg, Int.ofNat_lt, Int.ofNat_le, Int.reduceLT, Int.reduceLE, Int.reduceEq, Int.reduceNe, Int.reduceAdd, Int.reduceSub, Int.reduceMul, Int.reduceToNat, Int.reduceNeg, Nat.reduceEqDiff, Nat.reduceLeDiff, Nat.reduceSub, Nat.reduceMul, Nat.reduceLT, Nat.reduceBEq, Nat.reduceAdd, Nat.reduceDiv, Nat.reduceMod]
   rfl
  ·rintro (i : Nat) (⟨g1, g2⟩ : i ≤ xs.length ∧ (xs : List Int).take i = (ys : List Int).take i)
   simp (maxSteps:=9^9) only [Le35_I, go_sem, eq_self, and_self, Int.natCast_pos, Int.le_refl, Nat.le_refl, Int.natCast_nonneg, Int.ofNat_lt, Int.ofNat_le, Int.reduceLT, Int.reduceLE, Int.reduceEq, Int.reduceNe, Int.reduceAdd, Int.reduceSub, Int.reduceMul, Int.reduceToNat, Int.reduceNeg, Nat.reduceEqDiff, Nat.reduceLeDiff, Nat.reduceSub, Nat.reduceMul, Nat.reduceLT, Nat.reduceBEq, Nat.reduceAdd, Nat.reduceDiv, Nat.reduceMod]
   intro c5 hc5
   refine swd hc5 (fun h2 => ?_) (fun h2 => ?_)
   ·refine nd_intro h2 (nd_intro (by omega) ?_)
    intro c6 hc6
    refine swn hc6 (fun h3 => hf (fun e => h3 (by rw [e]))) (fun h3 => ?_)
    rintro _ _ m5 hm5
    rw [w64 (by omega)] at hm5
    rw [hm5, show (i : Int) + 1 = ((i + 1 : Nat) : Int) by omega]
    exact lpE_intro (A := Le35 p q xs ys) (i + 1 : Nat) rfl ⟨h2, take_next (t := .int .i64) h2 (by omega) g2 h3⟩ (by show xs.length - (i + 1) < xs.length - i; omega)
   ·refine ht ?_
    rw [List.take_of_length_le (by omega), List.take_of_length_le (by omega)] at g2
    exact g2
 ·exact h.elim
theorem use34 {p q : Bool} {xs ys : List ByteArray} {K : SV → List SB → Prop} (h : K (.bool (decide (xs = ys))) []) : C34 [.sl p 16 .str xs, .sl q 16 .str ys] [] K := h
theorem use35 {p q : Bool} {xs ys : List Int} {K : SV → List SB → Prop} (h : K (.bool (decide (xs = ys))) []) : C35 [.sl p 8 (.int .i64) xs, .sl q 8 (.int .i64) ys] [] K := h
def C12a : Contract := fun args hp K => match args, hp with
 | [.agg [.str w, .sl p1 16 .str k1, .int .u64 c, .int .u64 s, .sl p2 8 (.int .i64) i1], .agg [.str w', .sl p3 16 .str k2, .int .u64 c', .int .u64 s', .sl p4 8 (.int .i64) i2]], [] => K (.bool (decide (w = w' ∧ c = c' ∧ s = s' ∧ (k1 : List ByteArray) = k2 ∧ (i1 : List Int) = i2))) []
 | _, _ => False
attribute [local irreducible] C34 C35
theorem s12a : Sound Tryz.prog 12 C12a := by
 refine sound_of_okF ok12 (.cons s34 (callable_of_okF ok34) (.cons s35 (callable_of_okF ok35) .nil)) ?_
 intro args hp K h
 unfold C12a at h
 split at h
 ·rename_i w p1 k1 c s p2 i1 w' p3 k2 c' s' p4 i2
  have hf : ¬ (w = w' ∧ c = c' ∧ s = s' ∧ (k1 : List ByteArray) = k2 ∧ (i1 : List Int) = i2) → K (.bool false) [] := fun hne => by rw [decide_eq_false hne] at h; exact h
  have ht : (w = w' ∧ c = c' ∧ s = s' ∧ (k1 : List ByteArray) = k2 ∧ (i1 : List Int) = i2) → K (.bool true) [] := fun e => by rw [decide_eq_true e] at h; exact h
  clear h
  refine ⟨by simp, [], ?_⟩
  simp (maxSteps:=9^9) only [a12, r12, go_sem, eq_self, and_self, Int.natCast_pos, Int.le_refl, Nat.le_refl, Int.natCast_nonneg, Int.ofNat_lt, Int.ofNat_le, Int.reduceLT, Int.reduceLE, Int.reduceEq, Int.reduceNe, Int.reduceAdd, Int.reduceSub, Int.reduceMul, Int.reduceToNat, Int.reduceNeg, Nat.reduceEqDiff, Nat.reduceLeDiff, Nat.reduceSub, Nat.reduceMul, Nat.reduceLT, Nat.reduceBEq, Nat.reduceAdd, Nat.reduceDiv, Nat.reduceMod]
  intro b1 hb1
  refine swd9 hb1 (fun e1 => ?_) (fun e1 => ?_)
  rotate_left
  ·exact hf (fun e => e1 e.1)
  intro b2 hb2
  refine swd9 hb2 (fun e2 => ?_) (fun e2 => ?_)
  rotate_left
  ·exact hf (fun e => e2 e.2.1)
  intro b3 hb3
  refine swd9 hb3 (fun e3 => ?_) (fun e3 => ?_)
  rotate_left
  ·exact hf (fun e => e3 e.2.2.1)
  refine use34 ?_
  simp (maxSteps:=9^9) only [go_sem, eq_self, and_self, Int.natCast_pos, Int.le_refl, Nat.le_refl, Int.natCast_nonneg, Int.ofNat_lt, Int.ofNat_le, Int.reduceLT, Int.reduceLE, Int.reduceEq, Int.reduceNe, Int.reduceAdd, Int.reduceSub, Int.reduceMul, Int.reduceToNat, Int.reduceNeg, Nat.reduceEqDiff, Nat.reduceLeDiff, Nat.reduceSub, Nat.reduceMul, Nat.reduceLT, Nat.reduceBEq, Nat.reduceAdd, Nat.reduceDiv, Nat.reduceMod]
  refine sw_intro (fun e4 => ?_) (fun e4 => ?_)
  rotate_left
  ·exact hf (fun e => of_decide_eq_false e4 e.2.2.2.1)
  refine use35 ?_
  simp (maxSteps:=9^9) only [go_sem, eq_self, and_self, Int.natCast_pos, Int.le_refl, Nat.le_refl, Int.natCast_nonneg, Int.ofNat_lt, Int.ofNat_le, Int.reduceLT, Int.reduceLE, Int.reduceEq, Int.reduceNe, Int.reduceAdd, Int.reduceSub, Int.reduceMul, Int.reduceToNat, Int.reduceNeg, Nat.reduceEqDiff, Nat.reduceLeDiff, Nat.reduceSub, Nat.reduceMul, Nat.reduceLT, Nat.reduceBEq, Nat.reduceAdd, Nat.reduceDiv, Nat.reduceMod]
  by_cases e5 : (i1 : List Int) = i2
  ·rw [decide_eq_true e5]
   exact ht ⟨e1, e2, e3, of_decide_eq_true e4, e5⟩
  ·rw [decide_eq_false e5]
   exact hf (fun e => e5 e.2.2.2.2)
 ·exact h.elim
def C12 : Contract := fun args hp K => match args, hp with
 | [.agg [.str w, x, .int .u64 c, .int .u64 s, y], .agg [.str w', x', .int .u64 c', .int .u64 s', y']], [] => onL .str 16 x fun k1 => onL (.int .i64) 8 y fun i1 => onL .str 16 x' fun k2 => onL (.int .i64) 8 y' fun i2 => K (.bool (decide (w = w' ∧ c = c' ∧ s = s' ∧ (k1 : List ByteArray) = k2 ∧ (i1 : List Int) = i2))) []
 | _, _ => False
theorem s12 : Sound Tryz.prog 12 C12 := by
 intro args hp K h E vs hs hg hd
 unfold C12 at h
 split at h
 ·rename_i w x c s y w' x' c' s' y'
  obtain ⟨p1, k1, h, a1, d1⟩ := onL_den h
  obtain ⟨p2, i1, h, a2, d2⟩ := onL_den h
  obtain ⟨p3, k2, h, a3, d3⟩ := onL_den h
  obtain ⟨p4, i2, h, a4, d4⟩ := onL_den h
  refine s12a [.agg [.str w, .sl p1 16 .str k1, .int .u64 c, .int .u64 s, .sl p2 8 (.int .i64) i1], .agg [.str w', .sl p3 16 .str k2, .int .u64 c', .int .u64 s', .sl p4 8 (.int .i64) i2]] [] K h E vs hs hg ?_
  simp only [denL] at hd ⊢
  obtain ⟨v, r, rfl, h1, v2, r2, rfl, h2, rfl⟩ := hd
  exact ⟨v, _, rfl, cmd_den a1 a2 rfl rfl (d1 E) (d2 E) h1, v2, _, rfl, cmd_den a3 a4 rfl rfl (d3 E) (d4 E) h2, rfl⟩
 ·exact h.elim
def C13 : Contract := fun args hp K => match args, hp with
 | [.agg [.str w, x, .int .u64 c, .int .u64 s, y]], [] => ((x = .nils ∧ y = .nils) ∨ ∃ k i, x = .sl true 16 .str k ∧ y = .sl true 8 (.int .i64) i) ∧ K (.agg [.str w, x, .int .u64 c, .int .u64 s, y]) []
 | _, _ => False
end Go.V
namespace Go.V
set_option linter.unusedSimpArgs false
set_option linter.unnecessarySimpa false
open Go.Proofs
def a5 : AS := qS [q 1 (.box (.t 0)), q 2 (.mv qf)] [1] (.seq (qS [q 7 (.call 9 [] []), q 8 (.not (.t 7)), q0 9 8, qF 10 (.ldA 5 (.t 1)) 9, qF 11 (.call 15 [none] [.t 10]) 9, qF 12 (.not (.t 11)) 9, q 13 (.pick (.t 9) qt (.t 12))] [1,13] (.cond (.t 13) (qS
 [q 14 (.call 9 [] []), q0 2 14] [2] .ret) .skip)) (qS [q 16 (.ldA 5 (.t 1)), qX 17 17 [.t 16], qX 16 18 [.t 17], q0 15 18, q 19 (.ext (.t 15) 0), q 20 (.ext (.t 15) 1), q0 3 19, q0 4 20] [1,3,4] (qS [q 22 (.ldA 5 (.t 1)), qX 18 23 [.t 22],
 q0 21 23, q 24 (.ext (.t 21) 0), q 25 (.ext (.t 21) 1), q0 5 24, q0 6 25] [3,4,5,6] (qS [q0 26 3, q0 27 5, q 28 (.bin .eql (.t 26) (.t 27)), q0 29 28, q1 30 4 29, q1 31 6 29, qT 32 (.bin .eql (.t 30) (.t 31)) 29, q 33 (.pick (.t 29) (.t 32)
 qf), q0 2 33] [2] .ret))))
def r5 : List RT := [.t 2]
def r6 : List RT := [.t 4]
def r7 : List RT := [.t 4]
def a15 : AS := qS [q 1 (.box (.t 0)), q 2 (.mv qf)] [1] (.seq (qS [q3 4 1 1, q4 5 4, q 6 (.len .s (.t 5)), q 7 (.mv (qI 0))] [1,6,7] (.block 0 (.loop 1 [1,6,7] (qS [q 8 (.bin .lss (.t 7) (.t 6))] [1,6,7,8] (.seq (.cond (.t 8) .skip (.exit 0)) (.seq (.block
 1 (qS [q0 9 7, q0 3 9] [1,3,6,7] (qS [q3 10 1 1, q4 11 10, q0 12 3, q 13 (.ia 1 (.t 11) (.t 12)), q4 14 13, q 15 (.len .i (.t 14)), q 16 (.bin .gtr (.t 15) (qI 1000)), q0 17 16, q2 18 3 17, qF 19 (.bin .gtr (.t 18) (qI 100)) 17, q 20 (.pick
 (.t 17) qt (.t 19))] [1,6,7,20] (.cond (.t 20) (qS [q 2 (.mv qf)] [2] .ret) .skip)))) (.reg [q 21 (.bin .add (.t 7) (qI 1)), q0 7 21] [1,6,7]))))))) (qS [q3 22 4 1, q4 23 22, q 24 (.len .s (.t 23)), q 25 (.bin .leq (.t 24) (qI 500)), q0 26
 25, qT 27 (.fa 0 (.t 1)) 26, qT 28 (.ld (.t 27)) 26, qT 29 (.len .i (.t 28)) 26, qT 30 (.bin .leq (.t 29) (qI 1000)) 26, q 31 (.pick (.t 26) (.t 30) qf), q0 2 31] [2] .ret))
def r15 : List RT := [.t 2]
def a16 : AS := qS [q 1 (.box (.t 0)), q 2 (.mv (.c (qE))), q 3 (.mv (qI 0))] [1] (.seq (qS [q3 14 4 1, q4 15 14, q 16 (.len .s (.t 15)), q 17 (.bin .gtr (.t 16) (qI 1000)), q0 18 17, qF 19 (.fa 1 (.t 1)) 18, qF 20 (.ld (.t 19)) 18, qF 21 (.len .s (.t 20))
 18, qF 22 (.bin .gtr (.t 21) (qI 1000)) 18, q 23 (.pick (.t 18) qt (.t 22))] [1,23] (.cond (.t 23) (qS [q 2 (.mv (.c (qE))), q 3 (.mv (qI 1))] [2,3] .ret) .skip)) (qS [q3 25 0 1, q4 26 25, q3 27 4 1, q4 28 27, q 29 (.len .s (.t 28)), q 30
 (.bin .add (qI 3) (.t 29)), q 31 (.call 27 [none, none] [.t 26, .t 30]), q0 24 31, q 32 (.ext (.t 24) 0), q 33 (.ext (.t 24) 1), q0 4 32, q0 5 33] [1,4,5] (qS [q3 34 0 1, q4 35 34, q 36 (.bsl 16 .str 1 [(0, (.t 35))]), q0 6 36] [1,4,5,6]
 (.seq (.regD [q3 37 1 1, q4 38 37, q3 39 4 1, q4 40 39, q0 7 38, q0 8 40] [.q 0, .q 1, .q 2, .q 3, .q 4, .q 5] [1,4,5,6,7,8]) (.seq (qS [q0 41 4, q 42 (.s2b (.t 41)), q 43 (.len .s (.t 42)), q 44 (.mv (qI 0))] [1,5,6,7,8,42,43,44] (.block 0
 (.lift 6 none 16 .str (.lift 7 none 16 .str (.lift 8 none 8 (.int .i64) (.loop 1 [1,5,6,7,8,42,43,44] (qS [q 45 (.bin .lss (.t 44) (.t 43))] [1,5,6,7,8,42,43,44,45] (.seq (.cond (.t 45) .skip (.exit 0)) (.seq (.block 1 (qS [q 46 (.ia 1 (.t
 42) (.t 44)), q4 47 46, q0 10 47] [1,5,6,7,8,10,42,43,44] (.block 2 (qS [q0 49 10, q 50 (.bin .eql (.t 49) (.c (.int .u8 99))), q0 48 50] [1,5,6,7,8,10,42,43,44,48] (.cond (.t 48) (.reg [q0 51 6, q3 52 2 1, q4 53 52, q 54 (.call 38 [none,
 none] [.t 53, qI 10]), q 55 (.bsl 16 .str 1 [(0, (.t 54))]), q 56 (.app 16 .str (.t 51) (.t 55)), q0 6 56] [1,5,6,7,8,42,43,44]) (qS [q0 58 10, q 59 (.bin .eql (.t 58) (.c (.int .u8 115))), q0 57 59] [1,5,6,7,8,10,42,43,44,57] (.cond (.t 57)
 (.reg [q0 60 6, q3 61 3 1, q4 62 61, q 63 (.call 38 [none, none] [.t 62, qI 10]), q 64 (.bsl 16 .str 1 [(0, (.t 63))]), q 65 (.app 16 .str (.t 60) (.t 64)), q0 6 65] [1,5,6,7,8,42,43,44]) (qS [q0 67 10, q 68 (.bin .eql (.t 67) (.c (.int .u8
 105))), q0 69 68, q1 70 8 69, qT 71 (.len .s (.t 70)) 69, qT 72 (.bin .gtr (.t 71) (qI 0)) 69, q 73 (.pick (.t 69) (.t 72) qf), q0 66 73] [1,5,6,7,8,10,42,43,44,66] (.cond (.t 66) (.regD [q0 74 6, q0 75 8, q 76 (.ia 1 (.t 75) (qI 0)), q4 77
 76, q 78 (.call 39 [none, none] [.t 77, qI 10]), q 79 (.bsl 16 .str 1 [(0, (.t 78))]), q 80 (.app 16 .str (.t 74) (.t 79)), q0 81 8, q 82 (.slR 1 (.t 81) (some (qI 1)) none), q0 6 80, q0 8 82] [.q 0, .q 1, .q 2, .q 3, .q 7, .q 8, .e 4
 [0,7,8], .e 5 [0,7,8], .e 6 [7,8], .e 9 [7,8], .e 10 []] [1,5,6,7,8,42,43,44]) (qS [q0 84 10, q 85 (.bin .neq (.t 84) (.c (.int .u8 105))), q0 86 85, q1 87 7 86, qT 88 (.len .s (.t 87)) 86, qT 89 (.bin .gtr (.t 88) (qI 0)) 86, q 90 (.pick
 (.t 86) (.t 89) qf), q0 83 90] [1,5,6,7,8,42,43,44,83] (.cond (.t 83) (.regD [q0 91 6, q0 92 7, q 93 (.ia 1 (.t 92) (qI 0)), q4 94 93, qX 40 95 [.t 94], q 96 (.bsl 16 .str 1 [(0, (.t 95))]), q 97 (.app 16 .str (.t 91) (.t 96)), q0 98 7, q 99
 (.slR 1 (.t 98) (some (qI 1)) none), q0 6 97, q0 7 99] [.q 0, .q 1, .q 2, .q 3, .q 7, .q 8, .e 4 [0,7,8], .e 5 [0,7,8], .e 6 [7,8], .e 9 [7,8], .e 10 []] [1,5,6,7,8,42,43,44]) .skip))))))))))) (.reg [q 100 (.bin .add (.t 44) (qI 1)), q0 44
 100] [1,5,6,7,8,42,43,44])))))))))) (qS [q0 101 6, q 102 (.call 41 [(some (16, .str)), none] [.t 101, (.c (.str ⟨#[32]⟩))]), q0 11 102] [1,5,11] (qS [q0 104 11, qX 10 105 [.t 104], q0 103 105, q 106 (.ext (.t 103) 0), q 107 (.ext (.t 103)
 1), q 12 (.alc [qE, .nils, .int .u64 0, .int .u64 0, .nils]), q6 5 12 106, q0 13 107] [1,5,11,12,13] (.seq (qS [q0 108 5, q 109 (.not (.t 108)), q0 110 109, q2 111 13 110, qF 112 (.bin .neq (.t 111) (qI 0)) 110, q 113 (.pick (.t 110) qt (.t
 112)), q0 114 113, qF 115 (.fa 0 (.t 12)) 114, qF 116 (.ld (.t 115)) 114, qF 117 (.fa 0 (.t 1)) 114, qF 118 (.ld (.t 117)) 114, qF 119 (.bin .neq (.t 116) (.t 118)) 114, q 120 (.pick (.t 114) qt (.t 119)), q0 121 120, qF 122 (.fa 2 (.t 12))
 121, qF 123 (.ld (.t 122)) 121, qF 124 (.fa 2 (.t 1)) 121, qF 125 (.ld (.t 124)) 121, qF 126 (.bin .neq (.t 123) (.t 125)) 121, q 127 (.pick (.t 121) qt (.t 126)), q0 128 127, qF 129 (.fa 3 (.t 12)) 128, qF 130 (.ld (.t 129)) 128, qF 131
 (.fa 3 (.t 1)) 128, qF 132 (.ld (.t 131)) 128, qF 133 (.bin .neq (.t 130) (.t 132)) 128, q 134 (.pick (.t 128) qt (.t 133)), q0 135 134, qF 136 (.fa 1 (.t 12)) 135, qF 137 (.ld (.t 136)) 135, qF 138 (.fa 1 (.t 1)) 135, qF 139 (.ld (.t 138))
 135, qF 140 (.call 42 [none, none] [.t 137, .t 139]) 135, qF 141 (.not (.t 140)) 135, q 142 (.pick (.t 135) qt (.t 141)), q0 143 142, qF 144 (.fa 4 (.t 12)) 143, qF 145 (.ld (.t 144)) 143, qF 146 (.fa 4 (.t 1)) 143, qF 147 (.ld (.t 146))
 143, qF 148 (.call 43 [none, none] [.t 145, .t 147]) 143, qF 149 (.not (.t 148)) 143, q 150 (.pick (.t 143) qt (.t 149))] [11,150] (.cond (.t 150) (qS [q 2 (.mv (.c (qE))), q 3 (.mv (qI 1))] [2,3] .ret) .skip)) (qS [q0 151 11, q0 2 151, q 3
 (.mv (qI 0))] [2,3] .ret)))))))))
def r16 : List RT := [.t 2, .t 3]
def a17 : AS := qS [q 1 (.box (.t 0)), q 2 (.alc [qE, .nils, .int .u64 0, .int .u64 0, .nils])] [1,2] (.seq (.regT [q3 3 0 1, q4 4 3, q 5 (.bsl 16 .str 0 []), q3 6 1 1, q4 7 6, q 8 (.app 16 .str (.t 5) (.t 7)), q3 9 2 1, q4 10 9, q3 11 3 1, q4 12 11, q 13
 (.bsl 8 (.int .i64) 0 []), q3 14 4 1, q4 15 14, q 16 (.app 8 (.int .i64) (.t 13) (.t 15)), q 17 (.bld [qE, .nils, .int .u64 0, .int .u64 0, .nils] [(0, 1, (.t 4)), (1, 1, (.t 8)), (2, 1, (.t 10)), (3, 1, (.t 12)), (4, 1, (.t 16))]), q6 5 2
 17] (.q 0 (.q 1 (.q 3 (.q 4 (.q 6 (.q 7 (.q 8 (.q 9 (.q 11 (.q 12 (.e 2 [0,1,3,4,6,7,8,9,11,12] (.e 5 [0,1,6,7,8,9,11,12] (.e 10 [0,1,3,4,6,7,8,9,11,12] (.e 13 [0,1,6,7,8,9] (.q 14 (.e 15 [] .done .no)) .no) .no) (.e 10
 [0,1,3,4,6,7,8,9,11,12] (.e 5 [0,1,6,7,8,9,11,12] (.e 13 [0,1,6,7,8,9] (.q 14 (.e 15 [] .done .no)) .no) .no) .no)) (.e 10 [0,1,3,4,6,7,8,9,11,12] (.e 2 [0,1,3,4,6,7,8,9,11,12] (.e 5 [0,1,6,7,8,9,11,12] (.e 13 [0,1,6,7,8,9] (.q 14 (.e 15 []
 .done .no)) .no) .no) .no) .no)))))))))))) [2]) (.lift 2 (some 1) 16 .str (.lift 2 (some 4) 8 (.int .i64) .ret)))
def r17 : List RT := [.c 2 (some 5), .f 2]
def a18 : AS := qS [q 1 (.box (.t 0)), q 2 (.mv (.c (qE))), q 3 (.mv (qI 0))] [1] (qS [q 7 (.ldA 5 (.t 1)), qX 44 8 [.t 7], q0 4 8] [1,4] (qS [q0 10 4, qX 11 11 [.t 10], q0 9 11, q 12 (.ext (.t 9) 0), q 13 (.ext (.t 9) 1), q 5 (.alc [qE, .nils, .int .u64 0,
 .int .u64 0, .nils]), q6 5 5 12, q0 6 13] [1,4,5,6] (.seq (qS [q0 14 6, q 15 (.bin .neq (.t 14) (qI 0)), q0 16 15, qF 17 (.ldA 5 (.t 5)) 16, qF 18 (.ldA 5 (.t 1)) 16, qF 19 (.call 12 [none, none] [.t 17, .t 18]) 16, qF 20 (.not (.t 19)) 16,
 q 21 (.pick (.t 16) qt (.t 20))] [4,21] (.cond (.t 21) (qS [q 2 (.mv (.c (qE))), q 3 (.mv (qI 1))] [2,3] .ret) .skip)) (qS [q0 22 4, q0 2 22, q 3 (.mv (qI 0))] [2,3] .ret))))
def r18 : List RT := [.t 2, .t 3]
def a37 : AS := qS [q 2 (.mv (.c (qE)))] [0] (qS [q0 3 0, qX 94 4 [.t 3], q0 2 4] [2] .ret)
def a40 : AS := qS [q 2 (.mv (.c (qE)))] [0] (.seq (qS [q0 3 0, q 4 (.bin .eql (.t 3) (.c (qE)))] [0,4] (.cond (.t 4) (qS [q 2 (.mv (.c (.str ⟨#[45]⟩)))] [2] .ret) .skip)) (qS [q0 5 0, qX 97 6 [.t 5], q0 2 6] [2] .ret))
def r40 : List RT := [.t 2]
def a42 : AS := qS [q 4 (.mv qf)] [0,1] (.seq (qS [q0 6 0, q 7 (.len .s (.t 6)), q0 8 1, q 9 (.len .s (.t 8)), q 10 (.bin .neq (.t 7) (.t 9))] [0,1,10] (.cond (.t 10) (qS [q 4 (.mv qf)] [4] .ret) .skip)) (.seq (qS [q0 11 0, q 12 (.len .s (.t 11)), q 13 (.mv
 (qI 0))] [0,1,12,13] (.block 0 (.loop 1 [0,1,12,13] (qS [q 14 (.bin .lss (.t 13) (.t 12))] [0,1,12,13,14] (.seq (.cond (.t 14) .skip (.exit 0)) (.seq (.block 1 (qS [q0 15 13, q0 5 15] [0,1,5,12,13] (.seq (.regD [q0 16 0, q0 17 5, q 18 (.ia 1
 (.t 16) (.t 17)), q4 19 18, q0 20 1, q0 21 5, q 22 (.ia 1 (.t 20) (.t 21)), q4 23 22, q 24 (.bin .neq (.t 19) (.t 23))] [.q 0, .q 1, .q 2, .q 3, .q 4, .q 5, .q 6, .q 7, .q 8] [0,1,12,13,24]) (.cond (.t 24) (qS [q 4 (.mv qf)] [4] .ret)
 .skip)))) (.reg [q 25 (.bin .add (.t 13) (qI 1)), q0 13 25] [0,1,12,13]))))))) (qS [q 4 (.mv qt)] [4] .ret)))
def r42 : List RT := [.t 4]
def a43 : AS := qS [q 4 (.mv qf)] [0,1] (.seq (qS [q0 6 0, q 7 (.len .s (.t 6)), q0 8 1, q 9 (.len .s (.t 8)), q 10 (.bin .neq (.t 7) (.t 9))] [0,1,10] (.cond (.t 10) (qS [q 4 (.mv qf)] [4] .ret) .skip)) (.seq (qS [q0 11 0, q 12 (.len .s (.t 11)), q 13 (.mv
 (qI 0))] [0,1,12,13] (.block 0 (.loop 1 [0,1,12,13] (qS [q 14 (.bin .lss (.t 13) (.t 12))] [0,1,12,13,14] (.seq (.cond (.t 14) .skip (.exit 0)) (.seq (.block 1 (qS [q0 15 13, q0 5 15] [0,1,5,12,13] (.seq (.regD [q0 16 0, q0 17 5, q 18 (.ia 1
 (.t 16) (.t 17)), q4 19 18, q0 20 1, q0 21 5, q 22 (.ia 1 (.t 20) (.t 21)), q4 23 22, q 24 (.bin .neq (.t 19) (.t 23))] [.q 0, .q 1, .q 2, .q 3, .q 4, .q 5, .q 6, .q 7, .q 8] [0,1,12,13,24]) (.cond (.t 24) (qS [q 4 (.mv qf)] [4] .ret)
 .skip)))) (.reg [q 25 (.bin .add (.t 13) (qI 1)), q0 13 25] [0,1,12,13]))))))) (qS [q 4 (.mv qt)] [4] .ret)))
def r43 : List RT := [.t 4]
def a44 : AS := qS [q 1 (.box (.t 0)), q 2 (.mv (.c (qE)))] [1] (qS [q3 8 0 1, q4 9 8, q0 3 9] [1,3] (qS [q 4 (.mv (qI 0)), q 5 (.mv (qI 0))] [1,3,4,5] (qS [q3 10 0 1, q4 11 10, qX 32 12 [.t 11], q0 6 12] [1,3,4,5,6] (.seq (qS [q0 13 6, q 14 (.rng (.t 13))]
 [1,3,4,5,6,14] (.block 0 (.loop 1 [1,3,4,5,6,14] (qS [q 15 (.nxt (.t 14)), q 16 (.ext (.t 15) 0)] [1,3,4,5,6,14,15,16] (.seq (.cond (.t 16) .skip (.exit 0)) (.block 1 (qS [q 17 (.ext (.t 15) 1), q0 7 17] [1,3,4,5,6,7,14] (qS [q0 18 6, q0 19
 7, q 20 (.ixS (.t 18) (.t 19))] [1,3,4,5,6,14,20] (.block 2 (qS [q 22 (.bin .eql (.t 20) (.c (.int .u8 99))), q0 21 22] [1,3,4,5,6,14,20,21] (.cond (.t 21) (.reg [q0 23 3, q 24 (.bin .add (.t 23) (.c (.str ⟨#[32]⟩))), q3 25 2 1, q4 26 25, qX
 100 27 [.t 26], q 28 (.bin .add (.t 24) (.t 27)), q0 3 28] [1,3,4,5,6,14]) (qS [q 30 (.bin .eql (.t 20) (.c (.int .u8 115))), q0 29 30] [1,3,4,5,6,14,20,29] (.cond (.t 29) (.reg [q0 31 3, q 32 (.bin .add (.t 31) (.c (.str ⟨#[32]⟩))), q3 33 3
 1, q4 34 33, qX 100 35 [.t 34], q 36 (.bin .add (.t 32) (.t 35)), q0 3 36] [1,3,4,5,6,14]) (.seq (qS [q 38 (.bin .eql (.t 20) (.c (.int .u8 107))), q0 37 38] [1,3,4,5,6,14,20,37] (.cond (.t 37) .skip (.reg [q 39 (.bin .eql (.t 20) (.c (.int
 .u8 110))), q0 37 39] [1,3,4,5,6,14,20,37]))) (.cond (.t 37) (.seq (qS [q0 40 4, q3 41 1 1, q4 42 41, q 43 (.len .s (.t 42)), q 44 (.bin .lss (.t 40) (.t 43))] [1,3,4,5,6,14,44] (.cond (.t 44) (.reg [q0 45 3, q 46 (.bin .add (.t 45) (.c
 (.str ⟨#[32]⟩))), q3 47 1 1, q4 48 47, q0 49 4, q 50 (.ia 1 (.t 48) (.t 49)), q4 51 50, qX 101 52 [.t 51], q 53 (.bin .add (.t 46) (.t 52)), q0 3 53] [1,3,4,5,6,14]) .skip)) (.reg [q0 54 4, q 55 (.bin .add (.t 54) (qI 1)), q0 4 55]
 [1,3,4,5,6,14])) (qS [q 57 (.bin .eql (.t 20) (.c (.int .u8 105))), q0 56 57] [1,3,4,5,6,14,20,56] (.cond (.t 56) (.seq (qS [q0 58 5, q3 59 4 1, q4 60 59, q 61 (.len .s (.t 60)), q 62 (.bin .lss (.t 58) (.t 61))] [1,3,4,5,6,14,62] (.cond (.t
 62) (.reg [q0 63 3, q 64 (.bin .add (.t 63) (.c (.str ⟨#[32]⟩))), q3 65 4 1, q4 66 65, q0 67 5, q 68 (.ia 1 (.t 66) (.t 67)), q4 69 68, qX 102 70 [.t 69], q 71 (.bin .add (.t 64) (.t 70)), q0 3 71] [1,3,4,5,6,14]) .skip)) (.reg [q0 72 5, q
 73 (.bin .add (.t 72) (qI 1)), q0 5 73] [1,3,4,5,6,14])) (qS [q 75 (.bin .eql (.t 20) (.c (.int .u8 97))), q0 74 75] [1,3,4,5,6,14,74] (.cond (.t 74) (.block 3 (.loop 2 [1,3,4,5,6,14] (.seq (qS [q0 76 5, q3 77 4 1, q4 78 77, q 79 (.len .s
 (.t 78)), q 80 (.bin .lss (.t 76) (.t 79)), q0 81 80, q1 82 3 81, qT 83 (.len .i (.t 82)) 81, qT 84 (.bin .lss (.t 83) (qI 2000)) 81, q 85 (.pick (.t 81) (.t 84) qf)] [1,3,4,5,6,14,85] (.cond (.t 85) .skip (.exit 3))) (.seq (.block 4 (.reg
 [q0 88 3, q 89 (.bin .add (.t 88) (.c (.str ⟨#[32]⟩))), q3 90 4 1, q4 91 90, q0 92 5, q 93 (.ia 1 (.t 91) (.t 92)), q4 94 93, qX 102 95 [.t 94], q 96 (.bin .add (.t 89) (.t 95)), q0 3 96] [1,3,4,5,6,14])) (.reg [q0 86 5, q 87 (.bin .add (.t
 86) (qI 1)), q0 5 87] [1,3,4,5,6,14]))))) .skip))))))))))))))))))) (qS [q0 97 3, q0 2 97] [2] .ret)))))
def r44 : List RT := [.t 2]
def a100 : AS := qS [q 2 (.mv (.c (qE)))] [0] (qS [q0 3 0, q 4 (.call 38 [none, none] [.t 3, qI 10]), q0 2 4] [2] .ret)
def r100 : List RT := [.t 2]
def a101 : AS := qS [q 2 (.mv (.c (qE)))] [0] (.seq (qS [q0 3 0, q 4 (.bin .eql (.t 3) (.c (qE)))] [0,4] (.cond (.t 4) (qS [q 2 (.mv (.c (.str ⟨#[45]⟩)))] [2] .ret) .skip)) (qS [q0 5 0, qX 178 6 [.t 5], q0 2 6] [2] .ret))
def r101 : List RT := [.t 2]
def a102 : AS := qS [q 2 (.mv (.c (qE)))] [0] (qS [q0 3 0, q 4 (.call 39 [none, none] [.t 3, qI 10]), q0 2 4] [2] .ret)
def r102 : List RT := [.t 2]
theorem ok5 : okF Tryz.prog 5 a5 r5 1 = true := by decide +kernel
theorem ok15 : okF Tryz.prog 15 a15 r15 1 = true := by decide +kernel
theorem ok16 : okF Tryz.prog 16 a16 r16 1 = true := by decide +kernel
theorem ok17 : okF Tryz.prog 17 a17 r17 1 = true := by decide +kernel
theorem ok18 : okF Tryz.prog 18 a18 r18 1 = true := by decide +kernel
theorem ok40 : okF Tryz.prog 40 a40 r40 1 = true := by decide +kernel
theorem ok42 : okF Tryz.prog 42 a42 r42 2 = true := by decide +kernel
theorem ok43 : okF Tryz.prog 43 a43 r43 2 = true := by decide +kernel
theorem ok44 : okF Tryz.prog 44 a44 r44 1 = true := by decide +kernel
theorem ok100 : okF Tryz.prog 100 a100 r100 1 = true := by decide +kernel
theorem ok101 : okF Tryz.prog 101 a101 r101 1 = true := by decide +kernel
theorem ok102 : okF Tryz.prog 102 a102 r102 1 = true := by decide +kernel
end Go.V
namespace Go.Proofs
set_option linter.unusedSimpArgs false
set_option linter.unnecessarySimpa false
open Go.Shelf
def Tryz.jn_ren : Go.Shelf.Ren := ⟨fun | 156 => 41 | 165 => 98 | 166 => 99 | 169 => 70 | 240 => 150 | 241 => 177 | 276 => 234 | 277 => 265 | n => n, fun | 31 => 23 | 9 => 9 | 3 => 3 | 4 => 4 | 0 => 0 | 20 => 20 | 72 => 141 | 76 => 182 | 70 => 139 | 37 => 89 | 75 => 134 | 127 => 259 | 164 => 373 | 5 => 5 | 80 => 61 | n => n, fun | n => n⟩
theorem Tryz.jn : Go.Proofs.Lays.n156 Tryz.prog Tryz.jn_ren := {
 mixed := by kernel_rfl
 f156 := Tryz.func41.trans (congrArg some (by kernel_rfl))
 f165 := Tryz.func98.trans (congrArg some (by kernel_rfl))
 f166 := Tryz.func99.trans (congrArg some (by kernel_rfl))
 f169 := Tryz.func70.trans (congrArg some (by kernel_rfl))
 f240 := Tryz.func150.trans (congrArg some (by kernel_rfl))
 f241 := Tryz.func177.trans (congrArg some (by kernel_rfl))
 f276 := Tryz.func234.trans (congrArg some (by kernel_rfl))
 f277 := Tryz.func265.trans (congrArg some (by kernel_rfl))
 t0 := Tryz.underlying0
 a0 := Tryz.isAgg0
 z0 := Tryz.sizeOf0
 v0 := Tryz.zeroValue0
 t3 := Tryz.underlying3
 a3 := Tryz.isAgg3
 z3 := Tryz.sizeOf3
 v3 := Tryz.zeroValue3
 t4 := Tryz.underlying4
 a4 := Tryz.isAgg4
 z4 := Tryz.sizeOf4
 v4 := Tryz.zeroValue4
 t9 := Tryz.underlying9
 a9 := Tryz.isAgg9
 z9 := Tryz.sizeOf9
 v9 := Tryz.zeroValue9
 t20 := Tryz.underlying20
 a20 := Tryz.isAgg20
 z20 := Tryz.sizeOf20
 v20 := Tryz.zeroValue20
 t31 := Tryz.underlying23
 a31 := Tryz.isAgg23
 z31 := Tryz.sizeOf23
 v31 := Tryz.zeroValue23
 t37 := Tryz.underlying89
 a37 := Tryz.isAgg89
 z37 := Tryz.sizeOf89
 v37 := Tryz.zeroValue89
 t70 := Tryz.underlying139
 a70 := Tryz.isAgg139
 z70 := Tryz.sizeOf139
 v70 := Tryz.zeroValue139
 t72 := Tryz.underlying141
 a72 := Tryz.isAgg141
 z72 := Tryz.sizeOf141
 v72 := Tryz.zeroValue141
 t75 := Tryz.underlying134
 a75 := Tryz.isAgg134
 z75 := Tryz.sizeOf134
 v75 := Tryz.zeroValue134
 t76 := Tryz.underlying182
 a76 := Tryz.isAgg182
 z76 := Tryz.sizeOf182
 v76 := Tryz.zeroValue182
 t127 := Tryz.underlying259
 a127 := Tryz.isAgg259
 z127 := Tryz.sizeOf259
 v127 := Tryz.zeroValue259
 t164 := Tryz.underlying373
 a164 := Tryz.isAgg373
 z164 := Tryz.sizeOf373
 v164 := Tryz.zeroValue373 }
def Tryz.itoa_ren : Go.Shelf.Ren := ⟨fun | 171 => 37 | 243 => 94 | 246 => 96 | 283 => 173 | 284 => 174 | 285 => 175 | 286 => 176 | 129 => 261 | 317 => 260 | 318 => 262 | 319 => 263 | 320 => 264 | 337 => 313 | 338 => 314 | n => n, fun | 3 => 3 | 9 => 9 | 2 => 2 | 4 => 4 | 171 => 295 | 0 => 0 | 53 => 24 | 37 => 89 | 5 => 5 | 173 => 298 | 212 => 400 | 51 => 310 | 20 => 20 | 213 => 401 | 46 => 144 | 232 => 484 | 233 => 485 | n => n, fun | 17 => 0 | 18 => 6 | 19 => 7 | n => n⟩
theorem Tryz.itoa : Go.Proofs.LaysM.n171 Tryz.prog Tryz.itoa_ren := {
 mixed := by kernel_rfl
 f129 := Tryz.func261.trans (congrArg some (by kernel_rfl))
 f171 := Tryz.func37.trans (congrArg some (by kernel_rfl))
 f243 := Tryz.func94.trans (congrArg some (by kernel_rfl))
 f246 := Tryz.func96.trans (congrArg some (by kernel_rfl))
 f283 := Tryz.func173.trans (congrArg some (by kernel_rfl))
 f284 := Tryz.func174.trans (congrArg some (by kernel_rfl))
 f285 := Tryz.func175.trans (congrArg some (by kernel_rfl))
 f286 := Tryz.func176.trans (congrArg some (by kernel_rfl))
 f317 := Tryz.func260.trans (congrArg some (by kernel_rfl))
 f318 := Tryz.func262.trans (congrArg some (by kernel_rfl))
 f319 := Tryz.func263.trans (congrArg some (by kernel_rfl))
 f320 := Tryz.func264.trans (congrArg some (by kernel_rfl))
 f337 := Tryz.func313.trans (congrArg some (by kernel_rfl))
 f338 := Tryz.func314.trans (congrArg some (by kernel_rfl))
 t0 := Tryz.underlying0
 a0 := Tryz.isAgg0
 z0 := Tryz.sizeOf0
 v0 := Tryz.zeroValue0
 t2 := Tryz.underlying2
 a2 := Tryz.isAgg2
 z2 := Tryz.sizeOf2
 v2 := Tryz.zeroValue2
 t3 := Tryz.underlying3
 a3 := Tryz.isAgg3
 z3 := Tryz.sizeOf3
 v3 := Tryz.zeroValue3
 t4 := Tryz.underlying4
 a4 := Tryz.isAgg4
 z4 := Tryz.sizeOf4
 v4 := Tryz.zeroValue4
 t5 := Tryz.underlying5
 a5 := Tryz.isAgg5
 z5 := Tryz.sizeOf5
 v5 := Tryz.zeroValue5
 t9 := Tryz.underlying9
 a9 := Tryz.isAgg9
 z9 := Tryz.sizeOf9
 v9 := Tryz.zeroValue9
 t20 := Tryz.underlying20
 a20 := Tryz.isAgg20
 z20 := Tryz.sizeOf20
 v20 := Tryz.zeroValue20
 t37 := Tryz.underlying89
 a37 := Tryz.isAgg89
 z37 := Tryz.sizeOf89
 v37 := Tryz.zeroValue89
 t46 := Tryz.underlying144
 a46 := Tryz.isAgg144
 z46 := Tryz.sizeOf144
 v46 := Tryz.zeroValue144
 t51 := Tryz.underlying310
 a51 := Tryz.isAgg310
 z51 := Tryz.sizeOf310
 v51 := Tryz.zeroValue310
 t53 := Tryz.underlying24
 a53 := Tryz.isAgg24
 z53 := Tryz.sizeOf24
 v53 := Tryz.zeroValue24
 t171 := Tryz.underlying295
 a171 := Tryz.isAgg295
 z171 := Tryz.sizeOf295
 v171 := Tryz.zeroValue295
 t173 := Tryz.underlying298
 a173 := Tryz.isAgg298
 z173 := Tryz.sizeOf298
 v173 := Tryz.zeroValue298
 t212 := Tryz.underlying400
 a212 := Tryz.isAgg400
 z212 := Tryz.sizeOf400
 v212 := Tryz.zeroValue400
 t213 := Tryz.underlying401
 a213 := Tryz.isAgg401
 z213 := Tryz.sizeOf401
 t232 := Tryz.underlying484
 a232 := Tryz.isAgg484
 z232 := Tryz.sizeOf484
 v232 := Tryz.zeroValue484
 t233 := Tryz.underlying485
 a233 := Tryz.isAgg485
 z233 := Tryz.sizeOf485
 v233 := Tryz.zeroValue485
 g17 := by kernel_rfl
 g18 := by kernel_rfl
 g19 := by kernel_rfl
 i0 := by kernel_rfl
 i2 := by kernel_rfl
 i3 := by kernel_rfl
 i4 := by kernel_rfl
 i5 := by kernel_rfl
 i9 := by kernel_rfl
 i20 := by kernel_rfl
 i37 := by kernel_rfl
 i46 := by kernel_rfl
 i51 := by kernel_rfl
 i53 := by kernel_rfl
 i171 := by kernel_rfl
 i173 := by kernel_rfl
 i212 := by kernel_rfl
 i232 := by kernel_rfl
 i233 := by kernel_rfl
 m17 := by kernel_rfl
 m18 := by kernel_rfl
 m19 := by kernel_rfl }
end Go.Proofs
