/- A part of the proof layer, or functions of the given program in it: contracts and their proofs. -/
import Derived.Test.YthfkoeoaehkoaaaGreatDoorMN3
namespace Go.V
set_option linter.unusedSimpArgs false
set_option linter.unnecessarySimpa false
set_option linter.unusedVariables false
instance : DecidableEq Cmd := fun a b =>
 decidable_of_iff (a.word = b.word ∧ a.keys = b.keys ∧ a.client = b.client ∧ a.serial = b.serial ∧ a.ints = b.ints)
  ⟨fun ⟨h1, h2, h3, h4, h5⟩ => by
   cases a
   cases b
   simp only at h1 h2 h3 h4 h5
   subst h1 h2 h3 h4 h5
   rfl, fun h => by rw [h]; exact ⟨rfl, rfl, rfl, rfl, rfl⟩⟩
/-! ### a command's text -/
def hexW (s : ByteArray) : ByteArray := if s = ByteArray.empty then ⟨#[45]⟩ else hexB s
def addW (s w : ByteArray) : ByteArray := s ++ blankB ++ w
theorem size_app (a b : ByteArray) : (a ++ b).size = a.size + b.size := by simp [ByteArray.size_append]
theorem addW_size (s w : ByteArray) : (addW s w).size = s.size + 1 + w.size := by
 unfold addW
 rw [size_app, size_app]
 rfl
def joinB : List ByteArray → ByteArray
 | [] => ByteArray.empty
 | w :: r => r.foldl addW w
theorem joinB_snoc {ws : List ByteArray} (h : ws ≠ []) (x : ByteArray) : joinB (ws ++ [x]) = addW (joinB ws) x := by
 cases ws with
 | nil => exact absurd rfl h
 | cons w r => simp [joinB, List.foldl_append]
def allI : ByteArray → List Int → ByteArray × List Int
 | s, [] => (s, [])
 | s, n :: r => if s.size < 2000 then allI (addW s (itoaB n)) r else (s, n :: r)
structure RS where
 s : ByteArray
 ks : List ByteArray
 ns : List Int
def rawStep (c : Cmd) (g : RS) (k : UInt8) : RS :=
 if k = 99 then { g with s := addW g.s (utoaB c.client) }
 else if k = 115 then { g with s := addW g.s (utoaB c.serial) }
 else if k = 107 ∨ k = 110 then match g.ks with
  | [] => g
  | x :: r => { g with s := addW g.s (hexW x), ks := r }
 else if k = 105 then match g.ns with
  | [] => g
  | x :: r => { g with s := addW g.s (itoaB x), ns := r }
 else if k = 97 then ⟨(allI g.s g.ns).1, g.ks, (allI g.s g.ns).2⟩
 else g
def rawText (c : Cmd) : ByteArray := ((shapeR c.word).data.toList.foldl (rawStep c) ⟨c.word, c.keys, c.ints⟩).s
structure PS where
 ws : List ByteArray
 ks : List ByteArray
 ns : List Int
def prStep (c : Cmd) (g : PS) (k : UInt8) : PS :=
 if k = 99 then { g with ws := g.ws ++ [utoaB c.client] }
 else if k = 115 then { g with ws := g.ws ++ [utoaB c.serial] }
 else if k = 105 then match g.ns with
  | [] => g
  | x :: r => { g with ws := g.ws ++ [itoaB x], ns := r }
 else match g.ks with
  | [] => g
  | x :: r => { g with ws := g.ws ++ [hexW x], ks := r }
def prKinds (c : Cmd) : List UInt8 := (kindsF c.word (3 + c.ints.length)).getD []
def prWords (c : Cmd) : List ByteArray := ((prKinds c).foldl (prStep c) ⟨[c.word], c.keys, c.ints⟩).ws
def prText (c : Cmd) : ByteArray := joinB (prWords c)
def printC (c : Cmd) : Option ByteArray :=
 match parseC (rawText c) with
 | .ok d => if d = c then some (rawText c) else none
 | .error _ => none
/-! ### both texts are alike, where they are read back -/
def simP (p : PS) (g : RS) : Prop := p.ws ≠ [] ∧ joinB p.ws = g.s ∧ p.ks = g.ks ∧ p.ns = g.ns
def smallK (k : UInt8) : Prop := k = 99 ∨ k = 115 ∨ k = 107 ∨ k = 110 ∨ k = 105
theorem sim_step (c : Cmd) {p : PS} {g : RS} (h : simP p g) {k : UInt8} (hk : smallK k) : simP (prStep c p k) (rawStep c g k) := by
 obtain ⟨ws, ks, ns⟩ := p
 obtain ⟨s, ks', ns'⟩ := g
 obtain ⟨h0, h1, h2, h3⟩ := h
 simp only at h0 h1 h2 h3
 subst h1; subst h2; subst h3
 rcases hk with rfl | rfl | rfl | rfl | rfl
 ·exact ⟨by simp [prStep], by simp [prStep, rawStep, joinB_snoc h0], by simp [prStep, rawStep], by simp [prStep, rawStep]⟩
 ·exact ⟨by simp [prStep], by simp [prStep, rawStep, joinB_snoc h0], by simp [prStep, rawStep], by simp [prStep, rawStep]⟩
 ·cases ks with
  | nil => exact ⟨by simpa [prStep] using h0, by simp [prStep, rawStep], by simp [prStep, rawStep], by simp [prStep, rawStep]⟩
  | cons x r => exact ⟨by simp [prStep], by simp [prStep, rawStep, joinB_snoc h0], by simp [prStep, rawStep], by simp [prStep, rawStep]⟩
 ·cases ks with
  | nil => exact ⟨by simpa [prStep] using h0, by simp [prStep, rawStep], by simp [prStep, rawStep], by simp [prStep, rawStep]⟩
  | cons x r => exact ⟨by simp [prStep], by simp [prStep, rawStep, joinB_snoc h0], by simp [prStep, rawStep], by simp [prStep, rawStep]⟩
 ·cases ns with
  | nil => exact ⟨by simpa [prStep] using h0, by simp [prStep, rawStep], by simp [prStep, rawStep], by simp [prStep, rawStep]⟩
  | cons x r => exact ⟨by simp [prStep], by simp [prStep, rawStep, joinB_snoc h0], by simp [prStep, rawStep], by simp [prStep, rawStep]⟩
theorem sim_fold (c : Cmd) : ∀ (l : List UInt8) {p : PS} {g : RS}, simP p g → (∀ k ∈ l, smallK k) → simP (l.foldl (prStep c) p) (l.foldl (rawStep c) g)
 | [], _, _, h, _ => h
 | k :: l, _, _, h, hk => sim_fold c l (sim_step c h (hk k (List.mem_cons_self ..))) (fun x hx => hk x (List.mem_cons_of_mem _ hx))
def foldI (s : ByteArray) (l : List Int) : ByteArray := l.foldl (fun s n => addW s (itoaB n)) s
theorem foldI_le : ∀ (l : List Int) (s : ByteArray), s.size ≤ (foldI s l).size
 | [], s => Nat.le_refl _
 | n :: r, s => by
  have := foldI_le r (addW s (itoaB n))
  rw [addW_size] at this
  show s.size ≤ (foldI (addW s (itoaB n)) r).size
  omega
theorem allI_spec : ∀ (l : List Int) (s : ByteArray), (allI s l = (foldI s l, [])) ∨ (2000 ≤ (allI s l).1.size ∧ 2000 ≤ (foldI s l).size)
 | [], s => .inl rfl
 | n :: r, s => by
  unfold allI
  by_cases h : s.size < 2000
  ·rw [if_pos h]
   exact allI_spec r (addW s (itoaB n))
  ·rw [if_neg h]
   have h1 := foldI_le (n :: r) s
   exact .inr ⟨by show 2000 ≤ s.size; omega, by omega⟩
theorem allI_again : ∀ (l : List Int) (s : ByteArray), allI (allI s l).1 (allI s l).2 = allI s l
 | [], s => rfl
 | n :: r, s => by
  by_cases h : s.size < 2000
  ·have e : allI s (n :: r) = allI (addW s (itoaB n)) r := by
    conv => lhs; unfold allI
    rw [if_pos h]
   rw [e]
   exact allI_again r _
  ·have e : allI s (n :: r) = (s, n :: r) := by
    conv => lhs; unfold allI
    rw [if_neg h]
   rw [e]
   exact e
theorem raw_a (c : Cmd) (g : RS) : rawStep c g 97 = ⟨(allI g.s g.ns).1, g.ks, (allI g.s g.ns).2⟩ := by
 simp [rawStep]
theorem raw_4a (c : Cmd) (g : RS) : ([97, 97, 97, 97] : List UInt8).foldl (rawStep c) g = ⟨(allI g.s g.ns).1, g.ks, (allI g.s g.ns).2⟩ := by
 simp only [List.foldl_cons, List.foldl_nil, raw_a, allI_again]
theorem pr_i (c : Cmd) (g : PS) : prStep c g 105 = match g.ns with | [] => g | x :: r => { g with ws := g.ws ++ [itoaB x], ns := r } := by
 simp [prStep]
theorem pr_is (c : Cmd) : ∀ (n : Nat) (g : PS), g.ws ≠ [] → g.ns.length ≤ n → joinB ((List.replicate n (105 : UInt8)).foldl (prStep c) g).ws = foldI (joinB g.ws) g.ns
 | 0, ⟨ws, ks, []⟩, h0, h => rfl
 | 0, ⟨ws, ks, x :: r⟩, h0, h => by simp at h
 | n + 1, ⟨ws, ks, []⟩, h0, h => by
  rw [List.replicate_succ, List.foldl_cons, pr_i]
  exact pr_is c n ⟨ws, ks, []⟩ h0 (Nat.zero_le _)
 | n + 1, ⟨ws, ks, x :: r⟩, h0, h => by
  rw [List.replicate_succ, List.foldl_cons, pr_i]
  have h0' : ws ≠ [] := h0
  have := pr_is c n ⟨ws ++ [itoaB x], ks, r⟩ (by simp) (by simp at h ⊢; omega)
  simp only at this ⊢
  rw [this, joinB_snoc h0']
  rfl
theorem shape_cases (w : ByteArray) : w = offerW ∨ (shapeR w = ⟨#[63]⟩ ∧ ∀ n, kindsF w n = none) ∨ ∃ l, shapeR w = bsOf l ∧ (∀ n, kindsF w n = some l) ∧ (∀ k ∈ l, smallK k) ∧ l.count 105 ≤ 3 ∧ (∀ k ∈ l, k ≠ 99 ∧ k ≠ 115) := by
 by_cases n1 : w = offerW
 ·exact .inl n1
 right
 have n0 : ¬ w = ⟨#[111, 102, 102, 101, 114]⟩ := n1
 have mk : ∀ l : List UInt8, shapeR w = bsOf l → (∀ n, kindsF w n = some l) → (∀ k ∈ l, k = 107 ∨ k = 110 ∨ k = 105) → l.count 105 ≤ 3 → ∃ l, shapeR w = bsOf l ∧ (∀ n, kindsF w n = some l) ∧ (∀ k ∈ l, smallK k) ∧ l.count 105 ≤ 3 ∧ (∀ k ∈ l, k ≠ 99 ∧ k ≠ 115) := by
  intro l a b d e
  refine ⟨l, a, b, fun k hk => ?_, e, fun k hk => ?_⟩
  ·rcases d k hk with e | e | e
   ·exact .inr (.inr (.inl e))
   ·exact .inr (.inr (.inr (.inl e)))
   ·exact .inr (.inr (.inr (.inr e)))
  ·rcases d k hk with rfl | rfl | rfl <;> decide
 rcases Classical.em (w = ⟨#[116, 105, 99, 107]⟩) with e | n2
 ·exact .inr (mk [105] (by unfold shapeR; rw [if_neg n0, if_pos e]; rfl) (fun n => by unfold kindsF; rw [if_neg n0, if_pos e]) (by decide) (by decide))
 rcases Classical.em (w = ⟨#[112, 105, 99, 107]⟩ ∨ w = ⟨#[114, 101, 108, 97, 121]⟩ ∨ w = ⟨#[112, 97, 114, 100, 111, 110]⟩ ∨ w = ⟨#[115, 116, 97, 116, 101]⟩ ∨ w = ⟨#[109, 97, 105, 108]⟩) with e | n3
 ·exact .inr (mk [107] (by unfold shapeR; rw [if_neg n0, if_neg n2, if_pos e]; rfl) (fun n => by unfold kindsF; rw [if_neg n0, if_neg n2, if_pos e]) (by decide) (by decide))
 rcases Classical.em (w = ⟨#[114, 101, 109, 105, 110, 100]⟩) with e | n4
 ·exact .inr (mk [107, 110, 105, 105, 105] (by unfold shapeR; rw [if_neg n0, if_neg n2, if_neg n3, if_pos e]; rfl) (fun n => by unfold kindsF; rw [if_neg n0, if_neg n2, if_neg n3, if_pos e]) (by decide) (by decide))
 rcases Classical.em (w = ⟨#[99, 97, 110, 99, 101, 108]⟩) with e | n5
 ·exact .inr (mk [107, 110] (by unfold shapeR; rw [if_neg n0, if_neg n2, if_neg n3, if_neg n4, if_pos e]; rfl) (fun n => by unfold kindsF; rw [if_neg n0, if_neg n2, if_neg n3, if_neg n4, if_pos e]) (by decide) (by decide))
 rcases Classical.em (w = ⟨#[115, 101, 114, 118, 101]⟩ ∨ w = ⟨#[99, 104, 101, 99, 107, 112, 111, 105, 110, 116]⟩ ∨ w = ⟨#[107, 101, 121, 115]⟩ ∨ w = ⟨#[99, 108, 111, 99, 107]⟩) with e | n6
 ·exact .inr (mk [] (by unfold shapeR; rw [if_neg n0, if_neg n2, if_neg n3, if_neg n4, if_neg n5, if_pos e]; rfl) (fun n => by unfold kindsF; rw [if_neg n0, if_neg n2, if_neg n3, if_neg n4, if_neg n5, if_pos e]) (by decide) (by decide))
 exact .inl ⟨by unfold shapeR; rw [if_neg n0, if_neg n2, if_neg n3, if_neg n4, if_neg n5, if_neg n6], fun n => by unfold kindsF; rw [if_neg n0, if_neg n2, if_neg n3, if_neg n4, if_neg n5, if_neg n6]⟩
theorem kinds_offer (n : Nat) : kindsF offerW n = some ([99, 115, 107, 105] ++ List.replicate (min (n - 4) 4) 105) := by
 unfold kindsF
 exact if_pos rfl
theorem shape_offer : shapeR offerW = bsOf ([99, 115, 107, 105] ++ [97, 97, 97, 97]) := by
 unfold shapeR
 exact (if_pos rfl).trans rfl
theorem bs_list (l : List UInt8) : (bsOf l).data.toList = l := by simp [bsOf]
theorem texts (c : Cmd) : prText c = rawText c ∨ (1000 < (prText c).size ∧ 1000 < (rawText c).size) ∨ (c.word = offerW ∧ 5 < c.ints.length) ∨ (∀ n, kindsF c.word n = none) := by
 rcases shape_cases c.word with hw | ⟨h1, h2⟩ | ⟨l, h1, h2, h3, _, _⟩
 ·by_cases h5 : 5 < c.ints.length
  ·exact .inr (.inr (.inl ⟨hw, h5⟩))
  have hk : prKinds c = [99, 115, 107, 105] ++ List.replicate (min (3 + c.ints.length - 4) 4) 105 := by
   unfold prKinds
   rw [hw, kinds_offer]
   rfl
  have hs : (shapeR c.word).data.toList = [99, 115, 107, 105] ++ [97, 97, 97, 97] := by
   rw [hw, shape_offer, bs_list]
  have hsim := sim_fold c [99, 115, 107, 105] (p := ⟨[c.word], c.keys, c.ints⟩) (g := ⟨c.word, c.keys, c.ints⟩) ⟨by simp, rfl, rfl, rfl⟩ (by intro k hk; simp at hk; unfold smallK; rcases hk with e | e | e | e <;> simp [e])
  have hn : (([99, 115, 107, 105] : List UInt8).foldl (prStep c) ⟨[c.word], c.keys, c.ints⟩).ns.length ≤ min (3 + c.ints.length - 4) 4 := by
   cases hc : c.ints with
   | nil => cases hkk : c.keys <;> simp [prStep]
   | cons x r =>
    rw [hc] at h5
    simp only [List.length_cons] at h5
    cases hkk : c.keys <;> simp [prStep] <;> omega
  generalize hP : ([99, 115, 107, 105] : List UInt8).foldl (prStep c) ⟨[c.word], c.keys, c.ints⟩ = P at hsim hn
  generalize hG : ([99, 115, 107, 105] : List UInt8).foldl (rawStep c) ⟨c.word, c.keys, c.ints⟩ = G at hsim
  have e1 : prText c = foldI (joinB P.ws) P.ns := by
   unfold prText prWords
   rw [hk, List.foldl_append, hP]
   exact pr_is c _ P hsim.1 hn
  have e2 : rawText c = (allI G.s G.ns).1 := by
   unfold rawText
   rw [hs, List.foldl_append, hG, raw_4a]
  rw [e1, e2, hsim.2.1, hsim.2.2.2]
  rcases allI_spec G.ns G.s with h | h
  ·left; rw [h]
  ·right; left; omega
 ·exact .inr (.inr (.inr h2))
 ·left
  have hsim := sim_fold c l (p := ⟨[c.word], c.keys, c.ints⟩) (g := ⟨c.word, c.keys, c.ints⟩) ⟨by simp, rfl, rfl, rfl⟩ h3
  unfold prText prWords rawText prKinds
  rw [h2, h1, bs_list]
  exact hsim.2.1
/-! ### what is read -/
theorem stepC_word {k : UInt8} {w : ByteArray} {c d : Cmd} (h : stepC k w c = some d) : d.word = c.word ∧ d.ints.length ≤ c.ints.length + (if k = 105 then 1 else 0) := by
 unfold stepC at h
 split at h
 ·obtain ⟨n, _, rfl⟩ := Option.map_eq_some_iff.1 h
  exact ⟨rfl, by simp⟩
 split at h
 ·obtain ⟨n, _, rfl⟩ := Option.map_eq_some_iff.1 h
  exact ⟨rfl, by simp⟩
 split at h
 ·rename_i hk
  obtain ⟨n, _, rfl⟩ := Option.map_eq_some_iff.1 h
  exact ⟨rfl, by rw [if_pos hk]; simp⟩
 split at h
 ·cases h
  exact ⟨rfl, by simp⟩
 split at h
 ·split at h
  ·cases h
   exact ⟨rfl, by simp⟩
  ·cases h
 ·cases h
theorem goC_word : ∀ (ks : List UInt8) (ws : List ByteArray) (c d : Cmd), goC ks ws c = some d → d.word = c.word ∧ d.ints.length ≤ c.ints.length + ks.count 105
 | [], ws, c, d, h => by
  have : c = d := by cases ws <;> simpa [goC] using h
  subst this
  exact ⟨rfl, by simp⟩
 | k :: ks, [], c, d, h => by
  have : c = d := by simpa [goC] using h
  subst this
  exact ⟨rfl, by omega⟩
 | k :: ks, w :: ws, c, d, h => by
  rw [goC] at h
  cases hs : stepC k w c with
  | none => rw [hs] at h; cases h
  | some c' =>
   rw [hs] at h
   obtain ⟨h1, h2⟩ := goC_word ks ws c' d h
   obtain ⟨h3, h4⟩ := stepC_word hs
   refine ⟨h1.trans h3, ?_⟩
   rw [List.count_cons]
   by_cases hk : k = 105
   ·subst hk
    simp at h4 ⊢
    omega
   ·rw [if_neg hk] at h4
    omega
theorem parseC_ok {s : ByteArray} {d : Cmd} (h : parseC s = .ok d) : s.size ≤ 1000 ∧ ∃ w0 ws ks, wordsB s = w0 :: ws ∧ kindsF w0 ws.length = some ks ∧ ws.length = ks.length ∧ goC ks ws ⟨w0, [], 0, 0, []⟩ = some d ∧ d.word = w0 := by
 unfold parseC at h
 split at h
 ·cases h
 rename_i hs
 obtain ⟨w0, ws, hw, _⟩ := words_cons s
 rw [hw] at h
 simp only [List.headD_cons, List.length_cons, Nat.add_sub_cancel, List.tail_cons] at h
 split at h
 ·cases h
 rename_i ks hk
 split at h
 ·rename_i hl
  split at h
  ·rename_i c hc
   cases h
   exact ⟨by omega, w0, ws, ks, hw, hk, hl, hc, (goC_word ks ws _ _ hc).1⟩
  ·cases h
 ·cases h
theorem parseC_kinds {s : ByteArray} {d : Cmd} (h : parseC s = .ok d) : (∃ n, kindsF d.word n ≠ none) ∧ (d.word = offerW → d.ints.length ≤ 5) := by
 obtain ⟨_, w0, ws, ks, hw, hk, hl, hg, rfl⟩ := parseC_ok h
 refine ⟨⟨ws.length, by rw [hk]; simp⟩, fun ho => ?_⟩
 have := (goC_word _ _ _ _ hg).2
 rw [ho, kinds_offer] at hk
 cases hk
 refine Nat.le_trans this ?_
 rw [List.count_append, List.count_replicate_self]
 have e : List.count (105 : UInt8) [99, 115, 107, 105] = 1 := by decide
 rw [e]
 show 0 + _ ≤ 5
 omega
theorem print_same (c : Cmd) : (parseC (prText c) = .ok c → rawText c = prText c) ∧ (parseC (rawText c) = .ok c → prText c = rawText c) ∧ ((∃ t, parseC t = .ok c) → ∃ n, kindsF c.word n ≠ none) := by
 have key : ∀ t, parseC t = .ok c → t.size ≤ 1000 ∧ ¬ (c.word = offerW ∧ 5 < c.ints.length) ∧ ¬ (∀ n, kindsF c.word n = none) := by
  intro t ht
  have h1 := parseC_kinds ht
  refine ⟨(parseC_ok ht).1, fun e => ?_, fun e => ?_⟩
  ·have := h1.2 e.1
   omega
  ·obtain ⟨n, hn⟩ := h1.1
   exact hn (e n)
 refine ⟨fun h => ?_, fun h => ?_, fun ⟨t, h⟩ => (parseC_kinds h).1⟩
 ·obtain ⟨k1, k2, k3⟩ := key _ h
  rcases texts c with e | e | e | e
  ·exact e.symm
  ·omega
  ·exact absurd e k2
  ·exact absurd e k3
 ·obtain ⟨k1, k2, k3⟩ := key _ h
  rcases texts c with e | e | e | e
  ·exact e
  ·omega
  ·exact absurd e k2
  ·exact absurd e k3
end Go.V
namespace Go.V
set_option linter.unusedSimpArgs false
set_option linter.unnecessarySimpa false
set_option linter.unusedVariables false
open Go.Lib (decDigits itoa)
/-! ### what is read is printed as it was -/
theorem digb1 : ∀ n, n < 256 → 48 ≤ n → n ≤ 57 → (hexT.getD (n - 48) 0).toNat = n := by decide +kernel
theorem digb2 : ∀ n, n < 256 → 97 ≤ n → n ≤ 102 → (hexT.getD (n - 87) 0).toNat = n := by decide +kernel
theorem digV_back {a : UInt8} {x : Nat} (h : digV a = some x) : hexT.getD x 0 = a ∧ x < 16 := by
 have ha := UInt8.toNat_lt a
 unfold digV at h
 split at h
 ·rename_i h1
  cases h
  exact ⟨UInt8.toNat_inj.1 (digb1 _ ha h1.1 h1.2), by omega⟩
 ·split at h
  ·rename_i h1
   cases h
   exact ⟨UInt8.toNat_inj.1 (digb2 _ ha h1.1 h1.2), by omega⟩
  ·cases h
theorem unhex_back : ∀ (l k : List UInt8), unhexL l = some k → hexL k = l ∧ l.length = 2 * k.length
 | [], k, h => by cases h; exact ⟨rfl, rfl⟩
 | [_], k, h => by cases h
 | a :: b :: r, k, h => by
  simp only [unhexL] at h
  cases ha : digV a with
  | none => rw [ha] at h; cases h
  | some x =>
   cases hb : digV b with
   | none => rw [ha, hb] at h; cases h
   | some y =>
    rw [ha, hb] at h
    simp only at h
    obtain ⟨k', hk', rfl⟩ := Option.map_eq_some_iff.1 h
    obtain ⟨h1, h2⟩ := digV_back ha
    obtain ⟨h3, h4⟩ := digV_back hb
    obtain ⟨ih, il⟩ := unhex_back r k' hk'
    refine ⟨?_, by simp only [List.length_cons]; omega⟩
    show hexT.getD ((UInt8.ofNat (16 * x + y)).toNat / 16) 0 :: hexT.getD ((UInt8.ofNat (16 * x + y)).toNat % 16) 0 :: hexL k' = _
    have e : (UInt8.ofNat (16 * x + y)).toNat = 16 * x + y := by
     rw [UInt8.toNat_ofNat']
     omega
    have e1 : (16 * x + y) / 16 = x := by omega
    have e2 : (16 * x + y) % 16 = y := by omega
    rw [e, e1, e2, h1, h3, ih]
theorem dec_len : ∀ (k u : Nat), u < 10 ^ (k + 1) → (decDigits u).length ≤ k + 1
 | 0, u, h => by rw [dec_small (by simpa using h)]; simp
 | k + 1, u, h => by
  by_cases hu : u < 10
  ·rw [dec_small hu]; simp
  ·rw [dec_big hu, List.length_append]
   have := dec_len k (u / 10) (by rw [Nat.pow_succ] at h; omega)
   simp only [List.length_cons, List.length_nil]
   omega
theorem bs_back (s : ByteArray) : bsOf s.data.toList = s := by cases s; simp [bsOf]
theorem size_list (s : ByteArray) : s.data.toList.length = s.size := by simp
theorem natF_word {w : ByteArray} {n : Nat} (h : natF w.data.toList = some n) : utoaB n = w ∧ w.size ≤ 20 := by
 have e := dec_natF h
 have hb := (parse_natF h).2
 have hl := dec_len 19 n (by omega)
 rw [e, size_list] at hl
 exact ⟨by unfold utoaB; rw [e, bs_back], hl⟩
theorem numI_word {w : ByteArray} {v : Int} (h : numI w.data.toList = some v) : itoaB v = w ∧ w.size ≤ 20 := by
 obtain ⟨hp, e⟩ := numI_parse h
 refine ⟨by unfold itoaB; rw [e, bs_back], ?_⟩
 have hb := Go.Lib.parseIntB_bounds hp
 have e3 : ((2 ^ (64 - 1) : Nat) : Int) = 9223372036854775808 := by decide
 rw [e3] at hb
 rw [← size_list, ← e]
 unfold itoa
 split
 ·have := dec_len 18 v.natAbs (by omega)
  simp only [List.length_cons]
  omega
 ·have := dec_len 18 v.toNat (by omega)
  omega
theorem hex_word {w : ByteArray} {l : List UInt8} (h : unhexF w = some l) (hk : keyOk (bsOf l) = true) : hexW (bsOf l) = w ∧ w.size ≤ 80 := by
 obtain ⟨h1, h2⟩ := unhex_back _ _ h
 rw [keyOk_eq, Bool.and_eq_true, decide_eq_true_eq, decide_eq_true_eq, bsOf_size] at hk
 refine ⟨?_, ?_⟩
 ·unfold hexW
  rw [if_neg (fun e => by
   have := congrArg ByteArray.size e
   rw [bsOf_size] at this
   have h0 : ByteArray.empty.size = 0 := rfl
   omega)]
  unfold hexB
  rw [bs_list, h1, bs_back]
 ·rw [← size_list, h2]; omega
theorem step_word {k : UInt8} {w : ByteArray} {c d : Cmd} (h : stepC k w c = some d) (hk : smallK k) : w.size ≤ 80 ∧
    ((k = 99 ∧ ∃ n, d = { c with client := n } ∧ utoaB n = w) ∨ (k = 115 ∧ ∃ n, d = { c with serial := n } ∧ utoaB n = w) ∨ (k = 105 ∧ ∃ n, d = { c with ints := c.ints ++ [n] } ∧ itoaB n = w) ∨
      ((k = 107 ∨ k = 110) ∧ ∃ x, d = { c with keys := c.keys ++ [x] } ∧ hexW x = w)) := by
  unfold stepC at h
  split at h
  · rename_i e
    obtain ⟨n, hn, rfl⟩ := Option.map_eq_some_iff.1 h
    obtain ⟨h1, h2⟩ := natF_word hn
    exact ⟨by omega, .inl ⟨e, n, rfl, h1⟩⟩
  rename_i e99
  split at h
  · rename_i e
    obtain ⟨n, hn, rfl⟩ := Option.map_eq_some_iff.1 h
    obtain ⟨h1, h2⟩ := natF_word hn
    exact ⟨by omega, .inr (.inl ⟨e, n, rfl, h1⟩)⟩
  rename_i e115
  split at h
  · rename_i e
    obtain ⟨n, hn, rfl⟩ := Option.map_eq_some_iff.1 h
    obtain ⟨h1, h2⟩ := numI_word hn
    exact ⟨by omega, .inr (.inr (.inl ⟨e, n, rfl, h1⟩))⟩
  rename_i e105
  have hkn : k = 107 ∨ k = 110 := by
    rcases hk with e | e | e | e | e
    · exact absurd e e99
    · exact absurd e e115
    · exact .inl e
    · exact .inr e
    · exact absurd e e105
  split at h
  · rename_i e
    cases h
    refine ⟨by rw [e.2]; decide, .inr (.inr (.inr ⟨hkn, ByteArray.empty, rfl, ?_⟩))⟩
    rw [e.2]
    rfl
  · split at h
    · rename_i l hl
      split at h
      · rename_i hko
        cases h
        obtain ⟨h1, h2⟩ := hex_word hl hko
        exact ⟨h2, .inr (.inr (.inr ⟨hkn, _, rfl, h1⟩))⟩
      · cases h
    · cases h
theorem go_print : ∀ (ks : List UInt8) (ws : List ByteArray) (c d : Cmd), goC ks ws c = some d → ws.length = ks.length → (∀ k ∈ ks, smallK k ∧ k ≠ 99 ∧ k ≠ 115) →
  (∀ w ∈ ws, w.size ≤ 80) ∧ ∃ kl il, d = { c with keys := c.keys ++ kl, ints := c.ints ++ il } ∧ il.length = ks.count 105 ∧
   ∀ (P : Cmd) (acc : List ByteArray) (kr : List ByteArray) (nr : List Int), ks.foldl (prStep P) ⟨acc, kl ++ kr, il ++ nr⟩ = ⟨acc ++ ws, kr, nr⟩
 | [], [], c, d, h, _, _ => by
  have : c = d := by simpa [goC] using h
  subst this
  exact ⟨by simp, [], [], by simp, rfl, by simp⟩
 | [], _ :: _, c, d, h, hl, _ => by simp at hl
 | _ :: _, [], c, d, h, hl, _ => by simp at hl
 | k :: ks, w :: ws, c, d, h, hl, hk => by
  rw [goC] at h
  cases hs : stepC k w c with
  | none => rw [hs] at h; cases h
  | some c' =>
   rw [hs] at h
   have hk0 := hk k (List.mem_cons_self ..)
   obtain ⟨k1, k2⟩ := step_word hs hk0.1
   obtain ⟨i1, kl, il, i2, i3, i4⟩ := go_print ks ws c' d h (by simpa using hl) (fun x hx => hk x (List.mem_cons_of_mem _ hx))
   refine ⟨fun x hx => ?_, ?_⟩
   ·rcases List.mem_cons.1 hx with rfl | hx
    ·exact k1
    ·exact i1 x hx
   rcases k2 with ⟨e, _⟩ | ⟨e, _⟩ | ⟨e, n, rfl, hn⟩ | ⟨e, x, rfl, hx⟩
   ·exact absurd e hk0.2.1
   ·exact absurd e hk0.2.2
   ·subst e
    refine ⟨kl, n :: il, by rw [i2]; simp, by rw [List.count_cons, List.length_cons, i3]; simp, fun P acc kr nr => ?_⟩
    rw [List.foldl_cons, pr_i]
    simp only [List.cons_append]
    rw [i4, hn]
    simp
   ·refine ⟨x :: kl, il, by rw [i2]; simp, ?_, fun P acc kr nr => ?_⟩
    ·rw [List.count_cons, i3]
     rcases e with rfl | rfl <;> simp
    ·have ek : prStep P ⟨acc, x :: kl ++ kr, il ++ nr⟩ k = ⟨acc ++ [hexW x], kl ++ kr, il ++ nr⟩ := by
      rcases e with rfl | rfl <;> simp [prStep]
     rw [List.foldl_cons, ek, i4, hx]
     simp
/-! ### words and their joint -/
theorem foldW_app (a : ByteArray) : ∀ (r : List ByteArray) (x : ByteArray), r.foldl addW (a ++ x) = a ++ r.foldl addW x
 | [], x => rfl
 | w :: r, x => by
  rw [List.foldl_cons, List.foldl_cons]
  have : addW (a ++ x) w = a ++ addW x w := by simp [addW, ByteArray.append_assoc]
  rw [this, foldW_app a r]
theorem join_cons2 (w y : ByteArray) (r : List ByteArray) : joinB (w :: y :: r) = w ++ blankB ++ joinB (y :: r) := by
 show (r.foldl addW (addW w y)) = _
 unfold addW
 exact foldW_app _ _ _
theorem bs_app (a b : List UInt8) : bsOf (a ++ b) = bsOf a ++ bsOf b := by
 apply ByteArray.ext
 simp [bsOf, ByteArray.data_append]
theorem splitL_cons2 (l : List UInt8) : ∃ y ys, splitL 32 l = y :: ys := by
 induction l with
 | nil => exact ⟨[], [], rfl⟩
 | cons x r ih =>
  obtain ⟨y, ys, e⟩ := ih
  by_cases h : x = 32
  ·exact ⟨[], y :: ys, by rw [splitL_eq h, e]⟩
  ·exact ⟨x :: y, ys, splitL_ne h e⟩
theorem join_split : ∀ l : List UInt8, joinB ((splitL 32 l).map bsOf) = bsOf l
 | [] => rfl
 | x :: r => by
  obtain ⟨y, ys, e⟩ := splitL_cons2 r
  have ih := join_split r
  rw [e] at ih
  by_cases h : x = 32
  ·subst h
   rw [splitL_eq rfl, e, List.map_cons, List.map_cons, join_cons2]
   rw [List.map_cons] at ih
   rw [ih]
   have : bsOf (32 :: r) = bsOf [] ++ bsOf [32] ++ bsOf r := by rw [← bs_app, ← bs_app]; rfl
   rw [this]
   rfl
  ·rw [splitL_ne h e]
   rw [List.map_cons] at ih ⊢
   have e1 : bsOf (x :: y) = bsOf [x] ++ bsOf y := by rw [← bs_app]; rfl
   have e2 : bsOf (x :: r) = bsOf [x] ++ bsOf r := by rw [← bs_app]; rfl
   rw [e2, ← ih]
   show (ys.map bsOf).foldl addW (bsOf (x :: y)) = _
   rw [e1]
   exact foldW_app _ _ _
theorem join_words (s : ByteArray) : joinB (wordsB s) = s := by
 unfold wordsB
 rw [join_split, bs_back]
theorem shape_len (w : ByteArray) (n : Nat) (l : List UInt8) (h : kindsF w n = some l) : l.length ≤ 8 ∧ w.size ≤ 10 := by
 unfold kindsF at h
 split at h
 ·rename_i e
  cases h
  subst e
  refine ⟨?_, by decide⟩
  simp only [List.length_append, List.length_cons, List.length_nil, List.length_replicate]
  omega
 split at h
 ·rename_i e
  cases h
  subst e
  exact ⟨by decide, by decide⟩
 split at h
 ·rename_i e
  cases h
  refine ⟨by decide, ?_⟩
  rcases e with rfl | rfl | rfl | rfl | rfl <;> decide
 split at h
 ·rename_i e
  cases h
  subst e
  exact ⟨by decide, by decide⟩
 split at h
 ·rename_i e
  cases h
  subst e
  exact ⟨by decide, by decide⟩
 split at h
 ·rename_i e
  cases h
  refine ⟨by decide, ?_⟩
  rcases e with rfl | rfl | rfl | rfl <;> decide
 ·cases h
theorem read_text {s : ByteArray} {d : Cmd} (h : parseC s = .ok d) : prText d = s ∧ (∀ w ∈ (wordsB s).tail, w.size ≤ 80) ∧ ((wordsB s).tail).length ≤ 8 := by
 obtain ⟨hsz, w0, ws, ks, hw, hk, hl, hg, hd⟩ := parseC_ok h
 have fin : prWords d = w0 :: ws → prText d = s := by
  intro e
  unfold prText
  rw [e, ← hw, join_words]
 rw [hw, List.tail_cons]
 rcases shape_cases w0 with ho | ⟨_, h2⟩ | ⟨l, h1, h2, h3, h4, h5⟩
 ·subst ho
  rw [kinds_offer] at hk
  cases hk
  have hln := hl
  simp only [List.length_append, List.length_cons, List.length_nil, List.length_replicate] at hl
  match ws, hg, hl, hw, hln, fin with
  | a :: b :: r, hg, hl, hw, hln, fin =>
   have hm : (a :: b :: r).length - 4 = min ((a :: b :: r).length - 4) 4 := by omega
   simp only [List.cons_append, goC] at hg
   cases h1 : stepC 99 a ⟨offerW, [], 0, 0, []⟩ with
   | none => rw [h1] at hg; cases hg
   | some c1 =>
    rw [h1] at hg
    simp only at hg
    cases h2 : stepC 115 b c1 with
    | none => rw [h2] at hg; cases hg
    | some c2 =>
     rw [h2] at hg
     simp only at hg
     obtain ⟨sa, ka⟩ := step_word h1 (.inl rfl)
     obtain ⟨sb, kb⟩ := step_word h2 (.inr (.inl rfl))
     have hr : r.length = ((107 : UInt8) :: 105 :: ([] ++ List.replicate (min ((a :: b :: r).length - 4) 4) 105)).length := by
      simp only [List.length_cons, List.nil_append, List.length_replicate] at hl ⊢
      omega
     obtain ⟨i1, kl, il, i2, i3, i4⟩ := go_print _ r c2 d hg hr (by
      intro k hk
      simp only [List.nil_append, List.mem_cons, List.mem_replicate] at hk
      rcases hk with rfl | rfl | ⟨_, rfl⟩
      ·exact ⟨.inr (.inr (.inl rfl)), by decide, by decide⟩
      ·exact ⟨.inr (.inr (.inr (.inr rfl))), by decide, by decide⟩
      ·exact ⟨.inr (.inr (.inr (.inr rfl))), by decide, by decide⟩)
     have ea : ∃ n, c1 = ⟨offerW, [], n, 0, []⟩ ∧ utoaB n = a := by
      rcases ka with ⟨_, n, e, e2⟩ | ⟨e, _⟩ | ⟨e, _⟩ | ⟨e, _⟩
      ·exact ⟨n, e, e2⟩
      ·exact absurd e (by decide)
      ·exact absurd e (by decide)
      ·exact absurd e (by decide)
     obtain ⟨n1, rfl, en1⟩ := ea
     have eb : ∃ n, c2 = ⟨offerW, [], n1, n, []⟩ ∧ utoaB n = b := by
      rcases kb with ⟨e, _⟩ | ⟨_, n, e, e2⟩ | ⟨e, _⟩ | ⟨e, _⟩
      ·exact absurd e (by decide)
      ·exact ⟨n, e, e2⟩
      ·exact absurd e (by decide)
      ·exact absurd e (by decide)
     obtain ⟨n2, rfl, en2⟩ := eb
     simp only [List.nil_append] at i2
     refine ⟨fin ?_, ?_, ?_⟩
     ·subst i2
      have hil : il.length = min ((a :: b :: r).length - 4) 4 + 1 := by
       rw [i3, List.nil_append, List.count_cons, List.count_cons, List.count_replicate_self]
       simp
      have hpk : prKinds ⟨offerW, kl, n1, n2, il⟩ = (99 : UInt8) :: 115 :: (107 : UInt8) :: 105 :: ([] ++ List.replicate (min ((a :: b :: r).length - 4) 4) 105) := by
       unfold prKinds
       rw [kinds_offer]
       have : min (3 + il.length - 4) 4 = min ((a :: b :: r).length - 4) 4 := by omega
       simp only [this]
       rfl
      unfold prWords
      rw [hpk, List.foldl_cons, List.foldl_cons]
      have e1 : prStep ⟨offerW, kl, n1, n2, il⟩ (prStep ⟨offerW, kl, n1, n2, il⟩ ⟨[offerW], kl, il⟩ 99) 115 = ⟨[offerW, a, b], kl ++ [], il ++ []⟩ := by
       simp [prStep, en1, en2]
      show (List.foldl _ (prStep ⟨offerW, kl, n1, n2, il⟩ (prStep ⟨offerW, kl, n1, n2, il⟩ ⟨[offerW], kl, il⟩ 99) 115) _).ws = _
      rw [e1, i4]
      rfl
     ·intro w hx
      rcases List.mem_cons.1 hx with rfl | hx
      ·exact sa
      rcases List.mem_cons.1 hx with rfl | hx
      ·exact sb
      ·exact i1 w hx
     ·omega
  | [a], hg, hl, hw, hln, fin => simp at hl
  | [], hg, hl, hw, hln, fin => simp at hl
 ·rw [h2] at hk; cases hk
 ·rw [h2] at hk
  cases hk
  obtain ⟨i1, kl, il, i2, i3, i4⟩ := go_print _ ws _ d hg hl (fun k hk => ⟨h3 k hk, h5 k hk⟩)
  simp only [List.nil_append] at i2
  refine ⟨fin ?_, i1, ?_⟩
  ·subst i2
   unfold prWords prKinds
   rw [h2]
   have := i4 ⟨w0, kl, 0, 0, il⟩ [w0] [] []
   rw [List.append_nil, List.append_nil] at this
   show (List.foldl (prStep ⟨w0, kl, 0, 0, il⟩) (⟨[w0], kl, il⟩ : PS) ks).ws = _
   rw [this]
   rfl
  ·have hh := (shape_len w0 0 ks (h2 0)).1
   omega
theorem joinB_size : ∀ (r : List ByteArray) (x : ByteArray), (∀ w ∈ r, w.size ≤ 80) → (r.foldl addW x).size ≤ x.size + 81 * r.length
 | [], x, _ => by simp
 | w :: r, x, h => by
  have h1 := joinB_size r (addW x w) (fun y hy => h y (List.mem_cons_of_mem _ hy))
  have h2 := h w (List.mem_cons_self ..)
  rw [addW_size] at h1
  rw [List.foldl_cons, List.length_cons]
  omega
theorem read_short {s : ByteArray} {d : Cmd} (h : parseC s = .ok d) : s.size ≤ 700 := by
 obtain ⟨_, h2, h3⟩ := read_text h
 obtain ⟨hsz, w0, ws, ks, hw, hk, hl, hg, hd⟩ := parseC_ok h
 rw [hw, List.tail_cons] at h2 h3
 have e := join_words s
 rw [hw] at e
 have h4 := joinB_size ws w0 h2
 have h5 := (shape_len _ _ _ hk).2
 have e' : ws.foldl addW w0 = s := e
 rw [e'] at h4
 omega
theorem print_read {s : ByteArray} {d : Cmd} (h : parseC s = .ok d) : printC d = some s := by
 have h1 := (read_text h).1
 have h2 := (print_same d).1 (by rw [h1]; exact h)
 unfold printC
 rw [h2, h1, h]
 simp
theorem printC_some {c : Cmd} {s : ByteArray} (h : printC c = some s) : parseC s = .ok c := by
 unfold printC at h
 split at h
 ·rename_i d hd
  split at h
  ·rename_i e
   cases h
   rw [hd, e]
  ·cases h
 ·cases h
/-! ### a blank more -/
end Go.V
namespace Go.V
open Go.Proofs
set_option maxRecDepth 100000
set_option maxHeartbeats 8000000
set_option linter.unusedSimpArgs false
set_option linter.unnecessarySimpa false
set_option linter.unusedVariables false
theorem onL_den {t : Ty} {eb : Nat} {x : SV} {k : List t.den → Prop} (h : onL t eb x k) : ∃ p xs, k xs ∧ x.isArr = false ∧ ∀ E v, den E x v → den E (.sl p eb t xs) v := by
 rcases h with ⟨rfl, h⟩ | ⟨p, xs, rfl, h⟩
 ·refine ⟨true, [], h, rfl, fun E v hv => ?_⟩
  simp only [den] at hv ⊢
  subst hv
  exact .inl ⟨rfl, none, 0, rfl, by decide, fun _ => rfl⟩
 ·exact ⟨p, xs, h, rfl, fun E v hv => hv⟩
theorem take_next {t : Ty} {xs ys : List t.den} {i : Nat} (h1 : i < xs.length) (h2 : i < ys.length) (h : xs.take i = ys.take i) (he : elt t xs i = elt t ys i) : xs.take (i + 1) = ys.take (i + 1) := by
 rw [← take_elt h1, ← take_elt h2, h, he]
theorem cmd_den {E : En} {w : ByteArray} {c s : Int} {x y x' y' : SV} {v : Value} (hx : x.isArr = false) (hy : y.isArr = false) (hx' : x'.isArr = false) (hy' : y'.isArr = false) (h1 : ∀ v, den E x v → den E x' v) (h2 : ∀ v, den E y v → den E y' v)
  (h : den E (.agg [.str w, x, .int .u64 c, .int .u64 s, y]) v) : den E (.agg [.str w, x', .int .u64 c, .int .u64 s, y']) v := by
 simp only [den] at h ⊢
 obtain ⟨cs, rfl, h⟩ := h
 refine ⟨cs, rfl, ?_⟩
 rw [denC_cons rfl] at h ⊢
 obtain ⟨v1, c2, e1, d1, h⟩ := h
 refine ⟨v1, c2, e1, d1, ?_⟩
 rw [denC_cons hx] at h
 rw [denC_cons hx']
 obtain ⟨v2, c3, e2, d2, h⟩ := h
 refine ⟨v2, c3, e2, h1 _ d2, ?_⟩
 rw [denC_cons rfl] at h ⊢
 obtain ⟨v3, c4, e3, d3, h⟩ := h
 refine ⟨v3, c4, e3, d3, ?_⟩
 rw [denC_cons rfl] at h ⊢
 obtain ⟨v4, c5, e4, d4, h⟩ := h
 refine ⟨v4, c5, e4, d4, ?_⟩
 rw [denC_cons hy] at h
 rw [denC_cons hy']
 obtain ⟨v5, c6, e5, d5, h⟩ := h
 exact ⟨v5, c6, e5, h2 _ d5, h⟩
attribute [local irreducible] rc
def C34 : Contract := fun args hp K => match args, hp with
 | [.sl p 16 .str xs, .sl q 16 .str ys], [] => K (.bool (decide ((xs : List ByteArray) = ys))) []
 | _, _ => False
def Le34 (p q : Bool) (xs ys : List ByteArray) : LoopAnn := { G := Nat, I := fun i => ⟨[(0, .sl p 16 .str xs), (1, .sl q 16 .str ys), (12, .int .i64 xs.length), (13, .int .i64 i)], []⟩, R := fun _ i => i ≤ xs.length ∧ xs.take i = ys.take i, μ := fun i => xs.length - i }
theorem Le34_I {p q} {xs ys : List ByteArray} (i : Nat) : (Le34 p q xs ys).I i = ⟨[(0, .sl p 16 .str xs), (1, .sl q 16 .str ys), (12, .int .i64 xs.length), (13, .int .i64 i)], []⟩ := rfl
theorem s34 : Sound Tryz.prog 34 C34 := by
 refine sound_of_okF ok34 .nil ?_
 intro args hp K h
 unfold C34 at h
 split at h
 ·rename_i p xs q ys
  have hmx := maxLen_val
  refine ⟨by simp, [(1, Le34 p q xs ys)], ?_⟩
  simp (maxSteps:=9^9) only [a34, r34, go_sem, eq_self, and_self, Int.natCast_pos, Int.le_refl, Nat.le_refl, Int.natCast_nonneg, Int.ofNat_lt, Int.ofNat_le, Int.reduceLT, Int.reduceLE, Int.reduceEq, Int.reduceNe, Int.reduceAdd, Int.reduceSub, Int.reduceMul, Int.reduceToNat, Int.reduceNeg, Nat.reduceEqDiff, Nat.reduceLeDiff, Nat.reduceSub, Nat.reduceMul, Nat.reduceLT, Nat.reduceBEq, Nat.reduceAdd, Nat.reduceDiv, Nat.reduceMod]
  have hf : ¬ (xs : List ByteArray) = ys → K (.bool false) [] := fun hne => by rw [decide_eq_false hne] at h; exact h
  have ht : (xs : List ByteArray) = ys → K (.bool true) [] := fun e => by rw [decide_eq_true e] at h; exact h
  rintro _ _ m hm _ _ m2 hm2 c3 hc3
  refine swn hc3 (fun h0 => hf (fun e => h0 (by rw [hm, hm2, e]))) (fun h0 => ?_)
  have hl1 : xs.length = ys.length := by omega
  rintro _ _ _ rfl
  refine loop_intro (A := Le34 p q xs ys) (0 : Nat) ?_ ⟨by simp, by simp⟩ ?_
  ·simp (maxSteps:=9^9) only [Le34_I, go_sem, eq_self, and_self, Int.natCast_pos, Int.le_refl, Nat.le_refl, Int.natCast_nonneg, Int.ofNat_lt, Int.ofNat_le, Int.reduceLT, Int.reduceLE, Int.reduceEq, Int.reduceNe, Int.reduceAdd, Int.reduceSub, Int.reduceMul, Int.reduceToNat, Int.reduceNeg, Nat.reduceEqDiff, Nat.reduceLeDiff, Nat.reduceSub, Nat.reduceMul, Nat.reduceLT, Nat.reduceBEq, Nat.reduceAdd, Nat.reduceDiv, Nat.reduceMod]
   rfl
  ·rintro (i : Nat) (⟨g1, g2⟩ : i ≤ xs.length ∧ (xs : List ByteArray).take i = (ys : List ByteArray).take i)
   simp (maxSteps:=9^9) only [Le34_I, go_sem, eq_self, and_self, Int.natCast_pos, Int.le_refl, Nat.le_refl, Int.natCast_nonneg, Int.ofNat_lt, Int.ofNat_le, Int.reduceLT, Int.reduceLE, Int.reduceEq, Int.reduceNe, Int.reduceAdd, Int.reduceSub, Int.reduceMul, Int.reduceToNat, Int.reduceNeg, Nat.reduceEqDiff, Nat.reduceLeDiff, Nat.reduceSub, Nat.reduceMul, Nat.reduceLT, Nat.reduceBEq, Nat.reduceAdd, Nat.reduceDiv, Nat.reduceMod]
   intro c5 hc5
   refine swd hc5 (fun h2 => ?_) (fun h2 => ?_)
   ·refine nd_intro h2 (nd_intro (by omega) ?_)
    intro c6 hc6
    refine swn hc6 (fun h3 => hf (fun e => h3 (by rw [e]))) (fun h3 => ?_)
    rintro _ _ m5 hm5
    rw [w64 (by omega)] at hm5
    rw [hm5, show (i : Int) + 1 = ((i + 1 : Nat) : Int) by omega]
    exact lpE_intro (A := Le34 p q xs ys) (i + 1 : Nat) rfl ⟨h2, take_next (t := .str) h2 (by omega) g2 h3⟩ (by show xs.length - (i + 1) < xs.length - i; omega)
   ·refine ht ?_
    rw [List.take_of_length_le (by omega), List.take_of_length_le (by omega)] at g2
    exact g2
 ·exact h.elim
def C35 : Contract := fun args hp K => match args, hp with
 | [.sl p 8 (.int .i64) xs, .sl q 8 (.int .i64) ys], [] => K (.bool (decide ((xs : List Int) = ys))) []
 | _, _ => False
def Le35 (p q : Bool) (xs ys : List Int) : LoopAnn := { G := Nat, I := fun i => ⟨[(0, .sl p 8 (.int .i64) xs), (1, .sl q 8 (.int .i64) ys), (12, .int .i64 xs.length), (13, .int .i64 i)], []⟩, R := fun _ i => i ≤ xs.length ∧ xs.take i = ys.take i, μ := fun i => xs.length - i }
theorem Le35_I {p q} {xs ys : List Int} (i : Nat) : (Le35 p q xs ys).I i = ⟨[(0, .sl p 8 (.int .i64) xs), (1, .sl q 8 (.int .i64) ys), (12, .int .i64 xs.length), (13, .int .i64 i)], []⟩ := rfl
theorem s35 : Sound Tryz.prog 35 C35 := by
 refine sound_of_okF ok35 .nil ?_
 intro args hp K h
 unfold C35 at h
 split at h
 ·rename_i p xs q ys
  have hmx := maxLen_val
  refine ⟨by simp, [(1, Le35 p q xs ys)], ?_⟩
  simp (maxSteps:=9^9) only [a35, r35, go_sem, eq_self, and_self, Int.natCast_pos, Int.le_refl, Nat.le_refl, Int.natCast_nonneg, Int.ofNat_lt, Int.ofNat_le, Int.reduceLT, Int.reduceLE, Int.reduceEq, Int.reduceNe, Int.reduceAdd, Int.reduceSub, Int.reduceMul, Int.reduceToNat, Int.reduceNeg, Nat.reduceEqDiff, Nat.reduceLeDiff, Nat.reduceSub, Nat.reduceMul, Nat.reduceLT, Nat.reduceBEq, Nat.reduceAdd, Nat.reduceDiv, Nat.reduceMod]
  have hf : ¬ (xs : List Int) = ys → K (.bool false) [] := fun hne => by rw [decide_eq_false hne] at h; exact h
  have ht : (xs : List Int) = ys → K (.bool true) [] := fun e => by rw [decide_eq_true e] at h; exact h
  rintro _ _ m hm _ _ m2 hm2 c3 hc3
  refine swn hc3 (fun h0 => hf (fun e => h0 (by rw [hm, hm2, e]))) (fun h0 => ?_)
  have hl1 : xs.length = ys.length := by omega
  rintro _ _ _ rfl
  refine loop_intro (A := Le35 p q xs ys) (0 : Nat) ?_ ⟨by simp, by simp⟩ ?_
  ·simp (maxSteps:=9^9) only [Le35_I, go_sem, eq_self, and_self, Int.natCast_pos, Int.le_refl, Nat.le_refl, Int.natCast_nonneg, Int.ofNat_lt, Int.ofNat_le, Int.reduceLT, Int.reduceLE, Int.reduceEq, Int.reduceNe, Int.reduceAdd, Int.reduceSub, Int.reduceMul, Int.reduceToNat, Int.reduceNeg, Nat.reduceEqDiff, Nat.reduceLeDiff, Nat.reduceSub, Nat.reduceMul, Nat.reduceLT, Nat.reduceBEq, Nat.reduceAdd, Nat.reduceDiv, Nat.reduceMod]
   rfl
  ·rintro (i : Nat) (⟨g1, g2⟩ : i ≤ xs.length ∧ (xs : List Int).take i = (ys : List Int).take i)
   simp (maxSteps:=9^9) only [Le35_I, go_sem, eq_self, and_self, Int.natCast_pos, Int.le_refl, Nat.le_refl, Int.natCast_nonneg, Int.ofNat_lt, Int.ofNat_le, Int.reduceLT, Int.reduceLE, Int.reduceEq, Int.reduceNe, Int.reduceAdd, Int.reduceSub, Int.reduceMul, Int.reduceToNat, Int.reduceNeg, Nat.reduceEqDiff, Nat.reduceLeDiff, Nat.reduceSub, Nat.reduceMul, Nat.reduceLT, Nat.reduceBEq, Nat.reduceAdd, Nat.reduceDiv, Nat.reduceMod]
   intro c5 hc5
   refine swd hc5 (fun h2 => ?_) (fun h2 => ?_)
   ·refine nd_intro h2 (nd_intro (by omega) ?_)
    intro c6 hc6
    refine swn hc6 (fun h3 => hf (fun e => h3 (by rw [e]))) (fun h3 => ?_)
    rintro _ _ m5 hm5
    rw [w64 (by omega)] at hm5
    rw [hm5, show (i : Int) + 1 = ((i + 1 : Nat) : Int) by omega]
    exact lpE_intro (A := Le35 p q xs ys) (i + 1 : Nat) rfl ⟨h2, take_next (t := .int .i64) h2 (by omega) g2 h3⟩ (by show xs.length - (i + 1) < xs.length - i; omega)
   ·refine ht ?_
    rw [List.take_of_length_le (by omega), List.take_of_length_le (by omega)] at g2
    exact g2
 ·exact h.elim
theorem use34 {p q : Bool} {xs ys : List ByteArray} {K : SV → List SB → Prop} (h : K (.bool (decide (xs = ys))) []) : C34 [.sl p 16 .str xs, .sl q 16 .str ys] [] K := h
theorem use35 {p q : Bool} {xs ys : List Int} {K : SV → List SB → Prop} (h : K (.bool (decide (xs = ys))) []) : C35 [.sl p 8 (.int .i64) xs, .sl q 8 (.int .i64) ys] [] K := h
def C12a : Contract := fun args hp K => match args, hp with
 | [.agg [.str w, .sl p1 16 .str k1, .int .u64 c, .int .u64 s, .sl p2 8 (.int .i64) i1], .agg [.str w', .sl p3 16 .str k2, .int .u64 c', .int .u64 s', .sl p4 8 (.int .i64) i2]], [] => K (.bool (decide (w = w' ∧ c = c' ∧ s = s' ∧ (k1 : List ByteArray) = k2 ∧ (i1 : List Int) = i2))) []
 | _, _ => False
attribute [local irreducible] C34 C35
theorem s12a : Sound Tryz.prog 12 C12a := by
 refine sound_of_okF ok12 (.cons s34 (callable_of_okF ok34) (.cons s35 (callable_of_okF ok35) .nil)) ?_
 intro args hp K h
 unfold C12a at h
 split at h
 ·rename_i w p1 k1 c s p2 i1 w' p3 k2 c' s' p4 i2
  have hf : ¬ (w = w' ∧ c = c' ∧ s = s' ∧ (k1 : List ByteArray) = k2 ∧ (i1 : List Int) = i2) → K (.bool false) [] := fun hne => by rw [decide_eq_false hne] at h; exact h
  have ht : (w = w' ∧ c = c' ∧ s = s' ∧ (k1 : List ByteArray) = k2 ∧ (i1 : List Int) = i2) → K (.bool true) [] := fun e => by rw [decide_eq_true e] at h; exact h
  clear h
  refine ⟨by simp, [], ?_⟩
  simp (maxSteps:=9^9) only [a12, r12, go_sem, eq_self, and_self, Int.natCast_pos, Int.le_refl, Nat.le_refl, Int.natCast_nonneg, Int.ofNat_lt, Int.ofNat_le, Int.reduceLT, Int.reduceLE, Int.reduceEq, Int.reduceNe, Int.reduceAdd, Int.reduceSub, Int.reduceMul, Int.reduceToNat, Int.reduceNeg, Nat.reduceEqDiff, Nat.reduceLeDiff, Nat.reduceSub, Nat.reduceMul, Nat.reduceLT, Nat.reduceBEq, Nat.reduceAdd, Nat.reduceDiv, Nat.reduceMod]
  intro b1 hb1
  refine swd9 hb1 (fun e1 => ?_) (fun e1 => ?_)
  rotate_left
  ·exact hf (fun e => e1 e.1)
  intro b2 hb2
  refine swd9 hb2 (fun e2 => ?_) (fun e2 => ?_)
  rotate_left
  ·exact hf (fun e => e2 e.2.1)
  intro b3 hb3
  refine swd9 hb3 (fun e3 => ?_) (fun e3 => ?_)
  rotate_left
  ·exact hf (fun e => e3 e.2.2.1)
  refine use34 ?_
  simp (maxSteps:=9^9) only [go_sem, eq_self, and_self, Int.natCast_pos, Int.le_refl, Nat.le_refl, Int.natCast_nonneg, Int.ofNat_lt, Int.ofNat_le, Int.reduceLT, Int.reduceLE, Int.reduceEq, Int.reduceNe, Int.reduceAdd, Int.reduceSub, Int.reduceMul, Int.reduceToNat, Int.reduceNeg, Nat.reduceEqDiff, Nat.reduceLeDiff, Nat.reduceSub, Nat.reduceMul, Nat.reduceLT, Nat.reduceBEq, Nat.reduceAdd, Nat.reduceDiv, Nat.reduceMod]
  refine sw_intro (fun e4 => ?_) (fun e4 => ?_)
  rotate_left
  ·exact hf (fun e => of_decide_eq_false e4 e.2.2.2.1)
  refine use35 ?_
  simp (maxSteps:=9^9) only [go_sem, eq_self, and_self, Int.natCast_pos, Int.le_refl, Nat.le_refl, Int.natCast_nonneg, Int.ofNat_lt, Int.ofNat_le, Int.reduceLT, Int.reduceLE, Int.reduceEq, Int.reduceNe, Int.reduceAdd, Int.reduceSub, Int.reduceMul, Int.reduceToNat, Int.reduceNeg, Nat.reduceEqDiff, Nat.reduceLeDiff, Nat.reduceSub, Nat.reduceMul, Nat.reduceLT, Nat.reduceBEq, Nat.reduceAdd, Nat.reduceDiv, Nat.reduceMod]
  by_cases e5 : (i1 : List Int) = i2
  ·rw [decide_eq_true e5]
   exact ht ⟨e1, e2, e3, of_decide_eq_true e4, e5⟩
  ·rw [decide_eq_false e5]
   exact hf (fun e => e5 e.2.2.2.2)
 ·exact h.elim
def C12 : Contract := fun args hp K => match args, hp with
 | [.agg [.str w, x, .int .u64 c, .int .u64 s, y], .agg [.str w', x', .int .u64 c', .int .u64 s', y']], [] => onL .str 16 x fun k1 => onL (.int .i64) 8 y fun i1 => onL .str 16 x' fun k2 => onL (.int .i64) 8 y' fun i2 => K (.bool (decide (w = w' ∧ c = c' ∧ s = s' ∧ (k1 : List ByteArray) = k2 ∧ (i1 : List Int) = i2))) []
 | _, _ => False
theorem s12 : Sound Tryz.prog 12 C12 := by
 intro args hp K h E vs hs hg hd
 unfold C12 at h
 split at h
 ·rename_i w x c s y w' x' c' s' y'
  obtain ⟨p1, k1, h, a1, d1⟩ := onL_den h
  obtain ⟨p2, i1, h, a2, d2⟩ := onL_den h
  obtain ⟨p3, k2, h, a3, d3⟩ := onL_den h
  obtain ⟨p4, i2, h, a4, d4⟩ := onL_den h
  refine s12a [.agg [.str w, .sl p1 16 .str k1, .int .u64 c, .int .u64 s, .sl p2 8 (.int .i64) i1], .agg [.str w', .sl p3 16 .str k2, .int .u64 c', .int .u64 s', .sl p4 8 (.int .i64) i2]] [] K h E vs hs hg ?_
  simp only [denL] at hd ⊢
  obtain ⟨v, r, rfl, h1, v2, r2, rfl, h2, rfl⟩ := hd
  exact ⟨v, _, rfl, cmd_den a1 a2 rfl rfl (d1 E) (d2 E) h1, v2, _, rfl, cmd_den a3 a4 rfl rfl (d3 E) (d4 E) h2, rfl⟩
 ·exact h.elim
def C13 : Contract := fun args hp K => match args, hp with
 | [.agg [.str w, x, .int .u64 c, .int .u64 s, y]], [] => ((x = .nils ∧ y = .nils) ∨ ∃ k i, x = .sl true 16 .str k ∧ y = .sl true 8 (.int .i64) i) ∧ K (.agg [.str w, x, .int .u64 c, .int .u64 s, y]) []
 | _, _ => False
theorem s13 : Sound Tryz.prog 13 C13 := by
 refine sound_of_okF ok13 .nil ?_
 intro args hp K h
 unfold C13 at h
 split at h
 ·rename_i w x c s y
  obtain ⟨hx, h⟩ := h
  refine ⟨by simp, [], ?_⟩
  rcases hx with ⟨rfl, rfl⟩ | ⟨k, i, rfl, rfl⟩
  ·simp (maxSteps:=9^9) only [a13, r13, go_sem, eq_self, and_self, Int.natCast_pos, Int.le_refl, Nat.le_refl, Int.natCast_nonneg, Int.ofNat_lt, Int.ofNat_le, Int.reduceLT, Int.reduceLE, Int.reduceEq, Int.reduceNe, Int.reduceAdd, Int.reduceSub, Int.reduceMul, Int.reduceToNat, Int.reduceNeg, Nat.reduceEqDiff, Nat.reduceLeDiff, Nat.reduceSub, Nat.reduceMul, Nat.reduceLT, Nat.reduceBEq, Nat.reduceAdd, Nat.reduceDiv, Nat.reduceMod]
   exact h
  ·simp (maxSteps:=9^9) only [a13, r13, go_sem, eq_self, and_self, Int.natCast_pos, Int.le_refl, Nat.le_refl, Int.natCast_nonneg, Int.ofNat_lt, Int.ofNat_le, Int.reduceLT, Int.reduceLE, Int.reduceEq, Int.reduceNe, Int.reduceAdd, Int.reduceSub, Int.reduceMul, Int.reduceToNat, Int.reduceNeg, Nat.reduceEqDiff, Nat.reduceLeDiff, Nat.reduceSub, Nat.reduceMul, Nat.reduceLT, Nat.reduceBEq, Nat.reduceAdd, Nat.reduceDiv, Nat.reduceMod]
   exact h
 ·exact h.elim
end Go.V
