/- What a symbolic heap and a symbolic frame say of a world; how a world may change under it. -/
import Derived.Test.YtkjecjgfkogkoaaVa
namespace Go.V
set_option linter.unusedSimpArgs false
set_option linter.unnecessarySimpa false
set_option linter.unusedVariables false

/-- No cell of the block is frozen. -/
def nofz (fr : Nat × Nat) (n : Nat) : Prop := fr = (0, 0) ∨ n ≤ fr.1

/-- A row that is owned. -/
def ownv {α : Type} (w : World) (R : α → List Value → Prop) (rv : RV) (eb sz : Nat) (xs : List α) : Prop :=
  ((∃ ad, rv.val = .slice ad 0 0) ∧ rv.blk = none ∧ xs = []) ∨
  ∃ b off cap cur T fr cs, rv.val = .slice (some ⟨b, off, none⟩) xs.length cap ∧ rv.blk = some b ∧ w.heap[b]? = some (.cells cur T fr) ∧ nofz fr cur.size ∧
    xs.length ≤ cap ∧ cap ≤ maxLen ∧ off + cap * sz ≤ cur.size ∧ xs.length * eb ≤ 140737488355328 ∧ (cur.toList.drop off).take (xs.length * sz) = cs ∧ rdL R xs cs

/-- A map's entry's value: a struct's cells stand in one. -/
def rdV (w : World) (F : Nat → Prop) (va : Bool) (t : Ty) (x : t.den) (v : Value) : Prop :=
  match va with
  | true => ∃ cs, v = .agg cs ∧ rd w F t x cs.toList
  | false => rd w F t x [v]

def rdM (w : World) (F : Nat → Prop) (va : Bool) (kt vt : Ty) : List (kt.den × vt.den) → List MapEntry → Prop
  | [], es => es = []
  | x :: m, es => ∃ e r, es = e :: r ∧ rd w F kt x.1 [e.key] ∧ rdV w F va vt x.2 e.val ∧ rdM w F va kt vt m r

structure mapok (w : World) (F : Nat → Prop) (va : Bool) (kt vt : Ty) (m : List (kt.den × vt.den)) (es : Array MapEntry) (clk : Nat) : Prop where
  rd : rdM w F va kt vt m es.toList
  nodup : (m.map Prod.fst).Nodup
  born : (es.toList.map MapEntry.born).Pairwise (· < ·)
  clk : ∀ e ∈ es.toList, e.born < clk
  len : m.length ≤ maxLen

def SBok (E : En) (rv : RV) : SB → Prop
  | .struct cells => ∃ b cur T fr, rv.blk = some b ∧ E.w.heap[b]? = some (.cells cur T fr) ∧ nofz fr cur.size ∧ denC E cells cur.toList
  | .row _ eb t xs => ownv E.w (rd E.w E.Fz t) rv eb t.size xs
  | .map va kt vt m => ∃ b es clk, rv.blk = some b ∧ E.w.heap[b]? = some (.map es clk) ∧ mapok E.w E.Fz va kt vt m es clk
  | .gone => True

def SB.live : SB → Bool
  | .gone => false
  | _ => true

def Lv (hp : List SB) (E : En) (b : Nat) : Prop := ∃ i sb, hp[i]? = some sb ∧ sb.live = true ∧ (E.ρ i).blk = some b

structure HS (hp : List SB) (E : En) : Prop where
  n : E.N = hp.length
  ok : ∀ i sb, hp[i]? = some sb → SBok E (E.ρ i) sb
  dist : ∀ i j si sj b, hp[i]? = some si → hp[j]? = some sj → si.live = true → sj.live = true → (E.ρ i).blk = some b → (E.ρ j).blk = some b → i = j
  own : ∀ b, Lv hp E b → b < E.w.heap.size ∧ ¬ E.Fz b ∧ ¬ E.B b
  old : ∀ b, E.Fz b ∨ E.B b → b < E.w.heap.size

structure Ev (hp : List SB) (E : En) (hp' : List SB) (E' : En) : Prop where
  os : E'.w.os = E.w.os
  tape : E'.w.tape = E.w.tape
  output : E'.w.output = E.w.output
  size : E.w.heap.size ≤ E'.w.heap.size
  keep : ∀ b, b < E.w.heap.size → ¬ Lv hp E b → E'.w.heap[b]? = E.w.heap[b]?
  lv : ∀ b, Lv hp' E' b → Lv hp E b ∨ E.w.heap.size ≤ b
  fz : ∀ b, E.Fz b → E'.Fz b
  fz' : ∀ b, E'.Fz b → E.Fz b ∨ Lv hp E b ∨ E.w.heap.size ≤ b
  bo : E'.B = E.B

theorem Ev.refl (hp : List SB) (E : En) : Ev hp E hp E :=
  ⟨rfl, rfl, rfl, Nat.le_refl _, fun _ _ _ => rfl, fun _ h => .inl h, fun _ h => h, fun _ h => .inl h, rfl⟩

theorem Ev.trans {h1 h2 h3 : List SB} {E1 E2 E3 : En} (a : Ev h1 E1 h2 E2) (b : Ev h2 E2 h3 E3) : Ev h1 E1 h3 E3 where
  os := b.os.trans a.os
  tape := b.tape.trans a.tape
  output := b.output.trans a.output
  size := Nat.le_trans a.size b.size
  keep c hc hn := (b.keep c (Nat.lt_of_lt_of_le hc a.size) (fun h => (a.lv c h).elim hn (fun h' => absurd hc (by omega)))).trans (a.keep c hc hn)
  lv c h := by
    rcases b.lv c h with h | h
    · exact a.lv c h
    · exact .inr (Nat.le_trans a.size h)
  fz c h := b.fz c (a.fz c h)
  fz' c h := by
    rcases b.fz' c h with h | h | h
    · exact a.fz' c h
    · exact (a.lv c h).elim (fun h => .inr (.inl h)) (fun h => .inr (.inr h))
    · exact .inr (.inr (Nat.le_trans a.size h))
  bo := b.bo.trans a.bo

/-- How a resource that was there at the beginning lies now. -/
def idok (sb : SB) (rv0 rv : RV) : Prop :=
  match sb with
  | .struct _ => rv = rv0
  | .map _ _ _ _ => rv = rv0
  | .row false _ _ _ => rv = rv0
  | _ => True

structure Id (n0 : Nat) (ρ0 : Nat → RV) (hp : List SB) (ρ : Nat → RV) : Prop where
  le : n0 ≤ hp.length
  id : ∀ i sb, i < n0 → hp[i]? = some sb → idok sb (ρ0 i) (ρ i)

def lkF : List (Nat × SV) → Nat → SV
  | [], _ => .junk
  | (k, x) :: r, n => bif k == n then x else lkF r n

/-- The frame: what the slots hold. -/
def Fr (E : En) (fr : List (Nat × SV)) (a : Act) : Prop := ∀ k, den E (lkF fr k) (a.tmps.getD k undef)

structure SS where
  fr : List (Nat × SV)
  hp : List SB

/-- Where the function's call began. -/
structure Start where
  hp : List SB
  E : En
  nt : Nat

structure Sat (S : Start) (s : SS) (E : En) (a : Act) : Prop where
  hs : HS s.hp E
  fr : Fr E s.fr a
  ev : Ev S.hp S.E s.hp E
  id : Id S.hp.length S.E.ρ s.hp E.ρ
  defers : a.defers = []
  size : a.tmps.size = S.nt

/-- The state s holds where the act is a and the world w. -/
def St (S : Start) (s : SS) (a : Act) (w : World) : Prop := ∃ E, E.w = w ∧ Sat S s E a

/-! ### preservation under what does not touch a resource -/

/-- Only blocks of W, and new ones, are written. -/
structure Chg (w w' : World) (W : Nat → Prop) : Prop where
  os : w'.os = w.os
  tape : w'.tape = w.tape
  output : w'.output = w.output
  size : w.heap.size ≤ w'.heap.size
  keep : ∀ b, b < w.heap.size → ¬ W b → w'.heap[b]? = w.heap[b]?

theorem Chg.refl (w : World) (W : Nat → Prop) : Chg w w W := ⟨rfl, rfl, rfl, Nat.le_refl _, fun _ _ _ => rfl⟩
theorem Chg.alloc (w : World) (o : Obj) : Chg w (w.alloc o) (fun _ => False) :=
  ⟨rfl, rfl, rfl, by simp, fun b hb _ => heap_alloc_old w o b hb⟩
theorem Chg.drew (w : World) : Chg w w.drew (fun _ => False) := ⟨rfl, rfl, rfl, Nat.le_refl _, fun _ _ _ => rfl⟩
theorem Chg.mono {w w' : World} {W W' : Nat → Prop} (h : Chg w w' W) (hW : ∀ b, W b → W' b) : Chg w w' W' :=
  ⟨h.os, h.tape, h.output, h.size, fun b hb hn => h.keep b hb (fun x => hn (hW b x))⟩
theorem Chg.trans {w w1 w2 : World} {W : Nat → Prop} (h : Chg w w1 W) (h' : Chg w1 w2 W) : Chg w w2 W :=
  ⟨h'.os.trans h.os, h'.tape.trans h.tape, h'.output.trans h.output, Nat.le_trans h.size h'.size, fun b hb hn => (h'.keep b (Nat.lt_of_lt_of_le hb h.size) hn).trans (h.keep b hb hn)⟩
theorem Chg.setRow (w : World) (g : Nat) (cs : Array Value) : Chg w (w.setRow g cs) (fun b => b = g) :=
  ⟨rfl, rfl, rfl, by simp, fun b _ hn => setRow_other w g b cs hn⟩

theorem ownv_mono {α : Type} {w w' : World} {R R' : α → List Value → Prop} {rv : RV} {eb sz : Nat} {xs : List α} (hw : ∀ b, rv.blk = some b → w'.heap[b]? = w.heap[b]?) (hR : ∀ x c, R x c → R' x c)
    (h : ownv w R rv eb sz xs) : ownv w' R' rv eb sz xs := by
  rcases h with h | ⟨b, off, cap, cur, T, fr, cs, h1, h2, h3, h4, h5, h6, h7, h8, h9, h10⟩
  · exact .inl h
  · exact .inr ⟨b, off, cap, cur, T, fr, cs, h1, h2, (hw b h2).trans h3, h4, h5, h6, h7, h8, h9, rdL_mono hR _ _ h10⟩

theorem rdV_mono {w w' : World} {F F' : Nat → Prop} (hF : ∀ b, F b → F' b) (hw : ∀ b, F b → w'.heap[b]? = w.heap[b]?) {va : Bool} {t : Ty} {x : t.den} {v : Value} (h : rdV w F va t x v) : rdV w' F' va t x v := by
  cases va with
  | true => obtain ⟨cs, h1, h2⟩ := h; exact ⟨cs, h1, rd_mono hF hw _ _ _ h2⟩
  | false => exact rd_mono hF hw _ _ _ h

theorem rdM_mono {w w' : World} {F F' : Nat → Prop} (hF : ∀ b, F b → F' b) (hw : ∀ b, F b → w'.heap[b]? = w.heap[b]?) {va : Bool} {kt vt : Ty} : ∀ (m : List (kt.den × vt.den)) (es : List MapEntry), rdM w F va kt vt m es → rdM w' F' va kt vt m es
  | [], _, h => h
  | x :: m, es, h => by
    obtain ⟨e, r, rfl, h1, h2, h3⟩ := h
    exact ⟨e, r, rfl, rd_mono hF hw _ _ _ h1, rdV_mono hF hw h2, rdM_mono hF hw m r h3⟩

theorem mapok.mono {w w' : World} {F F' : Nat → Prop} (hF : ∀ b, F b → F' b) (hw : ∀ b, F b → w'.heap[b]? = w.heap[b]?) {va : Bool} {kt vt : Ty} {m : List (kt.den × vt.den)} {es : Array MapEntry} {clk : Nat} (h : mapok w F va kt vt m es clk) :
    mapok w' F' va kt vt m es clk := ⟨rdM_mono hF hw _ _ h.rd, h.nodup, h.born, h.clk, h.len⟩

/-- A resource whose block is as it was, under a renaming. -/
theorem SBok.ren {E E' : En} {f : Nat → Option Nat} (h : Ren E E' f) {rv : RV} {sb : SB} (hw : sb.live = true → ∀ b, rv.blk = some b → E'.w.heap[b]? = E.w.heap[b]?) (ho : SBok E rv sb) : SBok E' rv (sb.ren f) := by
  cases sb with
  | struct cells =>
    obtain ⟨b, cur, T, fr, h1, h2, h3, h4⟩ := ho
    exact ⟨b, cur, T, fr, h1, (hw rfl b h1).trans h2, h3, denC_ren h cells _ h4⟩
  | row mv eb t xs =>
    exact ownv_mono (hw rfl) (fun x c hx => rd_mono h.fz (fun b hb => h.mem b (.inl hb)) t x c hx) ho
  | map va kt vt m =>
    obtain ⟨b, es, clk, h1, h2, h3⟩ := ho
    exact ⟨b, es, clk, h1, (hw rfl b h1).trans h2, h3.mono h.fz (fun b hb => h.mem b (.inl hb))⟩
  | gone => trivial

theorem SB.live_ren (f : Nat → Option Nat) (sb : SB) : (sb.ren f).live = sb.live := by cases sb <;> rfl

def upR {α : Type} (ρ : Nat → α) (i : Nat) (x : α) : Nat → α := fun j => if j = i then x else ρ j
theorem upd_same {α : Type} (ρ : Nat → α) (i : Nat) (x : α) : upR ρ i x i = x := by simp [upR]
theorem upd_other {α : Type} (ρ : Nat → α) {i j : Nat} (x : α) (h : j ≠ i) : upR ρ i x j = ρ j := by simp [upR, h]

/-- The renaming that drops one resource. -/
def but (i : Nat) : Nat → Option Nat := fun j => if j = i then none else some j

/-- THE HEAP IS WRITTEN AT RESOURCE i ALONE, and what names it may be dropped first (f = but i), or stays (f = some: then it lies as it did). -/
theorem HS.upd {hp : List SB} {E : En} (h : HS hp E) {i : Nat} {sb sb' : SB} (hi : hp[i]? = some sb) (hl : sb.live = true) {w' : World} {rv' : RV} {f : Nat → Option Nat}
    (hf : f = but i ∨ (f = some ∧ rv' = E.ρ i))
    (hc : Chg E.w w' (fun b => (E.ρ i).blk = some b)) (hn : ∀ b, rv'.blk = some b → ((E.ρ i).blk = some b ∨ E.w.heap.size ≤ b) ∧ b < w'.heap.size)
    (ho : SBok { E with ρ := upR E.ρ i rv', w := w' } rv' sb') (hl' : sb'.live = true) :
    HS ((hp.map (SB.ren f)).set i sb') { E with ρ := upR E.ρ i rv', w := w' } ∧ Ren E { E with ρ := upR E.ρ i rv', w := w' } f := by
  have hlt : i < hp.length := (List.getElem?_eq_some_iff.1 hi).1
  have hfz : ∀ b, E.Fz b ∨ E.B b → w'.heap[b]? = E.w.heap[b]? := fun b hb => hc.keep b (h.old b hb) (fun hx => by
    have := h.own b ⟨i, sb, hi, hl, hx⟩
    rcases hb with hb | hb
    · exact this.2.1 hb
    · exact this.2.2 hb)
  have hren : Ren E { E with ρ := upR E.ρ i rv', w := w' } f := by
    refine ⟨fun a b ha hab => ?_, fun _ hb => hb, fun _ hb => .inl hb, hfz⟩
    rcases hf with rfl | ⟨rfl, rfl⟩
    · simp only [but] at hab
      split at hab
      · cases hab
      · rename_i hne
        cases hab
        exact ⟨ha, upd_other _ _ hne⟩
    · cases hab
      refine ⟨ha, ?_⟩
      by_cases hai : a = i
      · subst hai; exact upd_same _ _ _
      · exact upd_other _ _ hai
  have hget : ∀ j s', ((hp.map (SB.ren f)).set i sb')[j]? = some s' → (j = i ∧ s' = sb') ∨ (j ≠ i ∧ ∃ s, hp[j]? = some s ∧ s' = s.ren f) := by
    intro j s' hj
    rw [List.getElem?_set] at hj
    split at hj
    · rename_i hij
      subst hij
      rw [if_pos (by simpa using hlt)] at hj
      cases hj
      exact .inl ⟨rfl, rfl⟩
    · rename_i hij
      rw [List.getElem?_map] at hj
      cases hs : hp[j]? with
      | none => rw [hs] at hj; cases hj
      | some s => rw [hs] at hj; cases hj; exact .inr ⟨fun e => hij e.symm, s, rfl, rfl⟩
  refine ⟨⟨?_, ?_, ?_, ?_, ?_⟩, hren⟩
  · simp [h.n]
  · intro j s' hj
    rcases hget j s' hj with ⟨rfl, rfl⟩ | ⟨hji, s, hs, rfl⟩
    · simpa [upd_same] using ho
    · show SBok _ (upR E.ρ i rv' j) _
      rw [upd_other _ _ hji]
      refine SBok.ren hren (fun hsl b hb => ?_) (h.ok j s hs)
      exact hc.keep b (h.own b ⟨j, s, hs, hsl, hb⟩).1 (fun hx => hji (h.dist j i s sb b hs hi hsl hl hb hx))
  · intro j k sj sk b hj hk hjl hkl hjb hkb
    rcases hget j sj hj with ⟨rfl, rfl⟩ | ⟨hji, s, hs, rfl⟩
    · rcases hget k sk hk with ⟨rfl, rfl⟩ | ⟨hki, s2, hs2, rfl⟩
      · rfl
      · simp only [upd_same] at hjb
        simp only [upd_other _ _ hki] at hkb
        rw [SB.live_ren] at hkl
        rcases (hn b hjb).1 with hx | hx
        · exact (h.dist _ _ _ _ b hi hs2 hl hkl hx hkb)
        · have := (h.own b ⟨k, s2, hs2, hkl, hkb⟩).1; omega
    · rw [SB.live_ren] at hjl
      simp only [upd_other _ _ hji] at hjb
      rcases hget k sk hk with ⟨rfl, rfl⟩ | ⟨hki, s2, hs2, rfl⟩
      · simp only [upd_same] at hkb
        rcases (hn b hkb).1 with hx | hx
        · exact (h.dist _ _ _ _ b hs hi hjl hl hjb hx)
        · have := (h.own b ⟨j, s, hs, hjl, hjb⟩).1; omega
      · rw [SB.live_ren] at hkl
        simp only [upd_other _ _ hki] at hkb
        exact h.dist _ _ _ _ b hs hs2 hjl hkl hjb hkb
  · rintro b ⟨j, sj, hj, hjl, hjb⟩
    rcases hget j sj hj with ⟨rfl, rfl⟩ | ⟨hji, s, hs, rfl⟩
    · simp only [upd_same] at hjb
      refine ⟨(hn b hjb).2, ?_⟩
      rcases (hn b hjb).1 with hx | hx
      · exact (h.own b ⟨j, sb, hi, hl, hx⟩).2
      · exact ⟨fun hy => by have := h.old b (.inl hy); omega, fun hy => by have := h.old b (.inr hy); omega⟩
    · rw [SB.live_ren] at hjl
      simp only [upd_other _ _ hji] at hjb
      have := h.own b ⟨j, s, hs, hjl, hjb⟩
      exact ⟨Nat.lt_of_lt_of_le this.1 hc.size, this.2⟩
  · intro b hb
    exact Nat.lt_of_lt_of_le (h.old b hb) hc.size

theorem Lv_of_upd {hp : List SB} {E : En} {i : Nat} {sb sb' : SB} (hi : hp[i]? = some sb) (hl : sb.live = true) {w' : World} {rv' : RV} {f : Nat → Option Nat}
    (hn : ∀ b, rv'.blk = some b → (E.ρ i).blk = some b ∨ E.w.heap.size ≤ b) (b : Nat)
    (h : Lv ((hp.map (SB.ren f)).set i sb') { E with ρ := upR E.ρ i rv', w := w' } b) : Lv hp E b ∨ E.w.heap.size ≤ b := by
  obtain ⟨j, sj, hj, hjl, hjb⟩ := h
  rw [List.getElem?_set] at hj
  have hlt : i < hp.length := (List.getElem?_eq_some_iff.1 hi).1
  split at hj
  · rename_i hij
    subst hij
    simp only [upd_same] at hjb
    exact (hn b hjb).imp (fun hx => ⟨i, sb, hi, hl, hx⟩) id
  · rename_i hij
    rw [List.getElem?_map] at hj
    cases hs : hp[j]? with
    | none => rw [hs] at hj; cases hj
    | some s =>
      rw [hs] at hj
      cases hj
      rw [SB.live_ren] at hjl
      simp only [upd_other _ _ (fun e => hij e.symm)] at hjb
      exact .inl ⟨j, s, hs, hjl, hjb⟩

/-- .. and that is a step of 'Ev'. -/
theorem Ev.upd {hp : List SB} {E : En} {i : Nat} {sb sb' : SB} (hi : hp[i]? = some sb) (hl : sb.live = true) {w' : World} {rv' : RV} {f : Nat → Option Nat}
    (hc : Chg E.w w' (fun b => (E.ρ i).blk = some b)) (hn : ∀ b, rv'.blk = some b → (E.ρ i).blk = some b ∨ E.w.heap.size ≤ b) :
    Ev hp E ((hp.map (SB.ren f)).set i sb') { E with ρ := upR E.ρ i rv', w := w' } where
  os := hc.os
  tape := hc.tape
  output := hc.output
  size := hc.size
  keep b hb hnl := hc.keep b hb (fun hx => hnl ⟨i, sb, hi, hl, hx⟩)
  lv b hb := Lv_of_upd hi hl hn b hb
  fz b h := h
  fz' b h := .inl h
  bo := rfl

/-- A NEW RESOURCE. -/
theorem HS.push {hp : List SB} {E : En} (h : HS hp E) {sb' : SB} {w' : World} {rv' : RV} (hc : Chg E.w w' (fun _ => False))
    (hn : ∀ b, rv'.blk = some b → E.w.heap.size ≤ b ∧ b < w'.heap.size)
    (ho : SBok { E with N := E.N + 1, ρ := upR E.ρ E.N rv', w := w' } rv' sb') :
    HS (hp ++ [sb']) { E with N := E.N + 1, ρ := upR E.ρ E.N rv', w := w' } ∧ Ren E { E with N := E.N + 1, ρ := upR E.ρ E.N rv', w := w' } some := by
  have hfz : ∀ b, E.Fz b ∨ E.B b → w'.heap[b]? = E.w.heap[b]? := fun b hb => hc.keep b (h.old b hb) (fun x => x)
  have hren : Ren E { E with N := E.N + 1, ρ := upR E.ρ E.N rv', w := w' } some := by
    refine ⟨fun a b ha hab => ?_, fun _ hb => hb, fun _ hb => .inl hb, hfz⟩
    cases hab
    exact ⟨Nat.lt_succ_of_lt ha, upd_other _ _ (by omega)⟩
  have hget : ∀ j s', (hp ++ [sb'])[j]? = some s' → (j = E.N ∧ s' = sb') ∨ (j < E.N ∧ hp[j]? = some s') := by
    intro j s' hj
    rcases Nat.lt_trichotomy j hp.length with hlt | heq | hgt
    · rw [List.getElem?_append_left hlt] at hj
      exact .inr ⟨h.n ▸ hlt, hj⟩
    · subst heq
      rw [List.getElem?_append_right (Nat.le_refl _)] at hj
      simp at hj
      exact .inl ⟨h.n.symm, hj.symm⟩
    · rw [List.getElem?_eq_none (by simp; omega)] at hj
      cases hj
  refine ⟨⟨?_, ?_, ?_, ?_, ?_⟩, hren⟩
  · simp [h.n]
  · intro j s' hj
    rcases hget j s' hj with ⟨rfl, rfl⟩ | ⟨hji, hs⟩
    · simpa [upd_same] using ho
    · show SBok _ (upR E.ρ E.N rv' j) _
      rw [upd_other _ _ (by omega)]
      have := SBok.ren hren (rv := E.ρ j) (sb := s') (fun hsl b hb => hc.keep b (h.own b ⟨j, s', hs, hsl, hb⟩).1 (fun x => x)) (h.ok j s' hs)
      rwa [SB.ren_some] at this
  · intro j k sj sk b hj hk hjl hkl hjb hkb
    rcases hget j sj hj with ⟨rfl, rfl⟩ | ⟨hji, hs⟩
    · rcases hget k sk hk with ⟨rfl, rfl⟩ | ⟨hki, hs2⟩
      · rfl
      · simp only [upd_same] at hjb
        simp only [upd_other _ _ (Nat.ne_of_lt hki)] at hkb
        have := (h.own b ⟨k, sk, hs2, hkl, hkb⟩).1
        have := (hn b hjb).1
        omega
    · simp only [upd_other _ _ (Nat.ne_of_lt hji)] at hjb
      rcases hget k sk hk with ⟨rfl, rfl⟩ | ⟨hki, hs2⟩
      · simp only [upd_same] at hkb
        have := (h.own b ⟨j, sj, hs, hjl, hjb⟩).1
        have := (hn b hkb).1
        omega
      · simp only [upd_other _ _ (Nat.ne_of_lt hki)] at hkb
        exact h.dist _ _ _ _ b hs hs2 hjl hkl hjb hkb
  · rintro b ⟨j, sj, hj, hjl, hjb⟩
    rcases hget j sj hj with ⟨rfl, rfl⟩ | ⟨hji, hs⟩
    · simp only [upd_same] at hjb
      have := hn b hjb
      exact ⟨this.2, fun hy => by have := h.old b (.inl hy); omega, fun hy => by have := h.old b (.inr hy); omega⟩
    · simp only [upd_other _ _ (Nat.ne_of_lt hji)] at hjb
      have := h.own b ⟨j, sj, hs, hjl, hjb⟩
      exact ⟨Nat.lt_of_lt_of_le this.1 hc.size, this.2⟩
  · intro b hb
    exact Nat.lt_of_lt_of_le (h.old b hb) hc.size

theorem Ev.push {hp : List SB} {E : En} (h : HS hp E) {sb' : SB} {w' : World} {rv' : RV} (hc : Chg E.w w' (fun _ => False)) (hn : ∀ b, rv'.blk = some b → E.w.heap.size ≤ b) :
    Ev hp E (hp ++ [sb']) { E with N := E.N + 1, ρ := upR E.ρ E.N rv', w := w' } where
  os := hc.os
  tape := hc.tape
  output := hc.output
  size := hc.size
  keep b hb hnl := hc.keep b hb (fun hx => hx)
  lv b hb := by
    obtain ⟨j, sj, hj, hjl, hjb⟩ := hb
    rcases Nat.lt_trichotomy j hp.length with hlt | heq | hgt
    · rw [List.getElem?_append_left hlt] at hj
      simp only [upd_other _ _ (show j ≠ E.N by have := h.n; omega)] at hjb
      exact .inl ⟨j, sj, hj, hjl, hjb⟩
    · have hN : j = E.N := by have := h.n; omega
      subst hN
      simp only [upd_same] at hjb
      exact .inr (hn b hjb)
    · rw [List.getElem?_eq_none (by simp; omega)] at hj
      cases hj
  fz b h := h
  fz' b h := .inl h
  bo := rfl

/-- Nothing but the world's other parts has turned (a draw). -/
theorem HS.same {hp : List SB} {E : En} (h : HS hp E) {w' : World} (hc : Chg E.w w' (fun _ => False)) : HS hp { E with w := w' } ∧ Ren E { E with w := w' } some := by
  have hfz : ∀ b, E.Fz b ∨ E.B b → w'.heap[b]? = E.w.heap[b]? := fun b hb => hc.keep b (h.old b hb) (fun x => x)
  have hren : Ren E { E with w := w' } some := ⟨fun a b ha hab => by cases hab; exact ⟨ha, rfl⟩, fun _ hb => hb, fun _ hb => .inl hb, hfz⟩
  refine ⟨⟨h.n, fun j s' hs => ?_, h.dist, fun b hb => ?_, fun b hb => Nat.lt_of_lt_of_le (h.old b hb) hc.size⟩, hren⟩
  · have := SBok.ren hren (rv := E.ρ j) (sb := s') (fun hsl b hb => hc.keep b (h.own b ⟨j, s', hs, hsl, hb⟩).1 (fun x => x)) (h.ok j s' hs)
    rwa [SB.ren_some] at this
  · have := h.own b hb
    exact ⟨Nat.lt_of_lt_of_le this.1 hc.size, this.2⟩

def frRen (f : Nat → Option Nat) (fr : List (Nat × SV)) : List (Nat × SV) := fr.map fun x => (x.1, x.2.ren f)

theorem lkF_ren (f : Nat → Option Nat) (k : Nat) : ∀ fr, lkF (frRen f fr) k = (lkF fr k).ren f
  | [] => by simp [frRen, lkF, SV.ren]
  | (k', x) :: r => by
    have ih := lkF_ren f k r
    simp only [frRen, List.map_cons, lkF] at ih ⊢
    cases k' == k
    · simpa using ih
    · simp

theorem Fr.ren {E E' : En} {f : Nat → Option Nat} (h : Ren E E' f) {fr : List (Nat × SV)} {a : Act} (hf : Fr E fr a) : Fr E' (frRen f fr) a := by
  intro k
  rw [lkF_ren]
  exact den_ren h _ _ (hf k)

theorem frRen_some (fr : List (Nat × SV)) : frRen some fr = fr := by
  unfold frRen
  conv => rhs; rw [← List.map_id fr]
  apply List.map_congr_left
  intro x _
  simp [SV.ren_some]

theorem map_ren_some (hp : List SB) : hp.map (SB.ren some) = hp := by
  conv => rhs; rw [← List.map_id hp]
  apply List.map_congr_left
  intro x _
  simp [SB.ren_some]

end Go.V
