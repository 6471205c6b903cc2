/- Contracts, and a call by one. -/
import Derived.Test.YthfkoeoaehkoaaaGreatDoorVB
namespace Go.V
set_option linter.unusedSimpArgs false
set_option linter.unnecessarySimpa false
set_option linter.unusedVariables false
abbrev Contract := List SV → List SB → (SV → List SB → Prop) → Prop
mutual
def SV.refs : SV → List Nat
 | .ptr i _ => [i]
 | .own i => [i]
 | .vw i _ _ _ => [i]
 | .mp i => [i]
 | .el i _ _ _ => [i]
 | .ptrA i _ _ _ => [i]
 | .pty i _ => [i]
 | .svw i _ => [i]
 | .agg l => SV.refsL l
 | .tup l => SV.refsL l
 | .fn _ l => SV.refsL l
 | _ => []
def SV.refsL : List SV → List Nat
 | [] => []
 | x :: r => x.refs ++ SV.refsL r
end
def SB.refs : SB → List Nat
 | .struct cells => SV.refsL cells
 | _ => []
def reach (hp : List SB) : Nat → List Nat → List Nat → List Nat
 | 0, _, acc => acc
 | _ + 1, [], acc => acc
 | n + 1, i :: todo, acc => if acc.contains i then reach hp n todo acc else match hp[i]? with
  | none => reach hp n todo acc
  | some b => if b.live then reach hp n (b.refs ++ todo) (acc ++ [i]) else reach hp n todo acc
theorem reach_ok (hp : List SB) : ∀ (n : Nat) (todo acc : List Nat), acc.Nodup → (∀ i ∈ acc, i < hp.length) → (reach hp n todo acc).Nodup ∧ (∀ i ∈ reach hp n todo acc, i < hp.length)
 | 0, _, acc, h1, h2 => ⟨h1, h2⟩
 | _ + 1, [], acc, h1, h2 => ⟨h1, h2⟩
 | n + 1, i :: todo, acc, h1, h2 => by
  simp only [reach]
  split
  ·exact reach_ok hp n todo acc h1 h2
  ·rename_i hc
   split
   ·exact reach_ok hp n todo acc h1 h2
   ·rename_i b hb
    split
    ·refine reach_ok hp n _ _ ?_ ?_
     ·rw [List.nodup_append]
      refine ⟨h1, by simp, fun x hx y hy => ?_⟩
      simp at hy
      subst hy
      intro e
      subst e
      exact hc (by simpa using hx)
     ·intro x hx
      rcases List.mem_append.1 hx with hx | hx
      ·exact h2 x hx
      ·simp at hx; subst hx; exact (List.getElem?_eq_some_iff.1 hb).1
    ·exact reach_ok hp n todo acc h1 h2
def lend (hp : List SB) : List (Option (Nat × Ty)) → List SV → Option (List SV × List Nat)
 | [], [] => some ([], [])
 | none :: ms, x :: xs => match lend hp ms xs with
  | some (ys, l) => some (x :: ys, l)
  | none => none
 | some (eb, t) :: ms, x :: xs => match lend hp ms xs with
  | some (ys, l) => match x with
   | .nils => some (.sl false eb t [] :: ys, l)
   | .sl _ eb t xs => some (.sl false eb t xs :: ys, l)
   | x => match cont hp x with
    | some C => some (.sl false C.eb C.t C.xs :: ys, x.refs ++ l)
    | none => none
  | none => none
 | _, _ => none
def SB.reset : SB → SB
 | .row _ eb t xs => .row false eb t xs
 | x => x
def back (idx : List Nat) (N : Nat) (j : Nat) : Option Nat := if j < idx.length then idx[j]? else some (N + (j - idx.length))
def SB.stays : SB → Bool
 | .struct _ => true
 | .map _ _ _ _ => true
 | .itr _ _ => true
 | .row mv _ _ _ => !mv
 | .gone => false
def movedL : List Nat → List SB → List Nat
 | i :: idx, b :: hp => if b.stays then movedL idx hp else i :: movedL idx hp
 | _, _ => []
def but2 (M : List Nat) : Nat → Option Nat := fun j => if M.contains j then none else some j
def mvOr (b c : SB) : SB :=
 match c with
 | .row mv eb t xs => .row (mv || !b.stays) eb t xs
 | c => bif b.stays then c else .gone
def plugL (idx : List Nat) (hp' : List SB) (g f : Nat → Option Nat) : List SB → Nat → List SB
 | [], _ => []
 | b :: r, i => (match posOf idx i with
  | some j => mvOr b ((hp'.getD j .gone).ren g)
  | none => b.ren f) :: plugL idx hp' g f r (i + 1)
def plugHp (idx : List Nat) (hp hp' : List SB) : List SB :=
 plugL idx hp' (back idx hp.length) (but2 (movedL idx hp')) hp 0 ++ (hp'.drop idx.length).map (SB.ren (back idx hp.length))
def unboIf (lent : List Nat) (x : SV) : SV := match lent with
 | [] => x
 | _ => x.tr unboF
def unboHp (lent : List Nat) (hp : List SB) : List SB := match lent with
 | [] => hp
 | _ => hp.map (SB.tr unboF)
def plug (idx lent : List Nat) (s : SS) (r : SV) (hp' : List SB) (K : SV → SS → Prop) : Prop :=
 K ((unboIf lent r).ren (back idx s.hp.length)) ⟨frRen (but2 (movedL idx hp')) s.fr, plugHp idx s.hp (unboHp lent hp')⟩
def callC2 (C : Contract) (idx lent : List Nat) (args : List SV) (s : SS) (K : SV → SS → Prop) : Prop :=
 (lent.all fun i => !idx.contains i) = true ∧ C (SV.renL (posOf idx) args) ((selHp idx (posOf idx) s.hp).map SB.reset) (fun r hp' => plug idx lent s r hp' K)
def callC1 (C : Contract) (al : Option (List SV × List Nat)) (s : SS) (K : SV → SS → Prop) : Prop :=
 match al with
 | none => False
 | some (args, lent) => callC2 C (reach s.hp 400 (SV.refsL args) []) lent args s K
def gvOk (n : String) (cs : Array Value) : Prop :=
 (n = "strconv.ErrSyntax" → ∃ tp p, cs = #[.iface tp p]) ∧ (n = "strconv.ErrRange" → ∃ tp p, cs = #[.iface tp p]) ∧ (n = "internal/bytealg.MaxLen" → ∃ m, cs = #[.int .i64 m]) ∧
 (n = "internal/strconv.uint64pow10" → cs = ((List.range 20).map fun i => Value.int .u64 ((10 : Int) ^ i)).toArray)
def gnames : List String := ["strconv.ErrSyntax", "strconv.ErrRange", "internal/bytealg.MaxLen", "internal/strconv.uint64pow10"]
def Gl (P : Program) (E : En) : Prop := (P.globalNamed "strconv.ErrSyntax").isSome = true → ∀ n ∈ gnames, ∀ g, P.globalNamed n = some g → E.Fz g ∧ ∃ cs, E.w.var? P n = some cs ∧ gvOk n cs
theorem Gl.keep {P : Program} {E E' : En} (h : Gl P E) (hf : ∀ b, E.Fz b → E'.Fz b) (hw : ∀ b, E.Fz b → E'.w.heap[b]? = E.w.heap[b]?) : Gl P E' := by
 intro he n hn g hg
 obtain ⟨h1, cs, h2, h3⟩ := h he n hn g hg
 refine ⟨hf g h1, cs, ?_, h3⟩
 unfold World.var? at h2 ⊢
 rw [hg] at h2 ⊢
 simp only [Option.bind_some] at h2 ⊢
 rw [hw g h1]
 exact h2
theorem Gl.ev {P : Program} {hp hp' : List SB} {E E' : En} (h : Gl P E) (hs : HS hp E) (he : Ev hp E hp' E') : Gl P E' :=
 h.keep he.fz fun b hb => he.keep b (hs.old b (.inl hb)) fun hl => (hs.own b hl).2.1 hb
def Sound (P : Program) (f : FuncId) (C : Contract) : Prop :=
 ∀ (args : List SV) (hp : List SB) (K : SV → List SB → Prop), C args hp K → ∀ (E : En) (vs : List Value), HS hp E → Gl P E → denL E args vs →
  Calls P f vs.toArray E.w fun e w' => ∃ r hp' E' v, e = .returned v ∧ E'.w = w' ∧ K r hp' ∧ HS hp' E' ∧ den E' r v ∧ Ev hp E hp' E' ∧ Id hp.length E.ρ hp' E'.ρ
theorem back_lt {idx : List Nat} {N j i : Nat} (h : back idx N j = some i) (hj : j < idx.length) : idx[j]? = some i := by
 unfold back at h; rwa [if_pos hj] at h
theorem back_ge {idx : List Nat} {N j i : Nat} (h : back idx N j = some i) (hj : ¬ j < idx.length) : i = N + (j - idx.length) := by
 unfold back at h; rw [if_neg hj] at h; cases h; rfl
theorem posOf_nodup : ∀ (l : List Nat) (j i : Nat), l.Nodup → l[j]? = some i → posOf l i = some j
 | [], j, i, _, h => by simp at h
 | x :: r, 0, i, hn, h => by simp at h; subst h; simp [posOf]
 | x :: r, j + 1, i, hn, h => by
  rw [List.nodup_cons] at hn
  have h' : r[j]? = some i := by simpa using h
  have : (x == i) = false := by
   simp; intro e; subst e; exact hn.1 (List.mem_of_getElem? h')
  simp [posOf, this, posOf_nodup r j i hn.2 h']
theorem movedL_spec : ∀ (idx : List Nat) (hp : List SB) (j i : Nat) (b : SB), idx[j]? = some i → hp[j]? = some b → ¬ (movedL idx hp).contains i = true → b.stays = true
 | [], _, j, i, b, h, _, _ => by simp at h
 | _ :: _, [], j, i, b, _, h, _ => by simp at h
 | x :: idx, y :: hp, j, i, b, h1, h2, h3 => by
  simp only [movedL] at h3
  cases j with
  | zero =>
   simp at h1 h2
   subst h1; subst h2
   split at h3
   ·assumption
   ·simp at h3
  | succ j =>
   refine movedL_spec idx hp j i b (by simpa using h1) (by simpa using h2) (fun hc => h3 ?_)
   split
   ·exact hc
   ·simp only [List.contains_cons, Bool.or_eq_true]; exact .inr hc
theorem plugL_get (idx : List Nat) (hp' : List SB) (g f : Nat → Option Nat) : ∀ (hp : List SB) (k i : Nat) (b : SB), hp[i]? = some b →
  (plugL idx hp' g f hp k)[i]? = some (match posOf idx (k + i) with | some j => mvOr b ((hp'.getD j .gone).ren g) | none => b.ren f)
 | [], k, i, b, h => by simp at h
 | c :: hp, k, i, b, h => by
  cases i with
  | zero => simp at h; subst h; simp [plugL]
  | succ i =>
   have := plugL_get idx hp' g f hp (k + 1) i b (by simpa using h)
   simp only [plugL, List.getElem?_cons_succ]
   rw [this]
   congr 3
   omega
theorem plugL_length (idx : List Nat) (hp' : List SB) (g f : Nat → Option Nat) : ∀ (hp : List SB) (k : Nat), (plugL idx hp' g f hp k).length = hp.length
 | [], k => rfl
 | c :: hp, k => by simp [plugL, plugL_length idx hp' g f hp (k + 1)]
theorem mvOr_live {b c : SB} (h : (mvOr b c).live = true) : c.live = true := by
 cases c <;> simp only [mvOr, SB.live] at h ⊢
 revert h; cases b.stays <;> simp [SB.live]
theorem mvOr_ok {E : En} {rv : RV} {b c : SB} (h : SBok E rv c) : SBok E rv (mvOr b c) := by
 cases c <;> simp only [mvOr] <;> first | exact h | (cases b.stays <;> first | exact h | trivial)
theorem SB.stays_ren (f : Nat → Option Nat) (b : SB) : (b.ren f).stays = b.stays := by cases b <;> rfl
theorem mvOr_stays {b c : SB} (h : (mvOr b c).stays = true) : c.stays = true ∧ b.stays = true := by
 cases hb : b.stays <;> cases c <;> simp_all [mvOr, SB.stays]
theorem idok_of_stays {b : SB} {rv0 rv : RV} (h : b.stays = true → rv = rv0) : idok b rv0 rv := by
 cases b with
 | struct _ => exact h rfl
 | map _ _ _ _ => exact h rfl
 | itr _ _ => exact h rfl
 | row mv _ _ _ => cases mv with
  | false => exact h rfl
  | true => trivial
 | gone => trivial
theorem stays_of_idok {b : SB} {rv0 rv : RV} (h : idok b rv0 rv) (hs : b.stays = true) : rv = rv0 := by
 cases b with
 | struct _ => exact h
 | map _ _ _ _ => exact h
 | itr _ _ => exact h
 | row mv _ _ _ => cases mv with
  | false => exact h
  | true => simp [SB.stays] at hs
 | gone => simp [SB.stays] at hs
theorem Id.refl (hp : List SB) (ρ : Nat → RV) : Id hp.length ρ hp ρ :=
 ⟨Nat.le_refl _, fun i sb _ _ => idok_of_stays fun _ => rfl⟩
theorem SBok.reset {E : En} {rv : RV} {b : SB} (h : SBok E rv b) : SBok E rv b.reset := by cases b <;> exact h
theorem SB.live_reset (b : SB) : b.reset.live = b.live := by cases b <;> rfl
theorem HS.reset {hp : List SB} {E : En} (h : HS hp E) : HS (hp.map SB.reset) E := by
 have hget : ∀ (j : Nat) s', (hp.map SB.reset)[j]? = some s' → ∃ s, hp[j]? = some s ∧ s' = s.reset := by
  intro j s' hj
  rw [List.getElem?_map] at hj
  cases hs : hp[j]? with
  | none => rw [hs] at hj; cases hj
  | some s => rw [hs] at hj; cases hj; exact ⟨s, rfl, rfl⟩
 refine ⟨by simp [h.n], ?_, ?_, ?_, h.old⟩
 ·intro j s' hj
  obtain ⟨s, hs, rfl⟩ := hget j s' hj
  exact (h.ok j s hs).reset
 ·intro j k sj sk b hj hk hjl hkl hjb hkb
  obtain ⟨s, hs, rfl⟩ := hget j sj hj
  obtain ⟨s2, hs2, rfl⟩ := hget k sk hk
  rw [SB.live_reset] at hjl hkl
  exact h.dist _ _ _ _ b hs hs2 hjl hkl hjb hkb
 ·rintro b ⟨j, sj, hj, hjl, hjb⟩
  obtain ⟨s, hs, rfl⟩ := hget j sj hj
  rw [SB.live_reset] at hjl
  exact h.own b ⟨j, s, hs, hjl, hjb⟩
theorem Lv.reset {hp : List SB} {E : En} {b : Nat} (h : Lv (hp.map SB.reset) E b) : Lv hp E b := by
 obtain ⟨j, sj, hj, hjl, hjb⟩ := h
 rw [List.getElem?_map] at hj
 cases hs : hp[j]? with
 | none => rw [hs] at hj; cases hj
 | some s =>
  rw [hs] at hj
  cases hj
  rw [SB.live_reset] at hjl
  exact ⟨j, s, hs, hjl, hjb⟩
theorem HS.borrow {hp : List SB} {E : En} (h : HS hp E) (B' : Nat → Prop) (h1 : ∀ b, B' b → b < E.w.heap.size) (h2 : ∀ b, Lv hp E b → ¬ B' b) (h3 : ∀ b, E.B b → B' b) :
  HS hp { E with B := B' } ∧ Ren E { E with B := B' } some := by
 have hren : Ren E { E with B := B' } some := ⟨fun a b ha hab => by cases hab; exact ⟨ha, rfl⟩, fun _ hb => hb, fun b hb => .inl (h3 b hb), fun _ _ => rfl⟩
 refine ⟨⟨h.n, fun j s' hs => ?_, h.dist, fun b hb => ?_, fun b hb => hb.elim (fun h' => h.old b (.inl h')) (h1 b)⟩, hren⟩
 ·have := SBok.ren hren (rv := E.ρ j) (sb := s') (fun _ _ _ => rfl) (h.ok j s' hs)
  rwa [SB.ren_some] at this
 ·exact ⟨(h.own b hb).1, (h.own b hb).2.1, h2 b hb⟩
theorem plug_sound {hp : List SB} {E : En} (h : HS hp E) {idx : List Nat} (hnd : idx.Nodup) (hlt : ∀ i ∈ idx, i < hp.length) {hp' : List SB} {E' : En} (h' : HS hp' E')
  (hB : E'.B = E.B)
  (hev : Ev ((selHp idx (posOf idx) hp).map SB.reset) { E with N := idx.length, ρ := fun j => E.ρ (idx.getD j 0) } hp' E')
  (hid : Id idx.length (fun j => E.ρ (idx.getD j 0)) hp' E'.ρ) {n0 : Nat} {ρ0 : Nat → RV} (hid0 : Id n0 ρ0 hp E.ρ) :
  ∃ E'', E''.w = E'.w ∧ HS (plugHp idx hp hp') E'' ∧ Ren E' E'' (back idx hp.length) ∧ Ren E E'' (but2 (movedL idx hp')) ∧ Ev hp E (plugHp idx hp hp') E'' ∧ Id n0 ρ0 (plugHp idx hp hp') E''.ρ := by
 have hN := h.n
 have hN' := h'.n
 have hsel : ∀ b, Lv ((selHp idx (posOf idx) hp).map SB.reset) { E with N := idx.length, ρ := fun j => E.ρ (idx.getD j 0) } b → ∃ (j i : Nat) (s : SB), idx[j]? = some i ∧ hp[i]? = some s ∧ s.live = true ∧ (E.ρ i).blk = some b := by
  intro b hb
  obtain ⟨j, sj, hj, hjl, hjb⟩ := hb.reset
  unfold selHp at hj
  rw [List.getElem?_map] at hj
  cases hi : idx[j]? with
  | none => rw [hi] at hj; cases hj
  | some i =>
   rw [hi] at hj
   cases hj
   rw [SB.live_ren] at hjl
   have := hlt i (List.mem_of_getElem? hi)
   simp only [List.getD_eq_getElem?_getD, hi, Option.getD_some] at hjb
   rw [List.getD_eq_getElem?_getD, List.getElem?_eq_getElem this, Option.getD_some] at hjl
   exact ⟨j, i, _, hi, List.getElem?_eq_getElem this, hjl, hjb⟩
 have hLv : ∀ b, Lv ((selHp idx (posOf idx) hp).map SB.reset) { E with N := idx.length, ρ := fun j => E.ρ (idx.getD j 0) } b → Lv hp E b := by
  intro b hb
  obtain ⟨j, i, s, _, h2, h3, h4⟩ := hsel b hb
  exact ⟨i, s, h2, h3, h4⟩
 have hout : ∀ (i : Nat) (s : SB) b, hp[i]? = some s → s.live = true → (E.ρ i).blk = some b → posOf idx i = none → ¬ Lv ((selHp idx (posOf idx) hp).map SB.reset) { E with N := idx.length, ρ := fun j => E.ρ (idx.getD j 0) } b := by
  intro i s b hs hl hb hp0 hv
  obtain ⟨j, i', s', h1, h2, h3, h4⟩ := hsel b hv
  have := h.dist _ _ _ _ b hs h2 hl h3 hb h4
  subst this
  rw [posOf_nodup idx j i hnd h1] at hp0
  cases hp0
 let ρ'' : Nat → RV := fun i => if i < hp.length then (match posOf idx i with | some j => E'.ρ j | none => E.ρ i) else E'.ρ (idx.length + (i - hp.length))
 let E'' : En := { N := hp.length + (hp'.length - idx.length), ρ := ρ'', w := E'.w, Fz := E'.Fz, B := E'.B }
 have hlen : (plugHp idx hp hp').length = hp.length + (hp'.length - idx.length) := by simp [plugHp, plugL_length]
 have hle : idx.length ≤ hp'.length := hid.le
 have hmem : ∀ b, E.Fz b ∨ E.B b → E'.w.heap[b]? = E.w.heap[b]? := fun b hb => hev.keep b (h.old b hb) (fun hv => by
  have := h.own b (hLv b hv)
  rcases hb with hb | hb
  ·exact this.2.1 hb
  ·exact this.2.2 hb)
 have rin : ∀ i j, i < hp.length → posOf idx i = some j → ρ'' i = E'.ρ j := fun i j h1 h2 => by simp only [ρ'', if_pos h1, h2]
 have rout : ∀ i, i < hp.length → posOf idx i = none → ρ'' i = E.ρ i := fun i h1 h2 => by simp only [ρ'', if_pos h1, h2]
 have rnew : ∀ k, ρ'' (hp.length + k) = E'.ρ (idx.length + k) := fun k => by simp only [ρ'']; rw [if_neg (by omega)]; congr 1; omega
 have hren1 : Ren E' E'' (back idx hp.length) := by
  refine ⟨fun j i hj hb => ?_, fun _ hb => hb, fun _ hb => .inl hb, fun _ _ => rfl⟩
  by_cases hjl : j < idx.length
  ·have h1 := back_lt hb hjl
   have h2 := hlt i (List.mem_of_getElem? h1)
   exact ⟨by show i < hp.length + _; omega, rin i j h2 (posOf_nodup idx j i hnd h1)⟩
  ·have h1 := back_ge hb hjl
   subst h1
   refine ⟨by show _ < hp.length + _; omega, ?_⟩
   show ρ'' _ = _
   rw [rnew]
   congr 1
   omega
 have hkeep : ∀ i j, posOf idx i = some j → ¬ (movedL idx hp').contains i = true → E'.ρ j = E.ρ i := by
  intro i j h1 h2
  have h3 := posOf_some idx i j h1
  have hjl : j < idx.length := (List.getElem?_eq_some_iff.1 h3).1
  have hb : hp'[j]? = some (hp'[j]'(by omega)) := List.getElem?_eq_getElem (by omega)
  have h4 := movedL_spec idx hp' j i _ h3 hb h2
  have h5 := stays_of_idok (hid.id j _ hjl hb) h4
  rw [h5]
  simp [List.getD_eq_getElem?_getD, h3]
 have hren2 : Ren E E'' (but2 (movedL idx hp')) := by
  refine ⟨fun a b ha hab => ?_, fun b hb => hev.fz b hb, fun b hb => .inl (by show E'.B b; rw [hB]; exact hb), hmem⟩
  simp only [but2] at hab
  split at hab
  ·cases hab
  ·rename_i hc
   cases hab
   have ha' : a < hp.length := by omega
   refine ⟨by show a < hp.length + _; omega, ?_⟩
   show ρ'' a = _
   cases hp0 : posOf idx a with
   | none => exact rout a ha' hp0
   | some j => rw [rin a j ha' hp0]; exact hkeep a j hp0 hc
 have hget : ∀ k s', (plugHp idx hp hp')[k]? = some s' →
   (k < hp.length ∧ ∃ s, hp[k]? = some s ∧ ((∃ j c, posOf idx k = some j ∧ hp'[j]? = some c ∧ s' = mvOr s (c.ren (back idx hp.length))) ∨ (posOf idx k = none ∧ s' = s.ren (but2 (movedL idx hp'))))) ∨
   (∃ m c, k = hp.length + m ∧ hp'[idx.length + m]? = some c ∧ s' = c.ren (back idx hp.length)) := by
  intro k s' hk
  unfold plugHp at hk
  by_cases hkl : k < hp.length
  ·rw [List.getElem?_append_left (by rw [plugL_length]; exact hkl), plugL_get _ _ _ _ hp 0 k _ (List.getElem?_eq_getElem hkl)] at hk
   refine .inl ⟨hkl, _, List.getElem?_eq_getElem hkl, ?_⟩
   rw [Nat.zero_add] at hk
   cases hp0 : posOf idx k with
   | none => rw [hp0] at hk; cases hk; exact .inr ⟨rfl, rfl⟩
   | some j =>
    rw [hp0] at hk
    have hjl : j < idx.length := (List.getElem?_eq_some_iff.1 (posOf_some idx k j hp0)).1
    have hb : hp'[j]? = some (hp'[j]'(by omega)) := List.getElem?_eq_getElem (by omega)
    cases hk
    exact .inl ⟨j, _, rfl, hb, by show mvOr _ ((hp'.getD j .gone).ren _) = _; rw [List.getD_eq_getElem?_getD, hb]; rfl⟩
  ·rw [List.getElem?_append_right (by rw [plugL_length]; omega), plugL_length, List.getElem?_map, List.getElem?_drop] at hk
   cases hc : hp'[idx.length + (k - hp.length)]? with
   | none => rw [hc] at hk; cases hk
   | some c => rw [hc] at hk; cases hk; exact .inr ⟨k - hp.length, c, by omega, hc, rfl⟩
 have hblk : ∀ k s' b, (plugHp idx hp hp')[k]? = some s' → s'.live = true → (ρ'' k).blk = some b →
   (∃ j c, hp'[j]? = some c ∧ c.live = true ∧ (E'.ρ j).blk = some b ∧ ((posOf idx k = some j ∧ k < hp.length) ∨ (k = hp.length + (j - idx.length) ∧ idx.length ≤ j))) ∨
   (∃ s, hp[k]? = some s ∧ s.live = true ∧ (E.ρ k).blk = some b ∧ posOf idx k = none) := by
  intro k s' b hk hl hb
  rcases hget k s' hk with ⟨hkl, s, hs, ⟨j, c, h1, h2, rfl⟩ | ⟨h1, rfl⟩⟩ | ⟨m, c, rfl, h2, rfl⟩
  ·have hl := mvOr_live hl
   rw [SB.live_ren] at hl
   rw [rin k j hkl h1] at hb
   exact .inl ⟨j, c, h2, hl, hb, .inl ⟨h1, hkl⟩⟩
  ·rw [SB.live_ren] at hl
   rw [rout k hkl h1] at hb
   exact .inr ⟨s, hs, hl, hb, h1⟩
  ·rw [SB.live_ren] at hl
   rw [rnew] at hb
   exact .inl ⟨_, c, h2, hl, hb, .inr ⟨by omega, by omega⟩⟩
 have hlv : ∀ b, Lv (plugHp idx hp hp') E'' b → Lv hp' E' b ∨ (Lv hp E b ∧ ¬ Lv ((selHp idx (posOf idx) hp).map SB.reset) { E with N := idx.length, ρ := fun j => E.ρ (idx.getD j 0) } b) := by
  rintro b ⟨k, s', hk, hl, hb⟩
  rcases hblk k s' b hk hl hb with ⟨j, c, h1, h2, h3, _⟩ | ⟨s, h1, h2, h3, h4⟩
  ·exact .inl ⟨j, c, h1, h2, h3⟩
  ·exact .inr ⟨⟨k, s, h1, h2, h3⟩, hout k s b h1 h2 h3 h4⟩
 refine ⟨E'', rfl, ⟨?_, ?_, ?_, ?_, ?_⟩, hren1, hren2, ?_, ?_⟩
 ·show hp.length + _ = _; rw [hlen]
 ·intro k s' hk
  show SBok E'' (ρ'' k) s'
  rcases hget k s' hk with ⟨hkl, s, hs, ⟨j, c, h1, h2, rfl⟩ | ⟨h1, rfl⟩⟩ | ⟨m, c, rfl, h2, rfl⟩
  ·rw [rin k j hkl h1]
   exact mvOr_ok (SBok.ren hren1 (fun _ _ _ => rfl) (h'.ok j c h2))
  ·rw [rout k hkl h1]
   exact SBok.ren hren2 (fun hl b hb => hev.keep b (h.own b ⟨k, s, hs, hl, hb⟩).1 (hout k s b hs hl hb h1)) (h.ok k s hs)
  ·rw [rnew]
   exact SBok.ren hren1 (fun _ _ _ => rfl) (h'.ok _ c h2)
 ·intro k k2 s1 s2 b hk hk2 hl hl2 hb hb2
  rcases hblk k s1 b hk hl hb with ⟨j, c, h1, h2, h3, h4⟩ | ⟨s, h1, h2, h3, h4⟩ <;> rcases hblk k2 s2 b hk2 hl2 hb2 with ⟨j', c', h1', h2', h3', h4'⟩ | ⟨s', h1', h2', h3', h4'⟩
  ·have := h'.dist _ _ _ _ b h1 h1' h2 h2' h3 h3'
   subst this
   rcases h4 with ⟨h4, h5⟩ | ⟨h4, h5⟩ <;> rcases h4' with ⟨h4', h5'⟩ | ⟨h4', h5'⟩
   ·have e1 := posOf_some idx k j h4
    have e2 := posOf_some idx k2 j h4'
    rw [e1] at e2; exact Option.some.inj e2
   ·have e1 := posOf_some idx k j h4
    have := (List.getElem?_eq_some_iff.1 e1).1
    omega
   ·have e1 := posOf_some idx k2 j h4'
    have := (List.getElem?_eq_some_iff.1 e1).1
    omega
   ·omega
  ·exfalso
   rcases hev.lv b ⟨j, c, h1, h2, h3⟩ with hx | hx
   ·exact hout k2 s' b h1' h2' h3' h4' hx
   ·have := (h.own b ⟨k2, s', h1', h2', h3'⟩).1
    simp only at hx; omega
  ·exfalso
   rcases hev.lv b ⟨j', c', h1', h2', h3'⟩ with hx | hx
   ·exact hout k s b h1 h2 h3 h4 hx
   ·have := (h.own b ⟨k, s, h1, h2, h3⟩).1
    simp only at hx; omega
  ·exact h.dist _ _ _ _ b h1 h1' h2 h2' h3 h3'
 ·intro b hb
  rcases hlv b hb with hb | ⟨hb, hnb⟩
  ·exact h'.own b hb
  ·have := h.own b hb
   refine ⟨Nat.lt_of_lt_of_le this.1 hev.size, fun hf => ?_, fun hf => this.2.2 (by rw [← hB]; exact hf)⟩
   rcases hev.fz' b hf with hx | hx | hx
   ·exact this.2.1 hx
   ·exact hnb hx
   ·simp only at hx; omega
 ·exact h'.old
 ·refine ⟨hev.os, hev.tape, hev.output, hev.size, fun b hb hn => hev.keep b hb (fun hv => hn (hLv b hv)), fun b hb => ?_, fun b hb => hev.fz b hb, fun b hb => ?_, hB⟩
  ·rcases hlv b hb with hb | hb
   ·exact (hev.lv b hb).imp (hLv b) id
   ·exact .inl hb.1
  ·rcases hev.fz' b hb with hx | hx | hx
   ·exact .inl hx
   ·exact .inr (.inl (hLv b hx))
   ·exact .inr (.inr hx)
 ·refine ⟨by rw [hlen]; have := hid0.le; omega, fun k s' hk0 hk => idok_of_stays fun hst => ?_⟩
  have hkl : k < hp.length := Nat.lt_of_lt_of_le hk0 hid0.le
  show ρ'' k = ρ0 k
  rcases hget k s' hk with ⟨_, s, hs, ⟨j, c, h1, h2, rfl⟩ | ⟨h1, rfl⟩⟩ | ⟨m, c, rfl, h2, rfl⟩
  ·obtain ⟨hst', hst0⟩ := mvOr_stays hst
   rw [SB.stays_ren] at hst'
   have e3 := posOf_some idx k j h1
   have hjl : j < idx.length := (List.getElem?_eq_some_iff.1 e3).1
   have e1 := stays_of_idok (hid.id j c hjl h2) hst'
   have e2 : E.ρ (idx.getD j 0) = E.ρ k := by rw [List.getD_eq_getElem?_getD, e3]; rfl
   rw [rin k j hkl h1, e1]
   show E.ρ (idx.getD j 0) = _
   rw [e2]
   exact stays_of_idok (hid0.id k s hk0 hs) hst0
  ·rw [SB.stays_ren] at hst
   rw [rout k hkl h1]
   exact stays_of_idok (hid0.id k s hk0 hs) hst
  ·omega
end Go.V
namespace Go.V
set_option linter.unusedSimpArgs false
set_option linter.unnecessarySimpa false
set_option linter.unusedVariables false
theorem SB.tr_get (f : SV → SV) {hp : List SB} {j : Nat} {s' : SB} (h : (hp.map (SB.tr f))[j]? = some s') : ∃ s, hp[j]? = some s ∧ s' = s.tr f := by
 rw [List.getElem?_map] at h
 cases hs : hp[j]? with
 | none => rw [hs] at h; cases h
 | some s => rw [hs] at h; cases h; exact ⟨s, rfl, rfl⟩
theorem Lv.tr {f : SV → SV} {hp : List SB} {E : En} {B : Nat → Prop} {b : Nat} (h : Lv (hp.map (SB.tr f)) { E with B := B } b) : Lv hp E b := by
 obtain ⟨j, sj, hj, hjl, hjb⟩ := h
 obtain ⟨s, hs, rfl⟩ := SB.tr_get f hj
 rw [SB.live_tr] at hjl
 exact ⟨j, s, hs, hjl, hjb⟩
theorem HS.unbo {hp : List SB} {E : En} (h : HS hp E) (B0 : Nat → Prop) (h0 : ∀ b, B0 b → E.B b) : HS (hp.map (SB.tr unboF)) { E with B := B0 } := by
 have ht := Tr.unbo E B0
 refine ⟨by simp [h.n], ?_, ?_, ?_, fun b hb => h.old b (hb.imp id (h0 b))⟩
 ·intro j s' hj
  obtain ⟨s, hs, rfl⟩ := SB.tr_get _ hj
  exact SBok.tr ht rfl (fun b hb => hb) (h.ok j s hs)
 ·intro j k sj sk b hj hk hjl hkl hjb hkb
  obtain ⟨s, hs, rfl⟩ := SB.tr_get _ hj
  obtain ⟨s2, hs2, rfl⟩ := SB.tr_get _ hk
  rw [SB.live_tr] at hjl hkl
  exact h.dist _ _ _ _ b hs hs2 hjl hkl hjb hkb
 ·intro b hb
  have := h.own b hb.tr
  exact ⟨this.1, this.2.1, fun hx => this.2.2 (h0 b hx)⟩
theorem idok_tr {f : SV → SV} {b : SB} {rv0 rv : RV} (h : idok b rv0 rv) : idok (b.tr f) rv0 rv := by
 cases b with
 | struct _ => exact h
 | map _ _ _ _ => exact h
 | itr _ _ => exact h
 | row mv _ _ _ => cases mv <;> exact h
 | gone => trivial
theorem Id.tr {f : SV → SV} {n0 : Nat} {ρ0 : Nat → RV} {hp : List SB} {ρ : Nat → RV} (h : Id n0 ρ0 hp ρ) : Id n0 ρ0 (hp.map (SB.tr f)) ρ := by
 refine ⟨by simpa using h.le, fun i sb hi hs => ?_⟩
 obtain ⟨s, hs2, rfl⟩ := SB.tr_get f hs
 exact idok_tr (h.id i s hi hs2)
theorem cont_lent {hp : List SB} {E : En} (h : HS hp E) {x : SV} {v : Value} (hx : den E x v) {C : Cont} (hc : cont hp x = some C) {F : Nat → Prop} (hF : ∀ p b, E.F p b → F b) (hr : ∀ i ∈ x.refs, ∀ b, (E.ρ i).blk = some b → F b) :
  slv E.w F (rd E.w F C.t) C.eb C.t.size C.xs v := by
 have up : ∀ (t : Ty) (y : t.den) c, rd E.w E.Fz t y c → rd E.w F t y c := fun t y c hy => rd_mono (fun b hb => hF true b (.inl hb)) (fun _ _ => rfl) t y c hy
 have row : ∀ i mv eb t (xs : List t.den), hp[i]? = some (.row mv eb t xs) → (∀ b, (E.ρ i).blk = some b → F b) → slv E.w F (rd E.w F t) eb t.size xs (E.ρ i).val := by
  intro i mv eb t xs hi hb
  rcases h.ok i _ hi with ⟨⟨ad, h1⟩, h2, rfl⟩ | ⟨b, off, cap, cur, T, fr, cs, h1, h2, h3, h4, h5, h6, h7, h8, h9, h10⟩
  ·exact .inl ⟨rfl, ad, 0, h1, by simp [maxLen], by simp⟩
  ·exact .inr ⟨b, off, cap, cur, T, fr, cs, h1, hb b h2, h3, h5, h6, h8, h9, rdL_mono (up t) _ _ h10⟩
 cases x <;> simp only [cont] at hc <;> try cases hc
 ·simp only [den] at hx
  exact slv_mono (hF _) (fun _ _ => rfl) (fun x c hx => rd_mono (hF _) (fun _ _ => rfl) _ x c hx) hx
 ·rename_i i
  simp only [den] at hx
  obtain ⟨_, rfl, _⟩ := hx
  split at hc
  ·rename_i mv eb t xs hi
   cases hc
   exact row i mv eb t xs hi (hr i (by simp [SV.refs]))
  ·cases hc
 ·rename_i i lo hi' sz
  simp only [den] at hx
  split at hc
  ·rename_i mv eb t xs hi
   split at hc
   ·rename_i hsz
    cases hc
    have ho := row i mv eb t xs hi (hr i (by simp [SV.refs]))
    rcases hx.2.2 with ⟨rfl, rfl, ad, _, rfl⟩ | ⟨b, o, l, c, h1, h2, ad, rfl, had⟩
    ·exact .inl ⟨by simp, ad, 0, rfl, by simp [maxLen], by simp⟩
    ·rw [h1] at ho
     exact slr_part (rd_length t) ho hx.2.1 h2 (by rw [← hsz]; exact had)
   ·cases hc
  ·cases hc
def lentB (E : En) (lent : List Nat) : Nat → Prop := fun b => E.B b ∨ ∃ i ∈ lent, (E.ρ i).blk = some b
theorem lend_sound {hp : List SB} {E : En} (h : HS hp E) : ∀ (ms : List (Option (Nat × Ty))) (args : List SV) (vs : List Value) (args' : List SV) (lent L : List Nat), denL E args vs → lend hp ms args = some (args', lent) → (∀ i ∈ lent, i ∈ L) →
    denL { E with B := lentB E L } args' vs
  | [], [], vs, args', lent, L, hd, hl, _ => by simp only [lend] at hl; cases hl; simpa [denL] using hd
  | [], _ :: _, vs, args', lent, L, hd, hl, _ => by simp [lend] at hl
  | none :: ms, [], vs, args', lent, L, hd, hl, _ => by simp [lend] at hl
  | some (eb, t) :: ms, [], vs, args', lent, L, hd, hl, _ => by simp [lend] at hl
  | none :: ms, x :: xs, vs, args', lent, L, hd, hl, hL => by
    have hren : Ren E { E with B := lentB E L } some := ⟨fun a b ha hab => by cases hab; exact ⟨ha, rfl⟩, fun _ hb => hb, fun b hb => .inl (.inl hb), fun _ _ => rfl⟩
    simp only [lend] at hl
    split at hl
    · rename_i ys l hl'
      cases hl
      simp only [denL] at hd ⊢
      obtain ⟨v, r, rfl, h1, h2⟩ := hd
      have h3 := den_ren hren x v h1
      rw [SV.ren_some] at h3
      exact ⟨v, r, rfl, h3, lend_sound h ms xs r ys lent L h2 hl' hL⟩
    · cases hl
  | some (eb, t) :: ms, x :: xs, vs, args', lent, L, hd, hl, hL => by
    simp only [lend] at hl
    split at hl
    · rename_i ys l hl'
      simp only [denL] at hd
      obtain ⟨v, r, rfl, h1, h2⟩ := hd
      have hF : ∀ p b, E.F p b → En.F { E with B := lentB E L } false b := fun p b hb => hb.elim .inl (fun hb => .inr ⟨rfl, .inl hb.2⟩)
      split at hl
      · cases hl
        simp only [den] at h1
        simp only [denL]
        refine ⟨v, r, rfl, ?_, lend_sound h ms xs r _ _ L h2 hl' hL⟩
        simp only [den]
        exact .inl ⟨rfl, none, 0, h1, by simp [maxLen], by simp⟩
      · rename_i p eb' t' xs'
        cases hl
        simp only [denL]
        refine ⟨v, r, rfl, ?_, lend_sound h ms xs r _ _ L h2 hl' hL⟩
        simp only [den] at h1 ⊢
        exact slv_mono (hF p) (fun _ _ => rfl) (fun x c hx => rd_mono (hF p) (fun _ _ => rfl) _ x c hx) h1
      · split at hl
        · rename_i C hC
          cases hl
          simp only [denL]
          refine ⟨v, r, rfl, ?_, lend_sound h ms xs r _ _ L h2 hl' (fun i hi => hL i (List.mem_append_right _ hi))⟩
          simp only [den]
          exact cont_lent h h1 hC hF (fun i hi b hb => .inr ⟨rfl, .inr ⟨i, hL i (List.mem_append_left _ hi), hb⟩⟩)
        · cases hl
    · cases hl
theorem cont_refs {hp : List SB} {x : SV} {C : Cont} (hc : cont hp x = some C) : ∀ i ∈ x.refs, ∃ mv eb t xs, hp[i]? = some (.row mv eb t xs) := by
 cases x <;> simp only [cont] at hc <;> try cases hc
 ·intro i hi; simp [SV.refs] at hi
 ·rename_i j
  split at hc
  ·rename_i mv eb t xs hj
   intro i hi
   simp [SV.refs] at hi
   subst hi
   exact ⟨mv, eb, t, xs, hj⟩
  ·cases hc
 ·rename_i j lo hi' sz
  split at hc
  ·rename_i mv eb t xs hj
   intro i hi
   simp [SV.refs] at hi
   subst hi
   exact ⟨mv, eb, t, xs, hj⟩
  ·cases hc
theorem lend_rows {hp : List SB} : ∀ (ms : List (Option (Nat × Ty))) (args args' : List SV) (lent : List Nat), lend hp ms args = some (args', lent) → ∀ i ∈ lent, ∃ mv eb t xs, hp[i]? = some (.row mv eb t xs)
  | [], [], args', lent, hl => by simp only [lend] at hl; cases hl; intro i hi; cases hi
  | [], _ :: _, args', lent, hl => by simp [lend] at hl
  | none :: ms, [], args', lent, hl => by simp [lend] at hl
  | some (eb, t) :: ms, [], args', lent, hl => by simp [lend] at hl
  | none :: ms, x :: xs, args', lent, hl => by
    simp only [lend] at hl
    split at hl
    · rename_i ys l hl'
      cases hl
      exact lend_rows ms xs ys lent hl'
    · cases hl
  | some (eb, t) :: ms, x :: xs, args', lent, hl => by
    simp only [lend] at hl
    split at hl
    · rename_i ys l hl'
      split at hl
      · cases hl; exact lend_rows ms xs ys _ hl'
      · cases hl; exact lend_rows ms xs ys _ hl'
      · split at hl
        · rename_i C hC
          cases hl
          intro i hi
          rcases List.mem_append.1 hi with hi | hi
          · exact cont_refs hC i hi
          · exact lend_rows ms xs ys l hl' i hi
        · cases hl
    · cases hl
theorem Fr.ren' {E E' : En} {f : Nat → Option Nat} (h : Ren E E' f) {fr : List (Nat × SV)} {a : Act} (hf : Fr E fr a) : Fr E' (frRen f fr) a := hf.ren h
theorem posOf_lt {idx : List Nat} {i j : Nat} (h : posOf idx i = some j) : j < idx.length := (List.getElem?_eq_some_iff.1 (posOf_some idx i j h)).1
theorem call_sound {P : Program} {f : FuncId} {C : Contract} (hC : Sound P f C) {S : Start} {s : SS} {E : En} {a : Act} (hs : Sat S s E a) (hG : Gl P E) {ms : List (Option (Nat × Ty))} {args : List SV} {K : SV → SS → Prop} {vs : List Value} (hd : denL E args vs)
  (h : callC1 C (lend s.hp ms args) s K) :
  Calls P f vs.toArray E.w fun e w' => ∃ r s' E' v, e = .returned v ∧ E'.w = w' ∧ K r s' ∧ den E' r v ∧ Sat S s' E' a := by
 unfold callC1 at h
 split at h
 ·cases h
 ·rename_i args1 lent hl
  obtain ⟨hlent, hc⟩ := h
  have hd1 := lend_sound hs.hs ms args vs args1 lent lent hd hl (fun _ h => h)
  have hrows := lend_rows ms args args1 lent hl
  obtain ⟨hnd, hlt⟩ := reach_ok s.hp 400 (SV.refsL args1) [] List.nodup_nil (by simp)
  generalize hidx : reach s.hp 400 (SV.refsL args1) [] = idx at *
  obtain ⟨h1, hren⟩ := sel_sound hs.hs hnd hlt
  have h2 := h1.reset
  have hnl : ∀ b, Lv ((selHp idx (posOf idx) s.hp).map SB.reset) { E with N := idx.length, ρ := fun j => E.ρ (idx.getD j 0) } b → ¬ lentB E lent b := by
   intro b hb hx
   rcases hx with hx | ⟨i, hi, hib⟩
   ·exact (h2.own b hb).2.2 hx
   ·obtain ⟨j, sj, hj, hjl, hjb⟩ := hb.reset
    unfold selHp at hj
    rw [List.getElem?_map] at hj
    cases hij : idx[j]? with
    | none => rw [hij] at hj; cases hj
    | some k =>
     rw [hij] at hj
     cases hj
     rw [SB.live_ren] at hjl
     have hk := hlt k (List.mem_of_getElem? hij)
     simp only [List.getD_eq_getElem?_getD, hij, Option.getD_some] at hjb
     rw [List.getD_eq_getElem?_getD, List.getElem?_eq_getElem hk, Option.getD_some] at hjl
     obtain ⟨mv, eb, t, xs, hi'⟩ := hrows i hi
     have := hs.hs.dist _ _ _ _ b hi' (List.getElem?_eq_getElem hk) rfl hjl hib hjb
     subst this
     have := List.all_eq_true.1 hlent i hi
     simp at this
     exact this (List.mem_of_getElem? hij)
  have hBlt : ∀ b, lentB E lent b → b < E.w.heap.size := by
   intro b hb
   rcases hb with hb | ⟨i, hi, hib⟩
   ·exact hs.hs.old b (.inr hb)
   ·obtain ⟨mv, eb, t, xs, hi'⟩ := hrows i hi
    exact (hs.hs.own b ⟨i, _, hi', rfl, hib⟩).1
  obtain ⟨h3, _⟩ := h2.borrow (lentB E lent) hBlt hnl (fun b hb => .inl hb)
  have hrena : Ren { E with B := lentB E lent } { E with N := idx.length, ρ := fun j => E.ρ (idx.getD j 0), B := lentB E lent } (posOf idx) :=
   ⟨hren.idx, fun _ hb => hb, fun _ hb => .inl hb, fun _ _ => rfl⟩
  have hda := denL_ren hrena args1 vs hd1
  refine (hC _ _ _ hc _ vs h3 (hG.keep (fun _ h => h) (fun _ _ => rfl)) hda).mono ?_
  rintro e w' ⟨r, hp', E', v, he, hw, hk, hhs, hdr, hev, hid⟩
  have hevB : E'.B = lentB E lent := hev.bo
  have key : ∃ E2, E2.w = E'.w ∧ E2.B = E.B ∧ HS (unboHp lent hp') E2 ∧ den E2 (unboIf lent r) v ∧
    Ev ((selHp idx (posOf idx) s.hp).map SB.reset) { E with N := idx.length, ρ := fun j => E.ρ (idx.getD j 0) } (unboHp lent hp') E2 ∧ Id idx.length (fun j => E.ρ (idx.getD j 0)) (unboHp lent hp') E2.ρ := by
   have hlen : ((selHp idx (posOf idx) s.hp).map SB.reset).length = idx.length := by simp [selHp]
   rw [hlen] at hid
   cases lent with
   | nil =>
    have hB : lentB E [] = E.B := by funext b; simp [lentB]
    refine ⟨E', rfl, by rw [hevB, hB], hhs, hdr, ?_, hid⟩
    exact ⟨hev.os, hev.tape, hev.output, hev.size, hev.keep, hev.lv, hev.fz, hev.fz', by rw [hevB, hB]⟩
   | cons i0 lent =>
    refine ⟨{ E' with B := E.B }, rfl, rfl, hhs.unbo E.B (fun b hb => by rw [hevB]; exact .inl hb), den_tr (Tr.unbo E' E.B) r v hdr, ?_, hid.tr⟩
    exact ⟨hev.os, hev.tape, hev.output, hev.size, hev.keep, fun b hb => hev.lv b hb.tr, hev.fz, hev.fz', rfl⟩
  obtain ⟨E2, e1, e2, e3, e4, e5, e6⟩ := key
  obtain ⟨E3, f1, f2, f3, f4, f5, f6⟩ := plug_sound hs.hs hnd hlt e3 e2 e5 e6 hs.id
  have hmv : movedL idx (unboHp lent hp') = movedL idx hp' := by
   have tr_moved : ∀ (idx : List Nat) (hp : List SB), movedL idx (hp.map (SB.tr unboF)) = movedL idx hp := by
    intro idx
    induction idx with
    | nil => intro hp; cases hp <;> rfl
    | cons i idx ih =>
     intro hp
     cases hp with
     | nil => rfl
     | cons b hp =>
      have : (b.tr unboF).stays = b.stays := by cases b <;> rfl
      simp only [List.map_cons, movedL, this, ih]
   cases lent with
   | nil => rfl
   | cons _ _ => exact tr_moved idx hp'
  refine ⟨_, _, E3, v, he, by rw [f1, e1, hw], hk, den_ren f3 _ v e4, ⟨f2, ?_, hs.ev.trans f5, f6, hs.defers, hs.size⟩⟩
  rw [← hmv]
  exact hs.fr.ren f4
end Go.V
namespace Go.V
set_option linter.unusedSimpArgs false
set_option linter.unnecessarySimpa false
set_option linter.unusedVariables false
theorem frozen_nf {w : World} {g o : Nat} {cur : Array Value} {t : TypeId} {fr : Nat × Nat} (hg : w.heap[g]? = some (.cells cur t fr)) (hf : nofz fr cur.size) (ho : o < cur.size) : w.frozen? ⟨g, o, none⟩ = false := by
 simp only [World.frozen?, hg]
 rcases hf with rfl | hf
 ·simp
 ·have : ¬ (fr.1 ≤ o) := by omega
  simp [this]
theorem run_storeCells_nf (P : Program) (g o : Nat) (t : TypeId) (fr : Nat × Nat) : ∀ (vs : List Value) (i : Nat) (cur : Array Value) (w : World), w.heap[g]? = some (.cells cur t fr) → nofz fr cur.size → o + i + vs.length ≤ cur.size → (∀ v ∈ vs, v.oneCell' = true) →
  (storeCells ⟨g, o, none⟩ vs i).run P w = .ok () (w.setRow g (cur.toList.take (o + i) ++ vs ++ cur.toList.drop (o + i + vs.length)).toArray)
 | [], i, cur, w, hg, _, _, _ => by
  simp only [storeCells, List.append_nil, List.length_nil, Nat.add_zero, List.take_append_drop, Array.toArray_toList]
  rw [setRow_self w g cur t fr hg]
  rfl
 | v :: rest, i, cur, w, hg, hf, hl, h1 => by
  have hi : o + i < cur.size := by simp at hl; omega
  have hadd : (⟨g, o, none⟩ : Addr).add i = ⟨g, o + i, none⟩ := by unfold Addr.add; split <;> simp_all
  have hcell : w.cell? ⟨g, o + i, none⟩ = some cur[o + i] := by simp [World.cell?, hg, hi]
  have hfro : w.frozen? ⟨g, o + i, none⟩ = false := frozen_nf hg hf hi
  have hst : (store ((⟨g, o, none⟩ : Addr).add i) v).run P w = .ok () (w.setRow g (cur.setIfInBounds (o + i) v)) := by
   rw [hadd, run_store P w _ v _ (h1 v (by simp)), hcell]
   simp [hfro, setCell_eq_setRow w g (o + i) cur t fr v hg]
  have ih := run_storeCells_nf P g o t fr rest (i + 1) (cur.setIfInBounds (o + i) v) (w.setRow g (cur.setIfInBounds (o + i) v)) (setRow_heap w g cur _ t _ hg) (by simpa using hf) (by simp at hl ⊢; omega) (fun x hx => h1 x (by simp [hx]))
  simp only [storeCells, Sem.run_bind, hst, Result.andThen_ok, ih, setRow_setRow]
  congr 3
  have e := list_seg_step cur.toList (o + i) v rest (by simp at hl ⊢; omega)
  simpa [Array.toList_setIfInBounds, Nat.add_assoc] using e
theorem storeAt_run {P : Program} {T n : Nat} {w : World} {g o : Nat} {cur : Array Value} {t : TypeId} {fr : Nat × Nat} {v : Value} (hn : szOf P T = some n) (hv : v.cells.size = n) (hg : w.heap[g]? = some (.cells cur t fr)) (hf : nofz fr cur.size)
  (ho : o + n ≤ cur.size) (h1 : ∀ x ∈ v.cells.toList, x.oneCell' = true) :
  (Instr.storeAt T (.pointer (some ⟨g, o, none⟩)) v).run P w = .ok () (w.setRow g (cur.toList.take o ++ (v.cells.toList ++ cur.toList.drop (o + n))).toArray) := by
 have h2 := run_storeCells_nf P g o t fr v.cells.toList 0 cur w hg hf (by simpa [hv] using ho) h1
 simp only [Nat.add_zero, List.append_assoc, Array.length_toList, hv] at h2
 simp [Instr.storeAt, Instr.sureAddr, storeVar, szOf_run hn, hv, h2]
/-! ### a part of a row in the row's place; rows frozen, one by one -/
def settle (s : SS) (x : SV) : SV × SS :=
 match x with
 | .vw i lo hi sz => match s.hp[i]? with
  | some (.row _ eb t xs) => if sz = t.size then (.own i, ⟨frRen (but i) s.fr, (s.hp.map (SB.ren (but i))).set i (.row true eb t ((xs.drop lo).take (hi - lo)))⟩) else (.junk1, s)
  | _ => (.junk1, s)
 | x => (x, s)
mutual
def SV.rows : SV → List Nat
 | .own i => [i]
 | .vw i _ _ _ => [i]
 | .agg l => SV.rowsL l
 | _ => []
def SV.rowsL : List SV → List Nat
 | [] => []
 | x :: r => x.rows ++ SV.rowsL r
end
def frzAll (s : SS) (l : List SV) : List Nat → SS × List SV
 | [] => (s, l)
 | i :: r => match s.hp[i]? with
  | some (.row _ eb t xs) => frzAll ⟨frTr (frzF i eb t xs) s.fr, (s.hp.map (SB.tr (frzF i eb t xs))).set i .gone⟩ (SV.trL (frzF i eb t xs) l) r
  | _ => frzAll s l r
theorem idok_ren {f : Nat → Option Nat} {b : SB} {rv0 rv : RV} (h : idok b rv0 rv) : idok (b.ren f) rv0 rv := by
 cases b with
 | struct _ => exact h
 | map _ _ _ _ => exact h
 | itr _ _ => exact h
 | row mv _ _ _ => cases mv <;> exact h
 | gone => trivial
theorem Id.set {n0 : Nat} {ρ0 : Nat → RV} {hp : List SB} {ρ : Nat → RV} (h : Id n0 ρ0 hp ρ) {f : Nat → Option Nat} {i : Nat} {b' : SB} {rv' : RV} (hb : ∀ rv0, idok (hp.getD i .gone) rv0 (ρ i) → idok b' rv0 rv') (hi : i < hp.length) :
  Id n0 ρ0 ((hp.map (SB.ren f)).set i b') (upR ρ i rv') := by
 refine ⟨by simpa using h.le, fun j sb hj hs => ?_⟩
 rw [List.getElem?_set] at hs
 split at hs
 ·rename_i hij
  subst hij
  rw [if_pos (by simpa using hi)] at hs
  cases hs
  rw [upd_same]
  refine hb _ ?_
  rw [List.getD_eq_getElem?_getD, List.getElem?_eq_getElem hi]
  exact h.id i _ hj (List.getElem?_eq_getElem hi)
 ·rename_i hij
  rw [List.getElem?_map] at hs
  cases hs2 : hp[j]? with
  | none => rw [hs2] at hs; cases hs
  | some s =>
   rw [hs2] at hs
   cases hs
   rw [upd_other _ _ (fun e => hij e.symm)]
   exact idok_ren (h.id j s hj hs2)
theorem settle_sound {S : Start} {s : SS} {E : En} {a : Act} (hs : Sat S s E a) {x : SV} {v : Value} (hx : den E x v) : ∃ E', E'.w = E.w ∧ Sat S (settle s x).2 E' a ∧ den E' (settle s x).1 v ∧
  E'.N = E.N ∧ E'.Fz = E.Fz ∧ (∀ j, (∀ mv eb t xs, (settle s x).2.hp[j]? ≠ some (.row mv eb t xs)) → E'.ρ j = E.ρ j) := by
 cases x with
 | vw i lo hi sz =>
  simp only [settle]
  have hone := one_cell hx rfl
  split
  ·rename_i mv eb t xs hi'
   split
   ·rename_i hsz
    simp only [den] at hx
    obtain ⟨hlt, hle, hx⟩ := hx
    obtain ⟨rv', hval, hblk, hown⟩ : ∃ rv' : RV, rv'.val = v ∧ (∀ b, rv'.blk = some b → (E.ρ i).blk = some b) ∧ ownv E.w (rd E.w E.Fz t) rv' eb t.size ((xs.drop lo).take (hi - lo)) := by
     rcases hx with ⟨rfl, rfl, ad, hv1, rfl⟩ | ⟨b, o, l, c, hv1, hle2, ad, rfl, had⟩
     ·exact ⟨⟨none, _⟩, rfl, fun b hb => (by cases hb), .inl ⟨⟨ad, rfl⟩, rfl, by simp⟩⟩
     ·by_cases hc : c = lo
      ·have h0 : l ≤ c := by
        rcases hs.hs.ok i _ hi' with ⟨⟨ad', h1⟩, _, _⟩ | ⟨b', off, cap, cur, T, fr, cs, h1, h2, h3, h4, h5, _⟩
        ·rw [hv1] at h1; injection h1 with _ e2 e3; omega
        ·rw [hv1] at h1; injection h1 with _ e2 e3; omega
       have h1 : hi = lo := by omega
       subst hc; subst h1
       exact ⟨⟨none, _⟩, rfl, fun b hb => (by cases hb), .inl ⟨⟨some ad, by simp⟩, rfl, by simp⟩⟩
      ·rcases hs.hs.ok i _ hi' with ⟨⟨ad', h1⟩, _, _⟩ | ⟨b', off, cap, cur, T, fr, cs, h1, h2, h3, h4, h5, h6, h7, h8, h9, h10⟩
       ·rw [hv1] at h1; injection h1 with _ e2 e3; omega
       ·rw [hv1] at h1
        injection h1 with e1 e2 e3
        injection e1 with e1
        injection e1 with e1 e4
        subst e1; subst e4; subst e2; subst e3
        have hlen : ((xs.drop lo).take (hi - lo)).length = hi - lo := by simp; omega
        refine ⟨⟨some b, _⟩, rfl, fun b0 hb0 => by rw [h2]; exact hb0, .inr ⟨b, o + lo * t.size, c - lo, cur, T, fr, _, ?_, rfl, h3, h4, by rw [hlen]; omega, by omega, ?_, ?_, rfl, ?_⟩⟩
        ·rw [hlen, had hc, hsz]
        ·have : o + lo * t.size + (c - lo) * t.size = o + c * t.size := by rw [Nat.add_assoc, ← Nat.add_mul]; congr 2; omega
         omega
        ·rw [hlen]; exact Nat.le_trans (Nat.mul_le_mul_right _ (by omega)) h8
        ·rw [hlen]
         have h11 := rdL_take (rd_length t) (hi - lo) _ _ (rdL_drop (rd_length t) lo xs cs h10)
         rw [← h9] at h11
         rw [List.drop_take, List.drop_drop, List.take_take] at h11
         have e6 : min ((hi - lo) * t.size) (xs.length * t.size - lo * t.size) = (hi - lo) * t.size := by
          rw [← Nat.sub_mul]
          exact Nat.min_eq_left (Nat.mul_le_mul_right _ (by omega))
         rwa [e6] at h11
    have hilt : i < s.hp.length := (List.getElem?_eq_some_iff.1 hi').1
    obtain ⟨h1, h2⟩ := hs.hs.upd (sb' := .row true eb t ((xs.drop lo).take (hi - lo))) hi' rfl (w' := E.w) (rv' := rv') (f := but i) (.inl rfl) (Chg.refl _ _) (fun b hb => ⟨.inl (hblk b hb), (hs.hs.own b ⟨i, _, hi', rfl, hblk b hb⟩).1⟩) hown rfl
    refine ⟨_, ?_, ⟨h1, hs.fr.ren h2, hs.ev.trans (Ev.upd hi' rfl (Chg.refl _ _) (fun b hb => .inl (hblk b hb))), hs.id.set (fun _ _ => trivial) hilt, hs.defers, hs.size⟩, ?_, ?_⟩
    ·rfl
    ·simp only [den]
     refine ⟨by rw [hs.hs.n]; exact hilt, ?_, hone⟩
     show v = (upR E.ρ i rv' i).val
     rw [upd_same, hval]
    ·refine ⟨rfl, rfl, fun j hj => ?_⟩
     refine upd_other _ _ (fun e => ?_)
     subst e
     exact hj _ _ _ _ (by rw [List.getElem?_set_self (by simpa using hilt)])
   ·exact ⟨E, rfl, hs, by simp only [den]; exact hone, rfl, rfl, fun _ _ => rfl⟩
  ·exact ⟨E, rfl, hs, by simp only [den]; exact hone, rfl, rfl, fun _ _ => rfl⟩
 | _ => exact ⟨E, rfl, hs, hx, rfl, rfl, fun _ _ => rfl⟩
theorem Id.setTr {n0 : Nat} {ρ0 : Nat → RV} {hp : List SB} {ρ : Nat → RV} (h : Id n0 ρ0 hp ρ) {f : SV → SV} {i : Nat} : Id n0 ρ0 ((hp.map (SB.tr f)).set i .gone) ρ := by
 refine ⟨by simpa using h.le, fun j sb hj hs => ?_⟩
 rw [List.getElem?_set] at hs
 split at hs
 ·split at hs
  ·cases hs; trivial
  ·cases hs
 ·obtain ⟨s, hs2, rfl⟩ := SB.tr_get f hs
  exact idok_tr (h.id j s hj hs2)
theorem frzAll_sound {S : Start} {a : Act} : ∀ (idx : List Nat) (s : SS) (l : List SV) (E : En) (cs : List Value), Sat S s E a → denC E l cs → ∃ E', E'.w = E.w ∧ Sat S (frzAll s l idx).1 E' a ∧ denC E' (frzAll s l idx).2 cs ∧
  E'.N = E.N ∧ E'.ρ = E.ρ
 | [], s, l, E, cs, hs, hl => ⟨E, rfl, hs, hl, rfl, rfl⟩
 | i :: r, s, l, E, cs, hs, hl => by
  simp only [frzAll]
  split
  ·rename_i mv eb t xs hi
   obtain ⟨h1, h2, h3⟩ := frz_sound hs.hs hi
   have hs' : Sat S ⟨frTr (frzF i eb t xs) s.fr, (s.hp.map (SB.tr (frzF i eb t xs))).set i .gone⟩ _ a := ⟨h1, hs.fr.tr h2 rfl, hs.ev.trans h3, hs.id.setTr, hs.defers, hs.size⟩
   obtain ⟨E', e1, e2, e3, e4, e5⟩ := frzAll_sound r _ _ _ cs hs' (denC_tr h2 l cs hl)
   exact ⟨E', e1, e2, e3, e4, e5⟩
  ·exact frzAll_sound r s l E cs hs hl
end Go.V
namespace Go.V
set_option linter.unusedSimpArgs false
set_option linter.unnecessarySimpa false
set_option linter.unusedVariables false
def partsC (s : SS) (sz : Nat) : List (Nat × Opd) → Option (List SV)
 | [] => some []
 | (_, x) :: r => match flatS (s.get x) with
  | some l => if widthL l = sz then match partsC s sz r with
    | some l' => some (l ++ l')
    | none => none
   else none
  | none => none
theorem seq_step {α : Type} (C V F : List α) (p n q : Nat) (hV : V.length = n) (hC : p + n + q ≤ C.length) :
  (C.take p ++ (V ++ C.drop (p + n))).take (p + n) ++ F ++ (C.take p ++ (V ++ C.drop (p + n))).drop (p + n + q) = C.take p ++ (V ++ F) ++ C.drop (p + n + q) := by
 have h1 : (C.take p ++ (V ++ C.drop (p + n))).take (p + n) = C.take p ++ V := by
  rw [← List.append_assoc, List.take_left']
  simp [hV]; omega
 have h2 : (C.take p ++ (V ++ C.drop (p + n))).drop (p + n + q) = C.drop (p + n + q) := by
  rw [← List.append_assoc, ← List.drop_drop, List.drop_left', List.drop_drop]
  simp [hV]; omega
 rw [h1, h2]; simp
theorem fill_seq (sz : Nat) : ∀ (vs : List Value) (k : Nat) (cells : Array Value), (∀ v ∈ vs, v.cells.size = sz) → (k + vs.length) * sz ≤ cells.size →
  ∃ cells', Instr.fill (fun i => some (i * sz, sz)) cells (vs.zipIdx k |>.map fun x => (x.2, x.1)) = some cells' ∧ cells'.size = cells.size ∧
   cells'.toList = cells.toList.take (k * sz) ++ (vs.flatMap fun v => v.cells.toList) ++ cells.toList.drop ((k + vs.length) * sz)
 | [], k, cells, _, h => ⟨cells, by simp [Instr.fill], rfl, by simp⟩
 | v :: vs, k, cells, hv, h => by
  have hvs := hv v (by simp)
  have hle : k * sz + sz + vs.length * sz ≤ cells.size := by
   rw [List.length_cons, Nat.add_mul, Nat.succ_mul] at h; omega
  simp only [List.zipIdx_cons, List.map_cons, Instr.fill]
  have hc : (decide (v.cells.size ≠ sz) || decide (k * sz + v.cells.size > cells.size)) = false := by
   simp [hvs]; omega
  rw [hc]
  simp only [Bool.false_eq_true, if_false]
  have hf := fill_fold (k * sz) v.cells.toList 0 cells (by simp [hvs]; omega)
  simp only [Nat.add_zero, Array.length_toList, hvs] at hf
  have hz : (v.cells.zipIdx.foldl (fun cs (x : Value × Nat) => cs.setIfInBounds (k * sz + x.2) x.1) cells) = (v.cells.toList.zipIdx 0).foldl (fun (cs : Array Value) (x : Value × Nat) => cs.setIfInBounds (k * sz + x.2) x.1) cells := by
   rw [← Array.foldl_toList]; simp
  have hsz : (v.cells.zipIdx.foldl (fun cs (x : Value × Nat) => cs.setIfInBounds (k * sz + x.2) x.1) cells).size = cells.size := by
   rw [hz, ← Array.length_toList, hf]
   simp [hvs]; omega
  obtain ⟨cells', h1, h2, h3⟩ := fill_seq sz vs (k + 1) _ (fun x hx => hv x (by simp [hx])) (by rw [hsz, Nat.add_mul, Nat.succ_mul]; exact hle)
  refine ⟨cells', h1, h2.trans hsz, ?_⟩
  rw [h3, hz, hf]
  have := seq_step cells.toList v.cells.toList (vs.flatMap fun v => v.cells.toList) (k * sz) sz (vs.length * sz) (by simp [hvs]) (by simpa using hle)
  rw [show (k + 1) * sz = k * sz + sz from Nat.succ_mul k sz, show (k + 1 + vs.length) * sz = k * sz + sz + vs.length * sz by rw [Nat.add_mul, Nat.succ_mul], this]
  rw [List.length_cons, show (k + (vs.length + 1)) * sz = k * sz + sz + vs.length * sz by rw [Nat.add_mul, Nat.succ_mul]; omega]
  simp
end Go.V
namespace Go.V
set_option linter.unusedSimpArgs false
set_option linter.unnecessarySimpa false
set_option linter.unusedVariables false
def lkC : List (Nat × Contract) → Nat → Option Contract
 | [], _ => none
 | (k, c) :: r, n => bif k == n then some c else lkC r n
def srcOf (hp : List SB) (t : Ty) (y : SV) : Option (List t.den) :=
 match y with
 | .nils => some []
 | .str b => if h : Ty.byte = t then some (castT h (b.data.toList : List UInt8)) else none
 | y => match cont hp y with
  | some C => if h : C.t = t then (if C.p || t.flat then some (castT h C.xs) else none) else none
  | none => none
def pushS (s : SS) (b : SB) : SS := ⟨s.fr, s.hp ++ [b]⟩
def setS (s : SS) (i : Nat) (b : SB) : SS := ⟨s.fr, s.hp.set i b⟩
def movS (s : SS) (i : Nat) (b : SB) : SS := ⟨frRen (but i) s.fr, (s.hp.map (SB.ren (but i))).set i b⟩
def srcH (hp : List SB) (y : SV) : Prop :=
 match y with
 | .str b => b.size ≤ maxLen
 | y => match cont hp y with
  | some C => C.xs.length * C.eb ≤ 140737488355328
  | none => True
def app1 (eb : Nat) (t : Ty) (s : SS) (x : SV) (H : Prop) (ys : Option (List t.den)) (K : SV → SS → Prop) : Prop :=
  match ys with
  | none => False
  | some ys => match x with
    | .nils => (H → ys.length * eb ≤ 140737488355328) ∧ (ys.length * eb ≤ 140737488355328 → K (.own s.hp.length) (pushS s (.row true eb t ys)))
    | .own i => match s.hp[i]? with
      | some (.row _ eb' t' xs) => if h : t' = t then eb' = eb ∧ (H → xs.length * eb ≤ 140737488355328 → (xs.length + ys.length) * eb ≤ 140737488355328) ∧
          ((xs.length + ys.length) * eb ≤ 140737488355328 → K (.own i) (movS s i (.row true eb t (castT h xs ++ ys)))) else False
      | _ => False
    | _ => False
def st1 (n : Nat) (s : SS) (x : SV) (new : Option (List SV)) (K : SV → SS → Prop) : Prop :=
  match new with
  | none => False
  | some new => if widthL new = n then match x with
      | .ptr i off => match s.hp[i]? with
        | some (.struct cells) => match splC cells off new with
          | some cells' => K .junk (setS s i (.struct cells'))
          | none => False
        | _ => False
      | .el i m sz off => match s.hp[i]? with
        | some (.row mv eb t xs) => if sz = t.size then match splC (t.sv true (xs.getD m t.dflt)) off new with
            | some l => match t.ofSv l with
              | some (y, []) => m < xs.length ∧ (m < xs.length → K .junk (setS s i (.row mv eb t (xs.set m y))))
              | _ => False
            | none => False
          else False
        | _ => False
      | .ptrA i off m sz => match s.hp[i]? with
        | some (.struct cells) => match takeC cells off with
          | some pre => match dropC cells off with
            | some (.arr k t xs :: rest) => if sz = t.size then match t.ofSv new with
                | some (y, []) => m < k ∧ (m < k → K .junk (setS s i (.struct (pre ++ (.arr k t (xs.set m y) :: rest)))))
                | _ => False
              else False
            | _ => False
          | none => False
        | _ => False
      | _ => False
    else False
def isEl : SV → Bool
 | .el _ _ _ _ => true
 | _ => false
def onesL (l : List SV) : Bool := l.all fun y => y.one || y.isArr
theorem onesL_spec {l : List SV} (h : onesL l = true) : ∀ y ∈ l, y.one = true ∨ y.isArr = true := by
 intro y hy
 have := List.all_eq_true.1 h y hy
 simpa using this
def ones (l : Option (List SV)) : Bool :=
 match l with
 | some l => onesL l
 | none => false
def stores (n : Nat) (s : SS) (x v : SV) (K : SV → SS → Prop) : Prop :=
 match isEl x with
 | true => match flatS v with
  | some l => onesL (frzAll s l (SV.rowsL l)).2 = true ∧ st1 n (frzAll s l (SV.rowsL l)).1 x (some (frzAll s l (SV.rowsL l)).2) K
  | none => False
 | false => ones (flatS (settle s v).1) = true ∧ st1 n (settle s v).2 x (flatS (settle s v).1) K
def bsl2 (eb : Nat) (t : Ty) (s : SS) (xs : Option (List t.den)) (K : SV → SS → Prop) : Prop :=
 match xs with
 | some xs => K (.own s.hp.length) (pushS s (.row true eb t xs))
 | none => False
def bldF1 (s : SS) (l : Option (List SV)) (K : SV → SS → Prop) : Prop :=
 match l with
 | some l => K (.agg (frzAll s l (SV.rowsL l)).2) (frzAll s l (SV.rowsL l)).1
 | none => False
def bslP1 (n : Nat) (s : SS) (l : Option (List SV)) (K : SV → SS → Prop) : Prop :=
 match l with
 | some l => K (.svw s.hp.length n) (pushS s (.struct l))
 | none => False
def bsl1 (eb : Nat) (t : Ty) (n : Nat) (s : SS) (l : Option (List SV)) (K : SV → SS → Prop) : Prop :=
 match l with
 | some l => bsl2 eb t (frzAll s l (SV.rowsL l)).1 (t.ofSvL n (frzAll s l (SV.rowsL l)).2) K
 | none => False
def updM (kt vt : Ty) (m : List (kt.den × vt.den)) (k : kt.den) (v : vt.den) : List (kt.den × vt.den) :=
 match m with
 | [] => [(k, v)]
 | (k', v') :: r => bif kt.beq k' k then (k', v) :: r else (k', v') :: updM kt vt r k v
def delM (kt vt : Ty) (m : List (kt.den × vt.den)) (k : kt.den) : List (kt.den × vt.den) := m.filter fun e => !kt.beq e.1 k
def valC (va : Bool) (v : SV) : Option (List SV) :=
 match va with
 | true => match v with
  | .agg l => some l
  | _ => none
 | false => if v.one then some [v] else none
def mu3 (va : Bool) (kt vt : Ty) (m : List (kt.den × vt.den)) (i : Nat) (key : kt.den) (s : SS) (y : Option (vt.den × List SV)) (K : SV → SS → Prop) : Prop :=
 match y with
 | some (y, []) => K .junk (setS s i (.map va kt vt (updM kt vt m key y)))
 | _ => False
def mu2 (va : Bool) (kt vt : Ty) (m : List (kt.den × vt.den)) (i : Nat) (s : SS) (key : Option kt.den) (l : Option (List SV)) (K : SV → SS → Prop) : Prop :=
 match key with
 | some key => match l with
  | some l => mu3 va kt vt m i key (frzAll s l (SV.rowsL l)).1 (vt.ofSv (frzAll s l (SV.rowsL l)).2) K
  | none => False
 | none => False
def mu0 (va : Bool) (kt vt : Ty) (s : SS) (b : Option SB) (i : Nat) (k v : SV) (K : SV → SS → Prop) : Prop :=
 match b with
 | some (.map va' kt' vt' m) => (va' = va ∧ kt' = kt ∧ vt' = vt) ∧ m.length + 1 ≤ maxLen ∧ mu2 va' kt' vt' m i s (kt'.keyOf k) (valC va' v) K
 | _ => False
def mu1 (va : Bool) (kt vt : Ty) (s : SS) (x k v : SV) (K : SV → SS → Prop) : Prop :=
 match x with
 | .mp i => mu0 va kt vt s (s.hp[i]?) i k v K
 | _ => False
def s2b1 (s : SS) (x : SV) (K : SV → SS → Prop) : Prop :=
 match x with
 | .str b => b.size ≤ 140737488355328 ∧ K (.own s.hp.length) (pushS s (.row true 1 .byte b.data.toList))
 | _ => False
def Ty.zs : Ty → List SV
 | .int k => [.int k 0]
 | .byte => [.int .u8 0]
 | .bool => [.bool false]
 | .str => [.str ByteArray.empty]
 | .sl _ _ => [.nils]
 | .pair a b => a.zs ++ b.zs
 | .unit => []
 | .any1 => [.nilp]
def mks2 (eb : Nat) (t : Ty) (s : SS) (l c : Int) (K : SV → SS → Prop) : Prop :=
 (0 ≤ l ∧ l ≤ c ∧ c ≤ 9223372036854775807 ∧ c * (eb : Int) ≤ 140737488355328) ∧ K (.own s.hp.length) (pushS s (.row true eb t (List.replicate l.toNat t.dflt)))
def mks1 (eb : Nat) (t : Ty) (s : SS) (x y : SV) (K : SV → SS → Prop) : Prop :=
 match x with
 | .int _ l => match y with
  | .int _ c => mks2 eb t s l c K
  | _ => False
 | _ => False
def dl2 (va : Bool) (kt vt : Ty) (m : List (kt.den × vt.den)) (i : Nat) (s : SS) (key : Option kt.den) (K : SV → SS → Prop) : Prop :=
 match key with
 | some key => K (.tup []) (setS s i (.map va kt vt (delM kt vt m key)))
 | none => False
def dl0 (kt : Ty) (s : SS) (b : Option SB) (i : Nat) (k : SV) (K : SV → SS → Prop) : Prop :=
 match b with
 | some (.map va kt' vt m) => kt' = kt ∧ dl2 va kt' vt m i s (kt'.keyOf k) K
 | _ => False
def dl1 (kt : Ty) (s : SS) (x k : SV) (K : SV → SS → Prop) : Prop :=
 match x with
 | .mp i => dl0 kt s (s.hp[i]?) i k K
 | _ => False
def mkb2 (s : SS) (i : Nat) (b : Option SB) (K : SV → SS → Prop) : Prop :=
 match b with
 | some (.row _ _ _ xs) => 1 ≤ xs.length ∧ K (.own i) s
 | _ => False
def mkb1 (s : SS) (x : SV) (K : SV → SS → Prop) : Prop :=
 match x with
 | .own i => mkb2 s i (s.hp[i]?) K
 | _ => False
def nxt2 (s : SS) (i : Nat) (b : Option SB) (K : SV → SS → Prop) : Prop :=
 match b with
 | some (.itr t p) => (p < t.size → (t.data.toList.getD p 0).toNat < 128 ∧ K (.tup [.bool true, .int .i64 p, .int .i32 ((t.data.toList.getD p 0).toNat : Int)]) (setS s i (.itr t (p + 1)))) ∧ (t.size ≤ p → K (.tup [.bool false]) s)
 | _ => False
def nxt1 (s : SS) (x : SV) (K : SV → SS → Prop) : Prop :=
 match x with
 | .ptr i off => off = 0 ∧ nxt2 s i (s.hp[i]?) K
 | _ => False
def rng1 (s : SS) (x : SV) (K : SV → SS → Prop) : Prop :=
 match x with
 | .str b => K (.ptr s.hp.length 0) (pushS s (.itr b 0))
 | _ => False
def cpy2 (t : Ty) (s : SS) (i lo hi sz : Nat) (ys : List t.den) (b : Option SB) (K : SV → SS → Prop) : Prop :=
 match b with
 | some (.row mv eb t' xs) => if h : t' = t then (sz = t.size ∧ lo + ys.length ≤ hi ∧ hi ≤ xs.length) ∧ K (.int .i64 ys.length) (setS s i (.row mv eb t ((castT h xs).take lo ++ (ys ++ (castT h xs).drop (lo + ys.length))))) else False
 | _ => False
def cpy1 (t : Ty) (s : SS) (x : SV) (ys : Option (List t.den)) (K : SV → SS → Prop) : Prop :=
 match ys with
 | some ys => match x with
  | .vw i lo hi sz => cpy2 t s i lo hi sz ys (s.hp[i]?) K
  | _ => False
 | none => False
def nones : List SV → List (Option (Nat × Ty))
 | [] => []
 | _ :: r => none :: nones r
def eff (Γ : List (Nat × Contract)) (o : AOp) (s : SS) (K : SV → SS → Prop) : Prop :=
 match o with
 | .isn ng x => match s.get x with
  | .nils => K (.bool (!ng)) s
  | y => match cont s.hp y with
   | some C => ∀ b : Bool, (b = true → C.xs = []) → K (.bool (bif ng then !b else b)) s
   | none => False
 | .alc zs => K (.ptr s.hp.length 0) (pushS s (.struct zs))
 | .alcT T zs => K (.pty s.hp.length T) (pushS s (.struct zs))
 | .box x => match flatS (s.get x) with
  | some l => K (.ptr s.hp.length 0) (pushS s (.struct l))
  | none => False
 | .st n x v => stores n s (s.get x) (s.get v) K
 | .mu va kt vt m k v => mu1 va kt vt s (s.get m) (s.get k) (s.get v) K
 | .s2b x => s2b1 s (s.get x) K
 | .mks eb t n c => mks1 eb t s (s.get n) (s.get c) K
 | .dl kt m k => dl1 kt s (s.get m) (s.get k) K
 | .mkb x => mkb1 s (s.get x) K
 | .rng x => rng1 s (s.get x) K
 | .nxt x => nxt1 s (s.get x) K
 | .cpy t x y => cpy1 t s (s.get x) (srcOf s.hp t (s.get y)) K
 | .bldF zs parts => bldF1 s (bldC s zs parts) K
 | .bsl eb t n parts => bsl1 eb t n s (partsC s t.size parts) K
 | .bslP n parts => bslP1 n s (partsC s 1 parts) K
 | .app eb t x y => app1 eb t (settle s (s.get x)).2 (settle s (s.get x)).1 (srcH s.hp (s.get y)) (srcOf s.hp t (s.get y)) K
 | .mkm va kt vt => K (.mp s.hp.length) (pushS s (.map va kt vt []))
 | .call f ms args => match lkC Γ f with
  | some C => callC1 C (lend s.hp ms (args.map s.get)) s K
  | none => False
 | .callv x ms args => match s.get x with
  | .fn f caps => if f < 1000000 then match lkC Γ f with
    | some C => callC1 C (lend s.hp (ms ++ nones caps) (args.map s.get ++ caps)) s K
    | none => False
   else match lkC Γ (f % 1000000) with
    | some C => callC1 C (lend s.hp (nones caps ++ ms) (caps ++ args.map s.get)) s K
    | none => False
  | _ => False
 | _ => False
def Callable (P : Program) (f : FuncId) : Prop := ∃ fn, P.funcs[f]? = some fn ∧ fn.body.isSome = true ∧ fn.name ≠ "runtime.NumGoroutine"
def GOk (P : Program) (Γ : List (Nat × Contract)) : Prop := ∀ f C, lkC Γ f = some C → Sound P f C ∧ Callable P f
def GOkS (P : Program) (Γ : List (Nat × Contract)) (S : Start) : Prop := GOk P Γ ∧ HS S.hp S.E ∧ Gl P S.E
def okPartsS (n : Nat) : Nat → List (Nat × Operand) → List (Nat × Opd) → Bool
 | k, [], [] => k == n
 | k, (i, x) :: r, (_, y) :: r' => i == k && okOpd x y && okPartsS n (k + 1) r r'
 | _, _, _ => false
def ebOk (eb e : Nat) : Bool := eb != 1 || e == 5
theorem ebOk.of {eb e : Nat} (h : ebOk eb e = true) : eb = 1 → e = 5 := by
 intro he; subst he; simpa [ebOk] using h
def okE (P : Program) (o : Op) : AOp → Bool
 | .isn ng y => match o with
  | .binOp op' T x x' _ => decide (op' = if ng then .neq else .eql) && okOpd x y && okOpd x' (.c .nils) && okKind P T .s
  | _ => false
 | .alc zs => match o with
  | .alloc T => (match zeroOf P T with | some z => cstC zs z.cells.toList | none => false)
  | _ => false
 | .alcT T zs => match o with
  | .alloc T' => T' == T && (match zeroOf P T with | some z => cstC zs z.cells.toList | none => false)
  | _ => false
 | .box y => match o with
  | .box _ x => okOpd x y
  | _ => false
 | .st n y z => match o with
  | .store T x v => okOpd x y && okOpd v z && szOf P T == some n
  | _ => false
 | .mu va kt vt y z u => match o with
  | .mapUpdate T m k v => okOpd m y && okOpd k z && okOpd v u && (match P.underlying T with
   | some (.map K V) => okKey P K kt
   | _ => false)
  | _ => false
 | .s2b y => match o with
  | .convert S D x => okOpd x y && okKind P S .i && (match P.underlying D with
   | some (.slice e) => ebOk 1 e && (match P.underlying e with | some (.int .u8) => true | _ => false)
   | _ => false)
  | _ => false
 | .mks eb t y z => match o with
  | .makeSlice T n c => okOpd n y && okOpd c z && (match P.underlying T with
   | some (.slice e) => (match P.info? e with
    | some i => ebOk eb e && i.size == t.size && i.bytes == eb && t.size != 0 && (match i.zero with | some z => z.cells.size == t.size && cstC t.zs z.cells.toList | none => false)
    | none => false)
   | _ => false)
  | _ => false
 | .dl kt y z => match o with
  | .call { callee := .builtin .delete, args := args, argTypes := ts } => okOpds args.toList [y, z] && (match ts.toList with
   | T :: _ => (match P.underlying T with
    | some (.map K V) => okKey P K kt
    | _ => false)
   | _ => false)
  | _ => false
 | .rng y => match o with
  | .range T x => okOpd x y && (match P.underlying T with | some .string => true | _ => false)
  | _ => false
 | .nxt y => match o with
  | .next x b => b && okOpd x y
  | _ => false
 | .mkb y => match o with
  | .convert S D x => okOpd x y && S == D && (match P.underlying D with
   | some (.slice e) => ebOk 1 e && (match P.underlying e with | some (.int .u8) => true | _ => false)
   | _ => false)
  | _ => false
 | .cpy t y z => match o with
  | .call { callee := .builtin .copy, args := args, argTypes := ts } => okOpds args.toList [y, z] && (match ts.toList with
   | T :: _ => (match P.underlying T with
    | some (.slice e) => szOf P e == some t.size
    | _ => false)
   | _ => false)
  | _ => false
 | .bldF zs ps => okQ P o (.bld zs ps)
 | .bsl eb t n ys => match o with
  | .buildSlice T m parts => m == n && okPartsS n 0 parts.toList ys && decide (n * t.size ≤ 16777216) && decide (n * eb ≤ 140737488355328) && t.size != 0 && (match P.underlying T with
   | some (.slice e) => ebOk eb e && szOf P e == some t.size && (match zeroOf P e with | some z => z.cells.size == t.size | none => false)
   | _ => false)
  | _ => false
 | .bslP n ys => match o with
  | .buildSlice T m parts => m == n && okPartsS n 0 parts.toList ys && decide (1 ≤ n) && decide (n ≤ 1000000) && (match P.underlying T with
   | some (.slice e) => szOf P e == some 1 && (match zeroOf P e with | some z => z.cells.size == 1 | none => false)
   | _ => false)
  | _ => false
 | .app eb t y z => match o with
  | .call { callee := .builtin .append, args := args, argTypes := ts } => okOpds args.toList [y, z] && (match ts.toList with
   | [T, U] => (match P.underlying T with
    | some (.slice e) => (match P.info? e with
     | some i => ebOk eb e && i.size == t.size && i.bytes == eb && t.size != 0 && eb != 0 && (match i.zero with | some z => z.cells.size == t.size | none => false)
     | none => false)
    | _ => false) && (okKind P U .s || okKind P U .i)
   | _ => false)
  | _ => false
 | .mkm va kt vt => match o with
  | .makeMap _ r => r.isNone
  | _ => false
 | .call f ms ys => match o with
  | .call { callee := .value (.func g), args := args, argTypes := _ } => f == g && okOpds args.toList ys
  | _ => false
 | .callv y ms ys => match o with
  | .call { callee := .value x, args := args, argTypes := _ } => okOpd x y && okOpds args.toList ys
  | _ => false
 | _ => false
section effects
variable {P : Program} {o : Oper} {S : Start} {s : SS} {E : En} {a : Act} {K : SV → SS → Prop} {next : Act → World → Prop} {Q : Exit → Act → World → Prop}
def Goes (S : Start) (a : Act) (o : Oper) (K : SV → SS → Prop) (next : Act → World → Prop) : Prop :=
 ∀ x s' E' v, K x s' → den E' x v → Sat S s' E' a → next (a.put o.dst v) E'.w
theorem goes_value {x : SV} {s' : SS} {E' : En} {v : Value} (hg : Goes S a o K next) (hk : K x s') (hx : den E' x v) (hs : Sat S s' E' a) (hr : (execOp a.eval o).run P E.w = .ok (.value v) E'.w) : o.wp P a E.w next Q := by
 unfold Oper.wp Oper.upon
 rw [hr]
 exact hg x s' E' v hk hx hs
theorem e_isn {Γ : List (Nat × Contract)} {ng : Bool} {y : Opd} (hok : okE P o.op (.isn ng y) = true) (hs : Sat S s E a) (h : eff Γ (.isn ng y) s K) (hg : Goes S a o K next) : o.wp P a E.w next Q := by
 cases ho : o.op <;> simp only [okE, ho] at hok <;> first | cases hok | skip
 rename_i op' T x x' _
 simp only [Bool.and_eq_true, decide_eq_true_eq] at hok
 obtain ⟨⟨⟨rfl, h1⟩, h2⟩, h3⟩ := hok
 have g := get_sound h1 hs.fr
 have g2 := get_sound h2 hs.fr
 simp only [SS.get, den] at g2
 obtain ⟨e, hu⟩ := okKind_s h3
 simp only [eff] at h
 split at h
 ·rename_i hy
  rw [hy] at g
  simp only [den] at g
  refine goes_value hg h (v := .bool (!ng)) (by simp only [den]) hs ?_
  have := eq_comes (P := P) (E := E) (b := true) ho g g2 rfl rfl (fun d => by simp [Op.equalIn, run_underlying hu])
  rw [this]; cases ng <;> rfl
 ·split at h
  ·rename_i C hC
   obtain ⟨A, c, hv, _, _⟩ := slr_val (cont_sound hs.hs g hC)
   have hb : A.isNone = true → C.xs = [] := by
    intro hA
    rcases cont_sound hs.hs g hC with ⟨hx, _⟩ | ⟨b, off, cap, cur, T', fr, cs, hv', _⟩
    ·exact hx
    ·rw [hv] at hv'; injection hv' with e1; subst e1; cases hA
   have := eq_comes (P := P) (E := E) (b := A.isNone) ho hv g2 rfl rfl (fun d => by
    cases A <;> simp [Op.equalIn, run_underlying hu])
   exact goes_value hg (h A.isNone hb) (by simp only [den]) hs this
  ·cases h
end effects
end Go.V
namespace Go.V
set_option linter.unusedSimpArgs false
set_option linter.unnecessarySimpa false
set_option linter.unusedVariables false
section effects
variable {P : Program} {o : Oper} {S : Start} {s : SS} {E : En} {a : Act} {K : SV → SS → Prop} {next : Act → World → Prop} {Q : Exit → Act → World → Prop} {Γ : List (Nat × Contract)}
theorem Id.push {n0 : Nat} {ρ0 : Nat → RV} {hp : List SB} {ρ : Nat → RV} (h : Id n0 ρ0 hp ρ) {b' : SB} {rv' : RV} {N : Nat} (hN : N = hp.length) : Id n0 ρ0 (hp ++ [b']) (upR ρ N rv') := by
 refine ⟨by have := h.le; simp; omega, fun j sb hj hs => ?_⟩
 have hj' : j < hp.length := Nat.lt_of_lt_of_le hj h.le
 rw [List.getElem?_append_left hj'] at hs
 rw [upd_other _ _ (by omega)]
 exact h.id j sb hj hs
theorem Id.ren' {n0 : Nat} {ρ0 : Nat → RV} {hp : List SB} {ρ : Nat → RV} (h : Id n0 ρ0 hp ρ) {i : Nat} {b' : SB} {rv' : RV} (hb : ∀ rv0, idok (hp.getD i .gone) rv0 (ρ i) → idok b' rv0 rv') (hi : i < hp.length) :
  Id n0 ρ0 (hp.set i b') (upR ρ i rv') := by
 have := h.set (f := some) hb hi
 rwa [map_ren_some] at this
theorem Sat.push (hs : Sat S s E a) {b' : SB} {w' : World} {rv' : RV} (hc : Chg E.w w' (fun _ => False)) (hn : ∀ b, rv'.blk = some b → E.w.heap.size ≤ b ∧ b < w'.heap.size)
  (ho : SBok { E with N := E.N + 1, ρ := upR E.ρ E.N rv', w := w' } rv' b') : Sat S (pushS s b') { E with N := E.N + 1, ρ := upR E.ρ E.N rv', w := w' } a := by
 obtain ⟨h1, h2⟩ := hs.hs.push hc hn ho
 have hf := hs.fr.ren h2
 rw [frRen_some] at hf
 exact ⟨h1, hf, hs.ev.trans (Ev.push hs.hs hc fun b hb => (hn b hb).1), hs.id.push hs.hs.n, hs.defers, hs.size⟩
theorem Ren.push (hs : Sat S s E a) {w' : World} {rv' : RV} (hc : Chg E.w w' (fun _ => False)) : Ren E { E with N := E.N + 1, ρ := upR E.ρ E.N rv', w := w' } some := by
 refine ⟨fun a b ha hab => ?_, fun _ hb => hb, fun _ hb => .inl hb, fun b hb => hc.keep b (hs.hs.old b hb) (fun x => x)⟩
 cases hab
 exact ⟨Nat.lt_succ_of_lt ha, upd_other _ _ (by omega)⟩
theorem den_push (hs : Sat S s E a) {w' : World} {rv' : RV} (hc : Chg E.w w' (fun _ => False)) {x : SV} {v : Value} (hx : den E x v) : den { E with N := E.N + 1, ρ := upR E.ρ E.N rv', w := w' } x v := by
 have := den_ren (Ren.push (rv' := rv') hs hc) x v hx
 rwa [SV.ren_some] at this
theorem denC_push (hs : Sat S s E a) {w' : World} {rv' : RV} (hc : Chg E.w w' (fun _ => False)) {l : List SV} {cs : List Value} (hx : denC E l cs) : denC { E with N := E.N + 1, ρ := upR E.ρ E.N rv', w := w' } l cs := by
 have := denC_ren (Ren.push (rv' := rv') hs hc) l cs hx
 rwa [SV.renL_some] at this
theorem newStruct (hs : Sat S s E a) {l : List SV} {cs : Array Value} {T : TypeId} (hl : denC E l cs.toList) (hk : K (.ptr s.hp.length 0) (pushS s (.struct l))) (hg : Goes S a o K next)
  (hr : (execOp a.eval o).run P E.w = .ok (.value (.pointer (some ⟨E.w.heap.size, 0, none⟩))) (E.w.alloc (.cells cs T))) : o.wp P a E.w next Q := by
 have hc := Chg.alloc E.w (.cells cs T)
 have hs' := hs.push (b' := .struct l) (rv' := ⟨some E.w.heap.size, undef⟩) hc (fun b hb => by cases hb; simp) ⟨E.w.heap.size, cs, T, (0, 0), rfl, heap_alloc_new E.w _, ⟨.inl rfl, fun t h => by cases h⟩, denC_push hs hc hl⟩
 refine goes_value hg hk ?_ hs' hr
 simp only [den]
 refine ⟨by show s.hp.length < E.N + 1; have := hs.hs.n; omega, E.w.heap.size, ?_, rfl⟩
 show (upR E.ρ E.N _ s.hp.length).blk = _
 rw [← hs.hs.n, upd_same]
theorem e_alc {zs : List SV} (hok : okE P o.op (.alc zs) = true) (hs : Sat S s E a) (h : eff Γ (.alc zs) s K) (hg : Goes S a o K next) : o.wp P a E.w next Q := by
 cases ho : o.op <;> simp only [okE, ho] at hok <;> first | cases hok | skip
 rename_i T
 split at hok
 ·rename_i z hz
  refine newStruct (T := T) hs (cstC_sound (E := E) zs _ hok) h hg ?_
  have hzr : (zeroValue T).run P E.w = .ok z E.w := by
   unfold zeroOf at hz
   cases hi : P.info? T with
   | none => rw [hi] at hz; cases hz
   | some i => rw [hi] at hz; simp at hz; simp [zeroValue, typeInfo, hi, hz]
  simp [execOp, ho, Instr.alloc, hzr, newVar, newRow]
 ·cases hok
theorem e_alcT {T : Nat} {zs : List SV} (hok : okE P o.op (.alcT T zs) = true) (hs : Sat S s E a) (h : eff Γ (.alcT T zs) s K) (hg : Goes S a o K next) : o.wp P a E.w next Q := by
 cases ho : o.op <;> simp only [okE, ho] at hok <;> first | cases hok | skip
 rename_i T'
 simp only [Bool.and_eq_true, beq_iff_eq] at hok
 obtain ⟨rfl, hok⟩ := hok
 split at hok
 ·rename_i z hz
  have hc := Chg.alloc E.w (.cells z.cells T')
  have hl := cstC_sound (E := E) zs _ hok
  have hs' := hs.push (b' := .struct zs) (rv' := ⟨some E.w.heap.size, .int .u64 T'⟩) hc (fun b hb => by cases hb; simp) ⟨E.w.heap.size, z.cells, T', (0, 0), rfl, heap_alloc_new E.w _, ⟨.inl rfl, fun t h => by simp only [Value.int.injEq, true_and] at h; exact Int.ofNat.inj h⟩, denC_push hs hc hl⟩
  have hzr : (zeroValue T').run P E.w = .ok z E.w := by
   unfold zeroOf at hz
   cases hi : P.info? T' with
   | none => rw [hi] at hz; cases hz
   | some i => rw [hi] at hz; simp at hz; simp [zeroValue, typeInfo, hi, hz]
  refine goes_value hg h ?_ hs' (by simp [execOp, ho, Instr.alloc, hzr, newVar, newRow]; first | rfl | skip)
  simp only [den]
  have hr : upR E.ρ E.N (⟨some E.w.heap.size, .int .u64 T'⟩ : RV) s.hp.length = ⟨some E.w.heap.size, .int .u64 T'⟩ := by rw [← hs.hs.n, upd_same]
  refine ⟨by show s.hp.length < E.N + 1; have := hs.hs.n; omega, E.w.heap.size, ?_, rfl, ?_⟩
  ·show (upR E.ρ E.N _ s.hp.length).blk = _
   rw [hr]
  ·show (upR E.ρ E.N _ s.hp.length).val = _
   rw [hr]
 ·cases hok
theorem e_box {y : Opd} (hok : okE P o.op (.box y) = true) (hs : Sat S s E a) (h : eff Γ (.box y) s K) (hg : Goes S a o K next) : o.wp P a E.w next Q := by
 cases ho : o.op <;> simp only [okE, ho] at hok <;> first | cases hok | skip
 rename_i T x
 have g := get_sound hok hs.fr
 simp only [eff] at h
 split at h
 ·rename_i l hl
  refine newStruct (T := T) hs (flat_cells g hl) h hg ?_
  simp [execOp, ho, Instr.box, newVar, newRow]
 ·cases h
theorem e_mkm {va : Bool} {kt vt : Ty} (hok : okE P o.op (.mkm va kt vt) = true) (hs : Sat S s E a) (h : eff Γ (.mkm va kt vt) s K) (hg : Goes S a o K next) : o.wp P a E.w next Q := by
 cases ho : o.op <;> simp only [okE, ho] at hok <;> first | cases hok | skip
 rename_i T r
 have hr0 : r = none := by simpa using hok
 subst hr0
 have hc := Chg.alloc E.w (.map #[] 0)
 have hs' := hs.push (rv' := ⟨some E.w.heap.size, undef⟩) (b' := .map va kt vt []) hc (fun b hb => by cases hb; simp)
  ⟨E.w.heap.size, #[], 0, rfl, heap_alloc_new E.w _, ⟨by simp [rdM], by simp, by simp, by simp, by simp⟩⟩
 refine goes_value hg h (v := .map (some E.w.heap.size)) ?_ hs' ?_
 ·simp only [den]
  refine ⟨by show s.hp.length < E.N + 1; have := hs.hs.n; omega, E.w.heap.size, ?_, rfl⟩
  show (upR E.ρ E.N _ s.hp.length).blk = _
  rw [← hs.hs.n, upd_same]
 ·simp [execOp, ho, Instr.makeMap]
theorem parts_sound (hf : Fr E s.fr a) {sz n : Nat} : ∀ (k : Nat) (parts : List (Nat × Operand)) (ys : List (Nat × Opd)) (l : List SV), okPartsS n k parts ys = true → partsC s sz ys = some l →
    ∃ vs : List Value, (parts.map fun x => (x.1, a.eval x.2)) = (vs.zipIdx k).map (fun x => (x.2, x.1)) ∧ k + vs.length = n ∧ (∀ v ∈ vs, v.cells.size = sz) ∧ denC E l (vs.flatMap fun v => v.cells.toList)
  | k, [], [], l, h, hl => by
    simp only [okPartsS, beq_iff_eq] at h
    simp only [partsC] at hl
    cases hl
    exact ⟨[], by simp, by simpa using h, by simp, by simp [denC]⟩
  | k, [], _ :: _, l, h, hl => by simp [okPartsS] at h
  | k, _ :: _, [], l, h, hl => by simp [okPartsS] at h
  | k, (i, x) :: r, (j, y) :: r', l, h, hl => by
    simp only [okPartsS, Bool.and_eq_true, beq_iff_eq] at h
    obtain ⟨⟨rfl, h1⟩, h2⟩ := h
    simp only [partsC] at hl
    split at hl
    · rename_i l1 hl1
      split at hl
      · rename_i hw
        split at hl
        · rename_i l2 hl2
          cases hl
          obtain ⟨vs, e1, e2, e3, e4⟩ := parts_sound hf (i + 1) r r' l2 h2 hl2
          have g := flat_cells (get_sound h1 hf) hl1
          refine ⟨a.eval x :: vs, by simp [e1], by simp; omega, fun v hv => ?_, ?_⟩
          · rcases List.mem_cons.1 hv with rfl | hv
            · have := denC_width _ _ g
              rw [← hw, ← this]; simp
            · exact e3 v hv
          · rw [List.flatMap_cons]
            exact denC_append _ _ _ _ g e4
        · cases hl
      · cases hl
    · cases hl
theorem e_bsl {eb n : Nat} {t : Ty} {ys : List (Nat × Opd)} (hok : okE P o.op (.bsl eb t n ys) = true) (hs : Sat S s E a) (h : eff Γ (.bsl eb t n ys) s K) (hg : Goes S a o K next) : o.wp P a E.w next Q := by
 cases ho : o.op <;> simp only [okE, ho] at hok <;> first | cases hok | skip
 rename_i T m parts
 simp only [Bool.and_eq_true, beq_iff_eq, decide_eq_true_eq, bne_iff_ne, ne_eq] at hok
 obtain ⟨⟨⟨⟨⟨rfl, h1⟩, h2⟩, h3⟩, h4⟩, h5⟩ := hok
 split at h5
 ·rename_i e hT
  simp only [Bool.and_eq_true, beq_iff_eq] at h5
  obtain ⟨⟨hebk, hsz⟩, hz⟩ := h5
  split at hz
  ·rename_i z hz0
   have hzs : z.cells.size = t.size := by simpa using hz
   simp only [eff, bsl1] at h
   split at h
   ·rename_i l hl
    obtain ⟨vs, e1, e2, e3, e4⟩ := parts_sound hs.fr 0 parts.toList ys l h1 hl
    obtain ⟨E', f1, f2, f3, f4, f5⟩ := frzAll_sound (SV.rowsL l) s l E _ hs e4
    unfold bsl2 at h
    split at h
    ·rename_i xs hxs
     obtain ⟨g1, g2⟩ := ofSvL_sound t m _ xs _ hxs f3
     rw [Nat.zero_add] at e2
     have hzr : ∀ w, (zeroValue e).run P w = .ok z w := by
      intro w
      unfold zeroOf at hz0
      cases hi : P.info? e with
      | none => rw [hi] at hz0; cases hz0
      | some i => rw [hi] at hz0; simp at hz0; simp [zeroValue, typeInfo, hi, hz0]
     have hrow : ∀ (cells : Array Value), cells.size = m * t.size → ∃ cells', Instr.fill (fun i => some (i * t.size, t.size)) cells (parts.toList.map fun x => (x.1, a.eval x.2)) = some cells' ∧ cells'.toList = vs.flatMap fun v => v.cells.toList := by
      intro cells hcs
      obtain ⟨cells', k1, k2, k3⟩ := fill_seq t.size vs 0 cells e3 (by rw [hcs, Nat.zero_add, e2]; exact Nat.le_refl _)
      refine ⟨cells', by rw [e1]; exact k1, ?_⟩
      rw [k3, Nat.zero_mul, Nat.zero_add, e2, List.drop_of_length_le (by simp [hcs])]
      simp
     have hm24 : ¬ (16777216 < m * t.size) := by omega
     have hmle : m ≤ 16777216 := Nat.le_trans (Nat.le_mul_of_pos_right _ (Nat.pos_of_ne_zero h4)) h2
     have hparts : (parts.map fun (i, x) => (i, a.eval x)).toList = parts.toList.map fun x => (x.1, a.eval x.2) := by simp
     have hrun : ∃ cells' : Array Value, (execOp a.eval o).run P E.w = .ok (.value (.slice (some ⟨E.w.heap.size, 0, none⟩) m m)) (E.w.alloc (.cells cells' e)) ∧ cells'.toList = vs.flatMap fun v => v.cells.toList := by
      by_cases hm0 : m * t.size = 0
      ·obtain ⟨cells', k1, k2⟩ := hrow ((Array.range (m * t.size)).map ((#[] : Array Value)[· % (#[] : Array Value).size]!)) (by simp)
       refine ⟨cells', ?_, k2⟩
       simp [execOp, ho, Instr.buildSlice, run_underlying hT, szOf_run hsz, hm24, hm0, newRow]
       simp [hm0] at k1
       simp [k1]
      ·obtain ⟨cells', k1, k2⟩ := hrow ((Array.range (m * t.size)).map (z.cells[· % z.cells.size]!)) (by simp)
       refine ⟨cells', ?_, k2⟩
       simp [execOp, ho, Instr.buildSlice, run_underlying hT, szOf_run hsz, hm24, hm0, hzr, newRow]
       simp [k1]
     obtain ⟨cells', hr, hcl⟩ := hrun
     rw [← f1] at hr ⊢
     have hc := Chg.alloc E'.w (.cells cells' e)
     have hlen : cells'.size = m * t.size := by
      have := rdL_length (rd_length t) xs _ g2
      rw [← hcl, g1] at this
      simpa using this
     have hmono := rdL_mono (fun x c hx => rd_mono (F' := E'.Fz) (w' := E'.w.alloc (.cells cells' e)) (fun _ h => h) (fun b hb => hc.keep b (f2.hs.old b (.inl hb)) (fun h => h)) t x c hx) _ _ g2
     rw [← hcl] at hmono
     by_cases hm : m = 0
     ·have hx0 : xs = [] := List.length_eq_zero_iff.1 (g1.trans hm)
      have hs' := f2.push (b' := .row true eb t xs) (rv' := ⟨none, .slice (some ⟨E'.w.heap.size, 0, none⟩) m m⟩) hc (fun b hb => (by cases hb)) (.inl ⟨⟨some ⟨E'.w.heap.size, 0, none⟩, by rw [hm]⟩, rfl, hx0⟩)
      refine goes_value hg h ?_ hs' hr
      simp only [den]
      refine ⟨by show _ < E'.N + 1; have := f2.hs.n; omega, ?_, rfl⟩
      show _ = (upR E'.ρ E'.N _ _).val
      rw [← f2.hs.n, upd_same]
     ·have hs' := f2.push (b' := .row true eb t xs) (rv' := ⟨some E'.w.heap.size, .slice (some ⟨E'.w.heap.size, 0, none⟩) m m⟩) hc (fun b hb => by cases hb; simp)
       (.inr ⟨E'.w.heap.size, 0, m, cells', e, (0, 0), cells'.toList, by rw [g1], rfl, heap_alloc_new E'.w _, ⟨.inl rfl, ebOk.of hebk⟩, by rw [g1]; exact Nat.le_refl _, by simp only [maxLen]; omega, by rw [hlen]; omega, by rw [g1]; exact h3, by rw [g1, List.drop_zero, List.take_of_length_le (by rw [Array.length_toList, hlen]; exact Nat.le_refl _)], hmono⟩)
      refine goes_value hg h ?_ hs' hr
      simp only [den]
      refine ⟨by show _ < E'.N + 1; have := f2.hs.n; omega, ?_, rfl⟩
      show _ = (upR E'.ρ E'.N _ _).val
      rw [← f2.hs.n, upd_same]
    ·cases h
   ·cases h
  ·cases hz
 ·cases h5
theorem e_bslP {n : Nat} {ys : List (Nat × Opd)} (hok : okE P o.op (.bslP n ys) = true) (hs : Sat S s E a) (h : eff Γ (.bslP n ys) s K) (hg : Goes S a o K next) : o.wp P a E.w next Q := by
 cases ho : o.op <;> simp only [okE, ho] at hok <;> first | cases hok | skip
 rename_i T m parts
 simp only [Bool.and_eq_true, beq_iff_eq, decide_eq_true_eq] at hok
 obtain ⟨⟨⟨⟨rfl, h1⟩, h2⟩, h3⟩, h5⟩ := hok
 split at h5
 ·rename_i e hT
  simp only [Bool.and_eq_true, beq_iff_eq] at h5
  obtain ⟨hsz, hz⟩ := h5
  split at hz
  ·rename_i z hz0
   have hzs : z.cells.size = 1 := by simpa using hz
   simp only [eff, bslP1] at h
   split at h
   ·rename_i l hl
    obtain ⟨vs, e1, e2, e3, e4⟩ := parts_sound hs.fr 0 parts.toList ys l h1 hl
    rw [Nat.zero_add] at e2
    have hzr : ∀ w, (zeroValue e).run P w = .ok z w := by
     intro w
     unfold zeroOf at hz0
     cases hi : P.info? e with
     | none => rw [hi] at hz0; cases hz0
     | some i => rw [hi] at hz0; simp at hz0; simp [zeroValue, typeInfo, hi, hz0]
    have hrow : ∀ (cells : Array Value), cells.size = m → ∃ cells', Instr.fill (fun i => some (i, 1)) cells (parts.toList.map fun x => (x.1, a.eval x.2)) = some cells' ∧ cells'.toList = vs.flatMap fun v => v.cells.toList := by
     intro cells hcs
     obtain ⟨cells', k1, k2, k3⟩ := fill_seq 1 vs 0 cells e3 (by rw [hcs, Nat.zero_add, e2, Nat.mul_one]; exact Nat.le_refl _)
     refine ⟨cells', by rw [e1]; simpa using k1, ?_⟩
     rw [k3, Nat.zero_mul, Nat.zero_add, e2, List.drop_of_length_le (by simp [hcs])]
     simp
    have hm24 : ¬ (16777216 < m) := by omega
    have hm0 : m ≠ 0 := by omega
    have hparts : (parts.map fun (i, x) => (i, a.eval x)).toList = parts.toList.map fun x => (x.1, a.eval x.2) := by simp
    have hrun : ∃ cells' : Array Value, (execOp a.eval o).run P E.w = .ok (.value (.slice (some ⟨E.w.heap.size, 0, none⟩) m m)) (E.w.alloc (.cells cells' e)) ∧ cells'.toList = vs.flatMap fun v => v.cells.toList := by
     obtain ⟨cells', k1, k2⟩ := hrow ((Array.range m).map (z.cells[· % z.cells.size]!)) (by simp)
     refine ⟨cells', ?_, k2⟩
     simp [execOp, ho, Instr.buildSlice, run_underlying hT, szOf_run hsz, hm24, hm0, hzr, newRow]
     simp [k1]
    obtain ⟨cells', hr, hcl⟩ := hrun
    have hc := Chg.alloc E.w (.cells cells' e)
    have hl' : denC E l cells'.toList := by rw [hcl]; exact e4
    have hs' := hs.push (b' := .struct l) (rv' := ⟨some E.w.heap.size, undef⟩) hc (fun b hb => by cases hb; simp) ⟨E.w.heap.size, cells', e, (0, 0), rfl, heap_alloc_new E.w _, ⟨.inl rfl, fun t h => by cases h⟩, denC_push hs hc hl'⟩
    refine goes_value hg h ?_ hs' hr
    simp only [den]
    refine ⟨by show s.hp.length < E.N + 1; have := hs.hs.n; omega, E.w.heap.size, m, ?_, rfl, Nat.le_refl _, by simp only [maxLen]; omega⟩
    show (upR E.ρ E.N _ s.hp.length).blk = _
    rw [← hs.hs.n, upd_same]
   ·cases h
  ·cases hz
 ·cases h5
theorem map_arr {α β : Type} (f : α → β) (xs : Array α) : (xs.toList.map f).toArray = xs.map f := by
 apply Array.ext'; simp
theorem e_call (hΓ : GOkS P Γ S) {f : Nat} {ms : List (Option (Nat × Ty))} {ys : List Opd} (hok : okE P o.op (.call f ms ys) = true) (hs : Sat S s E a) (h : eff Γ (.call f ms ys) s K) (hg : Goes S a o K next) : o.wp P a E.w next Q := by
 simp only [okE] at hok
 split at hok
 ·rename_i g args ts ho
  simp only [Bool.and_eq_true, beq_iff_eq] at hok
  obtain ⟨rfl, h1⟩ := hok
  simp only [eff] at h
  split at h
  ·rename_i C hC
   obtain ⟨hsound, fn, hfn, hbody, hname⟩ := hΓ.1 f C hC
   have hd := okOpds_sound hs.fr _ _ h1
   have hcall := call_sound hsound hs (hΓ.2.2.ev hΓ.2.1 hs.ev) hd h
   have hrun : (execOp a.eval o).run P E.w = .ok (.enter f (args.toList.map a.eval).toArray) E.w := by
    obtain ⟨body, hb⟩ := Option.isSome_iff_exists.1 hbody
    rw [map_arr]
    simp [execOp, ho, resolve, Act.eval, Deferred.ofValue, invoke, callFunc, hfn, hname, hb]
   unfold Oper.wp Oper.upon
   rw [hrun]
   refine hcall.mono ?_
   rintro e w' ⟨r, s', E', v, rfl, rfl, hk, hr, hs'⟩
   exact hg r s' E' v hk hr hs'
  ·cases h
 ·cases hok
theorem e_callv (hΓ : GOkS P Γ S) {y : Opd} {ms : List (Option (Nat × Ty))} {ys : List Opd} (hok : okE P o.op (.callv y ms ys) = true) (hs : Sat S s E a) (h : eff Γ (.callv y ms ys) s K) (hg : Goes S a o K next) : o.wp P a E.w next Q := by
 have app : ∀ (l1 l2 : List SV) (v1 v2 : List Value), denL E l1 v1 → denL E l2 v2 → denL E (l1 ++ l2) (v1 ++ v2) := by
  intro l1
  induction l1 with
  | nil => intro l2 v1 v2 h1 h2; simp only [denL] at h1; subst h1; exact h2
  | cons x r ih =>
   intro l2 v1 v2 h1 h2
   simp only [denL, List.cons_append] at h1 ⊢
   obtain ⟨v, r', rfl, h3, h4⟩ := h1
   exact ⟨v, r' ++ v2, rfl, h3, ih _ _ _ h4 h2⟩
 simp only [okE] at hok
 split at hok
 ·rename_i x args ts ho
  simp only [Bool.and_eq_true] at hok
  obtain ⟨h0, h1⟩ := hok
  have g := get_sound h0 hs.fr
  simp only [eff] at h
  split at h
  ·rename_i f caps hy
   rw [hy] at g
   simp only [den] at g
   obtain ⟨cs, hv, hcs⟩ := g
   split at h
   ·rename_i hlt
    unfold fnV at hv
    rw [if_pos hlt] at hv
    split at h
    ·rename_i C hC
     obtain ⟨hsound, fn, hfn, hbody, hname⟩ := hΓ.1 f C hC
     have hd := app _ _ _ _ (okOpds_sound hs.fr _ _ h1) hcs
     have hcall := call_sound hsound hs (hΓ.2.2.ev hΓ.2.1 hs.ev) hd h
     have harr : (args.toList.map a.eval ++ cs.toList).toArray = args.map a.eval ++ cs := by apply Array.ext'; simp
     have hrun : (execOp a.eval o).run P E.w = .ok (.enter f (args.toList.map a.eval ++ cs.toList).toArray) E.w := by
      rw [harr]
      obtain ⟨body, hb⟩ := Option.isSome_iff_exists.1 hbody
      simp [execOp, ho, resolve, hv, Deferred.ofValue, invoke, callFunc, hfn, hname, hb]
     unfold Oper.wp Oper.upon
     rw [hrun]
     refine hcall.mono ?_
     rintro e w' ⟨r, s', E', v, rfl, rfl, hk, hr, hs'⟩
     exact hg r s' E' v hk hr hs'
    ·cases h
   ·rename_i hlt
    unfold fnV at hv
    rw [if_neg hlt] at hv
    split at h
    ·rename_i C hC
     obtain ⟨hsound, fn, hfn, hbody, hname⟩ := hΓ.1 (f % 1000000) C hC
     have hd := app _ _ _ _ hcs (okOpds_sound hs.fr _ _ h1)
     have hcall := call_sound hsound hs (hΓ.2.2.ev hΓ.2.1 hs.ev) hd h
     have harr : (cs.toList ++ args.toList.map a.eval).toArray = cs ++ args.map a.eval := by apply Array.ext'; simp
     have hrun : (execOp a.eval o).run P E.w = .ok (.enter (f % 1000000) (cs.toList ++ args.toList.map a.eval).toArray) E.w := by
      rw [harr]
      obtain ⟨body, hb⟩ := Option.isSome_iff_exists.1 hbody
      simp [execOp, ho, resolve, hv, Deferred.ofValue, invoke, callFunc, hfn, hname, hb]
     unfold Oper.wp Oper.upon
     rw [hrun]
     refine hcall.mono ?_
     rintro e w' ⟨r, s', E', v, rfl, rfl, hk, hr, hs'⟩
     exact hg r s' E' v hk hr hs'
    ·cases h
  ·cases h
 ·cases hok
end effects
end Go.V
namespace Go.V
set_option linter.unusedSimpArgs false
set_option linter.unnecessarySimpa false
set_option linter.unusedVariables false
theorem updM_none {kt vt : Ty} {key : kt.den} {y : vt.den} (hb : ∀ x y : kt.den, kt.beq x y = true ↔ x = y) : ∀ (m : List (kt.den × vt.den)), (∀ x ∈ m, x.1 ≠ key) → updM kt vt m key y = m ++ [(key, y)]
 | [], _ => rfl
 | (k, v) :: r, h => by
  have h1 : kt.beq k key = false := by
   cases hk : kt.beq k key with
   | false => rfl
   | true => exact absurd ((hb _ _).1 hk) (h (k, v) (by simp))
  simp only [updM, h1, cond_false, List.cons_append]
  rw [updM_none hb r (fun x hx => h x (List.mem_cons_of_mem _ hx))]
theorem updM_some {kt vt : Ty} {key : kt.den} {y : vt.den} (hb : ∀ x y : kt.den, kt.beq x y = true ↔ x = y) : ∀ (m : List (kt.den × vt.den)) (j : Nat) (x : kt.den × vt.den), (m.map Prod.fst).Nodup → m[j]? = some x → x.1 = key → updM kt vt m key y = m.set j (key, y)
 | [], j, x, _, h, _ => by simp at h
 | (k, v) :: r, 0, x, hn, h, hx => by
  simp at h; subst h
  simp only at hx
  subst hx
  simp only [updM, (hb _ _).2 rfl, cond_true, List.set_cons_zero]
 | (k, v) :: r, j + 1, x, hn, h, hx => by
  simp only [List.map_cons, List.nodup_cons] at hn
  have hj : r[j]? = some x := by simpa using h
  have h1 : kt.beq k key = false := by
   cases hk : kt.beq k key with
   | false => rfl
   | true =>
    have := (hb _ _).1 hk
    subst this
    exact absurd (by rw [← hx]; exact List.mem_map_of_mem (List.mem_of_getElem? hj)) hn.1
  simp only [updM, h1, cond_false, List.set_cons_succ]
  rw [updM_some hb r j x hn.2 hj hx]
theorem rdM_push {w : World} {F : Nat → Prop} {va : Bool} {kt vt : Ty} {x : kt.den × vt.den} {e : MapEntry} (h1 : rd w F kt x.1 [e.key]) (h2 : rdV w F va vt x.2 e.val) : ∀ (m : List (kt.den × vt.den)) (es : List MapEntry), rdM w F va kt vt m es → rdM w F va kt vt (m ++ [x]) (es ++ [e])
 | [], es, h => by simp only [rdM] at h; subst h; exact ⟨e, [], rfl, h1, h2, rfl⟩
 | y :: m, es, h => by
  obtain ⟨e', r, rfl, h3, h4, h5⟩ := h
  exact ⟨e', r ++ [e], rfl, h3, h4, rdM_push h1 h2 m r h5⟩
theorem rdM_set {w : World} {F : Nat → Prop} {va : Bool} {kt vt : Ty} {x : kt.den × vt.den} {e : MapEntry} (h1 : rd w F kt x.1 [e.key]) (h2 : rdV w F va vt x.2 e.val) : ∀ (m : List (kt.den × vt.den)) (es : List MapEntry) (j : Nat), rdM w F va kt vt m es → rdM w F va kt vt (m.set j x) (es.set j e)
 | [], es, j, h => by simp only [rdM] at h; subst h; simp [rdM]
 | y :: m, es, 0, h => by
  obtain ⟨e', r, rfl, h3, h4, h5⟩ := h
  exact ⟨e, r, rfl, h1, h2, h5⟩
 | y :: m, es, j + 1, h => by
  obtain ⟨e', r, rfl, h3, h4, h5⟩ := h
  exact ⟨e', r.set j e, rfl, h3, h4, rdM_set h1 h2 m r j h5⟩
theorem frzAll_map {i : Nat} {va : Bool} {kt vt : Ty} {m : List (kt.den × vt.den)} : ∀ (idx : List Nat) (s : SS) (l : List SV), s.hp[i]? = some (.map va kt vt m) → (frzAll s l idx).1.hp[i]? = some (.map va kt vt m)
 | [], s, l, h => h
 | j :: r, s, l, h => by
  simp only [frzAll]
  split
  ·rename_i mv eb t xs hj
   refine frzAll_map r _ _ ?_
   have hne : j ≠ i := fun e => by subst e; rw [h] at hj; cases hj
   rw [List.getElem?_set_ne hne, List.getElem?_map, h]
   rfl
  ·exact frzAll_map r _ _ h
end Go.V
namespace Go.V
set_option linter.unusedSimpArgs false
set_option linter.unnecessarySimpa false
set_option linter.unusedVariables false
theorem splice_row {α : Type} (M V : List α) (p off n sz N : Nat) (hV : V.length = n) (h1 : off + n ≤ sz) (h2 : p + sz ≤ N) (h3 : N ≤ M.length) :
  (M.take (p + off) ++ (V ++ M.drop (p + off + n))).take N =
   (M.take N).take p ++ (((M.drop p).take sz).take off ++ (V ++ ((M.drop p).take sz).drop (off + n))) ++ (M.take N).drop (p + sz) := by
 apply List.ext_getElem?
 intro j
 simp only [List.getElem?_take, List.getElem?_append, List.getElem?_drop, List.length_take, List.length_append, List.length_drop, hV]
 grind
theorem splice_arr {α : Type} (M V A B C : List α) (p n : Nat) (hV : V.length = n) (hM : M = A ++ (B ++ C)) (h2 : p + n ≤ B.length) :
  M.take (A.length + p) ++ (V ++ M.drop (A.length + p + n)) = A ++ ((B.take p ++ V ++ B.drop (p + n)) ++ C) := by
 subst hM
 apply List.ext_getElem?
 intro j
 simp only [List.getElem?_take, List.getElem?_append, List.getElem?_drop, List.length_take, List.length_append, List.length_drop, hV]
 grind
section effects
variable {P : Program} {o : Oper} {S : Start} {s : SS} {E : En} {a : Act} {K : SV → SS → Prop} {next : Act → World → Prop} {Q : Exit → Act → World → Prop} {Γ : List (Nat × Contract)}
theorem upR_self (ρ : Nat → RV) (i : Nat) : upR ρ i (ρ i) = ρ := by funext j; unfold upR; split <;> simp_all
theorem ren_same (hs : HS s.hp E) {i : Nat} {sb : SB} (hi : s.hp[i]? = some sb) (hl : sb.live = true) {w' : World} (hc : Chg E.w w' (fun b => (E.ρ i).blk = some b)) : Ren E { E with w := w' } some := by
 refine ⟨fun a b ha hab => by cases hab; exact ⟨ha, rfl⟩, fun _ hb => hb, fun _ hb => .inl hb, fun b hb => hc.keep b (hs.old b hb) (fun hx => ?_)⟩
 have := hs.own b ⟨i, sb, hi, hl, hx⟩
 rcases hb with hb | hb
 ·exact this.2.1 hb
 ·exact this.2.2 hb
theorem Sat.setSame (hs : Sat S s E a) {i : Nat} {sb sb' : SB} (hi : s.hp[i]? = some sb) (hl : sb.live = true) {w' : World} (hc : Chg E.w w' (fun b => (E.ρ i).blk = some b)) (ho : SBok { E with w := w' } (E.ρ i) sb') (hl' : sb'.live = true)
  (hid : ∀ rv0, idok sb rv0 (E.ρ i) → idok sb' rv0 (E.ρ i)) : Sat S (setS s i sb') { E with w := w' } a := by
 have hlt : i < s.hp.length := (List.getElem?_eq_some_iff.1 hi).1
 have hown : ∀ b, (E.ρ i).blk = some b → ((E.ρ i).blk = some b ∨ E.w.heap.size ≤ b) ∧ b < w'.heap.size := fun b hb => ⟨.inl hb, Nat.lt_of_lt_of_le (hs.hs.own b ⟨i, sb, hi, hl, hb⟩).1 hc.size⟩
 have hb := hs.hs.upd (sb' := sb') (f := some) (rv' := E.ρ i) hi hl (.inr ⟨rfl, rfl⟩) hc hown (by rw [upR_self]; exact ho) hl'
 rw [upR_self, map_ren_some] at hb
 have he := Ev.upd (sb' := sb') (f := some) (rv' := E.ρ i) hi hl hc (fun b hb => (hown b hb).1)
 rw [upR_self, map_ren_some] at he
 have hf := hs.fr.ren hb.2
 rw [frRen_some] at hf
 have hid' := hs.id.ren' (b' := sb') (rv' := E.ρ i) (fun rv0 h => hid rv0 (by rw [List.getD_eq_getElem?_getD, hi] at h; exact h)) hlt
 rw [upR_self] at hid'
 exact ⟨hb.1, hf, hs.ev.trans he, hid', hs.defers, hs.size⟩
theorem den_w {i : Nat} {sb : SB} (hs : HS s.hp E) (hi : s.hp[i]? = some sb) (hl : sb.live = true) {w' : World} (hc : Chg E.w w' (fun b => (E.ρ i).blk = some b)) {l : List SV} {cs : List Value} (h : denC E l cs) : denC { E with w := w' } l cs := by
 have := denC_ren (ren_same hs hi hl hc) l cs h
 rwa [SV.renL_some] at this
structure NewC (E : En) (new : List SV) (v : Value) : Prop where
 den : denC E new v.cells.toList
 one : ∀ x ∈ v.cells.toList, x.oneCell' = true
theorem flat_one {x : SV} {v : Value} {l : List SV} (hv : den E x v) (h : flatS x = some l) (hl : ∀ y ∈ l, y.one = true ∨ y.isArr = true) : NewC E l v :=
 ⟨flat_cells hv h, denC_one l _ (flat_cells hv h) hl⟩
theorem st1_sound {T n : Nat} (hn : szOf P T = some n) (hs : Sat S s E a) {x : SV} {va vv : Value} (hx : den E x va) {new : List SV} (hnew : NewC E new vv) (hg : Goes S a o K next) (h : st1 n s x (some new) K)
  (hrun : ∀ w', (Instr.storeAt T va vv).run P E.w = .ok () w' → (execOp a.eval o).run P E.w = .ok .skip w') (hdst : o.dst = none) : o.wp P a E.w next Q := by
 have done : ∀ {s' : SS} {E' : En}, K .junk s' → Sat S s' E' a → (Instr.storeAt T va vv).run P E.w = .ok () E'.w → o.wp P a E.w next Q := by
  intro s' E' hk hs' hr
  unfold Oper.wp Oper.upon
  rw [hrun _ hr]
  exact hg .junk s' E' undef hk (by simp only [den]) hs'
 simp only [st1] at h
 split at h
 ·rename_i hw
  have hlen := denC_width new _ hnew.den
  have hvs : vv.cells.size = n := by rw [← hw, ← hlen]; simp
  split at h
  ·-- a struct
   rename_i i off
   simp only [den] at hx
   obtain ⟨_, b, hb, rfl⟩ := hx
   split at h
   ·rename_i cells hi
    split at h
    ·rename_i cells' hsp
     obtain ⟨b', cur, T', fr, h1, h2, h3, h4⟩ := hs.hs.ok i _ hi
     rw [hb] at h1; cases h1
     obtain ⟨h5, h6⟩ := denC_spl h4 hnew.den hsp
     have hr := storeAt_run (P := P) hn hvs h2 h3.1 (by rw [Array.length_toList, hvs] at h6; simpa using h6) hnew.one (o := off)
     have hc : Chg E.w (E.w.setRow b (cur.toList.take off ++ (vv.cells.toList ++ cur.toList.drop (off + n))).toArray) (fun c => (E.ρ i).blk = some c) :=
      (Chg.setRow _ _ _).mono (fun c hcb => by subst hcb; exact hb)
     refine done h (hs.setSame hi rfl hc ?_ rfl (fun _ hid => hid)) hr
     refine ⟨b, _, T', fr, hb, setRow_heap _ _ _ _ _ _ h2, ?_, ?_⟩
     ·have : (cur.toList.take off ++ (vv.cells.toList ++ cur.toList.drop (off + n))).toArray.size = cur.size := by
       simp [hvs] at h6 ⊢; omega
      rw [this]; exact h3
     ·rw [Array.length_toList, hvs] at h5
      exact den_w hs.hs hi rfl hc h5
    ·cases h
   ·cases h
  ·-- an element of a row
   rename_i i m sz off
   simp only [den] at hx
   obtain ⟨_, b, o', l', c, hval, rfl⟩ := hx
   split at h
   ·rename_i mv eb t xs hi
    split at h
    ·rename_i hsz
     split at h
     ·rename_i l hsp
      split at h
      ·rename_i y hof
       obtain ⟨hm, h⟩ := h
       have h := h hm
       rcases hs.hs.ok i _ hi with ⟨_, _, hx0⟩ | ⟨b', off', cap, cur, T', fr, cs, h1, h2, h3, h4, h5, h6, h7, h8, h9, h10⟩
       ·rw [hx0] at hm; simp at hm
       ·rw [hval] at h1
        injection h1 with e1 e2 e3
        injection e1 with e1
        injection e1 with e1 e4
        subst e1; subst e4; subst e3
        have hxm : xs[m]? = some (xs.getD m t.dflt) := by rw [List.getD_eq_getElem?_getD, List.getElem?_eq_getElem hm]; rfl
        obtain ⟨c0, r0, h11, h12⟩ := elem_at (rd_length t) h9 h10 hxm
        have h13 := denC_sv (E := E) true t _ _ (rd_mono (fun b hb => .inl hb) (fun _ _ => rfl) t _ c0 h11)
        obtain ⟨h14, h15⟩ := denC_spl h13 hnew.den hsp
        obtain ⟨d1, d2, h16, h17, h18⟩ := ofSv_sound t _ _ _ _ hof h14
        simp only [denC] at h18
        subst h18
        rw [List.append_nil] at h16
        have hc0 : c0.length = t.size := rd_length t _ _ h11
        have hlc := rdL_length (rd_length t) xs cs h10
        have hfit : (cur.toList.drop o').length ≥ xs.length * t.size := by
         have := congrArg List.length h9
         simp at this ⊢
         omega
        have hcl : vv.cells.toList.length = n := by rw [Array.length_toList]; exact hvs
        have hbnd : o' + (m * sz + off) + n ≤ cur.size := by
         rw [hcl] at h15
         have h20 : m * t.size + t.size ≤ xs.length * t.size := by rw [← Nat.succ_mul]; exact Nat.mul_le_mul_right _ hm
         simp at hfit
         rw [hsz]
         omega
        have hr := storeAt_run (P := P) hn hvs h3 h4.1 hbnd hnew.one
        have hc : Chg E.w (E.w.setRow b (cur.toList.take (o' + (m * sz + off)) ++ (vv.cells.toList ++ cur.toList.drop (o' + (m * sz + off) + n))).toArray) (fun c => (E.ρ i).blk = some c) :=
         (Chg.setRow _ _ _).mono (fun c hcb => by subst hcb; exact h2)
        refine done h (hs.setSame hi rfl hc ?_ rfl (fun rv0 hid => by cases mv <;> exact hid)) hr
        have hsame := ren_same hs.hs hi rfl hc
        have hcs := rdL_set (rd_length t) m xs cs y d1 h10 hm h17
        refine .inr ⟨b, o', c, _, T', fr, _, by rw [hval, e2, List.length_set], h2, setRow_heap _ _ _ _ _ _ h3, ?_, by simpa using h5, h6, ?_, by simpa using h8, rfl, ?_⟩
        ·have : (cur.toList.take (o' + (m * sz + off)) ++ (vv.cells.toList ++ cur.toList.drop (o' + (m * sz + off) + n))).toArray.size = cur.size := by
          simp [hvs]; omega
         rw [this]; exact h4
        ·have : (cur.toList.take (o' + (m * sz + off)) ++ (vv.cells.toList ++ cur.toList.drop (o' + (m * sz + off) + n))).toArray.size = cur.size := by
          simp [hvs]; omega
         rw [this]; exact h7
        ·have key : ((cur.toList.take (o' + (m * sz + off)) ++ (vv.cells.toList ++ cur.toList.drop (o' + (m * sz + off) + n))).drop o').take ((xs.set m y).length * t.size) = cs.take (m * t.size) ++ d1 ++ cs.drop (m * t.size + d1.length) := by
          have hd1 : d1.length = t.size := rd_length t _ _ h17
          have hc0' : c0 = ((cur.toList.drop o').drop (m * t.size)).take t.size := by
           rw [List.drop_drop, h12, ← hc0]; simp
          have hsp2 := splice_row (cur.toList.drop o') vv.cells.toList (m * t.size) off n t.size (xs.length * t.size) hcl (by omega) (by rw [← Nat.succ_mul]; exact Nat.mul_le_mul_right _ hm) hfit
          rw [← hc0', hcl.symm, h16, h9] at hsp2
          rw [List.length_set, hd1, ← hsp2, hcl, hsz]
          congr 1
          rw [List.drop_append, List.drop_take, List.length_take]
          have e5 : min (o' + (m * t.size + off)) cur.toList.length = o' + (m * t.size + off) := Nat.min_eq_left (by rw [← hsz]; simp; omega)
          rw [e5, show o' - (o' + (m * t.size + off)) = 0 by omega, show o' + (m * t.size + off) - o' = m * t.size + off by omega, List.drop_zero, List.drop_drop, show o' + (m * t.size + off + n) = o' + (m * t.size + off) + n by omega]
         show rdL _ _ (((cur.toList.take (o' + (m * sz + off)) ++ (vv.cells.toList ++ cur.toList.drop (o' + (m * sz + off) + n))).drop o').take ((xs.set m y).length * t.size))
         rw [key]
         exact rdL_mono (fun x c hx => rd_mono hsame.fz (fun b hb => hsame.mem b (.inl hb)) t x c hx) _ _ hcs
      ·cases h
     ·cases h
    ·cases h
   ·cases h
  ·-- an element of an array in a struct
   rename_i i off m sz
   simp only [den] at hx
   obtain ⟨_, b, hb, rfl⟩ := hx
   split at h
   ·rename_i cells hi
    split at h
    ·rename_i pre hpre
     split at h
     ·rename_i k t xs rest hdrop
      split at h
      ·rename_i hsz
       split at h
       ·rename_i y hof
        obtain ⟨hm, h⟩ := h
        have h := h hm
        obtain ⟨b', cur, T', fr, h1, h2, h3, h4⟩ := hs.hs.ok i _ hi
        rw [hb] at h1; cases h1
        obtain ⟨g1, g2⟩ := denC_take cells off pre _ h4 hpre
        obtain ⟨g3, _⟩ := denC_drop cells off _ _ h4 hdrop
        simp only [denC] at g3
        obtain ⟨c1, c2, g4, g5, g6, g7, g8⟩ := g3
        obtain ⟨d1, d2, h16, h17, h18⟩ := ofSv_sound t _ _ _ _ hof hnew.den
        simp only [denC] at h18
        subst h18
        rw [List.append_nil] at h16
        have hd1 : d1.length = t.size := rd_length t _ _ h17
        have hnt : n = t.size := by rw [← hd1, ← h16, Array.length_toList]; exact hvs.symm
        have hc1 := rdL_length (rd_length t) xs c1 g7
        have hcl : vv.cells.toList.length = n := by rw [Array.length_toList]; exact hvs
        have h20 : m * t.size + t.size ≤ c1.length := by rw [← Nat.succ_mul, hc1]; exact Nat.mul_le_mul_right _ (by omega)
        have hcur : cur.toList = cur.toList.take off ++ (c1 ++ c2) := by rw [← g4, List.take_append_drop]
        have hA : (cur.toList.take off).length = off := by rw [List.length_take]; omega
        have hbnd : off + m * sz + n ≤ cur.size := by
         have := congrArg List.length hcur
         simp only [List.length_append, hA, Array.length_toList] at this
         rw [hsz]; omega
        have hr := storeAt_run (P := P) hn hvs h2 h3.1 hbnd hnew.one
        have hc : Chg E.w (E.w.setRow b (cur.toList.take (off + m * sz) ++ (vv.cells.toList ++ cur.toList.drop (off + m * sz + n))).toArray) (fun c => (E.ρ i).blk = some c) :=
         (Chg.setRow _ _ _).mono (fun c hcb => by subst hcb; exact hb)
        refine done h (hs.setSame hi rfl hc ?_ rfl (fun _ hid => hid)) hr
        refine ⟨b, _, T', fr, hb, setRow_heap _ _ _ _ _ _ h2, ?_, ?_⟩
        ·have : (cur.toList.take (off + m * sz) ++ (vv.cells.toList ++ cur.toList.drop (off + m * sz + n))).toArray.size = cur.size := by
          simp [hvs]; omega
         rw [this]; exact h3
        ·refine den_w hs.hs hi rfl hc ?_
         have key := splice_arr cur.toList vv.cells.toList _ c1 c2 (m * sz) n hcl hcur (by rw [hsz]; omega)
         rw [hA] at key
         show denC E _ (cur.toList.take (off + m * sz) ++ (vv.cells.toList ++ cur.toList.drop (off + m * sz + n)))
         rw [key]
         refine denC_append _ _ _ _ g1 ?_
         simp only [denC]
         have g9 := rdL_set (rd_length t) m xs c1 y d1 g7 (by omega) h17
         rw [hd1] at g9
         rw [h16, hsz, hnt]
         exact ⟨_, c2, rfl, by simpa using g5, g6, g9, g8⟩
       ·cases h
      ·cases h
     ·cases h
    ·cases h
   ·cases h
  ·cases h
 ·cases h
end effects
end Go.V
