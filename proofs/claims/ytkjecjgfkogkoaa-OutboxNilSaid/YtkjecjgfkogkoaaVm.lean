/- A call by a contract, from the caller's side. -/
import Derived.Test.YtkjecjgfkogkoaaVl
namespace Go.V
set_option linter.unusedSimpArgs false
set_option linter.unnecessarySimpa false
set_option linter.unusedVariables false

theorem SB.tr_get (f : SV → SV) {hp : List SB} {j : Nat} {s' : SB} (h : (hp.map (SB.tr f))[j]? = some s') : ∃ s, hp[j]? = some s ∧ s' = s.tr f := by
  rw [List.getElem?_map] at h
  cases hs : hp[j]? with
  | none => rw [hs] at h; cases h
  | some s => rw [hs] at h; cases h; exact ⟨s, rfl, rfl⟩

theorem Lv.tr {f : SV → SV} {hp : List SB} {E : En} {B : Nat → Prop} {b : Nat} (h : Lv (hp.map (SB.tr f)) { E with B := B } b) : Lv hp E b := by
  obtain ⟨j, sj, hj, hjl, hjb⟩ := h
  obtain ⟨s, hs, rfl⟩ := SB.tr_get f hj
  rw [SB.live_tr] at hjl
  exact ⟨j, s, hs, hjl, hjb⟩

theorem HS.unbo {hp : List SB} {E : En} (h : HS hp E) (B0 : Nat → Prop) (h0 : ∀ b, B0 b → E.B b) : HS (hp.map (SB.tr unboF)) { E with B := B0 } := by
  have ht := Tr.unbo E B0
  refine ⟨by simp [h.n], ?_, ?_, ?_, fun b hb => h.old b (hb.imp id (h0 b))⟩
  · intro j s' hj
    obtain ⟨s, hs, rfl⟩ := SB.tr_get _ hj
    exact SBok.tr ht rfl (fun b hb => hb) (h.ok j s hs)
  · intro j k sj sk b hj hk hjl hkl hjb hkb
    obtain ⟨s, hs, rfl⟩ := SB.tr_get _ hj
    obtain ⟨s2, hs2, rfl⟩ := SB.tr_get _ hk
    rw [SB.live_tr] at hjl hkl
    exact h.dist _ _ _ _ b hs hs2 hjl hkl hjb hkb
  · intro b hb
    have := h.own b hb.tr
    exact ⟨this.1, this.2.1, fun hx => this.2.2 (h0 b hx)⟩

theorem idok_tr {f : SV → SV} {b : SB} {rv0 rv : RV} (h : idok b rv0 rv) : idok (b.tr f) rv0 rv := by
  cases b with
  | struct _ => exact h
  | map _ _ _ _ => exact h
  | row mv _ _ _ => cases mv <;> exact h
  | gone => trivial

theorem Id.tr {f : SV → SV} {n0 : Nat} {ρ0 : Nat → RV} {hp : List SB} {ρ : Nat → RV} (h : Id n0 ρ0 hp ρ) : Id n0 ρ0 (hp.map (SB.tr f)) ρ := by
  refine ⟨by simpa using h.le, fun i sb hi hs => ?_⟩
  obtain ⟨s, hs2, rfl⟩ := SB.tr_get f hs
  exact idok_tr (h.id i s hi hs2)

/-- What is lent reads as it does. -/
theorem cont_lent {hp : List SB} {E : En} (h : HS hp E) {x : SV} {v : Value} (hx : den E x v) {C : Cont} (hc : cont hp x = some C) {F : Nat → Prop} (hF : ∀ p b, E.F p b → F b) (hr : ∀ i ∈ x.refs, ∀ b, (E.ρ i).blk = some b → F b) :
    slv E.w F (rd E.w F C.t) C.eb C.t.size C.xs v := by
  have up : ∀ (t : Ty) (y : t.den) c, rd E.w E.Fz t y c → rd E.w F t y c := fun t y c hy => rd_mono (fun b hb => hF true b (.inl hb)) (fun _ _ => rfl) t y c hy
  have row : ∀ i mv eb t (xs : List t.den), hp[i]? = some (.row mv eb t xs) → (∀ b, (E.ρ i).blk = some b → F b) → slv E.w F (rd E.w F t) eb t.size xs (E.ρ i).val := by
    intro i mv eb t xs hi hb
    rcases h.ok i _ hi with ⟨⟨ad, h1⟩, h2, rfl⟩ | ⟨b, off, cap, cur, T, fr, cs, h1, h2, h3, h4, h5, h6, h7, h8, h9, h10⟩
    · exact .inl ⟨rfl, ad, 0, h1, by simp [maxLen], by simp⟩
    · exact .inr ⟨b, off, cap, cur, T, fr, cs, h1, hb b h2, h3, h5, h6, h8, h9, rdL_mono (up t) _ _ h10⟩
  cases x <;> simp only [cont] at hc <;> try cases hc
  · simp only [den] at hx
    exact slv_mono (hF _) (fun _ _ => rfl) (fun x c hx => rd_mono (hF _) (fun _ _ => rfl) _ x c hx) hx
  · rename_i i
    simp only [den] at hx
    obtain ⟨_, rfl, _⟩ := hx
    split at hc
    · rename_i mv eb t xs hi
      cases hc
      exact row i mv eb t xs hi (hr i (by simp [SV.refs]))
    · cases hc
  · rename_i i lo hi' sz
    simp only [den] at hx
    split at hc
    · rename_i mv eb t xs hi
      split at hc
      · rename_i hsz
        cases hc
        have ho := row i mv eb t xs hi (hr i (by simp [SV.refs]))
        rcases hx.2.2 with ⟨rfl, rfl, ad, _, rfl⟩ | ⟨b, o, l, c, h1, h2, ad, rfl, had⟩
        · exact .inl ⟨by simp, ad, 0, rfl, by simp [maxLen], by simp⟩
        · rw [h1] at ho
          exact slr_part (rd_length t) ho hx.2.1 h2 (by rw [← hsz]; exact had)
      · cases hc
    · cases hc

/-- The blocks that are borrowed while the call is on. -/
def lentB (E : En) (lent : List Nat) : Nat → Prop := fun b => E.B b ∨ ∃ i ∈ lent, (E.ρ i).blk = some b

theorem lend_sound {hp : List SB} {E : En} (h : HS hp E) : ∀ (ms : List (Option (Nat × Ty))) (args : List SV) (vs : List Value) (args' : List SV) (lent L : List Nat), denL E args vs → lend hp ms args = some (args', lent) → (∀ i ∈ lent, i ∈ L) →
    denL { E with B := lentB E L } args' vs
  | [], [], vs, args', lent, L, hd, hl, _ => by simp only [lend] at hl; cases hl; simpa [denL] using hd
  | [], _ :: _, vs, args', lent, L, hd, hl, _ => by simp [lend] at hl
  | none :: ms, [], vs, args', lent, L, hd, hl, _ => by simp [lend] at hl
  | some (eb, t) :: ms, [], vs, args', lent, L, hd, hl, _ => by simp [lend] at hl
  | none :: ms, x :: xs, vs, args', lent, L, hd, hl, hL => by
    have hren : Ren E { E with B := lentB E L } some := ⟨fun a b ha hab => by cases hab; exact ⟨ha, rfl⟩, fun _ hb => hb, fun b hb => .inl (.inl hb), fun _ _ => rfl⟩
    simp only [lend] at hl
    split at hl
    · rename_i ys l hl'
      cases hl
      simp only [denL] at hd ⊢
      obtain ⟨v, r, rfl, h1, h2⟩ := hd
      have h3 := den_ren hren x v h1
      rw [SV.ren_some] at h3
      exact ⟨v, r, rfl, h3, lend_sound h ms xs r ys lent L h2 hl' hL⟩
    · cases hl
  | some (eb, t) :: ms, x :: xs, vs, args', lent, L, hd, hl, hL => by
    simp only [lend] at hl
    split at hl
    · rename_i ys l hl'
      simp only [denL] at hd
      obtain ⟨v, r, rfl, h1, h2⟩ := hd
      have hF : ∀ p b, E.F p b → En.F { E with B := lentB E L } false b := fun p b hb => hb.elim .inl (fun hb => .inr ⟨rfl, .inl hb.2⟩)
      split at hl
      · cases hl
        simp only [den] at h1
        simp only [denL]
        refine ⟨v, r, rfl, ?_, lend_sound h ms xs r _ _ L h2 hl' hL⟩
        simp only [den]
        exact .inl ⟨rfl, none, 0, h1, by simp [maxLen], by simp⟩
      · rename_i p eb' t' xs'
        cases hl
        simp only [denL]
        refine ⟨v, r, rfl, ?_, lend_sound h ms xs r _ _ L h2 hl' hL⟩
        simp only [den] at h1 ⊢
        exact slv_mono (hF p) (fun _ _ => rfl) (fun x c hx => rd_mono (hF p) (fun _ _ => rfl) _ x c hx) h1
      · split at hl
        · rename_i C hC
          cases hl
          simp only [denL]
          refine ⟨v, r, rfl, ?_, lend_sound h ms xs r _ _ L h2 hl' (fun i hi => hL i (List.mem_append_right _ hi))⟩
          simp only [den]
          exact cont_lent h h1 hC hF (fun i hi b hb => .inr ⟨rfl, .inr ⟨i, hL i (List.mem_append_left _ hi), hb⟩⟩)
        · cases hl
    · cases hl

theorem cont_refs {hp : List SB} {x : SV} {C : Cont} (hc : cont hp x = some C) : ∀ i ∈ x.refs, ∃ mv eb t xs, hp[i]? = some (.row mv eb t xs) := by
  cases x <;> simp only [cont] at hc <;> try cases hc
  · intro i hi; simp [SV.refs] at hi
  · rename_i j
    split at hc
    · rename_i mv eb t xs hj
      intro i hi
      simp [SV.refs] at hi
      subst hi
      exact ⟨mv, eb, t, xs, hj⟩
    · cases hc
  · rename_i j lo hi' sz
    split at hc
    · rename_i mv eb t xs hj
      intro i hi
      simp [SV.refs] at hi
      subst hi
      exact ⟨mv, eb, t, xs, hj⟩
    · cases hc

theorem lend_rows {hp : List SB} : ∀ (ms : List (Option (Nat × Ty))) (args args' : List SV) (lent : List Nat), lend hp ms args = some (args', lent) → ∀ i ∈ lent, ∃ mv eb t xs, hp[i]? = some (.row mv eb t xs)
  | [], [], args', lent, hl => by simp only [lend] at hl; cases hl; intro i hi; cases hi
  | [], _ :: _, args', lent, hl => by simp [lend] at hl
  | none :: ms, [], args', lent, hl => by simp [lend] at hl
  | some (eb, t) :: ms, [], args', lent, hl => by simp [lend] at hl
  | none :: ms, x :: xs, args', lent, hl => by
    simp only [lend] at hl
    split at hl
    · rename_i ys l hl'
      cases hl
      exact lend_rows ms xs ys lent hl'
    · cases hl
  | some (eb, t) :: ms, x :: xs, args', lent, hl => by
    simp only [lend] at hl
    split at hl
    · rename_i ys l hl'
      split at hl
      · cases hl; exact lend_rows ms xs ys _ hl'
      · cases hl; exact lend_rows ms xs ys _ hl'
      · split at hl
        · rename_i C hC
          cases hl
          intro i hi
          rcases List.mem_append.1 hi with hi | hi
          · exact cont_refs hC i hi
          · exact lend_rows ms xs ys l hl' i hi
        · cases hl
    · cases hl

theorem Fr.ren' {E E' : En} {f : Nat → Option Nat} (h : Ren E E' f) {fr : List (Nat × SV)} {a : Act} (hf : Fr E fr a) : Fr E' (frRen f fr) a := hf.ren h

theorem posOf_lt {idx : List Nat} {i j : Nat} (h : posOf idx i = some j) : j < idx.length := (List.getElem?_eq_some_iff.1 (posOf_some idx i j h)).1

/-- A CALL BY A CONTRACT. -/
theorem call_sound {P : Program} {f : FuncId} {C : Contract} (hC : Sound P f C) {S : Start} {s : SS} {E : En} {a : Act} (hs : Sat S s E a) {ms : List (Option (Nat × Ty))} {args : List SV} {K : SV → SS → Prop} {vs : List Value} (hd : denL E args vs)
    (h : callC1 C (lend s.hp ms args) s K) :
    Calls P f vs.toArray E.w fun e w' => ∃ r s' E' v, e = .returned v ∧ E'.w = w' ∧ K r s' ∧ den E' r v ∧ Sat S s' E' a := by
  unfold callC1 at h
  split at h
  · cases h
  · rename_i args1 lent hl
    obtain ⟨hlent, hc⟩ := h
    have hd1 := lend_sound hs.hs ms args vs args1 lent lent hd hl (fun _ h => h)
    have hrows := lend_rows ms args args1 lent hl
    obtain ⟨hnd, hlt⟩ := reach_ok s.hp 400 (SV.refsL args1) [] List.nodup_nil (by simp)
    generalize hidx : reach s.hp 400 (SV.refsL args1) [] = idx at *
    obtain ⟨h1, hren⟩ := sel_sound hs.hs hnd hlt
    have h2 := h1.reset
    have hnl : ∀ b, Lv ((selHp idx (posOf idx) s.hp).map SB.reset) { E with N := idx.length, ρ := fun j => E.ρ (idx.getD j 0) } b → ¬ lentB E lent b := by
      intro b hb hx
      rcases hx with hx | ⟨i, hi, hib⟩
      · exact (h2.own b hb).2.2 hx
      · obtain ⟨j, sj, hj, hjl, hjb⟩ := hb.reset
        unfold selHp at hj
        rw [List.getElem?_map] at hj
        cases hij : idx[j]? with
        | none => rw [hij] at hj; cases hj
        | some k =>
          rw [hij] at hj
          cases hj
          rw [SB.live_ren] at hjl
          have hk := hlt k (List.mem_of_getElem? hij)
          simp only [List.getD_eq_getElem?_getD, hij, Option.getD_some] at hjb
          rw [List.getD_eq_getElem?_getD, List.getElem?_eq_getElem hk, Option.getD_some] at hjl
          obtain ⟨mv, eb, t, xs, hi'⟩ := hrows i hi
          have := hs.hs.dist _ _ _ _ b hi' (List.getElem?_eq_getElem hk) rfl hjl hib hjb
          subst this
          have := List.all_eq_true.1 hlent i hi
          simp at this
          exact this (List.mem_of_getElem? hij)
    have hBlt : ∀ b, lentB E lent b → b < E.w.heap.size := by
      intro b hb
      rcases hb with hb | ⟨i, hi, hib⟩
      · exact hs.hs.old b (.inr hb)
      · obtain ⟨mv, eb, t, xs, hi'⟩ := hrows i hi
        exact (hs.hs.own b ⟨i, _, hi', rfl, hib⟩).1
    obtain ⟨h3, _⟩ := h2.borrow (lentB E lent) hBlt hnl (fun b hb => .inl hb)
    have hrena : Ren { E with B := lentB E lent } { E with N := idx.length, ρ := fun j => E.ρ (idx.getD j 0), B := lentB E lent } (posOf idx) :=
      ⟨hren.idx, fun _ hb => hb, fun _ hb => .inl hb, fun _ _ => rfl⟩
    have hda := denL_ren hrena args1 vs hd1
    refine (hC _ _ _ hc _ vs h3 hda).mono ?_
    rintro e w' ⟨r, hp', E', v, he, hw, hk, hhs, hdr, hev, hid⟩
    have hevB : E'.B = lentB E lent := hev.bo
    -- back, with nothing borrowed any more but what was
    have key : ∃ E2, E2.w = E'.w ∧ E2.B = E.B ∧ HS (unboHp lent hp') E2 ∧ den E2 (unboIf lent r) v ∧
        Ev ((selHp idx (posOf idx) s.hp).map SB.reset) { E with N := idx.length, ρ := fun j => E.ρ (idx.getD j 0) } (unboHp lent hp') E2 ∧ Id idx.length (fun j => E.ρ (idx.getD j 0)) (unboHp lent hp') E2.ρ := by
      have hlen : ((selHp idx (posOf idx) s.hp).map SB.reset).length = idx.length := by simp [selHp]
      rw [hlen] at hid
      cases lent with
      | nil =>
        have hB : lentB E [] = E.B := by funext b; simp [lentB]
        refine ⟨E', rfl, by rw [hevB, hB], hhs, hdr, ?_, hid⟩
        exact ⟨hev.os, hev.tape, hev.output, hev.size, hev.keep, hev.lv, hev.fz, hev.fz', by rw [hevB, hB]⟩
      | cons i0 lent =>
        refine ⟨{ E' with B := E.B }, rfl, rfl, hhs.unbo E.B (fun b hb => by rw [hevB]; exact .inl hb), den_tr (Tr.unbo E' E.B) r v hdr, ?_, hid.tr⟩
        exact ⟨hev.os, hev.tape, hev.output, hev.size, hev.keep, fun b hb => hev.lv b hb.tr, hev.fz, hev.fz', rfl⟩
    obtain ⟨E2, e1, e2, e3, e4, e5, e6⟩ := key
    obtain ⟨E3, f1, f2, f3, f4, f5, f6⟩ := plug_sound hs.hs hnd hlt e3 e2 e5 e6 hs.id
    have hmv : movedL idx (unboHp lent hp') = movedL idx hp' := by
      have tr_moved : ∀ (idx : List Nat) (hp : List SB), movedL idx (hp.map (SB.tr unboF)) = movedL idx hp := by
        intro idx
        induction idx with
        | nil => intro hp; cases hp <;> rfl
        | cons i idx ih =>
          intro hp
          cases hp with
          | nil => rfl
          | cons b hp =>
            have : (b.tr unboF).stays = b.stays := by cases b <;> rfl
            simp only [List.map_cons, movedL, this, ih]
      cases lent with
      | nil => rfl
      | cons _ _ => exact tr_moved idx hp'
    refine ⟨_, _, E3, v, he, by rw [f1, e1, hw], hk, den_ren f3 _ v e4, ⟨f2, ?_, hs.ev.trans f5, f6, hs.defers, hs.size⟩⟩
    rw [← hmv]
    exact hs.fr.ren f4

end Go.V
