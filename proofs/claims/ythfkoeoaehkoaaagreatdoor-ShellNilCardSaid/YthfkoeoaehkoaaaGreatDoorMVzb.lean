/- .. code, functions, and that it is right. -/
import Derived.Test.YthfkoeoaehkoaaaGreatDoorMVz
import Derived.Test.YthfkoeoaehkoaaaGreatDoorMN1
import Derived.Test.YthfkoeoaehkoaaaGreatDoorMN2
import Derived.RangeFuncRecord
import Derived.Shelf.Strings.Split
import Derived.Test.YthfkoeoaehkoaaaGreatDoorProg
import Derived.Shelf.Strings.Repeat
import Derived.Shelf.LaysM
namespace Go.V
set_option linter.unusedSimpArgs false
set_option linter.unnecessarySimpa false
set_option linter.unusedVariables false
def stepX (R : Run) (o : AOper) (s : SS) : Outs SS :=
 match o.op.quiet with
 | true => match evX o.op s with
  | some v => some [s.put o.dst v]
  | none => none
 | false => oMap (fun p : SV × SS => p.2.put o.dst p.1) (effX R o.op s)
theorem stepX_ok {R : Run} {Γ : List (Nat × Contract)} (hR : RunOk R Γ) {o : AOper} {s : SS} {K : SS → Prop} (h : oAll (stepX R o s) K) : step Γ o s K := by
 unfold stepX at h
 unfold step
 split at h
 ·rename_i hq
  split at h <;> first | exact (oAll_none h).elim | skip
  rename_i hv
  rw [hq]
  exact evX_ok hv (K := goK s o.dst K) (oAll_one (p := K) h)
 ·rename_i hq
  rw [hq]
  exact effX_ok hR (K := goE o.dst K) (oAll_map h)
def runLX (R : Run) : List AOper → SS → Outs SS
 | [], s => some [s]
 | o :: r, s => match o.guard with
  | none => oBind (stepX R o s) (runLX R r)
  | some (slot, want) => match lkF s.fr slot with
   | .bool b => match b == want with
    | true => oBind (stepX R o (s.put (some slot) (.bool want))) (runLX R r)
    | false => runLX R r ((s.put (some slot) (.bool (!want))).put o.dst (.tup []))
   | .tup [] => runLX R r (s.put o.dst (.tup []))
   | _ => none
theorem runLX_ok {R : Run} {Γ : List (Nat × Contract)} (hR : RunOk R Γ) {K : SS → Prop} : ∀ (l : List AOper) (s : SS), oAll (runLX R l s) K → runL Γ l s K
 | [], s, h => show K s from oAll_one (p := K) h
 | o :: r, s, h => by
  unfold runLX at h
  unfold runL
  split at h
  ·rename_i hg
   simp only [hg]
   exact stepX_ok hR (oAll_mono (oAll_bind h) fun s' hs' => runLX_ok hR r s' hs')
  ·rename_i hg
   simp only [hg]
   split at h <;> first | exact (oAll_none h).elim | skip
   ·rename_i hl
    simp only [hl]
    split at h
    ·rename_i hb
     rw [hb]
     exact stepX_ok hR (oAll_mono (oAll_bind h) fun s' hs' => runLX_ok hR r s' hs')
    ·rename_i hb
     rw [hb]
     exact runLX_ok hR r _ h
   ·rename_i hl
    simp only [hl]
    exact runLX_ok hR r _ h
/-! ### regions whose order is open -/
def eqKX (s : SS) (d : Option Nat) (v : SV) : Bool :=
 match d with
 | some d => svEq (lkF s.fr d) v
 | none => false
def chkX (o : AOper) (s : SS) : Bool :=
 match o.guard with
 | none => match evX o.op s with
  | some v => eqKX s o.dst v
  | none => false
 | some (slot, want) => match lkF s.fr slot with
  | .bool b => match b == want with
   | true => match evX o.op s with
    | some v => eqKX s o.dst v
    | none => false
   | false => eqKX s o.dst (.tup [])
  | .tup [] => eqKX s o.dst (.tup [])
  | _ => false
theorem eqKX_ok {s : SS} {d : Option Nat} {v : SV} (h : eqKX s d v = true) : eqK s d v := by
 unfold eqKX at h
 split at h
 ·exact svEq_eq _ _ h
 ·cases h
theorem chkX_ok {o : AOper} {s : SS} (h : chkX o s = true) : chk1 o s := by
 unfold chkX at h
 unfold chk1
 split at h
 ·rename_i hg
  split at h <;> first | cases h | skip
  rename_i hv
  simp only [hg]
  exact evX_ok hv (eqKX_ok h)
 ·rename_i hg
  simp only [hg]
  split at h <;> first | cases h | skip
  ·rename_i hl
   simp only [hl]
   split at h
   ·rename_i hb
    rw [hb]
    split at h <;> first | cases h | skip
    rename_i hv
    exact evX_ok hv (eqKX_ok h)
   ·rename_i hb
    rw [hb]
    exact eqKX_ok h
  ·rename_i hl
   simp only [hl]
   exact eqKX_ok h
def chkLX (al : List AOper) : List Nat → SS → Bool
 | [], _ => true
 | i :: r, s => chkX (atA al i) s && chkLX al r s
theorem chkLX_ok {al : List AOper} {s : SS} : ∀ l, chkLX al l s = true → chkL al l s
 | [], _ => trivial
 | i :: r, h => by
  simp only [chkLX, Bool.and_eq_true] at h
  exact ⟨chkX_ok h.1, chkLX_ok r h.2⟩
def runEX (R : Run) (o : AOper) (s : SS) : Outs (Bool × SS) :=
 match o.guard with
 | none => oMap (fun s' => (true, s')) (stepX R o s)
 | some (slot, want) => match lkF s.fr slot with
  | .bool b => match b == want with
   | true => oMap (fun s' => (true, s')) (stepX R o (s.put (some slot) (.bool want)))
   | false => some [(false, (s.put (some slot) (.bool (!want))).put o.dst (.tup []))]
  | .tup [] => some [(false, s.put o.dst (.tup []))]
  | _ => none
theorem runEX_ok {R : Run} {Γ : List (Nat × Contract)} (hR : RunOk R Γ) {o : AOper} {s : SS} {K1 K2 : SS → Prop} (h : oAll (runEX R o s) (fun p => (p.1 = true → K1 p.2) ∧ (p.1 = false → K2 p.2))) : runE Γ o s K1 K2 := by
 unfold runEX at h
 unfold runE
 split at h
 ·rename_i hg
  simp only [hg]
  exact stepX_ok hR (oAll_mono (oAll_map h) fun s' hs' => hs'.1 rfl)
 ·rename_i hg
  simp only [hg]
  split at h <;> first | exact (oAll_none h).elim | skip
  ·rename_i hl
   simp only [hl]
   split at h
   ·rename_i hb
    rw [hb]
    exact stepX_ok hR (oAll_mono (oAll_map h) fun s' hs' => hs'.1 rfl)
   ·rename_i hb
    rw [hb]
    exact (oAll_one h).2 rfl
  ·rename_i hl
   simp only [hl]
   exact (oAll_one h).2 rfl
def afterX (al : List AOper) (pend : List Nat) (f : SS → Outs SS) (p : Bool × SS) : Outs SS :=
 match p with
 | (true, s) => match chkLX al pend s with
  | true => f s
  | false => none
 | (false, s) => f s
theorem afterX_ok {al : List AOper} {pend : List Nat} {f : SS → Outs SS} {p : Bool × SS} {K : SS → Prop} (h : oAll (afterX al pend f p) K) : (p.1 = true → chkL al pend p.2 ∧ oAll (f p.2) K) ∧ (p.1 = false → oAll (f p.2) K) := by
 obtain ⟨b, s⟩ := p
 cases b
 ·exact ⟨fun e => (by cases e), fun _ => h⟩
 ·simp only [afterX] at h
  split at h <;> first | exact (oAll_none h).elim | skip
  rename_i hc
  exact ⟨fun _ => ⟨chkLX_ok _ hc, h⟩, fun e => (by cases e)⟩
def runDX (R : Run) (al : List AOper) : List DI → SS → Outs SS
 | [], s => some [s]
 | .q i :: r, s => oBind (runEX R (atA al i) s) (fun p => runDX R al r p.2)
 | .e i pend :: r, s => oBind (runEX R (atA al i) s) (afterX al pend (runDX R al r))
theorem runDX_ok {R : Run} {Γ : List (Nat × Contract)} (hR : RunOk R Γ) {al : List AOper} {K : SS → Prop} : ∀ (l : List DI) (s : SS), oAll (runDX R al l s) K → runD Γ al l s K
 | [], s, h => show K s from oAll_one (p := K) h
 | .q i :: r, s, h => by
  unfold runDX at h
  unfold runD
  exact runEX_ok hR (oAll_mono (oAll_bind h) fun p hp => ⟨fun _ => runDX_ok hR r _ hp, fun _ => runDX_ok hR r _ hp⟩)
 | .e i pend :: r, s, h => by
  unfold runDX at h
  unfold runD
  exact runEX_ok hR (oAll_mono (oAll_bind h) fun p hp => ⟨fun e => ⟨((afterX_ok hp).1 e).1, runDX_ok hR r _ ((afterX_ok hp).1 e).2⟩, fun e => runDX_ok hR r _ ((afterX_ok hp).2 e)⟩)
def runTX (R : Run) (al : List AOper) : DT → SS → Outs SS
 | .done, s => some [s]
 | .q i r, s => oBind (runEX R (atA al i) s) (fun p => runTX R al r p.2)
 | .e i pend r alt, s => oApp (oBind (runEX R (atA al i) s) (afterX al pend (runTX R al r))) (runTX R al alt s)
 | .no, _ => some []
theorem runTX_ok {R : Run} {Γ : List (Nat × Contract)} (hR : RunOk R Γ) {al : List AOper} {K : SS → Prop} : ∀ (t : DT) (s : SS), oAll (runTX R al t s) K → runT Γ al t s K
 | .done, s, h => show K s from oAll_one (p := K) h
 | .q i r, s, h => by
  unfold runTX at h
  unfold runT
  exact runEX_ok hR (oAll_mono (oAll_bind h) fun p hp => ⟨fun _ => runTX_ok hR r _ hp, fun _ => runTX_ok hR r _ hp⟩)
 | .e i pend r alt, s, h => by
  unfold runTX at h
  unfold runT
  have h := oAll_app h
  exact ⟨runEX_ok hR (oAll_mono (oAll_bind h.1) fun p hp => ⟨fun e => ⟨((afterX_ok hp).1 e).1, runTX_ok hR r _ ((afterX_ok hp).1 e).2⟩, fun e => runTX_ok hR r _ ((afterX_ok hp).2 e)⟩), runTX_ok hR alt s h.2⟩
 | .no, s, h => trivial
/-! ### code -/
def keepX (keep : List Nat) (s : SS) : AE × SS := (.normal, ⟨keepF keep s.fr, s.hp⟩)
def blockE (id : Nat) (p : AE × SS) : AE × SS :=
 match p with
 | (.exit id', s) => match id' == id with
  | true => (.normal, s)
  | false => (.exit id', s)
 | p => p
def contE (f : SS → Outs (AE × SS)) (p : AE × SS) : Outs (AE × SS) :=
 match p with
 | (.normal, s) => f s
 | p => some [p]
def normals (n0 : Nat) (keep : List Nat) : List (AE × SS) → List SS
 | [] => []
 | p :: r => match p with
  | (.normal, s) => canon n0 keep s :: normals n0 keep r
  | _ => normals n0 keep r
def exits : List (AE × SS) → List (AE × SS)
 | [] => []
 | p :: r => match p with
  | (.normal, s) => exits r
  | p => p :: exits r
theorem normals_mem {n0 : Nat} {keep : List Nat} {s : SS} : ∀ {l : List (AE × SS)}, (AE.normal, s) ∈ l → canon n0 keep s ∈ normals n0 keep l
 | p :: r, h => by
  rcases List.mem_cons.1 h with e | hr
  ·subst e; exact List.mem_cons_self
  ·have ih := normals_mem (n0 := n0) (keep := keep) hr
   simp only [normals]
   split
   ·exact List.mem_cons_of_mem _ ih
   ·exact ih
theorem exits_mem {p : AE × SS} (hp : p.1 ≠ .normal) : ∀ {l : List (AE × SS)}, p ∈ l → p ∈ exits l
 | q :: r, h => by
  simp only [exits]
  rcases List.mem_cons.1 h with e | hr
  ·subst e
   split
   ·exact absurd rfl hp
   ·exact List.mem_cons_self
  ·have ih := exits_mem hp hr
   split
   ·exact ih
   ·exact List.mem_cons_of_mem _ ih
def consL (l : List (AE × SS)) (o : Outs (AE × SS)) : Outs (AE × SS) :=
 match o with
 | some r => some (l ++ r)
 | none => none
def iterX (body : SS → Outs (AE × SS)) (n0 : Nat) (keep : List Nat) : Nat → List SS → Outs (AE × SS)
 | 0, _ => none
 | n + 1, ss => match ss with
  | [] => some []
  | ss => match oBindL body ss with
   | none => none
   | some l => consL (exits l) (iterX body n0 keep n (nubL ssEq (normals n0 keep l)))
def xc (R : Run) (N : Nat) (n0 : Nat) : AS → SS → Outs (AE × SS)
 | .skip, s => some [(.normal, s)]
 | .reg ops keep, s => oMap (keepX keep) (runLX R ops s)
 | .regD ops items keep, s => oMap (keepX keep) (runDX R ops items s)
 | .regT ops items keep, s => oMap (keepX keep) (runTX R ops items s)
 | .seq x y, s => oBind (xc R N n0 x s) (contE (xc R N n0 y))
 | .cond c x y, s => match s.get c with
  | .bool b => match b with
   | true => xc R N n0 x s
   | false => xc R N n0 y s
  | _ => none
 | .block id x, s => oMap (blockE id) (xc R N n0 x s)
 | .loop id keep x, s => iterX (xc R N n0 x) n0 keep N [canon n0 keep s]
 | .exit id, s => some [(.exit id, s)]
 | .ret, s => some [(.ret, s)]
 | .lift d k eb t x, s => xc R N n0 x (liftS s d k eb t (lkF s.fr d))
 | .frz d x, s => xc R N n0 x (frzS s (lkF s.fr d))
 | .swp i r c x, s => xc R N n0 x (swpS s i (cellV (s.hp[r]?) c none))
 | .no, _ => none
structure LG where
 s : SS
 n : Nat
 ss : List SS
 out : List (AE × SS)
 keep : List Nat
 x : AS
def LA (R : Run) (N n0 : Nat) : LoopAnn where
 G := LG
 I g := g.s
 R g0 g := g.keep = g0.keep ∧ g.x = g0.x ∧ iterX (xc R N n0 g.x) n0 g.keep g.n g.ss = some g.out ∧ g.s ∈ g.ss ∧ ∀ p ∈ g.out, p ∈ g0.out
 μ g := g.n
def ids : AS → List Nat
 | .seq x y => ids x ++ ids y
 | .cond _ x y => ids x ++ ids y
 | .block _ x => ids x
 | .loop id _ x => id :: ids x
 | .lift _ _ _ _ x => ids x
 | .frz _ x => ids x
 | .swp _ _ _ x => ids x
 | _ => []
theorem lkA_map (A : LoopAnn) (id : Nat) : ∀ l : List Nat, id ∈ l → lkA (l.map fun i => (i, A)) id = some A
 | i :: r, h => by
  simp only [List.map_cons, lkA]
  rcases List.mem_cons.1 h with rfl | h
  ·simp
  ·cases hb : i == id
   ·exact lkA_map A id r h
   ·rfl
section code
variable {R : Run} {Γ : List (Nat × Contract)} {N n0 : Nat} {L : List (Nat × LoopAnn)}
theorem xc_rc (hR : RunOk R Γ) : ∀ (ac : AS) (s : SS) (Q : AE → SS → Prop), (∀ id ∈ ids ac, lkA L id = some (LA R N n0)) → oAll (xc R N n0 ac s) (fun p => Q p.1 p.2) → rc Γ L n0 ac Q s
 | .skip, s, Q, hL, h => show Q .normal s from oAll_pair (K := Q) h
 | .reg ops keep, s, Q, hL, h => runLX_ok hR _ _ (oAll_map (p := fun p : AE × SS => Q p.1 p.2) (f := keepX keep) h)
 | .regD ops items keep, s, Q, hL, h => runDX_ok hR _ _ (oAll_map (p := fun p : AE × SS => Q p.1 p.2) (f := keepX keep) h)
 | .regT ops items keep, s, Q, hL, h => runTX_ok hR _ _ (oAll_map (p := fun p : AE × SS => Q p.1 p.2) (f := keepX keep) h)
 | .seq x y, s, Q, hL, h => by
  simp only [rc]
  refine xc_rc hR x s _ (fun id hid => hL id (List.mem_append_left _ hid)) (oAll_mono (oAll_bind h) fun p hp => ?_)
  obtain ⟨e, s'⟩ := p
  cases e with
  | normal => exact xc_rc hR y s' Q (fun id hid => hL id (List.mem_append_right _ hid)) hp
  | exit id => exact oAll_pair (K := Q) hp
  | ret => exact oAll_pair (K := Q) hp
 | .cond c x y, s, Q, hL, h => by
  simp only [xc] at h
  split at h <;> first | exact (oAll_none h).elim | skip
  rename_i hc
  simp only [rc, hc]
  split at h
  ·exact xc_rc hR x s Q (fun id hid => hL id (List.mem_append_left _ hid)) h
  ·exact xc_rc hR y s Q (fun id hid => hL id (List.mem_append_right _ hid)) h
 | .block id x, s, Q, hL, h => by
  simp only [rc]
  refine xc_rc hR x s _ hL (oAll_mono (oAll_map h) fun p hp => ?_)
  obtain ⟨e, s'⟩ := p
  cases e with
  | normal => exact hp
  | ret => exact hp
  | exit id' =>
   simp only [blockE] at hp
   simp only [blockQ]
   split at hp
   ·rename_i hb; rw [hb]; exact hp
   ·rename_i hb; rw [hb]; exact hp
 | .loop id keep x, s, Q, hL, h => by
  simp only [xc] at h
  simp only [rc, hL id List.mem_cons_self]
  obtain ⟨out, ho, hQ⟩ := h
  refine ⟨(⟨canon n0 keep s, N, [canon n0 keep s], out, keep, x⟩ : LG), rfl, ⟨rfl, rfl, ho, List.mem_cons_self, fun p hp => hp⟩, ?_⟩
  rintro ⟨gs, gn, gss, gout, gkeep, gx⟩ ⟨hk, hx, hg, hm, hsub⟩
  simp only at hk hx hg hm hsub
  subst hk hx
  show rc Γ L n0 gx _ gs
  cases gn with
  | zero => cases hg
  | succ n =>
   unfold iterX at hg
   split at hg
   ·cases hm
   ·split at hg <;> first | cases hg | skip
    rename_i l hl
    cases hr : iterX (xc R N n0 gx) n0 gkeep n (nubL ssEq (normals n0 gkeep l)) with
    | none => rw [hr] at hg; cases hg
    | some r =>
     rw [hr] at hg
     simp only [consL, Option.some.injEq] at hg
     subst hg
     have hall : oAll (oBindL (xc R N n0 gx) gss) (fun p => p ∈ l) := ⟨l, hl, fun p hp => hp⟩
     refine xc_rc hR gx gs _ (fun id hid => hL id (List.mem_cons_of_mem _ hid)) (oAll_mono (oAll_bindL hall gs hm) fun p hp => ?_)
     obtain ⟨e, s'⟩ := p
     cases e with
     | normal =>
      refine ⟨(⟨canon n0 gkeep s', n, nubL ssEq (normals n0 gkeep l), r, gkeep, gx⟩ : LG), rfl, ⟨rfl, rfl, hr, ?_, fun p hp => hsub p (List.mem_append_right _ hp)⟩, Nat.lt_succ_self n⟩
      exact nubL_all (fun a b h => ssEq_eq h) _ _ (normals_mem hp)
     | exit id' => exact hQ _ (hsub _ (List.mem_append_left _ (exits_mem (by simp) hp)))
     | ret => exact hQ _ (hsub _ (List.mem_append_left _ (exits_mem (by simp) hp)))
 | .exit id, s, Q, hL, h => show Q (.exit id) s from oAll_pair (K := Q) h
 | .ret, s, Q, hL, h => show Q .ret s from oAll_pair (K := Q) h
 | .lift d k eb t x, s, Q, hL, h => by simp only [rc]; exact xc_rc hR x _ Q hL h
 | .frz d x, s, Q, hL, h => by simp only [rc]; exact xc_rc hR x _ Q hL h
 | .swp i r c x, s, Q, hL, h => by simp only [rc]; exact xc_rc hR x _ Q hL h
 | .no, s, Q, hL, h => (oAll_none h).elim
end code
/-! ### functions -/
inductive FX where
 | code (ac : AS) (rs : List RT) (n : Nat)
 | nat (g : List SV → List SB → Outs (SV × List SB))
def lkX2 : List (Nat × FX) → Nat → Option FX
 | [], _ => none
 | (k, c) :: r, n => bif k == n then some c else lkX2 r n
def finX (n0 : Nat) (rs : List RT) (s : SS) : Outs (SV × List SB) :=
 match resL s rs with
 | some l => match reach s.hp 400 (refsHp n0 s.hp ++ (oneV l).refs) (List.range n0) with
  | idx => some [((oneV l).ren (posOf idx), selHp idx (posOf idx) s.hp)]
 | none => none
def finE (n0 : Nat) (rs : List RT) (p : AE × SS) : Outs (SV × List SB) :=
 match p with
 | (.exit _, _) => none
 | (_, s) => finX n0 rs (settleTs rs s)
def resEq (a b : SV × List SB) : Bool := svEq a.1 b.1 && eqvL sbEq a.2 b.2
theorem resEq_eq (a b : SV × List SB) (h : resEq a b = true) : a = b := by
 simp only [resEq, Bool.and_eq_true] at h
 exact Prod.ext (svEq_eq _ _ h.1) (eqvL_eq (fun x y h => sbEq_eq h) _ _ h.2)
def nubO (o : Outs (SV × List SB)) : Outs (SV × List SB) :=
 match o with
 | some l => some (nubL resEq l)
 | none => none
theorem nubO_all {o : Outs (SV × List SB)} {p : SV × List SB → Prop} (h : oAll (nubO o) p) : oAll o p := by
 unfold nubO at h
 split at h <;> first | exact (oAll_none h).elim | skip
 obtain ⟨l, hl, hp⟩ := h
 cases hl
 exact ⟨_, rfl, fun x hx => hp x (nubL_all resEq_eq _ x hx)⟩
def runF (T : List (Nat × FX)) (N : Nat) : Nat → Run
 | 0, _, _, _ => none
 | n + 1, f, args, hp => match lkX2 T f with
  | some (.code ac rs k) => match Nat.ble args.length k with
   | true => nubO (oBind (xc (runF T N n) N hp.length ac ⟨frArgs 0 args, hp⟩) (finE hp.length rs))
   | false => none
  | some (.nat g) => g args hp
  | none => none
def CX (R : Run) (f : Nat) : Contract := fun args hp K => oAll (R f args hp) (fun p => K p.1 p.2)
theorem finE_ok {n0 : Nat} {rs : List RT} {K : SV → List SB → Prop} {p : AE × SS} (h : oAll (finE n0 rs p) (fun q => K q.1 q.2)) : fin n0 rs K p.1 p.2 := by
 have key : ∀ s : SS, oAll (finX n0 rs s) (fun q => K q.1 q.2) → finS n0 rs s K := by
  intro s h
  unfold finX at h
  split at h <;> first | exact (oAll_none h).elim | skip
  rename_i hr
  simp only [finS, hr, finO, finR, finI]
  exact oAll_pair h
 obtain ⟨e, s⟩ := p
 cases e with
 | normal => exact key _ h
 | ret => exact key _ h
 | exit id => exact (oAll_none h).elim
inductive TOk (P : Program) : List (Nat × FX) → Prop where
 | nil : TOk P []
 | code {f : Nat} {ac : AS} {rs : List RT} {n : Nat} {T : List (Nat × FX)} (h : okF P f ac rs n = true) (r : TOk P T) : TOk P ((f, .code ac rs n) :: T)
 | nat {f : Nat} {g : List SV → List SB → Outs (SV × List SB)} {T : List (Nat × FX)} (h : Sound P f (fun args hp K => oAll (g args hp) (fun p => K p.1 p.2))) (hc : Callable P f) (r : TOk P T) : TOk P ((f, .nat g) :: T)
def FX.ok (P : Program) (f : Nat) : FX → Prop
 | .code ac rs n => okF P f ac rs n = true
 | .nat g => Sound P f (fun args hp K => oAll (g args hp) (fun p => K p.1 p.2))
theorem TOk.at {P : Program} {T : List (Nat × FX)} (h : TOk P T) {f : Nat} {x : FX} (hx : lkX2 T f = some x) :
  Callable P f ∧ x.ok P f := by
 induction h with
 | nil => cases hx
 | @code g ac rs n T h r ih =>
  simp only [lkX2] at hx
  cases hf : g == f <;> rw [hf] at hx
  ·exact ih hx
  ·cases hx; have := beq_iff_eq.1 hf; subst this; exact ⟨callable_of_okF h, h⟩
 | @nat g k T h hc r ih =>
  simp only [lkX2] at hx
  cases hf : g == f <;> rw [hf] at hx
  ·exact ih hx
  ·cases hx; have := beq_iff_eq.1 hf; subst this; exact ⟨hc, h⟩
theorem lkC_map {R : Run} {f : Nat} : ∀ {T : List (Nat × FX)} {x : FX}, lkX2 T f = some x → lkC (T.map fun p => (p.1, CX R p.1)) f = some (CX R f)
 | (k, c) :: r, x, h => by
  simp only [lkX2] at h
  simp only [List.map_cons, lkC]
  cases hf : k == f <;> rw [hf] at h
  ·exact lkC_map h
  ·have := beq_iff_eq.1 hf; subst this; rfl
theorem lkC_map' {R : Run} {f : Nat} {C : Contract} : ∀ {T : List (Nat × FX)}, lkC (T.map fun p => (p.1, CX R p.1)) f = some C → C = CX R f ∧ ∃ x, lkX2 T f = some x
 | [], h => by cases h
 | (k, c) :: r, h => by
  simp only [List.map_cons, lkC] at h
  simp only [lkX2]
  cases hf : k == f <;> rw [hf] at h
  ·exact lkC_map' h
  ·have := beq_iff_eq.1 hf; subst this; cases h; exact ⟨rfl, _, rfl⟩
theorem runF_sound {P : Program} {T : List (Nat × FX)} (hT : TOk P T) (N : Nat) : ∀ (n f : Nat), Sound P f (CX (runF T N n) f)
 | 0, f => fun args hp K h => (oAll_none (by simpa only [CX, runF] using h)).elim
 | n + 1, f => by
  cases hx : lkX2 T f with
  | none => intro args hp K h; simp only [CX, runF, hx] at h; exact (oAll_none h).elim
  | some x =>
   cases x with
   | nat g =>
    have h1 := (hT.at hx).2
    intro args hp K h
    simp only [CX, runF, hx] at h
    exact h1 args hp K h
   | code ac rs k =>
    have h1 := (hT.at hx).2
    have hΓ : GOk P (T.map fun p => (p.1, CX (runF T N n) p.1)) := by
     intro g C hg
     obtain ⟨rfl, y, hy⟩ := lkC_map' hg
     exact ⟨runF_sound hT N n g, (hT.at hy).1⟩
    have hR : RunOk (runF T N n) (T.map fun p => (p.1, CX (runF T N n) p.1)) := by
     intro g args hp K h
     cases hy : lkX2 T g with
     | some y => exact ⟨_, lkC_map hy, h⟩
     | none =>
      exfalso
      cases n with
      | zero => exact oAll_none (by simpa only [runF] using h)
      | succ n => simp only [runF, hy] at h; exact oAll_none h
    refine sound_of_okF h1 hΓ ?_
    intro args hp K h
    simp only [CX, runF, hx] at h
    split at h <;> first | exact (oAll_none h).elim | skip
    rename_i hb
    refine ⟨Nat.le_of_ble_eq_true hb, (ids ac).map fun i => (i, LA (runF T N n) N hp.length), ?_⟩
    exact xc_rc hR ac _ _ (fun id hid => lkA_map _ id _ hid) (oAll_mono (oAll_bind (nubO_all h)) fun p hp' => finE_ok hp')
theorem run_told {P : Program} {T : List (Nat × FX)} (hT : TOk P T) {N n f : Nat} {args : List SV} {hp : List SB} {l : List (SV × List SB)} (h : runF T N n f args hp = some l) : Sound P f (fun a h K => a = args ∧ h = hp ∧ ∀ p ∈ l, K p.1 p.2) := by
 intro a hp' K hc
 obtain ⟨rfl, rfl, hk⟩ := hc
 exact runF_sound hT N n f a hp' K ⟨l, h, hk⟩
end Go.V
namespace Go.V
open Go.Proofs Go.Shelf Go.RowKit
set_option maxRecDepth 100000
set_option linter.unusedSimpArgs false
set_option linter.unnecessarySimpa false
set_option linter.unusedVariables false
def blankB : ByteArray := ⟨#[32]⟩
def wordsB (s : ByteArray) : List ByteArray := (splitL 32 s.data.toList).map bsOf
theorem split_words (s : ByteArray) : Lib.splitB blankB 0 (Lib.countB s blankB) s = wordsB s := by
 have h := Lib.splitB_data blankB 0 (Lib.countB s blankB) s
 have e : Lib.splitK blankB.data.toList 0 (Lib.countB s blankB) s.data.toList = splitL 32 s.data.toList := split_one 32 s.data.toList
 rw [e] at h
 unfold wordsB
 rw [← h, List.map_map]
 conv => lhs; rw [← List.map_id (Lib.splitB blankB 0 (Lib.countB s blankB) s)]
 apply List.map_congr_left
 intro x _
 cases x; simp [bsOf]
theorem splitL_sum : ∀ l : List UInt8, ∀ x ∈ splitL 32 l, x.length ≤ l.length
 | [], x, h => by simp [splitL] at h; subst h; simp
 | y :: r, x, h => by
  by_cases hy : y = 32
  ·rw [splitL_eq hy] at h
   rcases List.mem_cons.1 h with rfl | h
   ·simp
   ·have := splitL_sum r x h; simp; omega
  ·cases hr : splitL 32 r with
   | nil => unfold splitL at h; rw [if_neg hy, hr] at h; simp at h; subst h; simp
   | cons z zs =>
    rw [splitL_ne hy hr] at h
    rcases List.mem_cons.1 h with rfl | h
    ·have := splitL_sum r z (by rw [hr]; exact List.mem_cons_self ..); simp; omega
    ·have := splitL_sum r x (by rw [hr]; exact List.mem_cons_of_mem _ h); simp; omega
theorem splitL_count : ∀ l : List UInt8, (splitL 32 l).length ≤ l.length + 1
 | [] => by simp [splitL]
 | y :: r => by
  have := splitL_count r
  by_cases hy : y = 32
  ·rw [splitL_eq hy]; simp; omega
  ·cases hr : splitL 32 r with
   | nil => unfold splitL; rw [if_neg hy, hr]; simp
   | cons z zs => rw [splitL_ne hy hr]; rw [hr] at this; simp at this ⊢; omega
theorem splitL_ne_nil (l : List UInt8) : splitL 32 l ≠ [] := by
 cases l with
 | nil => simp [splitL]
 | cons y r =>
  by_cases hy : y = 32
  ·rw [splitL_eq hy]; simp
  ·cases hr : splitL 32 r with
   | nil => unfold splitL; rw [if_neg hy, hr]; simp
   | cons z zs => rw [splitL_ne hy hr]; simp
theorem rdL_str7 {w : World} {F : Nat → Prop} : ∀ (l : List ByteArray), (∀ x ∈ l, x.size ≤ maxLen) → rdL (rd w F .str) l (l.map Value.string)
 | [], _ => by simp [rdL]
 | x :: r, h => ⟨[_], _, rfl, by simp only [rd]; exact ⟨trivial, h x (by simp)⟩, rdL_str7 r (fun y hy => h y (List.mem_cons_of_mem _ hy))⟩
theorem info9 : (Tryz.prog.info? 9).map (fun i => (i.zero, i.size, i.bytes)) = some (some (.string ByteArray.empty), 1, 16) := by kernel_rfl
def C26 : Contract := fun args hp K => match args, hp with
 | [.str s, .str sep], [] => sep = blankB ∧ s.size ≤ 100000 ∧ K (.own 0) [.row true 16 .str (wordsB s)]
 | _, _ => False
theorem s26 : Sound Tryz.prog 26 C26 := by
 intro args hp K h E vs hs hg hd
 unfold C26 at h
 split at h
 ·rename_i s sep
  obtain ⟨rfl, hsz, h⟩ := h
  simp only [denL, den] at hd
  obtain ⟨v, r, rfl, ⟨rfl, _⟩, v2, r2, rfl, ⟨rfl, _⟩, rfl⟩ := hd
  have hgn : Tryz.prog.globalNamed "internal/bytealg.MaxLen" = some (Tryz.split_ren.g 1) := by kernel_rfl
  obtain ⟨cs, hv, hgv⟩ := gl_cell hg (by simp [gnames]) hgn
  obtain ⟨m, rfl⟩ := hgv.2.2.1 rfl
  have hcell := World.var?_cell hgn hv 0
  refine (Any.strings_Split Tryz.split info9 s blankB m E.w (by omega) (by simpa using hcell) (by decide)).mono ?_
  rintro e w' ⟨rfl, rfl⟩
  have hlen : (wordsB s).length = Lib.countB s blankB + 1 := by
   rw [← split_words, Lib.splitB_all blankB (by decide) 0 _ s rfl]
  rw [← hlen, split_words]
  have hc : Chg E.w (E.w.alloc (.cells ((wordsB s).map Value.string).toArray 9)) (fun _ => False) := by
   have hb := (Below.refl E.w.heap.size E.w).alloc (Nat.le_refl _) (.cells ((wordsB s).map Value.string).toArray 9)
   exact Chg.below hb
  have hw1 : (wordsB s).length ≤ s.size + 1 := by
   unfold wordsB
   rw [List.length_map]
   have := splitL_count s.data.toList
   have e : s.data.toList.length = s.size := by simp
   omega
  have hmem : ∀ x ∈ wordsB s, x.size ≤ maxLen := by
   intro x hx
   obtain ⟨l, hl, rfl⟩ := List.mem_map.1 hx
   rw [bsOf_size]
   have := splitL_sum _ l hl
   have e : s.data.toList.length = s.size := by simp
   have := maxLen_val
   omega
  have hn : ∀ b, (⟨some E.w.heap.size, .slice (some ⟨E.w.heap.size, 0, none⟩) (wordsB s).length (wordsB s).length⟩ : RV).blk = some b → E.w.heap.size ≤ b ∧ b < (E.w.alloc (.cells ((wordsB s).map Value.string).toArray 9)).heap.size := by
   intro b hb
   cases hb
   simp
  have hhp : (E.w.alloc (.cells ((wordsB s).map Value.string).toArray 9)).heap[E.w.heap.size]? = some (.cells ((wordsB s).map Value.string).toArray 9 (0, 0)) := World.alloc_heap_new _ _
  have hp := hs.push (sb' := .row true 16 .str (wordsB s)) hc hn (.inr ⟨E.w.heap.size, 0, (wordsB s).length, ((wordsB s).map Value.string).toArray, 9, (0, 0), _, rfl, rfl, hhp, ⟨.inl rfl, by simp⟩, Nat.le_refl _, by have := maxLen_val; omega, by simp [Ty.size], by omega, rfl, by
   have e : ((((wordsB s).map Value.string).toArray).toList.drop 0).take ((wordsB s).length * (Ty.str).size) = (wordsB s).map Value.string := by
    simp only [Ty.size, Nat.mul_one, List.drop_zero]
    exact List.take_of_length_le (by simp)
   rw [e]
   exact rdL_str7 _ hmem⟩)
  refine ⟨.own 0, _, _, _, rfl, rfl, h, hp.1, ?_, Ev.push hs hc (fun b hb => (hn b hb).1), ?_⟩
  ·simp only [den]
   have hN2 : E.N = 0 := hs.n
   refine ⟨by show 0 < E.N + 1; omega, ?_, rfl⟩
   show _ = (upR E.ρ E.N _ 0).val
   rw [hN2, upd_same]
  ·have hid : Id 0 E.ρ [] E.ρ := Id.refl [] E.ρ
   exact hid.push hs.n
 ·exact h.elim
theorem s26_c : Callable Tryz.prog 26 := ⟨_, Tryz.func26, rfl, by decide⟩
/-! ### natives for the run -/
def nSplit : List SV → List SB → Outs (SV × List SB)
 | [.str s, .str sep], [] => if sep.data.toList = [32] ∧ s.size ≤ 100000 then some [(.own 0, [.row true 16 .str (wordsB s)])] else none
 | _, _ => none
theorem nSplit_ok : Sound Tryz.prog 26 (fun args hp K => oAll (nSplit args hp) (fun p => K p.1 p.2)) := by
 intro args hp K h
 refine s26 args hp K ?_
 unfold nSplit at h
 unfold C26
 split at h
 ·split at h
  ·rename_i s sep hc
   refine ⟨?_, hc.2, oAll_pair (K := K) h⟩
   have := hc.1
   obtain ⟨⟨l⟩⟩ := sep
   have e : l = [32] := this
   subst e
   rfl
  ·exact (oAll_none h).elim
 ·exact (oAll_none h).elim
theorem nSplit_c : Callable Tryz.prog 26 := s26_c
def nNum : List SV → List SB → Outs (SV × List SB)
 | [.str s], [] => if s.size ≤ 100000 then (match natF s.data.toList with
  | some v => some [(.tup [.int .u64 v, .bool true], [])]
  | none => none) else none
 | _, _ => none
theorem nNum_ok : Sound Tryz.prog 28 (fun args hp K => oAll (nNum args hp) (fun p => K p.1 p.2)) := by
 intro args hp K h
 refine s28 args hp K ?_
 unfold nNum at h
 unfold C28
 split at h
 ·split at h
  ·rename_i s hs
   refine ⟨by omega, fun n b hn h1 h2 => ?_⟩
   cases hv : natF s.data.toList with
   | none => rw [hv] at h; exact (oAll_none h).elim
   | some v =>
    rw [hv] at h
    have h := oAll_pair (K := K) h
    cases b
    ·have := h2 rfl; rw [numP_natF, hv] at this; cases this
    ·obtain ⟨v', e, rfl⟩ := h1 rfl
     rw [numP_natF, hv] at e; cases e
     exact h
  ·exact (oAll_none h).elim
 ·exact (oAll_none h).elim
theorem nNum_c : Callable Tryz.prog 28 := ⟨_, Tryz.func28, rfl, by decide⟩
def nInt : List SV → List SB → Outs (SV × List SB)
 | [.str s], [] => if s.size ≤ 100000 then (match numI s.data.toList with
  | some v => some [(.tup [.int .i64 v, .bool true], [])]
  | none => none) else none
 | _, _ => none
theorem nInt_ok : Sound Tryz.prog 29 (fun args hp K => oAll (nInt args hp) (fun p => K p.1 p.2)) := by
 intro args hp K h
 refine s29 args hp K ?_
 unfold nInt at h
 unfold C29
 split at h
 ·split at h
  ·rename_i s hs
   refine ⟨by omega, fun n b hn h1 h2 => ?_⟩
   cases hv : numI s.data.toList with
   | none => rw [hv] at h; exact (oAll_none h).elim
   | some v =>
    rw [hv] at h
    have h := oAll_pair (K := K) h
    cases b
    ·have := h2 rfl; rw [intP_numI, hv] at this; cases this
    ·have e := h1 rfl
     rw [intP_numI, hv] at e; cases e
     exact h
  ·exact (oAll_none h).elim
 ·exact (oAll_none h).elim
theorem nInt_c : Callable Tryz.prog 29 := ⟨_, Tryz.func29, rfl, by decide⟩
def nUnhex : List SV → List SB → Outs (SV × List SB)
 | [.str s], [] => if s.size ≤ 100000 then (match unhexF s with
  | some l => some [(.tup [.str (bsOf l), .bool (keyOk (bsOf l))], [])]
  | none => none) else none
 | _, _ => none
theorem nUnhex_ok : Sound Tryz.prog 30 (fun args hp K => oAll (nUnhex args hp) (fun p => K p.1 p.2)) := by
 intro args hp K h
 refine s30 args hp K ?_
 unfold nUnhex at h
 unfold C30
 split at h
 ·split at h
  ·rename_i s hs
   cases hv : unhexF s with
   | none => rw [hv] at h; exact (oAll_none h).elim
   | some v =>
    rw [hv] at h
    have h := oAll_pair (K := K) h
    exact ⟨hs, fun e => (by rw [hv] at e; cases e), fun l e => (by rw [hv] at e; cases e; exact h)⟩
  ·exact (oAll_none h).elim
 ·exact (oAll_none h).elim
theorem nUnhex_c : Callable Tryz.prog 30 := callable_of_okF ok30
end Go.V
namespace Go.V
set_option linter.unusedSimpArgs false
set_option linter.unnecessarySimpa false
open Go.Proofs
def a3 : AS := qS [q 2 (.mv qf)] [0] (.seq (qS [q 7 (.call 9 [] []), q 8 (.not (.t 7)), q0 9 8, q2 10 0 9, qF 11 (.len .i (.t 10)) 9, qF 12 (.bin .gtr (.t 11) (qI 5000)) 9, q 13 (.pick (.t 9) qt (.t 12))] [0,13] (.cond (.t 13) (qS [q 14 (.call 9 [] []), q0
 2 14] [2] .ret) .skip)) (qS [q0 16 0, qX 10 17 [.t 16], q0 15 17, q 18 (.ext (.t 15) 0), q 19 (.ext (.t 15) 1), q 3 (.alc [qE, .nils, .int .u64 0, .int .u64 0, .nils]), q6 5 3 18, q0 4 19] [0,3,4] (qS [q0 21 0, qX 11 22 [.t 21], q0 20 22, q
 23 (.ext (.t 20) 0), q 24 (.ext (.t 20) 1), q 5 (.alc [qE, .nils, .int .u64 0, .int .u64 0, .nils]), q6 5 5 23, q0 6 24] [3,4,5,6] (.seq (.regD [q 25 (.ldA 5 (.t 3)), qX 13 26 [.t 25], q 27 (.ldA 5 (.t 5)), q 28 (.call 12 [none, none] [.t
 26, .t 27]), q0 29 28, q1 30 4 29, q1 31 6 29, qT 32 (.bin .eql (.t 30) (.t 31)) 29, q 33 (.pick (.t 29) (.t 32) qf), q0 2 33] [.q 0, .q 2, .e 1 [2], .e 3 [], .q 4, .q 5, .q 6, .q 7, .q 8, .q 9] [2]) .ret))))
def r3 : List RT := [.t 2]
def a4 : AS := qS [q 2 (.mv qf)] [0] (.seq (qS [q 6 (.call 9 [] []), q 7 (.not (.t 6)), q0 8 7, q2 9 0 8, qF 10 (.len .i (.t 9)) 8, qF 11 (.bin .gtr (.t 10) (qI 5000)) 8, q 12 (.pick (.t 8) qt (.t 11))] [0,12] (.cond (.t 12) (qS [q 13 (.call 9 [] []), q0 2
 13] [2] .ret) .skip)) (qS [q0 15 0, qX 11 16 [.t 15], q0 14 16, q 17 (.ext (.t 14) 0), q 18 (.ext (.t 14) 1), q 3 (.alc [qE, .nils, .int .u64 0, .int .u64 0, .nils]), q6 5 3 17, q0 4 18] [0,4] (qS [q 5 (.mv (.c (.str
 ⟨#[101,114,114,111,114,32,49]⟩)))] [0,4,5] (.seq (qS [q0 19 4, q 20 (.bin .eql (.t 19) (qI 2))] [0,4,5,20] (.cond (.t 20) (.reg [q 5 (.mv (.c (.str ⟨#[101,114,114,111,114,32,50]⟩)))] [0,4,5]) .skip)) (.seq (qS [q0 21 4, q 22 (.bin .eql (.t
 21) (qI 4))] [0,5,22] (.cond (.t 22) (.reg [q 5 (.mv (.c (.str ⟨#[101,114,114,111,114,32,52]⟩)))] [0,5]) .skip)) (qS [q0 23 0, q 24 (.call 14 [none, none] [(.c (.nilp)), .t 23]), q0 25 5, q 26 (.bin .eql (.t 24) (.t 25)), q0 2 26] [2]
 .ret))))))
def r4 : List RT := [.t 2]
def a10 : AS := qS [q 2 (.alc [qE, .nils, .int .u64 0, .int .u64 0, .nils]), q 3 (.mv (qI 0))] [0,2] (.seq (qS [q0 12 0, q 13 (.len .i (.t 12)), q 14 (.bin .gtr (.t 13) (qI 1000))] [0,2,14] (.cond (.t 14) (qS [q 15 (.bld [qE, .nils, .int .u64 0, .int .u64
 0, .nils] []), q6 5 2 15, q 3 (.mv (qI 4))] [2,3] .ret) .skip)) (qS [q0 16 0, q 17 (.call 26 [none, none] [.t 16, (.c (.str ⟨#[32]⟩))]), q0 4 17] [2,4] (qS [q0 18 4, q 19 (.ia 1 (.t 18) (qI 0)), q4 20 19, q 21 (.bld [qE, .nils, .int .u64 0,
 .int .u64 0, .nils] [(0, 1, (.t 20))]), q 5 (.alc [qE, .nils, .int .u64 0, .int .u64 0, .nils]), q6 5 5 21] [2,4,5] (qS [q0 22 4, q 23 (.slR 1 (.t 22) (some (qI 1)) none), q0 4 23] [2,4,5] (qS [q3 25 0 5, q4 26 25, q0 27 4, q 28 (.len .s (.t
 27)), q 29 (.call 27 [none, none] [.t 26, .t 28]), q0 24 29, q 30 (.ext (.t 24) 0), q 31 (.ext (.t 24) 1), q0 6 30, q0 7 31] [2,4,5,6,7] (.seq (qS [q0 32 7, q 33 (.not (.t 32)), q0 34 33, q2 35 4 34, qF 36 (.len .s (.t 35)) 34, q2 37 6 34,
 qF 38 (.len .i (.t 37)) 34, qF 39 (.bin .neq (.t 36) (.t 38)) 34, q 40 (.pick (.t 34) qt (.t 39))] [2,4,5,6,40] (.cond (.t 40) (qS [q 41 (.bld [qE, .nils, .int .u64 0, .int .u64 0, .nils] []), q6 5 2 41, q 3 (.mv (qI 2))] [2,3] .ret) .skip))
 (.seq (qS [q0 42 4, q 43 (.len .s (.t 42)), q 44 (.mv (qI 0))] [2,5,6,42,43,44] (.block 0 (.lift 5 (some 1) 16 .str (.lift 5 (some 4) 8 (.int .i64) (.loop 1 [2,5,6,42,43,44] (qS [q 45 (.bin .lss (.t 44) (.t 43))] [2,5,6,42,43,44,45] (.seq
 (.cond (.t 45) .skip (.exit 0)) (.seq (.block 1 (qS [q0 46 44, q 47 (.ia 1 (.t 42) (.t 44)), q4 48 47, q0 8 46, q0 9 48] [2,5,6,8,9,42,43,44] (qS [q 10 (.mv (.c (qE)))] [2,5,6,8,9,10,42,43,44] (qS [q 11 (.mv (qI 0))] [2,5,6,8,9,10,42,43,44]
 (.seq (qS [q0 49 6, q0 50 8, q 51 (.ixS (.t 49) (.t 50))] [2,5,6,8,9,10,42,43,44,51] (.block 2 (qS [q 74 (.bin .eql (.t 51) (.c (.int .u8 99))), q0 73 74] [2,5,6,8,9,10,42,43,44,51,73] (.cond (.t 73) (.reg [q0 76 9, qX 28 77 [.t 76], q0 75
 77, q 78 (.ext (.t 75) 0), q 79 (.ext (.t 75) 1), q3 80 2 5, q6 1 80 78, q0 7 79] [2,5,6,7,42,43,44]) (qS [q 82 (.bin .eql (.t 51) (.c (.int .u8 115))), q0 81 82] [2,5,6,8,9,10,42,43,44,51,81] (.cond (.t 81) (.reg [q0 84 9, qX 28 85 [.t 84],
 q0 83 85, q 86 (.ext (.t 83) 0), q 87 (.ext (.t 83) 1), q3 88 3 5, q6 1 88 86, q0 7 87] [2,5,6,7,42,43,44]) (qS [q 90 (.bin .eql (.t 51) (.c (.int .u8 105))), q0 89 90] [2,5,6,8,9,10,42,43,44,89] (.cond (.t 89) (qS [q0 92 9, qX 29 93 [.t
 92], q0 91 93, q 94 (.ext (.t 91) 0), q 95 (.ext (.t 91) 1), q0 11 94, q0 7 95] [2,5,6,7,11,42,43,44] (.reg [q3 96 4 5, q4 97 96, q0 98 11, q 99 (.bsl 8 (.int .i64) 1 [(0, (.t 98))]), q 100 (.app 8 (.int .i64) (.t 97) (.t 99)), q3 101 4 5,
 q6 1 101 100] [2,5,6,7,42,43,44])) (.seq (qS [q0 52 6, q0 53 8, q 54 (.ixS (.t 52) (.t 53)), q 55 (.bin .eql (.t 54) (.c (.int .u8 110))), q0 56 55, q1 57 9 56, qT 58 (.bin .eql (.t 57) (.c (.str ⟨#[45]⟩))) 56, q 59 (.pick (.t 56) (.t 58)
 qf), q0 7 59] [2,5,6,7,9,10,42,43,44] (qS [q0 60 7, q 61 (.not (.t 60))] [2,5,6,7,9,10,42,43,44,61] (.cond (.t 61) (.reg [q0 63 9, qX 30 64 [.t 63], q0 62 64, q 65 (.ext (.t 62) 0), q 66 (.ext (.t 62) 1), q0 10 65, q0 7 66]
 [2,5,6,7,10,42,43,44]) .skip))) (.reg [q3 67 1 5, q4 68 67, q0 69 10, q 70 (.bsl 16 .str 1 [(0, (.t 69))]), q 71 (.app 16 .str (.t 68) (.t 70)), q3 72 1 5, q6 1 72 71] [2,5,6,7,42,43,44])))))))))) (qS [q0 102 7, q 103 (.not (.t 102))]
 [2,5,6,42,43,44,103] (.cond (.t 103) (qS [q 104 (.bld [qE, .nils, .int .u64 0, .int .u64 0, .nils] []), q6 5 2 104, q 3 (.mv (qI 2))] [2,3] .ret) .skip))))))) (.reg [q 105 (.bin .add (.t 44) (qI 1)), q0 44 105] [2,5,6,42,43,44])))))))))
 (.seq (.frz 5 (.reg [q 106 (.ldA 5 (.t 5)), q6 5 2 106, q 3 (.mv (qI 0))] [2,3])) .ret))))))))
def r10 : List RT := [.c 2 (some 5), .t 3]
def a11 : AS := qS [q 2 (.alc [qE, .nils, .int .u64 0, .int .u64 0, .nils]), q 3 (.mv (qI 0))] [0,2] (.seq (qS [q0 9 0, q 10 (.len .i (.t 9)), q 11 (.bin .gtr (.t 10) (qI 1000))] [0,2,11] (.cond (.t 11) (qS [q 12 (.bld [qE, .nils, .int .u64 0, .int .u64 0,
 .nils] []), q6 5 2 12, q 3 (.mv (qI 4))] [2,3] .ret) .skip)) (qS [q0 13 0, qX 31 14 [.t 13], q0 4 14] [2,4] (qS [q0 15 4, q 16 (.ia 1 (.t 15) (qI 0)), q4 17 16, qX 32 18 [.t 17], q0 5 18] [2,4,5] (qS [q0 19 4, q 20 (.ia 1 (.t 19) (qI 0)), q4
 21 20, q 22 (.bld [qE, .nils, .int .u64 0, .int .u64 0, .nils] [(0, 1, (.t 21))]), q 6 (.alc [qE, .nils, .int .u64 0, .int .u64 0, .nils]), q6 5 6 22] [2,4,5,6] (.seq (qS [q0 23 5, q 24 (.bin .eql (.t 23) (.c (.str ⟨#[63]⟩)))] [2,4,5,6,24]
 (.cond (.t 24) (qS [q 25 (.bld [qE, .nils, .int .u64 0, .int .u64 0, .nils] []), q6 5 2 25, q 3 (.mv (qI 2))] [2,3] .ret) .skip)) (qS [q0 26 4, q 27 (.len .s (.t 26)), q 28 (.bin .sub (.t 27) (qI 1)), q0 7 28] [2,4,5,6,7] (.seq (qS [q0 29 4,
 q 30 (.ia 1 (.t 29) (qI 0)), q4 31 30, q 32 (.bin .eql (.t 31) (.c (.str ⟨#[111,102,102,101,114]⟩))), q0 33 32, q1 34 7 33, qT 35 (.bin .geq (.t 34) (qI 4)) 33, q 36 (.pick (.t 33) (.t 35) qf), q0 37 36, q1 38 7 37, qT 39 (.bin .leq (.t 38)
 (qI 8)) 37, q 40 (.pick (.t 37) (.t 39) qf)] [2,4,5,6,7,40] (.cond (.t 40) (.reg [q0 41 7, q 42 (.slS (.c (.str ⟨#[99,115,107,105,97,97,97,97]⟩)) none (some (.t 41))), q0 5 42] [2,4,5,6,7]) .skip)) (.seq (qS [q0 43 7, q0 44 5, q 45 (.len .i
 (.t 44)), q 46 (.bin .neq (.t 43) (.t 45))] [2,4,5,6,7,46] (.cond (.t 46) (qS [q 47 (.bld [qE, .nils, .int .u64 0, .int .u64 0, .nils] []), q6 5 2 47, q 3 (.mv (qI 2))] [2,3] .ret) .skip)) (.seq (qS [q0 48 7, q 49 (.mv (qI 0))]
 [2,4,5,6,48,49] (.block 0 (.lift 6 (some 1) 16 .str (.lift 6 (some 4) 8 (.int .i64) (.loop 1 [2,4,5,6,48,49] (qS [q 50 (.bin .lss (.t 49) (.t 48))] [2,4,5,6,48,49,50] (.seq (.cond (.t 50) .skip (.exit 0)) (.seq (.block 1 (qS [q0 51 49, q0 8
 51] [2,4,5,6,8,48,49] (.seq (.regD [q0 52 5, q0 53 8, q 54 (.ixS (.t 52) (.t 53)), q0 55 4, q0 56 8, q 57 (.bin .add (.t 56) (qI 1)), q 58 (.ia 1 (.t 55) (.t 57)), q4 59 58, q 60 (.call 33 [none, none, none] [.t 6, .t 54, .t 59]), q 61 (.not
 (.t 60))] [.q 0, .q 1, .q 2, .q 3, .q 4, .q 5, .q 6, .q 7, .e 8 [], .q 9] [2,4,5,6,48,49,61]) (.cond (.t 61) (qS [q 62 (.bld [qE, .nils, .int .u64 0, .int .u64 0, .nils] []), q6 5 2 62, q 3 (.mv (qI 2))] [2,3] .ret) .skip)))) (.reg [q 63
 (.bin .add (.t 49) (qI 1)), q0 49 63] [2,4,5,6,48,49]))))))))) (.seq (.frz 6 (.reg [q 64 (.ldA 5 (.t 6)), q6 5 2 64, q 3 (.mv (qI 0))] [2,3])) .ret))))))))))
def r11 : List RT := [.c 2 (some 5), .t 3]
def a14 : AS := qS [q 4 (.mv (.c (qE)))] [0,1] (qS [q0 9 1, qX 10 10 [.t 9], q0 8 10, q 11 (.ext (.t 8) 0), q 12 (.ext (.t 8) 1), q 5 (.alc [qE, .nils, .int .u64 0, .int .u64 0, .nils]), q6 5 5 11, q0 6 12] [0,5,6] (qS [q 7 (.mv (.c (qE)))] [0,5,6,7] (.seq
 (.block 0 (qS [q0 20 6, q 21 (.bin .neq (.t 20) (qI 0)), q0 19 21] [0,5,6,7,19] (.cond (.t 19) .skip (qS [q0 23 0, q 24 (.eqn false .p (.t 23) (.c (.nilp))), q0 22 24] [0,5,7,22] (.cond (.t 22) (.reg [q 6 (.mv (qI 1))] [6,7]) (.reg [q0 14 0,
 q 15 (.ldA 5 (.t 5)), q 16 (.call 36 [none, none] [.t 14, .t 15]), q0 13 16, q 17 (.ext (.t 13) 0), q 18 (.ext (.t 13) 1), q0 7 17, q0 6 18] [6,7])))))) (.seq (qS [q0 25 6, q 26 (.bin .neq (.t 25) (qI 0))] [6,7,26] (.cond (.t 26) (qS [q0 27
 6, qX 37 28 [.t 27], q 29 (.bin .add (.c (.str ⟨#[101,114,114,111,114,32]⟩)) (.t 28)), q0 4 29] [4] .ret) .skip)) (qS [q0 30 7, q0 4 30] [4] .ret)))))
def r14 : List RT := [.t 4]
def a27 : AS := qS [q 4 (.mv (.c (qE))), q 5 (.mv qf)] [0,1] (.seq (qS [q0 6 0] [1,6] (.block 0 (qS [q 8 (.bin .eql (.t 6) (.c (.str ⟨#[111,102,102,101,114]⟩))), q0 7 8] [1,6,7] (.cond (.t 7) (qS [q0 9 1, q 10 (.bin .sub (.t 9) (qI 4)), q 11 (.mm true (.t
 10) (qI 0)), q 12 (.mm false (.t 11) (qI 4)), q 13 (.call 65 [none, none] [(.c (.str ⟨#[105]⟩)), .t 12]), q 14 (.bin .add (.c (.str ⟨#[99,115,107,105]⟩)) (.t 13)), q0 4 14, q 5 (.mv qt)] [4,5] .ret) (qS [q 16 (.bin .eql (.t 6) (.c (.str
 ⟨#[116,105,99,107]⟩))), q0 15 16] [6,15] (.cond (.t 15) (qS [q 4 (.mv (.c (.str ⟨#[105]⟩))), q 5 (.mv qt)] [4,5] .ret) (.seq (qS [q 18 (.bin .eql (.t 6) (.c (.str ⟨#[112,105,99,107]⟩))), q0 17 18] [6,17] (.cond (.t 17) .skip (qS [q 19 (.bin
 .eql (.t 6) (.c (.str ⟨#[114,101,108,97,121]⟩))), q0 17 19] [6,17] (.cond (.t 17) .skip (qS [q 20 (.bin .eql (.t 6) (.c (.str ⟨#[112,97,114,100,111,110]⟩))), q0 17 20] [6,17] (.cond (.t 17) .skip (qS [q 21 (.bin .eql (.t 6) (.c (.str
 ⟨#[115,116,97,116,101]⟩))), q0 17 21] [6,17] (.cond (.t 17) .skip (.reg [q 22 (.bin .eql (.t 6) (.c (.str ⟨#[109,97,105,108]⟩))), q0 17 22] [6,17]))))))))) (.cond (.t 17) (qS [q 4 (.mv (.c (.str ⟨#[107]⟩))), q 5 (.mv qt)] [4,5] .ret) (qS [q
 24 (.bin .eql (.t 6) (.c (.str ⟨#[114,101,109,105,110,100]⟩))), q0 23 24] [6,23] (.cond (.t 23) (qS [q 4 (.mv (.c (.str ⟨#[107,110,105,105,105]⟩))), q 5 (.mv qt)] [4,5] .ret) (qS [q 26 (.bin .eql (.t 6) (.c (.str
 ⟨#[99,97,110,99,101,108]⟩))), q0 25 26] [6,25] (.cond (.t 25) (qS [q 4 (.mv (.c (.str ⟨#[107,110]⟩))), q 5 (.mv qt)] [4,5] .ret) (.seq (qS [q 28 (.bin .eql (.t 6) (.c (.str ⟨#[115,101,114,118,101]⟩))), q0 27 28] [6,27] (.cond (.t 27) .skip
 (qS [q 29 (.bin .eql (.t 6) (.c (.str ⟨#[99,104,101,99,107,112,111,105,110,116]⟩))), q0 27 29] [6,27] (.cond (.t 27) .skip (qS [q 30 (.bin .eql (.t 6) (.c (.str ⟨#[107,101,121,115]⟩))), q0 27 30] [6,27] (.cond (.t 27) .skip (.reg [q 31 (.bin
 .eql (.t 6) (.c (.str ⟨#[99,108,111,99,107]⟩))), q0 27 31] [27]))))))) (.cond (.t 27) (qS [q 4 (.mv (.c (qE))), q 5 (.mv qt)] [4,5] .ret) .skip)))))))))))))) (qS [q 4 (.mv (.c (qE))), q 5 (.mv qf)] [4,5] .ret))
def r27 : List RT := [.t 4, .t 5]
def a31 : AS := qS [q 2 (.mv (.c (.nils)))] [0] (qS [q 3 (.mv (.c (.nils)))] [0,3] (qS [q 4 (.mv (qI 0))] [0,3,4] (.seq (qS [q 5 (.mv (qI 0))] [0,3,4,5] (.block 0 (.lift 3 none 16 .str (.loop 1 [0,3,4,5] (.seq (qS [q0 6 5, q0 7 0, q 8 (.len .i (.t 7)), q 9
 (.bin .leq (.t 6) (.t 8))] [0,3,4,5,9] (.cond (.t 9) .skip (.exit 0))) (.seq (.block 1 (qS [q0 12 5, q0 13 0, q 14 (.len .i (.t 13)), q 15 (.bin .eql (.t 12) (.t 14)), q0 16 15, q2 17 0 16, q2 18 5 16, qF 19 (.ixS (.t 17) (.t 18)) 16, qF 20
 (.bin .eql (.t 19) (.c (.int .u8 32))) 16, q 21 (.pick (.t 16) qt (.t 20))] [0,3,4,5,21] (.cond (.t 21) (qS [q0 22 3, q0 23 0, q0 24 4, q0 25 5, q 26 (.slS (.t 23) (some (.t 24)) (some (.t 25))), q 27 (.bsl 16 .str 1 [(0, (.t 26))]), q 28
 (.app 16 .str (.t 22) (.t 27)), q0 3 28] [0,3,5] (.reg [q0 29 5, q 30 (.bin .add (.t 29) (qI 1)), q0 4 30] [0,3,4,5])) .skip))) (.reg [q0 10 5, q 11 (.bin .add (.t 10) (qI 1)), q0 5 11] [0,3,4,5]))))))) (qS [q0 31 3, q0 2 31] [2] (.lift 2
 none 16 .str .ret)))))
def r31 : List RT := [.t 2]
def a32 : AS := qS [q 2 (.mv (.c (qE)))] [0] (.seq (qS [q0 3 0] [3] (.block 0 (qS [q 5 (.bin .eql (.t 3) (.c (.str ⟨#[111,102,102,101,114]⟩))), q0 4 5] [3,4] (.cond (.t 4) (qS [q 2 (.mv (.c (.str ⟨#[99,115,107,105,97,97,97,97]⟩)))] [2] .ret) (qS [q 7 (.bin
 .eql (.t 3) (.c (.str ⟨#[116,105,99,107]⟩))), q0 6 7] [3,6] (.cond (.t 6) (qS [q 2 (.mv (.c (.str ⟨#[105]⟩)))] [2] .ret) (.seq (qS [q 9 (.bin .eql (.t 3) (.c (.str ⟨#[112,105,99,107]⟩))), q0 8 9] [3,8] (.cond (.t 8) .skip (qS [q 10 (.bin
 .eql (.t 3) (.c (.str ⟨#[114,101,108,97,121]⟩))), q0 8 10] [3,8] (.cond (.t 8) .skip (qS [q 11 (.bin .eql (.t 3) (.c (.str ⟨#[112,97,114,100,111,110]⟩))), q0 8 11] [3,8] (.cond (.t 8) .skip (qS [q 12 (.bin .eql (.t 3) (.c (.str
 ⟨#[115,116,97,116,101]⟩))), q0 8 12] [3,8] (.cond (.t 8) .skip (.reg [q 13 (.bin .eql (.t 3) (.c (.str ⟨#[109,97,105,108]⟩))), q0 8 13] [3,8]))))))))) (.cond (.t 8) (qS [q 2 (.mv (.c (.str ⟨#[107]⟩)))] [2] .ret) (qS [q 15 (.bin .eql (.t 3)
 (.c (.str ⟨#[114,101,109,105,110,100]⟩))), q0 14 15] [3,14] (.cond (.t 14) (qS [q 2 (.mv (.c (.str ⟨#[107,110,105,105,105]⟩)))] [2] .ret) (qS [q 17 (.bin .eql (.t 3) (.c (.str ⟨#[99,97,110,99,101,108]⟩))), q0 16 17] [3,16] (.cond (.t 16) (qS
 [q 2 (.mv (.c (.str ⟨#[107,110]⟩)))] [2] .ret) (.seq (qS [q 19 (.bin .eql (.t 3) (.c (.str ⟨#[115,101,114,118,101]⟩))), q0 18 19] [3,18] (.cond (.t 18) .skip (qS [q 20 (.bin .eql (.t 3) (.c (.str
 ⟨#[99,104,101,99,107,112,111,105,110,116]⟩))), q0 18 20] [3,18] (.cond (.t 18) .skip (qS [q 21 (.bin .eql (.t 3) (.c (.str ⟨#[107,101,121,115]⟩))), q0 18 21] [3,18] (.cond (.t 18) .skip (.reg [q 22 (.bin .eql (.t 3) (.c (.str
 ⟨#[99,108,111,99,107]⟩))), q0 18 22] [18]))))))) (.cond (.t 18) (qS [q 2 (.mv (.c (qE)))] [2] .ret) .skip)))))))))))))) (qS [q 2 (.mv (.c (.str ⟨#[63]⟩)))] [2] .ret))
def r32 : List RT := [.t 2]
def a33 : AS := qS [q 6 (.mv qf)] [0,1,2] (qS [q 7 (.mv qf)] [0,1,2,7] (.seq (qS [q0 10 1] [0,1,2,7,10] (.block 0 (qS [q 12 (.bin .eql (.t 10) (.c (.int .u8 99))), q0 11 12] [0,1,2,7,10,11] (.cond (.t 11) (.reg [q0 14 0, q0 15 2, qX 72 16 [.t 15], q0 13 16,
 q 17 (.ext (.t 13) 0), q 18 (.ext (.t 13) 1), q5 19 14, q3 20 2 19, q6 1 20 17, q0 7 18] [7]) (qS [q 22 (.bin .eql (.t 10) (.c (.int .u8 115))), q0 21 22] [0,1,2,7,10,21] (.cond (.t 21) (.reg [q0 24 0, q0 25 2, qX 72 26 [.t 25], q0 23 26, q
 27 (.ext (.t 23) 0), q 28 (.ext (.t 23) 1), q5 29 24, q3 30 3 29, q6 1 30 27, q0 7 28] [7]) (.seq (qS [q 32 (.bin .eql (.t 10) (.c (.int .u8 107))), q0 31 32] [0,1,2,7,10,31] (.cond (.t 31) .skip (.reg [q 33 (.bin .eql (.t 10) (.c (.int .u8
 110))), q0 31 33] [0,1,2,7,10,31]))) (.cond (.t 31) (qS [q 8 (.mv (.c (qE)))] [0,1,2] (.seq (qS [q0 34 1, q 35 (.bin .eql (.t 34) (.c (.int .u8 107)))] [0,2,35] (.cond (.t 35) (.reg [q0 37 2, qX 73 38 [.t 37], q0 36 38, q 39 (.ext (.t 36)
 0), q 40 (.ext (.t 36) 1), q0 8 39, q0 7 40] [0,7,8]) (.reg [q0 42 2, qX 74 43 [.t 42], q0 41 43, q 44 (.ext (.t 41) 0), q 45 (.ext (.t 41) 1), q0 8 44, q0 7 45] [0,7,8]))) (.reg [q0 46 0, q0 47 0, q5 48 47, q3 49 1 48, q4 50 49, q0 51 8, q
 52 (.bsl 16 .str 1 [(0, (.t 51))]), q 53 (.app 16 .str (.t 50) (.t 52)), q5 54 46, q3 55 1 54, q6 1 55 53] [7]))) (.seq (qS [q 57 (.bin .eql (.t 10) (.c (.int .u8 105))), q0 56 57] [0,2,7,10,56] (.cond (.t 56) .skip (.reg [q 58 (.bin .eql
 (.t 10) (.c (.int .u8 97))), q0 56 58] [0,2,7,56]))) (.cond (.t 56) (qS [q 9 (.mv (qI 0))] [0,2] (qS [q0 60 2, qX 75 61 [.t 60], q0 59 61, q 62 (.ext (.t 59) 0), q 63 (.ext (.t 59) 1), q0 9 62, q0 7 63] [0,7,9] (.reg [q0 64 0, q0 65 0, q5 66
 65, q3 67 4 66, q4 68 67, q0 69 9, q 70 (.bsl 8 (.int .i64) 1 [(0, (.t 69))]), q 71 (.app 8 (.int .i64) (.t 68) (.t 70)), q5 72 64, q3 73 4 72, q6 1 73 71] [7]))) .skip)))))))))) (qS [q0 74 7, q0 6 74] [6] .ret)))
def r33 : List RT := [.t 6]
def a34 : AS := qS [q 4 (.mv qf)] [0,1] (.seq (qS [q0 6 0, q 7 (.len .s (.t 6)), q0 8 1, q 9 (.len .s (.t 8)), q 10 (.bin .neq (.t 7) (.t 9))] [0,1,10] (.cond (.t 10) (qS [q 4 (.mv qf)] [4] .ret) .skip)) (.seq (qS [q0 11 0, q 12 (.len .s (.t 11)), q 13 (.mv
 (qI 0))] [0,1,12,13] (.block 0 (.loop 1 [0,1,12,13] (qS [q 14 (.bin .lss (.t 13) (.t 12))] [0,1,12,13,14] (.seq (.cond (.t 14) .skip (.exit 0)) (.seq (.block 1 (qS [q0 15 13, q0 5 15] [0,1,5,12,13] (.seq (.regD [q0 16 0, q0 17 5, q 18 (.ia 1
 (.t 16) (.t 17)), q4 19 18, q0 20 1, q0 21 5, q 22 (.ia 1 (.t 20) (.t 21)), q4 23 22, q 24 (.bin .neq (.t 19) (.t 23))] [.q 0, .q 1, .q 2, .q 3, .q 4, .q 5, .q 6, .q 7, .q 8] [0,1,12,13,24]) (.cond (.t 24) (qS [q 4 (.mv qf)] [4] .ret)
 .skip)))) (.reg [q 25 (.bin .add (.t 13) (qI 1)), q0 13 25] [0,1,12,13]))))))) (qS [q 4 (.mv qt)] [4] .ret)))
def a35 : AS := qS [q 4 (.mv qf)] [0,1] (.seq (qS [q0 6 0, q 7 (.len .s (.t 6)), q0 8 1, q 9 (.len .s (.t 8)), q 10 (.bin .neq (.t 7) (.t 9))] [0,1,10] (.cond (.t 10) (qS [q 4 (.mv qf)] [4] .ret) .skip)) (.seq (qS [q0 11 0, q 12 (.len .s (.t 11)), q 13 (.mv
 (qI 0))] [0,1,12,13] (.block 0 (.loop 1 [0,1,12,13] (qS [q 14 (.bin .lss (.t 13) (.t 12))] [0,1,12,13,14] (.seq (.cond (.t 14) .skip (.exit 0)) (.seq (.block 1 (qS [q0 15 13, q0 5 15] [0,1,5,12,13] (.seq (.regD [q0 16 0, q0 17 5, q 18 (.ia 1
 (.t 16) (.t 17)), q4 19 18, q0 20 1, q0 21 5, q 22 (.ia 1 (.t 20) (.t 21)), q4 23 22, q 24 (.bin .neq (.t 19) (.t 23))] [.q 0, .q 1, .q 2, .q 3, .q 4, .q 5, .q 6, .q 7, .q 8] [0,1,12,13,24]) (.cond (.t 24) (qS [q 4 (.mv qf)] [4] .ret)
 .skip)))) (.reg [q 25 (.bin .add (.t 13) (qI 1)), q0 13 25] [0,1,12,13]))))))) (qS [q 4 (.mv qt)] [4] .ret)))
def a74 : AS := qS [q 2 (.mv (.c (qE))), q 3 (.mv qf)] [0] (.seq (qS [q0 4 0, q 5 (.bin .eql (.t 4) (.c (.str ⟨#[45]⟩)))] [0,5] (.cond (.t 5) (qS [q 2 (.mv (.c (qE))), q 3 (.mv qt)] [2,3] .ret) .skip)) (qS [q0 6 0, qX 73 7 [.t 6], q 8 (.ext (.t 7) 0), q 9
 (.ext (.t 7) 1), q0 2 8, q0 3 9] [2,3] .ret))
def r74 : List RT := [.t 2, .t 3]
theorem ok4 : okF Tryz.prog 4 a4 r4 1 = true := by decide +kernel
theorem ok10 : okF Tryz.prog 10 a10 r10 1 = true := by decide +kernel
theorem ok11 : okF Tryz.prog 11 a11 r11 1 = true := by decide +kernel
theorem ok14 : okF Tryz.prog 14 a14 r14 2 = true := by decide +kernel
theorem ok27 : okF Tryz.prog 27 a27 r27 2 = true := by decide +kernel
theorem ok31 : okF Tryz.prog 31 a31 r31 1 = true := by decide +kernel
theorem ok32 : okF Tryz.prog 32 a32 r32 1 = true := by decide +kernel
theorem ok33 : okF Tryz.prog 33 a33 r33 3 = true := by decide +kernel
theorem ok74 : okF Tryz.prog 74 a74 r74 1 = true := by decide +kernel
end Go.V
namespace Go.Proofs
set_option linter.unusedSimpArgs false
set_option linter.unnecessarySimpa false
open Go.Shelf
def Tryz.rep_ren : Go.Shelf.Ren := ⟨fun | 105 => 65 | 212 => 143 | 99 => 144 | 165 => 98 | 166 => 99 | 170 => 145 | 169 => 70 | 263 => 224 | 264 => 225 | 206 => 226 | 240 => 150 | 241 => 177 | 276 => 234 | 277 => 265 | n => n, fun | 9 => 9 | 3 => 3 | 4 => 4 | 20 => 20 | 0 => 0 | 46 => 144 | 109 => 255 | 5 => 5 | 72 => 141 | 76 => 182 | 51 => 310 | 146 => 364 | 53 => 24 | 148 => 366 | 70 => 139 | 37 => 89 | 75 => 134 | 127 => 259 | 164 => 373 | 80 => 61 | n => n, fun | n => n⟩
theorem Tryz.rep : Go.Proofs.Lays.n105 Tryz.prog Tryz.rep_ren := {
 mixed := by kernel_rfl
 f99 := Tryz.func144.trans (congrArg some (by kernel_rfl))
 f105 := Tryz.func65.trans (congrArg some (by kernel_rfl))
 f165 := Tryz.func98.trans (congrArg some (by kernel_rfl))
 f166 := Tryz.func99.trans (congrArg some (by kernel_rfl))
 f169 := Tryz.func70.trans (congrArg some (by kernel_rfl))
 f170 := Tryz.func145.trans (congrArg some (by kernel_rfl))
 f206 := Tryz.func226.trans (congrArg some (by kernel_rfl))
 f212 := Tryz.func143.trans (congrArg some (by kernel_rfl))
 f240 := Tryz.func150.trans (congrArg some (by kernel_rfl))
 f241 := Tryz.func177.trans (congrArg some (by kernel_rfl))
 f263 := Tryz.func224.trans (congrArg some (by kernel_rfl))
 f264 := Tryz.func225.trans (congrArg some (by kernel_rfl))
 f276 := Tryz.func234.trans (congrArg some (by kernel_rfl))
 f277 := Tryz.func265.trans (congrArg some (by kernel_rfl))
 t0 := Tryz.underlying0
 a0 := Tryz.isAgg0
 z0 := Tryz.sizeOf0
 v0 := Tryz.zeroValue0
 t3 := Tryz.underlying3
 a3 := Tryz.isAgg3
 z3 := Tryz.sizeOf3
 v3 := Tryz.zeroValue3
 t4 := Tryz.underlying4
 a4 := Tryz.isAgg4
 z4 := Tryz.sizeOf4
 v4 := Tryz.zeroValue4
 t5 := Tryz.underlying5
 a5 := Tryz.isAgg5
 z5 := Tryz.sizeOf5
 v5 := Tryz.zeroValue5
 t9 := Tryz.underlying9
 a9 := Tryz.isAgg9
 z9 := Tryz.sizeOf9
 v9 := Tryz.zeroValue9
 t20 := Tryz.underlying20
 a20 := Tryz.isAgg20
 z20 := Tryz.sizeOf20
 v20 := Tryz.zeroValue20
 t37 := Tryz.underlying89
 a37 := Tryz.isAgg89
 z37 := Tryz.sizeOf89
 v37 := Tryz.zeroValue89
 t46 := Tryz.underlying144
 a46 := Tryz.isAgg144
 z46 := Tryz.sizeOf144
 v46 := Tryz.zeroValue144
 t51 := Tryz.underlying310
 a51 := Tryz.isAgg310
 z51 := Tryz.sizeOf310
 v51 := Tryz.zeroValue310
 t53 := Tryz.underlying24
 a53 := Tryz.isAgg24
 z53 := Tryz.sizeOf24
 v53 := Tryz.zeroValue24
 t70 := Tryz.underlying139
 a70 := Tryz.isAgg139
 z70 := Tryz.sizeOf139
 v70 := Tryz.zeroValue139
 t72 := Tryz.underlying141
 a72 := Tryz.isAgg141
 z72 := Tryz.sizeOf141
 v72 := Tryz.zeroValue141
 t75 := Tryz.underlying134
 a75 := Tryz.isAgg134
 z75 := Tryz.sizeOf134
 v75 := Tryz.zeroValue134
 t76 := Tryz.underlying182
 a76 := Tryz.isAgg182
 z76 := Tryz.sizeOf182
 v76 := Tryz.zeroValue182
 t109 := Tryz.underlying255
 a109 := Tryz.isAgg255
 z109 := Tryz.sizeOf255
 v109 := Tryz.zeroValue255
 t127 := Tryz.underlying259
 a127 := Tryz.isAgg259
 z127 := Tryz.sizeOf259
 v127 := Tryz.zeroValue259
 t146 := Tryz.underlying364
 a146 := Tryz.isAgg364
 z146 := Tryz.sizeOf364
 v146 := Tryz.zeroValue364
 t148 := Tryz.underlying366
 a148 := Tryz.isAgg366
 z148 := Tryz.sizeOf366
 v148 := Tryz.zeroValue366
 t164 := Tryz.underlying373
 a164 := Tryz.isAgg373
 z164 := Tryz.sizeOf373
 v164 := Tryz.zeroValue373 }
end Go.Proofs
namespace Go.V
open Go.Proofs Go.Shelf Go.RowKit
set_option maxRecDepth 100000
set_option maxHeartbeats 4000000
set_option linter.unusedSimpArgs false
set_option linter.unnecessarySimpa false
set_option linter.unusedVariables false
theorem rep_extra : Builder.Extra Tryz.prog Tryz.rep_ren where
 sizeBuilder := by kernel_rfl
 liesBuilder := by kernel_rfl
 t5 := Tryz.underlying5
 a5 := Tryz.isAgg5
 z5 := Tryz.sizeOf5
 v5 := Tryz.zeroValue5
 infoByte := by kernel_rfl
 cellsByte := by kernel_rfl
 sizeByte := by kernel_rfl
 neB5 := by decide
def repB (n : Nat) : ByteArray := bsOf (List.replicate n 105)
theorem repL_i : ∀ n, Lib.repeatL [105] n = List.replicate n 105
 | 0 => rfl
 | n + 1 => by rw [Lib.repeatL, repL_i n]; rfl
def C65 : Contract := fun args hp K => match args, hp with
 | [.str s, .int .i64 n], [] => s = ⟨#[105]⟩ ∧ (0 ≤ n ∧ n ≤ 4) ∧ K (.str (repB n.toNat)) []
 | _, _ => False
theorem s65 : Sound Tryz.prog 65 C65 := by
 refine sound_plain ?_
 intro args hp K h E vs hg hd
 unfold C65 at h
 split at h
 ·rename_i s n
  obtain ⟨rfl, ⟨h0, h4⟩, h⟩ := h
  simp only [denL, den] at hd
  obtain ⟨v, r, rfl, ⟨rfl, hs⟩, v2, r2, rfl, ⟨rfl, hc⟩, rfl⟩ := hd
  obtain ⟨k, rfl⟩ : ∃ k : Nat, n = k := ⟨n.toNat, by omega⟩
  have hsz : (repB k).size ≤ maxLen := by
   unfold repB
   rw [bsOf_size, List.length_replicate]
   have := maxLen_val
   omega
  rw [Int.toNat_natCast] at h
  have run : Calls Tryz.prog 65 #[.string ⟨#[105]⟩, .int .i64 k] E.w fun e w' => e = .returned (.string (repB k)) ∧ Below E.w.heap.size E.w w' := by
   rcases (by omega : k = 0 ∨ k = 1 ∨ 2 ≤ k) with rfl | rfl | h2
   ·refine (Any.strings_Repeat_zero Tryz.rep _ E.w).mono ?_
    rintro e w' ⟨rfl, rfl⟩
    exact ⟨rfl, Below.refl _ _⟩
   ·refine (Any.strings_Repeat_one Tryz.rep _ E.w).mono ?_
    rintro e w' ⟨rfl, rfl⟩
    exact ⟨rfl, Below.refl _ _⟩
   ·refine (Any.strings_Repeat_main Tryz.rep rep_extra ⟨#[105]⟩ k E.w h2 (by omega) (by show 1 * k ≤ _; omega) (by decide)).mono ?_
    rintro e w' ⟨rfl, hb⟩
    refine ⟨?_, hb⟩
    show Ending.returned (Value.string ⟨(Lib.repeatL [105] k).toArray⟩) = _
    rw [repL_i]
    rfl
  refine run.mono ?_
  rintro e w' ⟨rfl, hb⟩
  exact ⟨_, _, rfl, Chg.below hb, h, fun E' => by simp only [den]; exact ⟨trivial, hsz⟩⟩
 ·exact h.elim
end Go.V
