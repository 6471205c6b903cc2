/- The equations by which what is owed is reckoned. -/
import Derived.Test.YthfkoeoaehkoaaaGreatDoorVE
namespace Go.V
set_option linter.unusedSimpArgs false
set_option linter.unnecessarySimpa false
set_option linter.unusedVariables false
def runK (Γ : List (Nat × Contract)) (r : List AOper) (K : SS → Prop) (s : SS) : Prop := runL Γ r s K
def regK (Q : AE → SS → Prop) (keep : List Nat) (s : SS) : Prop := Q .normal ⟨keepF keep s.fr, s.hp⟩
def arrO1 (n : Nat) (t : Ty) (o : Option (List t.den)) : Option SV :=
 match o with
 | some xs => if t.flat then some (.agg [.arr n t xs]) else none
 | none => none
def lkNC {α : Type} (va : Bool) (vt : Ty) (ok : Bool) (k : Option α) (K : SV → Prop) : Prop :=
 match k with
 | some _ => lkV va vt none ok K
 | none => False
def callVC (Γ : List (Nat × Contract)) (ms : List (Option (Nat × Ty))) (l : List SV) (s : SS) (v : SV) (K : SV → SS → Prop) : Prop :=
 match v with
 | .fn f caps => if f < 1000000 then match lkC Γ f with
   | some C => callC1 C (lend s.hp (ms ++ nones caps) (l ++ caps)) s K
   | none => False
  else match lkC Γ (f % 1000000) with
   | some C => callC1 C (lend s.hp (nones caps ++ ms) (caps ++ l)) s K
   | none => False
 | _ => False
def condC (c : SV) (Γ : List (Nat × Contract)) (L : List (Nat × LoopAnn)) (n0 : Nat) (x y : AS) (Q : AE → SS → Prop) (s : SS) : Prop :=
 match c with
 | .bool b => sw b (rc Γ L n0 x Q s) (rc Γ L n0 y Q s)
 | _ => False
def grdC (c : SV) (Γ : List (Nat × Contract)) (d : Option Nat) (op : AOp) (slot : Nat) (want : Bool) (r : List AOper) (s : SS) (K : SS → Prop) : Prop :=
 match c with
 | .bool b => sw (b == want) (step Γ ⟨d, op, none⟩ (s.put (some slot) (.bool want)) (runK Γ r K)) (runL Γ r ((s.put (some slot) (.bool (!want))).put d (.tup [])) K)
 | .tup [] => runL Γ r (s.put d (.tup [])) K
 | _ => False
def isnC (ng : Bool) (x : SV) (s : SS) (K : SV → SS → Prop) : Prop :=
 match x with
 | .nils => K (.bool (!ng)) s
 | y => match cont s.hp y with
  | some C => ∀ b : Bool, (b = true → C.xs = []) → K (.bool (bif ng then !b else b)) s
  | none => False
def blkC (b : Bool) (Q : AE → SS → Prop) (id : Nat) (s : SS) : Prop :=
 match b with
 | true => Q .normal s
 | false => Q (.exit id) s
def runE' (Γ : List (Nat × Contract)) (o : AOper) (s : SS) (K1 K2 : SS → Prop) : Prop := runE Γ o s K1 K2
def runDK (Γ : List (Nat × Contract)) (al : List AOper) (r : List DI) (K : SS → Prop) (s : SS) : Prop := runD Γ al r s K
def runTK (Γ : List (Nat × Contract)) (al : List AOper) (r : DT) (K : SS → Prop) (s : SS) : Prop := runT Γ al r s K
def grdE (c : SV) (Γ : List (Nat × Contract)) (d : Option Nat) (op : AOp) (slot : Nat) (want : Bool) (s : SS) (K1 K2 : SS → Prop) : Prop :=
 match c with
 | .bool b => sw (b == want) (step Γ ⟨d, op, none⟩ (s.put (some slot) (.bool want)) K1) (K2 ((s.put (some slot) (.bool (!want))).put d (.tup [])))
 | .tup [] => K2 (s.put d (.tup []))
 | _ => False
def chkO (op : AOp) (s : SS) (K : SV → Prop) : Prop := evC op s K
def chkS (c : SV) (want : Bool) (op : AOp) (s : SS) (d : Option Nat) : Prop :=
 match c with
 | .bool b => sw (b == want) (chkO op s (eqK s d)) (eqK s d (.tup []))
 | .tup [] => eqK s d (.tup [])
 | _ => False
def atO : Option AOper → AOper
 | some o => o
 | none => ⟨none, .mv (.c .junk), none⟩
def nd (A K : Prop) : Prop := A ∧ (A → K)
theorem nd_intro {A K : Prop} (h1 : A) (h2 : K) : nd A K := ⟨h1, fun _ => h2⟩
theorem nd_mk {A K : Prop} (h1 : A) (h2 : A → K) : nd A K := ⟨h1, h2⟩
theorem nd_cong {A A' K K' : Prop} (h1 : A = A') (h : A' → K = K') : nd A K = nd A' K' := by
 subst h1
 exact propext ⟨fun x => ⟨x.1, fun a => h a ▸ x.2 a⟩, fun x => ⟨x.1, fun a => (h a).symm ▸ x.2 a⟩⟩
attribute [congr] nd_cong
theorem two_pt {x y : Nat} {P : Nat → Nat → Prop} : (∀ a b : Nat, a = x → b = y → P a b) = P x y := propext ⟨fun h => h _ _ rfl rfl, fun h a b ha hb => by subst ha; subst hb; exact h⟩
theorem sw_cong {b b' : Bool} {A B : Prop} (h : b = b') : sw b A B = sw b' A B := by rw [h]
attribute [congr] sw_cong
def setP (t : Nat) : SV × SS → SS
 | (x, s) => ⟨upF s.fr t x, s.hp⟩
def app2 (eb : Nat) (t : Ty) (x : SV × SS) (H : Prop) (ys : Option (List t.den)) (K : SV → SS → Prop) : Prop := app1 eb t x.2 x.1 H ys K
def boxC (l : Option (List SV)) (fr : List (Nat × SV)) (hp : List SB) (K : SV → SS → Prop) : Prop :=
 match l with
 | some l => K (.ptr hp.length 0) ⟨fr, hp ++ [.struct l]⟩
 | none => False
def callC0 (C : Option Contract) (al : Option (List SV × List Nat)) (s : SS) (K : SV → SS → Prop) : Prop :=
 match C with
 | some C => callC1 C al s K
 | none => False
def plugK (idx lent : List Nat) (s : SS) (K : SV → SS → Prop) (r : SV) (hp' : List SB) : Prop := plug idx lent s r hp' K
def lendK (x : SV) (r : Option (List SV × List Nat)) : Option (List SV × List Nat) :=
 match r with
 | some (ys, l) => some (x :: ys, l)
 | none => none
def iaV (b : Option SB) (sz sz' j lo hi : Nat) (n : Int) (K : SV → Prop) : Prop :=
 match b with
 | some (.row _ _ t xs) => (sz = sz' ∧ sz = t.size) ∧ (0 ≤ n ∧ lo + n < hi ∧ hi ≤ xs.length) ∧ ((0 ≤ n ∧ lo + n < hi ∧ hi ≤ xs.length) → ∀ m : Nat, m = lo + n.toNat → K (.el j m sz 0))
 | _ => False
def lenW (b : Option SB) (lo hi sz : Nat) (K : SV → Prop) : Prop :=
 match b with
 | some (.row _ eb t xs) => sz = t.size ∧ (((xs.drop lo).take (hi - lo)).length ≤ maxLen → ((xs.drop lo).take (hi - lo)).length * eb ≤ 140737488355328 → gI .i64 ((xs.drop lo).take (hi - lo)).length K)
 | _ => False
def iaO (b : Option SB) (sz j : Nat) (n : Int) (K : SV → Prop) : Prop :=
 match b with
 | some (.row _ _ _ xs) => (0 ≤ n ∧ n < xs.length) ∧ ((0 ≤ n ∧ n < xs.length) → ∀ m : Nat, m = n.toNat → K (.el j m sz 0))
 | _ => False
def ldP (b : Option SB) (off : Nat) (n : Option Nat) (K : SV → Prop) : Prop :=
 match b with
 | some (.struct cells) => match n with
  | none => optC (headO (dropC cells off)) K
  | some n => optC (takeO (dropC cells off) n) K
 | _ => False
def ldR (l : Option (List SV)) (need : Prop) (n : Option Nat) (K : SV → Prop) : Prop :=
 match l with
 | some l => need ∧ (need → match n with
  | none => optC (headC l) K
  | some n => optC (aggO (takeC l n)) K)
 | none => False
def ldE (b : Option SB) (m sz off : Nat) (n : Option Nat) (K : SV → Prop) : Prop :=
 match (match b with
  | some (.row _ eb t xs) => if sz = t.size then (dropC (t.sv true (xs.getD m t.dflt)) off).map fun r => (m < xs.length, r) else none
  | _ => none) with
 | some (need, l) => need ∧ (need → match n with
  | none => optC (headC l) K
  | some n => optC (aggO (takeC l n)) K)
 | none => False
def lkT (z : Option SV) (ok b : Bool) (K : SV → Prop) : Prop :=
 match z with
 | some z => match ok with
  | true => K (.tup [z, .bool b])
  | false => K z
 | none => False
def toV1 (l : List SV) : Option SV :=
 match l with
 | [y] => some y
 | _ => none
def b2sR (b : Option SB) (K : SV → Prop) : Prop :=
 match (match b with
  | some (.row _ eb t xs) => some (⟨true, eb, t, xs⟩ : Cont)
  | _ => none) with
 | some ⟨_, _, .byte, xs⟩ => gS ⟨(xs : List UInt8).toArray⟩ K
 | _ => False
def b2sW (b : Option SB) (lo hi sz : Nat) (K : SV → Prop) : Prop :=
 match (match b with
  | some (.row _ eb t xs) => if sz = t.size then some (⟨true, eb, t, (xs.drop lo).take (hi - lo)⟩ : Cont) else none
  | _ => none) with
 | some ⟨_, _, .byte, xs⟩ => gS ⟨(xs : List UInt8).toArray⟩ K
 | _ => False
def bdI (x : SV) (K : Int → Prop) : Prop :=
 match x with
 | .int _ n => K n
 | _ => False
def elt (t : Ty) (xs : List t.den) (m : Nat) : t.den := xs.getD m t.dflt
theorem elt_eq {t : Ty} {xs : List t.den} {m : Nat} {x : t.den} (h : xs[m]? = some x) : elt t xs m = x := by
 unfold elt; rw [List.getD_eq_getElem?_getD, h]; rfl
theorem elt_get {t : Ty} {xs : List t.den} {m : Nat} (h : m < xs.length) : xs[m]? = some (elt t xs m) := by
 unfold elt; rw [List.getD_eq_getElem?_getD, List.getElem?_eq_getElem h]; rfl
theorem elt_all {t : Ty} {xs : List t.den} {m : Nat} {P : t.den → Prop} : (m < xs.length ∧ ∀ x, xs[m]? = some x → P x) = (m < xs.length ∧ (m < xs.length → P (elt t xs m))) :=
 propext ⟨fun h => ⟨h.1, fun hm => h.2 _ (elt_get hm)⟩, fun h => ⟨h.1, fun x hx => elt_eq hx ▸ h.2 h.1⟩⟩
def ldX (l : Option (List SV)) (n : Option Nat) (K : SV → Prop) : Prop :=
 match l with
 | some l => match n with
  | none => optC (headC l) K
  | some n => optC (aggO (takeC l n)) K
 | none => False
theorem ldx_eq {α : Type} {xs : List α} {m : Nat} {d : α} (g : α → Option (List SV)) (n : Option Nat) (K : SV → Prop) :
  (match (g (xs.getD m d)).map (fun r => (m < xs.length, r)) with
   | some (need, l) => need ∧ (need → match n with
    | none => optC (headC l) K
    | some n => optC (aggO (takeC l n)) K)
   | none => False) = (m < xs.length ∧ ∀ x, xs[m]? = some x → ldX (g x) n K) := by
 apply propext
 by_cases hm : m < xs.length
 ·have e : xs[m]? = some (xs.getD m d) := by
   rw [List.getD_eq_getElem?_getD, List.getElem?_eq_getElem hm]; rfl
  rw [e]
  generalize xs.getD m d = y
  have : (∀ x, some y = some x → ldX (g x) n K) ↔ ldX (g y) n K := ⟨fun h => h y rfl, fun h x hx => by cases hx; exact h⟩
  rw [this]
  cases hg : g y with
  | none => simp [ldX]
  | some l => simp [ldX, hm]
 ·cases hg : g (xs.getD m d) with
  | none => simp [hm]
  | some l => simp [hm]
def ldEb (c : Bool) (t : Ty) (xs : List t.den) (m off : Nat) (n : Option Nat) (K : SV → Prop) : Prop :=
 match c with
 | true => m < xs.length ∧ ∀ x, xs[m]? = some x → ldX (dropC (t.sv true x) off) n K
 | false => False
def lenO (b : Option SB) (K : SV → Prop) : Prop :=
 match b with
 | some (.row _ eb _ xs) => xs.length ≤ maxLen → xs.length * eb ≤ 140737488355328 → gI .i64 xs.length K
 | _ => False
def lenM (b : Option SB) (K : SV → Prop) : Prop :=
 match b with
 | some (.map _ _ _ m) => m.length ≤ maxLen → gI .i64 m.length K
 | _ => False
def lkM (b : Option SB) (va : Bool) (kt vt : Ty) (ok : Bool) (k : SV) (K : SV → Prop) : Prop :=
 match b with
 | some (.map va' kt' vt' m) => (va' = va ∧ kt' = kt ∧ vt' = vt) ∧ (match kt'.keyOf k with
   | some key => lkV va' vt' (lookM kt' vt' m key) ok K
   | none => False)
 | _ => False
def lkK (va : Bool) (kt vt : Ty) (ok : Bool) (key : Option kt.den) (m : List (kt.den × vt.den)) (K : SV → Prop) : Prop :=
 match key with
 | some key => lkV va vt (lookM kt vt m key) ok K
 | none => False
def rn_ptr (o : Option Nat) (off : Nat) : SV :=
 match o with
 | some j => .ptr j off
 | none => .junk1
def rn_own (o : Option Nat) : SV :=
 match o with
 | some j => .own j 
 | none => .junk1
def rn_vw (o : Option Nat) (lo : Nat) (hi : Nat) (sz : Nat) : SV :=
 match o with
 | some j => .vw j lo hi sz
 | none => .junk1
def rn_mp (o : Option Nat) : SV :=
 match o with
 | some j => .mp j 
 | none => .junk1
def rn_el (o : Option Nat) (n : Nat) (sz : Nat) (off : Nat) : SV :=
 match o with
 | some j => .el j n sz off
 | none => .junk1
def rn_ptrA (o : Option Nat) (off : Nat) (n : Nat) (sz : Nat) : SV :=
 match o with
 | some j => .ptrA j off n sz
 | none => .junk1
def rn_pty (o : Option Nat) (T : Nat) : SV :=
 match o with
 | some j => .pty j T
 | none => .junk1
def rn_svw (o : Option Nat) (n : Nat) : SV :=
 match o with
 | some j => .svw j n
 | none => .junk1
def prtC (c : Bool) (l : List SV) (r : Option (List SV)) : Option (List SV) :=
 match c with
 | true => match r with
  | some l' => some (l ++ l')
  | none => none
 | false => none
def prtB (sz : Nat) (l r : Option (List SV)) : Option (List SV) :=
 match l with
 | some l => prtC (widthL l == sz) l r
 | none => none
def bldF2 (r : SS × List SV) (K : SV → SS → Prop) : Prop := K (.agg r.2) r.1
def bldFC (l : Option (List SV)) (s : SS) (K : SV → SS → Prop) : Prop :=
 match l with
 | some l => bldF2 (frzAll s l (SV.rowsL l)) K
 | none => False
def bslF (eb : Nat) (t : Ty) (n : Nat) (r : SS × List SV) (K : SV → SS → Prop) : Prop := bsl2 eb t r.1 (t.ofSvL n r.2) K
def mu2F (va : Bool) (kt vt : Ty) (m : List (kt.den × vt.den)) (i : Nat) (key : kt.den) (r : SS × List SV) (K : SV → SS → Prop) : Prop := mu3 va kt vt m i key r.1 (vt.ofSv r.2) K
def mapT (f : SV → SV) (l : List SB) : List SB := l.map (SB.tr f)
def frzB (b : Option SB) (s : SS) (l : List SV) (i : Nat) (r : List Nat) : SS × List SV :=
 match b with
 | some (.row _ eb t xs) => frzAll ⟨frTr (frzF i eb t xs) s.fr, (s.hp.map (SB.tr (frzF i eb t xs))).set i .gone⟩ (SV.trL (frzF i eb t xs) l) r
 | _ => frzAll s l r
def ofP2 {α β : Type} (x : α) (o : Option (β × List SV)) : Option ((α × β) × List SV) :=
 match o with
 | some (y, r) => some ((x, y), r)
 | none => none
def ofP {α : Type} (b : Ty) (o : Option (α × List SV)) : Option ((α × b.den) × List SV) :=
 match o with
 | some (x, r) => match b.ofSv r with
  | some (y, r') => some ((x, y), r')
  | none => none
 | none => none
def ofLC {t : Ty} (x : t.den) (o : Option (List t.den)) : Option (List t.den) :=
 match o with
 | some xs => some (x :: xs)
 | none => none
def ofLB (t : Ty) (n : Nat) (o : Option (t.den × List SV)) : Option (List t.den) :=
 match o with
 | some (x, r) => match t.ofSvL n r with
  | some xs => some (x :: xs)
  | none => none
 | none => none
def valB (c : Bool) (v : SV) : Option (List SV) :=
 match c with
 | true => some [v]
 | false => none
def shW {α : Type} (c : Bool) (eb : Nat) (xs : List α) : Prop :=
 match c with
 | true => xs.length * eb ≤ 140737488355328
 | false => True
def srcZ {t : Ty} (c : Bool) (xs : List t.den) : Option (List t.den) :=
 match c with
 | true => some xs
 | false => none
def srcW (b : Option SB) (t : Ty) (lo hi sz : Nat) : Option (List t.den) :=
 match (match b with
  | some (.row _ eb t xs) => if sz = t.size then some (⟨true, eb, t, (xs.drop lo).take (hi - lo)⟩ : Cont) else none
  | _ => none) with
 | some C => if h : C.t = t then (if C.p || t.flat then some (castT h C.xs) else none) else none
 | none => none
def shR (b : Option SB) : Prop :=
 match b with
 | some (.row _ eb _ xs) => xs.length * eb ≤ 140737488355328
 | _ => True
def shV (b : Option SB) (lo hi sz : Nat) : Prop :=
 match b with
 | some (.row _ eb t xs) => if sz = t.size then ((xs.drop lo).take (hi - lo)).length * eb ≤ 140737488355328 else True
 | _ => True
def frzT (r : SS × List SV) : SS := r.1
def rowsB (b : Option SB) : List Nat :=
 match b with
 | some (.struct cells) => SV.rowsL cells
 | _ => []
def swpB (c : Bool) (s : SS) (i j : Nat) : SS :=
 match c with
 | true => swp3 s i (s.hp[i]?)
 | false => swp2 s i j (s.hp[j]?)
def lendB (hp : List SB) (eb : Nat) (t : Ty) (x : SV) (r : Option (List SV × List Nat)) : Option (List SV × List Nat) :=
 match r with
 | some (ys, l) => match x with
  | .nils => some (.sl false eb t [] :: ys, l)
  | .sl _ eb t xs => some (.sl false eb t xs :: ys, l)
  | x => match cont hp x with
   | some C => some (.sl false C.eb C.t C.xs :: ys, x.refs ++ l)
   | none => none
 | none => none
def lendW (b : Option SB) (i lo hi sz : Nat) (ys : List SV) (l : List Nat) : Option (List SV × List Nat) :=
 match (match b with
  | some (.row _ eb t xs) => if sz = t.size then some (⟨true, eb, t, (xs.drop lo).take (hi - lo)⟩ : Cont) else none
  | _ => none) with
 | some C => some (.sl false C.eb C.t C.xs :: ys, i :: l)
 | none => none
def lendZ (b : Bool) (eb : Nat) (t : Ty) (xs : List t.den) (i : Nat) (ys : List SV) (l : List Nat) : Option (List SV × List Nat) :=
 match b with
 | true => some (.sl false eb t xs :: ys, i :: l)
 | false => none
def lendO (b : Option SB) (i : Nat) (ys : List SV) (l : List Nat) : Option (List SV × List Nat) :=
 match b with
 | some (.row _ eb t xs) => some (.sl false eb t xs :: ys, i :: l)
 | _ => none
def lcD (l : Option (List SV)) (fr : List (Nat × SV)) (hp : List SB) (i eb : Nat) (t : Ty) : SS :=
 match l with
 | some c => ⟨fr, (hp ++ [SB.row true eb t []]).set i (.struct c)⟩
 | none => ⟨fr, hp⟩
def bodyK (Γ : List (Nat × Contract)) (L : List (Nat × LoopAnn)) (n0 : Nat) (x : AS) (Q : AE → SS → Prop) (K : SS → Prop) (s : SS) : Prop := rc Γ L n0 x (contQ Q K) s
def lpK (A : Option LoopAnn) (Γ : List (Nat × Contract)) (L : List (Nat × LoopAnn)) (n0 : Nat) (keep : List Nat) (x : AS) (Q : AE → SS → Prop) (s : SS) : Prop :=
 match A with
 | some A => ∃ g0, loopI A n0 keep s g0 (bodyK Γ L n0 x Q)
 | none => False
def lpE (A : LoopAnn) (n0 : Nat) (keep : List Nat) (g0 g : A.G) (s' : SS) : Prop := ∃ g', canon n0 keep s' = A.I g' ∧ A.R g0 g' ∧ A.μ g' < A.μ g
theorem v_loopI {A : LoopAnn} {n0 : Nat} {keep : List Nat} {s : SS} {g0 : A.G} {body : (SS → Prop) → SS → Prop} : loopI A n0 keep s g0 body = (canon n0 keep s = A.I g0 ∧ A.R g0 g0 ∧ ∀ g, A.R g0 g → body (lpE A n0 keep g0 g) (A.I g)) := rt
theorem loop_intro {Γ : List (Nat × Contract)} {L : List (Nat × LoopAnn)} {A : LoopAnn} {n0 : Nat} {keep : List Nat} {x : AS} {Q : AE → SS → Prop} {s : SS} (g0 : A.G) (h1 : canon n0 keep s = A.I g0) (h2 : A.R g0 g0)
  (h3 : ∀ g, A.R g0 g → rc Γ L n0 x (contQ Q (lpE A n0 keep g0 g)) (A.I g)) : ∃ g0, loopI A n0 keep s g0 (bodyK Γ L n0 x Q) := ⟨g0, h1, h2, h3⟩
theorem lpE_intro {A : LoopAnn} {n0 : Nat} {keep : List Nat} {g0 g : A.G} {s' : SS} (g' : A.G) (h1 : canon n0 keep s' = A.I g') (h2 : A.R g0 g') (h3 : A.μ g' < A.μ g) : lpE A n0 keep g0 g s' := ⟨g', h1, h2, h3⟩
theorem v_bodyK {Γ L n0 x Q K s} : bodyK Γ L n0 x Q K s = rc Γ L n0 x (contQ Q K) s := rt
theorem v_lpE {A n0 keep g0 g s'} : lpE A n0 keep g0 g s' = ∃ g', canon n0 keep s' = A.I g' ∧ A.R g0 g' ∧ A.μ g' < A.μ g := rt
def seB (c : Bool) (eb : Nat) (t : Ty) (xs : List t.den) (fr : List (Nat × SV)) (hp : List SB) (i lo hi : Nat) : SV × SS :=
 match c with
 | true => (.own i, ⟨frRen (but i) fr, (hp.map (SB.ren (but i))).set i (.row true eb t ((xs.drop lo).take (hi - lo)))⟩)
 | false => (.junk1, ⟨fr, hp⟩)
def seV (b : Option SB) (fr : List (Nat × SV)) (hp : List SB) (i lo hi sz : Nat) : SV × SS :=
 match b with
 | some (.row _ eb t xs) => seB (sz == t.size) eb t xs fr hp i lo hi
 | _ => (.junk1, ⟨fr, hp⟩)
def ldAr (b : Option SB) (off m sz : Nat) (n : Option Nat) (K : SV → Prop) : Prop :=
 match (match b with
  | some (.struct cells) => match dropC cells off with
   | some (.arr k t xs :: _) => if sz = t.size then some (m < k, t.sv true (xs.getD m t.dflt)) else none
   | _ => seenF cells off m sz
  | _ => none) with
 | some (need, l) => need ∧ (need → match n with
  | none => optC (headC l) K
  | some n => optC (aggO (takeC l n)) K)
 | none => False
def ldA2 (d : Option (List SV)) (cells : List SV) (off m sz : Nat) (n : Option Nat) (K : SV → Prop) : Prop :=
 match (match d with
  | some (.arr k t xs :: _) => if sz = t.size then some (m < k, t.sv true (xs.getD m t.dflt)) else none
  | _ => seenF cells off m sz) with
 | some (need, l) => need ∧ (need → match n with
  | none => optC (headC l) K
  | some n => optC (aggO (takeC l n)) K)
 | none => False
def ldA4 (cells : List SV) (off m sz : Nat) (n : Option Nat) (K : SV → Prop) : Prop :=
 match seenF cells off m sz with
 | some (need, l) => need ∧ (need → match n with
  | none => optC (headC l) K
  | some n => optC (aggO (takeC l n)) K)
 | none => False
def ldA6 (P : Prop) (l : Option (List SV)) (n : Option Nat) (K : SV → Prop) : Prop :=
 match l with
 | some l => P ∧ (P → ldX (some l) n K)
 | none => False
def ldA5 (c : Bool) (k : Nat) (t : Ty) (xs : List t.den) (off m : Nat) (n : Option Nat) (K : SV → Prop) : Prop :=
 match c with
 | true => ldA6 (m < k) (dropC (t.sv true (elt t xs m)) off) n K
 | false => False
def ldAb (c : Bool) (k : Nat) (t : Ty) (xs : List t.den) (m : Nat) (n : Option Nat) (K : SV → Prop) : Prop :=
 match c with
 | true => m < k ∧ ∀ x, x = xs.getD m t.dflt → ldX (some (t.sv true x)) n K
 | false => False
def stA3 (c : Bool) (pre : List SV) (k : Nat) (t : Ty) (xs : List t.den) (rest : List SV) (s : SS) (i m : Nat) (y : Option (t.den × List SV)) (K : SV → SS → Prop) : Prop :=
 match c with
 | true => match y with
  | some (y, []) => m < k ∧ (m < k → K .junk (setS s i (.struct (pre ++ (.arr k t (xs.set m y) :: rest)))))
  | _ => False
 | false => False
def stA2 (p d : Option (List SV)) (s : SS) (i m sz : Nat) (new : List SV) (K : SV → SS → Prop) : Prop :=
 match p with
 | some pre => match d with
  | some (.arr k t xs :: rest) => if sz = t.size then match t.ofSv new with
    | some (y, []) => m < k ∧ (m < k → K .junk (setS s i (.struct (pre ++ (.arr k t (xs.set m y) :: rest)))))
    | _ => False
   else False
  | _ => False
 | none => False
def stA (c : Bool) (b : Option SB) (s : SS) (i off m sz : Nat) (new : List SV) (K : SV → SS → Prop) : Prop :=
  match c with
  | true => match b with
    | some (.struct cells) => match takeC cells off with
      | some pre => match dropC cells off with
        | some (.arr k t xs :: rest) => if sz = t.size then match t.ofSv new with
            | some (y, []) => m < k ∧ (m < k → K .junk (setS s i (.struct (pre ++ (.arr k t (xs.set m y) :: rest)))))
            | _ => False
          else False
        | _ => False
      | none => False
    | _ => False
  | false => False
def stoE (n : Nat) (s : SS) (x : SV) (l : Option (List SV)) (K : SV → SS → Prop) : Prop :=
 match l with
 | some l => onesL (frzAll s l (SV.rowsL l)).2 = true ∧ st1 n (frzAll s l (SV.rowsL l)).1 x (some (frzAll s l (SV.rowsL l)).2) K
 | none => False
def stoG (n : Nat) (x : SV) (r : SS × List SV) (K : SV → SS → Prop) : Prop := onesL r.2 = true ∧ st1 n r.1 x (some r.2) K
def stEl (c : Bool) (b : Option SB) (s : SS) (i m sz off : Nat) (new : List SV) (K : SV → SS → Prop) : Prop :=
  match c with
  | true => match b with
    | some (.row mv eb t xs) => if sz = t.size then match splC (t.sv true (xs.getD m t.dflt)) off new with
        | some l => match t.ofSv l with
          | some (y, []) => m < xs.length ∧ (m < xs.length → K .junk (setS s i (.row mv eb t (xs.set m y))))
          | _ => False
        | none => False
      else False
    | _ => False
  | false => False
def stE4 {t : Ty} (y : Option (t.den × List SV)) (mv : Bool) (eb : Nat) (xs : List t.den) (s : SS) (i m : Nat) (K : SV → SS → Prop) : Prop :=
 match y with
 | some (y, []) => K .junk (setS s i (.row mv eb t (xs.set m y)))
 | _ => False
def stE3 {t : Ty} (l : Option (List SV)) (mv : Bool) (eb : Nat) (xs : List t.den) (s : SS) (i m : Nat) (K : SV → SS → Prop) : Prop :=
 match l with
 | some l => match t.ofSv l with
  | some (y, []) => K .junk (setS s i (.row mv eb t (xs.set m y)))
  | _ => False
 | none => False
def stE2 (c : Bool) (mv : Bool) (eb : Nat) (t : Ty) (xs : List t.den) (s : SS) (i m off : Nat) (new : List SV) (K : SV → SS → Prop) : Prop :=
 match c with
 | true => m < xs.length ∧ ∀ x, xs[m]? = some x → stE3 (splC (t.sv true x) off new) mv eb xs s i m K
 | false => False
theorem ste_eq {mv : Bool} {eb : Nat} {t : Ty} {xs : List t.den} {s : SS} {i m off : Nat} {new : List SV} {K : SV → SS → Prop} :
  (match splC (t.sv true (xs.getD m t.dflt)) off new with
   | some l => match t.ofSv l with
    | some (y, []) => m < xs.length ∧ (m < xs.length → K .junk (setS s i (.row mv eb t (xs.set m y))))
    | _ => False
   | none => False) = stE2 true mv eb t xs s i m off new K := by
 apply propext
 simp only [stE2]
 by_cases hm : m < xs.length
 ·have e : xs[m]? = some (xs.getD m t.dflt) := by
   rw [List.getD_eq_getElem?_getD, List.getElem?_eq_getElem hm]; rfl
  rw [e]
  generalize xs.getD m t.dflt = y
  have : (∀ x, some y = some x → stE3 (splC (t.sv true x) off new) mv eb xs s i m K) ↔ stE3 (splC (t.sv true y) off new) mv eb xs s i m K := ⟨fun h => h y rfl, fun h x hx => by cases hx; exact h⟩
  rw [this]
  unfold stE3
  cases splC (t.sv true y) off new with
  | none => simp
  | some l =>
   simp only
   cases t.ofSv l with
   | none => simp
   | some p =>
    obtain ⟨y', r⟩ := p
    cases r <;> simp [hm]
 ·constructor
  ·intro h
   split at h
   ·split at h
    ·exact absurd h.1 hm
    ·exact h.elim
   ·exact h.elim
  ·intro h; exact absurd h.1 hm
def apO (b : Option SB) (eb : Nat) (t : Ty) (fr : List (Nat × SV)) (hp : List SB) (i : Nat) (H : Prop) (ys : List t.den) (K : SV → SS → Prop) : Prop :=
 match b with
 | some (.row _ eb' t' xs) => if h : t' = t then eb' = eb ∧ (H → xs.length * eb ≤ 140737488355328 → (xs.length + ys.length) * eb ≤ 140737488355328) ∧
   ((xs.length + ys.length) * eb ≤ 140737488355328 → K (.own i) (movS ⟨fr, hp⟩ i (.row true eb t (castT h xs ++ ys)))) else False
 | _ => False
def srcB {t : Ty} (c : Bool) (xs : List t.den) : Option (List t.den) :=
 match c with
 | true => some xs
 | false => none
def srcR (b : Option SB) (t : Ty) : Option (List t.den) :=
 match (match b with
  | some (.row _ eb t xs) => some (⟨true, eb, t, xs⟩ : Cont)
  | _ => none) with
 | some C => if h : C.t = t then (if C.p || t.flat then some (castT h C.xs) else none) else none
 | none => none
def isnW (b : Option SB) (ng : Bool) (lo hi sz : Nat) (s : SS) (K : SV → SS → Prop) : Prop :=
 match b with
 | some (.row _ _ t xs) => sz = t.size ∧ ∀ b : Bool, (b = true → (xs.drop lo).take (hi - lo) = []) → K (.bool (bif ng then !b else b)) s
 | _ => False
def isnO (b : Option SB) (ng : Bool) (s : SS) (K : SV → SS → Prop) : Prop :=
 match b with
 | some (.row _ _ _ xs) => ∀ b : Bool, (b = true → xs = []) → K (.bool (bif ng then !b else b)) s
 | _ => False
def bkB (c : Bool) (idx : List Nat) (N j : Nat) : Option Nat :=
 match c with
 | true => idx[j]?
 | false => some (N + (j - idx.length))
def mvB (c : Bool) (i : Nat) (l : List Nat) : List Nat :=
 match c with
 | true => l
 | false => i :: l
def mapR (f : Nat → Option Nat) (l : List SB) : List SB := l.map (SB.ren f)
def plB (o : Option Nat) (b : SB) (hp' : List SB) (g f : Nat → Option Nat) : SB :=
 match o with
 | some j => mvOr b ((hp'.getD j .gone).ren g)
 | none => b.ren f
def addO : Option Nat → Option Nat
 | some n => some (n + 1)
 | none => none
def getO : Option SB → SB
 | some b => b
 | none => .gone
def rchB (c : Bool) (b : Option SB) (hp : List SB) (n i : Nat) (todo acc : List Nat) : List Nat :=
 match c with
 | true => reach hp n todo acc
 | false => match b with
  | none => reach hp n todo acc
  | some b => if b.live then reach hp n (b.refs ++ todo) (acc ++ [i]) else reach hp n todo acc
def drpB (c : Bool) (r : List SV) (n : Nat) : Option (List SV) :=
 match c with
 | true => dropC r n
 | false => none
def consO (x : SV) : Option (List SV) → Option (List SV)
 | some l => some (x :: l)
 | none => none
def tkB (c : Bool) (x : SV) (r : List SV) (n : Nat) : Option (List SV) :=
 match c with
 | true => consO x (takeC r n)
 | false => none
def hdB (c : Bool) (x : SV) : Option SV :=
 match c with
 | true => none
 | false => some x
def splB (a b : Option (List SV)) (new : List SV) : Option (List SV) :=
 match a with
 | none => none
 | some a => match b with
  | none => none
  | some b => some (a ++ (new ++ b))
def bldB (s : SS) (l : List SV) (off n : Nat) (new : Option (List SV)) (r : List (Nat × Nat × Opd)) : Option (List SV) :=
 match new with
 | none => none
 | some new => if widthL new = n then match splC l off new with
   | some l' => bldC s l' r
   | none => none
  else none
def bldD (c : Bool) (l : Option (List SV)) (s : SS) (r : List (Nat × Nat × Opd)) : Option (List SV) :=
 match c with
 | true => match l with
  | some l => bldC s l r
  | none => none
 | false => none
def stoV (n : Nat) (v : SV × SS) (x : SV) (K : SV → SS → Prop) : Prop := ones (flatS v.1) = true ∧ st1 n v.2 x (flatS v.1) K
def stoB (c : Bool) (n : Nat) (s : SS) (x v : SV) (K : SV → SS → Prop) : Prop :=
 match c with
 | true => match flatS v with
  | some l => onesL (frzAll s l (SV.rowsL l)).2 = true ∧ st1 n (frzAll s l (SV.rowsL l)).1 x (some (frzAll s l (SV.rowsL l)).2) K
  | none => False
 | false => stoV n (settle s v) x K
def stQ (l : Option (List SV)) (s : SS) (i : Nat) (K : SV → SS → Prop) : Prop :=
 match l with
 | some l => K .junk (setS s i (.struct l))
 | none => False
def stP (b : Option SB) (s : SS) (i off : Nat) (new : List SV) (K : SV → SS → Prop) : Prop :=
 match b with
 | some (.struct cells) => stQ (splC cells off new) s i K
 | _ => False
theorem v_skip {Γ L n0 Q s} : rc Γ L n0 .skip Q s = Q .normal s := rt
theorem v_reg {Γ L n0 ops keep Q s} : rc Γ L n0 (.reg ops keep) Q s = runL Γ ops s (regK Q keep) := rt
theorem v_seq {Γ L n0 x y Q s} : rc Γ L n0 (.seq x y) Q s = rc Γ L n0 x (contQ Q (rc Γ L n0 y Q)) s := rt
theorem v_cond {Γ L n0 c x y Q s} : rc Γ L n0 (.cond c x y) Q s = condC (s.get c) Γ L n0 x y Q s := by simp only [rc, condC]; rfl
theorem v_condC {b Γ L n0 x y Q s} : condC (.bool b) Γ L n0 x y Q s = sw b (rc Γ L n0 x Q s) (rc Γ L n0 y Q s) := rt
theorem v_block {Γ L n0 id x Q s} : rc Γ L n0 (.block id x) Q s = rc Γ L n0 x (blockQ id Q) s := rt
theorem v_exit {Γ L n0 id Q s} : rc Γ L n0 (.exit id) Q s = Q (.exit id) s := rt
theorem v_ret {Γ L n0 Q s} : rc Γ L n0 .ret Q s = Q .ret s := rt
theorem v_lift {Γ L n0 d k eb t x Q fr hp} : rc Γ L n0 (.lift d k eb t x) Q ⟨fr, hp⟩ = rc Γ L n0 x Q (liftS ⟨fr, hp⟩ d k eb t (lkF fr d)) := by rw [rc]
theorem v_lfN {fr hp d eb t} : liftS ⟨fr, hp⟩ d none eb t .nils = ⟨upF fr d (.own hp.length), hp ++ [SB.row true eb t []]⟩ := rt
theorem v_lf_own {s d eb t i} : liftS s d none eb t (.own i) = s := rt
theorem v_lf_sl {s d eb t p e t' xs} : liftS s d none eb t (.sl p e t' xs) = s := rt
theorem v_lf_vw {s d eb t i lo hi sz} : liftS s d none eb t (.vw i lo hi sz) = s := rt
theorem v_lf_junk1 {s d eb t} : liftS s d none eb t .junk1 = s := rt
theorem v_lf_junk {s d eb t} : liftS s d none eb t .junk = s := rt
theorem v_lf_ptr {s d eb t i off} : liftS s d none eb t (.ptr i off) = s := rt
theorem v_lf_nilp {s d eb t} : liftS s d none eb t .nilp = s := rt
theorem v_lf_agg {s d eb t l} : liftS s d none eb t (.agg l) = s := rt
theorem v_lf_mp {s d eb t i} : liftS s d none eb t (.mp i) = s := rt
theorem v_lfP {fr hp d k eb t i off} : liftS ⟨fr, hp⟩ d (some k) eb t (.ptr i off) = liftC ⟨fr, hp⟩ i (off + k) eb t (cellsOf (hp[i]?)) (cellV (hp[i]?) (off + k) none) := rt
theorem v_lfPn {s d k eb t} : liftS s d (some k) eb t .nilp = s := rt
theorem v_lfPj {s d k eb t} : liftS s d (some k) eb t .junk = s := rt
theorem v_lfPk {s d k eb t} : liftS s d (some k) eb t .junk1 = s := rt
theorem v_cellsOf {c} : cellsOf (some (.struct c)) = some c := rt
theorem v_lc {fr hp i off eb t c} : liftC ⟨fr, hp⟩ i off eb t (some c) (some .nils) = lcD (splC c off [.own hp.length]) fr hp i eb t := by simp only [liftC, lcD]; cases splC c off [.own hp.length] <;> rfl
theorem v_lcD {c fr hp i eb t} : lcD (some c) fr hp i eb t = ⟨fr, (hp ++ [SB.row true eb t []]).set i (.struct c)⟩ := rt
theorem v_lc_own {s i off eb t c j} : liftC s i off eb t c (some (.own j)) = s := rt
theorem v_lc_sl {s i off eb t c p e t' xs} : liftC s i off eb t c (some (.sl p e t' xs)) = s := rt
theorem v_lc_vw {s i off eb t c j lo hi sz} : liftC s i off eb t c (some (.vw j lo hi sz)) = s := rt
theorem v_lc_junk1 {s i off eb t c} : liftC s i off eb t c (some .junk1) = s := rt
theorem v_lc_junk {s i off eb t c} : liftC s i off eb t c (some .junk) = s := rt
theorem v_frz {Γ L n0 d x Q fr hp} : rc Γ L n0 (.frz d x) Q ⟨fr, hp⟩ = rc Γ L n0 x Q (frzS ⟨fr, hp⟩ (lkF fr d)) := by rw [rc]
theorem v_frzS {fr hp x} : frzS ⟨fr, hp⟩ x = frzT (frzAll ⟨fr, hp⟩ [] (rowsOf hp x)) := rt
theorem v_frzT {s l} : frzT (s, l) = s := rt
theorem v_rwP {hp i off} : rowsOf hp (.ptr i off) = rowsB (hp[i]?) := by simp only [rowsOf, rowsB]; rfl
theorem v_rwB {l} : rowsB (some (.struct l)) = SV.rowsL l := rt
theorem v_rwO_own {hp i} : rowsOf hp (.own i) = SV.rows (.own i) := rt
theorem v_rwO_sl {hp p e t xs} : rowsOf hp (.sl p e t xs) = SV.rows (.sl p e t xs) := rt
theorem v_rwO_nils {hp} : rowsOf hp .nils = SV.rows .nils := rt
theorem v_rwO_agg {hp l} : rowsOf hp (.agg l) = SV.rows (.agg l) := rt
theorem v_rwO_tup {hp l} : rowsOf hp (.tup l) = SV.rows (.tup l) := rt
theorem v_rwO_nilp {hp} : rowsOf hp .nilp = SV.rows .nilp := rt
theorem v_rwO_vw {hp i lo hi sz} : rowsOf hp (.vw i lo hi sz) = SV.rows (.vw i lo hi sz) := rt
theorem v_rows_tup2 {l} : SV.rows (.tup l) = [] := by simp only [SV.rows]
theorem v_swp {Γ L n0 i r c x Q fr hp} : rc Γ L n0 (.swp i r c x) Q ⟨fr, hp⟩ = rc Γ L n0 x Q (swpS ⟨fr, hp⟩ i (cellV (hp[r]?) c none)) := by rw [rc]
theorem v_swpO {fr hp i j} : swpS ⟨fr, hp⟩ i (some (.own j)) = swpB (j == i || !isRow (hp[i]?)) ⟨fr, hp⟩ i j := by simp only [swpS, swpB]; rfl
theorem v_swpT {fr hp i j} : swpB true ⟨fr, hp⟩ i j = swp3 ⟨fr, hp⟩ i (hp[i]?) := rt
theorem v_swp3 {fr hp i mv eb t xs} : swp3 ⟨fr, hp⟩ i (some (.row mv eb t xs)) = ⟨fr, hp.set i (.row true eb t xs)⟩ := rt
theorem v_swpF {fr hp i j} : swpB false ⟨fr, hp⟩ i j = swp2 ⟨fr, hp⟩ i j (hp[j]?) := rt
theorem v_swp2 {fr hp i j mv eb t xs} : swp2 ⟨fr, hp⟩ i j (some (.row mv eb t xs)) = ⟨frRen (swpF i j) fr, ((mapR (swpF i j) hp).set j .gone).set i (.row true eb t xs)⟩ := rt
theorem v_isR {mv eb t xs} : isRow (some (.row mv eb t xs)) = true := rt
theorem v_cellNo {off n} : cellV none off n = none := rt
theorem v_swpNo {s i} : swpS s i none = s := rt
theorem v_swpNp {s i} : swpS s i (some .nilp) = s := rt
theorem v_swpN {s i} : swpS s i (some .nils) = s := rt
theorem v_swpSl {s i p e t xs} : swpS s i (some (.sl p e t xs)) = s := rt
theorem v_swpFn {i j a} : swpF i j a = bif a == j then some i else (bif a == i then none else some a) := rt
theorem v_loop {Γ L n0 id keep x Q s} : rc Γ L n0 (.loop id keep x) Q s = lpK (lkA L id) Γ L n0 keep x Q s := by simp only [rc, lpK, bodyK]; rfl
theorem v_lpK {A Γ L n0 keep x Q s} : lpK (some A) Γ L n0 keep x Q s = ∃ g0, loopI A n0 keep s g0 (bodyK Γ L n0 x Q) := rt
theorem v_lkAC {k A r n} : lkA ((k, A) :: r) n = bif k == n then some A else lkA r n := rt
theorem v_canon {n0 keep fr hp} : canon n0 keep ⟨fr, hp⟩ = canonI (keepF keep fr) hp (reach hp 400 (refsHp n0 hp ++ refsFr (keepF keep fr)) (List.range n0)) := rt
theorem v_canonI {fr hp idx} : canonI fr hp idx = ⟨frRen (posOf idx) fr, selHp idx (posOf idx) hp⟩ := rt
theorem v_regK {Q keep s} : regK Q keep s = Q .normal ⟨keepF keep s.fr, s.hp⟩ := rt
theorem v_contN {Q K s} : contQ Q K .normal s = K s := rt
theorem v_contE {Q K id s} : contQ Q K (.exit id) s = Q (.exit id) s := rt
theorem v_contR {Q K s} : contQ Q K .ret s = Q .ret s := rt
theorem v_blkN {id Q s} : blockQ id Q .normal s = Q .normal s := rt
theorem v_blkR {id Q s} : blockQ id Q .ret s = Q .ret s := rt
theorem v_blkE {id Q i s} : blockQ id Q (.exit i) s = blkC (i == id) Q i s := by simp only [blockQ, blkC]; rfl
theorem v_blkT {Q i s} : blkC true Q i s = Q .normal s := rt
theorem v_blkF {Q i s} : blkC false Q i s = Q (.exit i) s := rt
theorem v_finN {n0 rs K s} : fin n0 rs K .normal s = finS n0 rs (settleTs rs s) K := rt
theorem v_finR {n0 rs K s} : fin n0 rs K .ret s = finS n0 rs (settleTs rs s) K := rt
theorem v_finE {n0 rs K id s} : fin n0 rs K (.exit id) s = False := rt
theorem v_stsN {s} : settleTs [] s = s := rt
theorem v_stsC {t r s} : settleTs (.t t :: r) s = settleTs r (settleT s t) := rt
theorem v_stsD {t n r s} : settleTs (.c t n :: r) s = settleTs r s := rt
theorem v_settleT {t fr hp} : settleT ⟨fr, hp⟩ t = setP t (settle ⟨fr, hp⟩ (lkF fr t)) := rt
theorem v_setP {t x fr hp} : setP t (x, ⟨fr, hp⟩) = ⟨upF fr t x, hp⟩ := rt
theorem v_finS {n0 rs s K} : finS n0 rs s K = finO n0 (resL s rs) s.hp K := rt
theorem v_finO {n0 l hp K} : finO n0 (some l) hp K = finR n0 (oneV l) hp K := rt
theorem v_resLN {s} : resL s [] = some [] := rt
theorem v_resLT {s k r} : resL s (.t k :: r) = consV (some (lkF s.fr k)) (resL s r) := rt
theorem v_resLC {s k n r} : resL s (.c k n :: r) = consV (ptrV s.hp (lkF s.fr k) n) (resL s r) := rt
theorem v_resLW {s i r0 c r} : resL s (.w i r0 c :: r) = resL s r := rt
theorem v_resLF {s k r} : resL s (.f k :: r) = resL s r := rt
theorem v_stsW {i r0 c r fr hp} : settleTs (.w i r0 c :: r) ⟨fr, hp⟩ = settleTs r (swpS ⟨fr, hp⟩ i (cellV (hp[r0]?) c none)) := rt
theorem v_stsF {k r fr hp} : settleTs (.f k :: r) ⟨fr, hp⟩ = settleTs r (frzS ⟨fr, hp⟩ (lkF fr k)) := rt
theorem v_lendB {hp ms x xs eb t} : lend hp (some (eb, t) :: ms) (x :: xs) = lendB hp eb t x (lend hp ms xs) := by simp only [lend, lendB]; cases lend hp ms xs with | none => rfl | some p => rfl
theorem v_lendBN {hp eb t ys l} : lendB hp eb t .nils (some (ys, l)) = some (.sl false eb t [] :: ys, l) := rt
theorem v_lendBS {hp eb t p e t' xs ys l} : lendB hp eb t (.sl p e t' xs) (some (ys, l)) = some (.sl false e t' xs :: ys, l) := rt
theorem v_lendBO {hp eb t i ys l} : lendB hp eb t (.own i) (some (ys, l)) = lendO (hp[i]?) i ys l := by simp only [lendB, cont, lendO]; cases hp[i]? with | none => rfl | some b => cases b <;> rfl
theorem v_lendO {mv eb t xs i ys l} : lendO (some (.row mv eb t xs)) i ys l = some (.sl false eb t xs :: ys, i :: l) := rt
theorem v_unboC {i r x} : unboIf (i :: r) x = x.tr unboF := rt
theorem v_unboHC {i r hp} : unboHp (i :: r) hp = mapT unboF hp := rt
theorem v_ub_int {k n} : unboF (.int k n) = (.int k n) := rt
theorem v_ub_bool {b} : unboF (.bool b) = (.bool b) := rt
theorem v_ub_str {t} : unboF (.str t) = (.str t) := rt
theorem v_ub_nilp : unboF SV.nilp = SV.nilp := rt
theorem v_ub_nils : unboF SV.nils = SV.nils := rt
theorem v_ub_nilm : unboF SV.nilm = SV.nilm := rt
theorem v_ub_nilf : unboF SV.nilf = SV.nilf := rt
theorem v_ub_nili : unboF SV.nili = SV.nili := rt
theorem v_ub_junk1 : unboF SV.junk1 = SV.junk1 := rt
theorem v_ub_junk : unboF SV.junk = SV.junk := rt
theorem v_ub_ptr {i off} : unboF (.ptr i off) = (.ptr i off) := rt
theorem v_ub_own {i} : unboF (.own i) = (.own i) := rt
theorem v_ub_vw {i lo hi sz} : unboF (.vw i lo hi sz) = (.vw i lo hi sz) := rt
theorem v_ub_mp {i} : unboF (.mp i) = (.mp i) := rt
theorem v_ub_el {i n sz off} : unboF (.el i n sz off) = (.el i n sz off) := rt
theorem v_ub_ptrA {i off n sz} : unboF (.ptrA i off n sz) = (.ptrA i off n sz) := rt
theorem v_ub_pty {i T} : unboF (.pty i T) = (.pty i T) := rt
theorem v_ub_svw {i n} : unboF (.svw i n) = (.svw i n) := rt
theorem v_ub_slf {xs} : unboF (.slf xs) = (.slf xs) := rt
theorem v_ub_sl {eb t xs} : unboF (.sl false eb t xs) = .junk1 := rt
theorem v_ub_slt {eb t xs} : unboF (.sl true eb t xs) = .sl true eb t xs := rt
theorem v_consV {x l} : consV (some x) (some l) = some (x :: l) := rt
theorem v_ptrV {hp i off n} : ptrV hp (.ptr i off) n = cellV (hp[i]?) off n := rt
theorem v_cellN {l off} : cellV (some (.struct l)) off none = headO (dropC l off) := rt
theorem v_cellS {l off m} : cellV (some (.struct l)) off (some m) = takeO (dropC l off) m := rt
theorem v_one0 : oneV [] = .tup [] := rt
theorem v_one1 {x} : oneV [x] = x := rt
theorem v_one2 {x y r} : oneV (x :: y :: r) = .tup (x :: y :: r) := rt
theorem v_finRR {n0 r hp K} : finR n0 r hp K = finI r hp (reach hp 400 (refsHp n0 hp ++ r.refs) (List.range n0)) K := rt
theorem v_finI {r hp idx K} : finI r hp idx K = K (r.ren (posOf idx)) (selHp idx (posOf idx) hp) := rt
theorem v_argN {n} : frArgs n [] = [] := rt
theorem v_argC {n x r} : frArgs n (x :: r) = (n, x) :: frArgs (n + 1) r := rt
theorem v_getT {fr hp n} : SS.get ⟨fr, hp⟩ (.t n) = lkF fr n := rt
theorem v_getC {s x} : SS.get s (.c x) = x := rt
theorem v_getF {s f} : SS.get s (.f f) = .fn f [] := rt
theorem v_lkN {n} : lkF [] n = .junk := rt
theorem v_lkC {k x r n} : lkF ((k, x) :: r) n = bif k == n then x else lkF r n := rt
theorem v_upN {n v} : upF [] n v = [(n, v)] := rt
theorem v_upC {k x r n v} : upF ((k, x) :: r) n v = bif k == n then (k, v) :: r else (k, x) :: upF r n v := rt
theorem v_putS {fr hp d v} : SS.put ⟨fr, hp⟩ (some d) v = ⟨upF fr d v, hp⟩ := rt
theorem v_putN {s v} : SS.put s none v = s := rt
theorem v_keepN {fr} : keepF [] fr = [] := rt
theorem v_keepC {k r fr} : keepF (k :: r) fr = (k, lkF fr k) :: keepF r fr := rt
theorem v_fr {fr hp} : SS.fr ⟨fr, hp⟩ = fr := rt
theorem v_hp {fr hp} : SS.hp ⟨fr, hp⟩ = hp := rt
theorem v_runN {Γ s K} : runL Γ [] s K = K s := rt
theorem v_runC {Γ d op r s K} : runL Γ (⟨d, op, none⟩ :: r) s K = step Γ ⟨d, op, none⟩ s (runK Γ r K) := by rw [runL]; rfl
theorem v_runG {Γ d op slot want r s K} : runL Γ (⟨d, op, some (slot, want)⟩ :: r) s K = grdC (lkF s.fr slot) Γ d op slot want r s K := by rw [runL]; rfl
theorem v_runK {Γ r K s} : runK Γ r K s = runL Γ r s K := rt
theorem v_grd {b Γ d op slot want r s K} : grdC (.bool b) Γ d op slot want r s K = sw (b == want) (step Γ ⟨d, op, none⟩ (s.put (some slot) (.bool want)) (runK Γ r K)) (runL Γ r ((s.put (some slot) (.bool (!want))).put d (.tup [])) K) := rt
theorem v_grdT {Γ d op slot want r s K} : grdC (.tup []) Γ d op slot want r s K = runL Γ r (s.put d (.tup [])) K := rt
theorem v_goK {s d K v} : goK s d K v = K (s.put d v) := rt
theorem v_goE {s d K v} : goE d K v s = K (s.put d v) := rt
theorem v_swT {A B} : sw true A B = A := rt
theorem v_swF {A B} : sw false A B = B := rt
theorem v_swN {b A B} : sw (!b) A B = sw b B A := by cases b <;> rfl
theorem v_regD {Γ L n0 ops items keep Q s} : rc Γ L n0 (.regD ops items keep) Q s = runD Γ ops items s (regK Q keep) := rt
theorem v_runDN {Γ al s K} : runD Γ al [] s K = K s := by rw [runD]
theorem v_runDQ {Γ al i r s K} : runD Γ al (.q i :: r) s K = runE' Γ (atA al i) s (runDK Γ al r K) (runDK Γ al r K) := by rw [runD]; rfl
theorem v_runDE {Γ al i pend r s K} : runD Γ al (.e i pend :: r) s K = runE' Γ (atA al i) s (andK (chkL al pend) (runDK Γ al r K)) (runDK Γ al r K) := by rw [runD]; rfl
theorem v_regT {Γ L n0 ops items keep Q s} : rc Γ L n0 (.regT ops items keep) Q s = runT Γ ops items s (regK Q keep) := rt
theorem v_runTN {Γ al s K} : runT Γ al .done s K = K s := by rw [runT]
theorem v_runTQ {Γ al i r s K} : runT Γ al (.q i r) s K = runE' Γ (atA al i) s (runTK Γ al r K) (runTK Γ al r K) := by rw [runT]; rfl
theorem v_runTE {Γ al i pend r alt s K} : runT Γ al (.e i pend r alt) s K = (runE' Γ (atA al i) s (andK (chkL al pend) (runTK Γ al r K)) (runTK Γ al r K) ∧ runT Γ al alt s K) := by rw [runT]; rfl
theorem v_runTO {Γ al s K} : runT Γ al .no s K = True := by rw [runT]
theorem v_runTK {Γ al r K s} : runTK Γ al r K s = runT Γ al r s K := rt
theorem v_runDK {Γ al r K s} : runDK Γ al r K s = runD Γ al r s K := rt
theorem v_runE0 {Γ d op s K1 K2} : runE' Γ ⟨d, op, none⟩ s K1 K2 = step Γ ⟨d, op, none⟩ s K1 := by cases hq : op.quiet <;> simp only [runE', runE, step, hq]
theorem v_runEG {Γ d op slot want s K1 K2} : runE' Γ ⟨d, op, some (slot, want)⟩ s K1 K2 = grdE (lkF s.fr slot) Γ d op slot want s K1 K2 := by simp only [runE', runE, grdE, step]; rfl
theorem v_grdE {b Γ d op slot want s K1 K2} : grdE (.bool b) Γ d op slot want s K1 K2 = sw (b == want) (step Γ ⟨d, op, none⟩ (s.put (some slot) (.bool want)) K1) (K2 ((s.put (some slot) (.bool (!want))).put d (.tup []))) := rt
theorem v_grdET {Γ d op slot want s K1 K2} : grdE (.tup []) Γ d op slot want s K1 K2 = K2 (s.put d (.tup [])) := rt
theorem v_andK {A K s} : andK A K s = (A s ∧ K s) := rt
theorem v_chkN {al s} : chkL al [] s = True := rt
theorem v_chkC {al i r s} : chkL al (i :: r) s = (chk1 (atA al i) s ∧ chkL al r s) := rt
theorem v_chk0 {d op s} : chk1 ⟨d, op, none⟩ s = chkO op s (eqK s d) := by simp only [chk1, chkO]
theorem v_chkG {d op slot want s} : chk1 ⟨d, op, some (slot, want)⟩ s = chkS (lkF s.fr slot) want op s d := by simp only [chk1, chkS, chkO]; rfl
theorem v_chkS {b want op s d} : chkS (.bool b) want op s d = sw (b == want) (chkO op s (eqK s d)) (eqK s d (.tup [])) := rt
theorem v_chkT {want op s d} : chkS (.tup []) want op s d = eqK s d (.tup []) := rt
theorem v_eqK {fr hp d v} : eqK ⟨fr, hp⟩ (some d) v = (lkF fr d = v) := rt
theorem v_atA {al i} : atA al i = atO (al[i]?) := by simp only [atA, atO, List.getD_eq_getElem?_getD]; cases al[i]? <;> rfl
theorem v_atO {o} : atO (some o) = o := rt
theorem v_o_mv {Γ d g s K} {x} : step Γ ⟨d, .mv x, g⟩ s K = goK s d K (s.get x) := rt
theorem v_k_mv {s K} {x} : chkO (.mv x) s K = K (s.get x) := rt
theorem v_o_pick {Γ d g s K} {c a b} : step Γ ⟨d, .pick c a b, g⟩ s K = pickC (s.get c) (s.get a) (s.get b) (goK s d K) := rt
theorem v_k_pick {s K} {c a b} : chkO (.pick c a b) s K = pickC (s.get c) (s.get a) (s.get b) K := rt
theorem v_o_nck {Γ d g s K} {x} : step Γ ⟨d, .nck x, g⟩ s K = nckC (s.get x) (goK s d K) := rt
theorem v_k_nck {s K} {x} : chkO (.nck x) s K = nckC (s.get x) K := rt
theorem v_o_fld {Γ d g s K} {off n x} : step Γ ⟨d, .fld off n x, g⟩ s K = optC (fldV off n (s.get x)) (goK s d K) := rt
theorem v_k_fld {s K} {off n x} : chkO (.fld off n x) s K = optC (fldV off n (s.get x)) K := rt
theorem v_o_fa {Γ d g s K} {off x} : step Γ ⟨d, .fa off x, g⟩ s K = faC off (s.get x) (goK s d K) := rt
theorem v_k_fa {s K} {off x} : chkO (.fa off x) s K = faC off (s.get x) K := rt
theorem v_o_ia {Γ d g s K} {sz x i} : step Γ ⟨d, .ia sz x i, g⟩ s K = iaC s.hp sz (s.get x) (s.get i) (goK s d K) := rt
theorem v_k_ia {s K} {sz x i} : chkO (.ia sz x i) s K = iaC s.hp sz (s.get x) (s.get i) K := rt
theorem v_o_iaA {Γ d g s K} {len sz x i} : step Γ ⟨d, .iaA len sz x i, g⟩ s K = iaAC len sz (s.get x) (s.get i) (goK s d K) := rt
theorem v_k_iaA {s K} {len sz x i} : chkO (.iaA len sz x i) s K = iaAC len sz (s.get x) (s.get i) K := rt
theorem v_o_ixS {Γ d g s K} {x i} : step Γ ⟨d, .ixS x i, g⟩ s K = ixC (s.get x) (s.get i) (goK s d K) := rt
theorem v_k_ixS {s K} {x i} : chkO (.ixS x i) s K = ixC (s.get x) (s.get i) K := rt
theorem v_o_ixA {Γ d g s K} {len x i} : step Γ ⟨d, .ixA len x i, g⟩ s K = ixAC len (s.get x) (s.get i) (goK s d K) := rt
theorem v_k_ixA {s K} {len x i} : chkO (.ixA len x i) s K = ixAC len (s.get x) (s.get i) K := rt
theorem v_o_bldA {Γ d g s K} {zs n t parts} : step Γ ⟨d, .bldA zs n t parts, g⟩ s K = optC (arrO n t (bldC s zs parts)) (goK s d K) := rt
theorem v_k_bldA {s K} {zs n t parts} : chkO (.bldA zs n t parts) s K = optC (arrO n t (bldC s zs parts)) K := rt
theorem v_o_ld {Γ d g s K} {x} : step Γ ⟨d, .ld x, g⟩ s K = ldC s.hp (s.get x) none (goK s d K) := rt
theorem v_k_ld {s K} {x} : chkO (.ld x) s K = ldC s.hp (s.get x) none K := rt
theorem v_o_ldA {Γ d g s K} {n x} : step Γ ⟨d, .ldA n x, g⟩ s K = ldC s.hp (s.get x) (some n) (goK s d K) := rt
theorem v_k_ldA {s K} {n x} : chkO (.ldA n x) s K = ldC s.hp (s.get x) (some n) K := rt
theorem v_o_bin {Γ d g s K} {o x y} : step Γ ⟨d, .bin o x y, g⟩ s K = binV o (s.get x) (s.get y) (goK s d K) := rt
theorem v_k_bin {s K} {o x y} : chkO (.bin o x y) s K = binV o (s.get x) (s.get y) K := rt
theorem v_o_binB {Γ d g s K} {ng x y} : step Γ ⟨d, .binB ng x y, g⟩ s K = binBC ng (s.get x) (s.get y) (goK s d K) := rt
theorem v_k_binB {s K} {ng x y} : chkO (.binB ng x y) s K = binBC ng (s.get x) (s.get y) K := rt
theorem v_o_eqS {Γ d g s K} {ng ts x y} : step Γ ⟨d, .eqS ng ts x y, g⟩ s K = eqSC ng ts (s.get x) (s.get y) (goK s d K) := rt
theorem v_k_eqS {s K} {ng ts x y} : chkO (.eqS ng ts x y) s K = eqSC ng ts (s.get x) (s.get y) K := rt
theorem v_o_eqR {Γ d g s K} {ng n x y} : step Γ ⟨d, .eqR ng n x y, g⟩ s K = eqRC ng n (s.get x) (s.get y) (goK s d K) := rt
theorem v_k_eqR {s K} {ng n x y} : chkO (.eqR ng n x y) s K = eqRC ng n (s.get x) (s.get y) K := rt
theorem v_o_eqn {Γ d g s K} {ng k x y} : step Γ ⟨d, .eqn ng k x y, g⟩ s K = eqnC ng k (s.get x) (s.get y) (goK s d K) := rt
theorem v_k_eqn {s K} {ng k x y} : chkO (.eqn ng k x y) s K = eqnC ng k (s.get x) (s.get y) K := rt
theorem v_o_not {Γ d g s K} {x} : step Γ ⟨d, .not x, g⟩ s K = notC (s.get x) (goK s d K) := rt
theorem v_k_not {s K} {x} : chkO (.not x) s K = notC (s.get x) K := rt
theorem v_o_neg {Γ d g s K} {x} : step Γ ⟨d, .neg x, g⟩ s K = negC (s.get x) (goK s d K) := rt
theorem v_k_neg {s K} {x} : chkO (.neg x) s K = negC (s.get x) K := rt
theorem v_o_cv {Γ d g s K} {k x} : step Γ ⟨d, .cv k x, g⟩ s K = cvC k (s.get x) (goK s d K) := rt
theorem v_k_cv {s K} {k x} : chkO (.cv k x) s K = cvC k (s.get x) K := rt
theorem v_o_b2s {Γ d g s K} {x} : step Γ ⟨d, .b2s x, g⟩ s K = b2sC s.hp (s.get x) (goK s d K) := rt
theorem v_k_b2s {s K} {x} : chkO (.b2s x) s K = b2sC s.hp (s.get x) K := rt
theorem v_o_ext {Γ d g s K} {x i} : step Γ ⟨d, .ext x i, g⟩ s K = extC (s.get x) i (goK s d K) := rt
theorem v_k_ext {s K} {x i} : chkO (.ext x i) s K = extC (s.get x) i K := rt
theorem v_o_len {Γ d g s K} {k x} : step Γ ⟨d, .len k x, g⟩ s K = lenC s.hp k (s.get x) (goK s d K) := rt
theorem v_k_len {s K} {k x} : chkO (.len k x) s K = lenC s.hp k (s.get x) K := rt
theorem v_o_mm {Γ d g s K} {mx x y} : step Γ ⟨d, .mm mx x y, g⟩ s K = mmC mx (s.get x) (s.get y) (goK s d K) := rt
theorem v_k_mm {s K} {mx x y} : chkO (.mm mx x y) s K = mmC mx (s.get x) (s.get y) K := rt
theorem v_o_lk {Γ d g s K} {va kt vt ok x k} : step Γ ⟨d, .lk va kt vt ok x k, g⟩ s K = lkC2 s.hp va kt vt ok (s.get x) (s.get k) (goK s d K) := rt
theorem v_k_lk {s K} {va kt vt ok x k} : chkO (.lk va kt vt ok x k) s K = lkC2 s.hp va kt vt ok (s.get x) (s.get k) K := rt
theorem v_o_bld {Γ d g s K} {zs parts} : step Γ ⟨d, .bld zs parts, g⟩ s K = optC (aggO (bldC s zs parts)) (goK s d K) := rt
theorem v_k_bld {s K} {zs parts} : chkO (.bld zs parts) s K = optC (aggO (bldC s zs parts)) K := rt
theorem v_o_mkf {Γ d g s K} {f caps} : step Γ ⟨d, .mkf f caps, g⟩ s K = goK s d K (.fn f (caps.map s.get)) := rt
theorem v_k_mkf {s K} {f caps} : chkO (.mkf f caps) s K = K (.fn f (caps.map s.get)) := rt
theorem v_o_slR {Γ d g s K} {sz x lo hi} : step Γ ⟨d, .slR sz x lo hi, g⟩ s K = slRC s sz (s.get x) lo hi (goK s d K) := rt
theorem v_k_slR {s K} {sz x lo hi} : chkO (.slR sz x lo hi) s K = slRC s sz (s.get x) lo hi K := rt
theorem v_o_slS {Γ d g s K} {x lo hi} : step Γ ⟨d, .slS x lo hi, g⟩ s K = slSC s (s.get x) lo hi (goK s d K) := rt
theorem v_k_slS {s K} {x lo hi} : chkO (.slS x lo hi) s K = slSC s (s.get x) lo hi K := rt
theorem v_o_cvS {Γ d g s K} {x} : step Γ ⟨d, .cvS x, g⟩ s K = cvSC (s.get x) (goK s d K) := rt
theorem v_k_cvS {s K} {x} : chkO (.cvS x) s K = cvSC (s.get x) K := rt
theorem v_ixA {len k k2 n K} {xs : List Int} : ixAC len (.agg [.arr len (.int k) (no_index xs)]) (.int k2 n) K = nd (0 ≤ n ∧ n < len) (K (.int k (elt (.int k) xs n.toNat))) := by
 simp only [ixAC, ixAV, Ty.size, if_true, and_self, Ty.sv, headC, SV.isArr, Option.map_some, elt, nd]
 rfl
theorem v_arrO {n t l} : arrO n t (some l) = arrO1 n t (t.ofSvL n l) := by simp only [arrO, arrO1]; rfl
theorem v_arrO1 {n t xs} : arrO1 n t (no_index (some xs)) = bif t.flat then some (.agg [.arr n t xs]) else none := by simp only [arrO1]; cases t.flat <;> rfl
theorem v_b2sN {hp K} : b2sC hp .nils K = K (.str ByteArray.empty) := rt
theorem v_b2sL {hp p eb K} {xs : List UInt8} : b2sC hp (.sl p eb .byte (no_index xs)) K = gS ⟨xs.toArray⟩ K := by simp only [b2sC, cont]
theorem v_b2sO {hp i K} : b2sC hp (.own i) K = b2sR (hp[i]?) K := by simp only [b2sC, cont, b2sR]; cases hp[i]? with | none => rfl | some b => cases b <;> rfl
theorem v_b2sR {mv eb K} {xs : List UInt8} : b2sR (some (.row mv eb .byte (no_index xs))) K = gS ⟨xs.toArray⟩ K := by simp only [b2sR]
theorem v_b2sV {hp i lo hi sz K} : b2sC hp (.vw i lo hi sz) K = b2sW (hp[i]?) lo hi sz K := by simp only [b2sC, cont, b2sW]; cases hp[i]? with | none => rfl | some b => cases b <;> rfl
theorem v_b2sW {mv eb lo hi K} {xs : List UInt8} : b2sW (some (.row mv eb .byte (no_index xs))) lo hi 1 K = gS ⟨((xs.drop lo).take (hi - lo)).toArray⟩ K := by simp only [b2sW, Ty.size, if_true]
theorem v_ldA {hp i off m sz n K} : ldC hp (.ptrA i off m sz) n K = ldAr (hp[i]?) off m sz n K := by simp only [ldC, seen, ldAr]; rfl
theorem v_ldAr {cells off m sz n K} : ldAr (some (.struct cells)) off m sz n K = ldA2 (dropC cells off) cells off m sz n K := by simp only [ldAr, ldA2] <;> rfl
theorem v_ldA2 {k t xs r cells off m sz n K} : ldA2 (some (.arr k t xs :: r)) cells off m sz n K = ldAb (sz == t.size) k t xs m n K := by
 simp only [ldA2]
 by_cases h : sz = t.size
 ·subst h
  simp only [if_true, beq_self_eq_true, ldAb]
  apply propext
  constructor
  ·rintro ⟨h1, h2⟩
   refine ⟨h1, ?_⟩
   rintro x rfl
   exact h2 h1
  ·rintro ⟨h1, h2⟩
   exact ⟨h1, fun _ => h2 _ rfl⟩
 ·have h2 : (sz == t.size) = false := beq_eq_false_iff_ne.2 h
  simp only [if_neg h, h2, ldAb]
theorem v_ldA3 {cells off m sz n K} : ldA2 none cells off m sz n K = ldA4 cells off m sz n K := by simp only [ldA2, ldA4]
theorem v_ldA4 {k t xs r off m sz n K} : ldA4 (.arr k t xs :: r) off m sz n K = ldA5 (sz == t.size) k t xs off m n K := by
 simp only [ldA4, seenF]
 by_cases h : sz = t.size
 ·subst h
  simp only [if_true, beq_self_eq_true, ldA5, elt]
  cases dropC (t.sv true (xs.getD m t.dflt)) off with
  | none => rfl
  | some l => simp only [Option.map_some, ldX]; rfl
 ·have h2 : (sz == t.size) = false := beq_eq_false_iff_ne.2 h
  simp only [if_neg h, h2, ldA5]
theorem v_ldA5 {k t xs off m n K} : ldA5 true k t xs off m n K = ldA6 (m < k) (dropC (t.sv true (elt t xs m)) off) n K := by simp only [ldA5, ldA6]
theorem v_ldA6 {P l n K} : ldA6 P (some l) n K = nd P (ldX (some l) n K) := by simp only [ldA6]; rfl
theorem v_ldAb {k t xs m n K} : ldAb true k t xs m n K = (nd (m < k) (ldX (some (t.sv true (elt t xs m))) n K)) := by simp only [ldAb, elt]; exact propext ⟨fun h => ⟨h.1, fun _ => h.2 _ rfl⟩, fun h => ⟨h.1, fun x hx => hx ▸ h.2 h.1⟩⟩
theorem v_stA {n s i off m sz new K} : st1 n s (.ptrA i off m sz) (some new) K = stA (widthL new == n) (s.hp[i]?) s i off m sz new K := by
 simp only [st1, stA]
 by_cases h : widthL new = n
 ·rw [if_pos h, show (widthL new == n) = true by simp [h]] <;> rfl
 ·rw [if_neg h, show (widthL new == n) = false by simp [h]]
theorem v_stA1 {cells s i off m sz new K} : stA true (some (.struct cells)) s i off m sz new K = stA2 (takeC cells off) (dropC cells off) s i m sz new K := by simp only [stA, stA2] <;> rfl
theorem v_stA2 {pre k t xs rest s i m sz new K} : stA2 (some pre) (some (.arr k t xs :: rest)) s i m sz new K = stA3 (sz == t.size) pre k t xs rest s i m (t.ofSv new) K := by
 simp only [stA2, stA3]
 by_cases h : sz = t.size
 ·rw [if_pos h, show (sz == t.size) = true by simp [h]] <;> rfl
 ·rw [if_neg h, show (sz == t.size) = false by simp [h]]
theorem v_stA3 {pre k t xs rest fr hp i m y K} : stA3 true pre k t xs rest ⟨fr, hp⟩ i m (no_index (some (y, []))) K = (nd (m < k) (K .junk ⟨fr, hp.set i (.struct (pre ++ (.arr k t (xs.set m y) :: rest)))⟩)) := rt
theorem v_stoT {n s x v K} : stoB true n s x v K = stoE n s x (flatS v) K := by simp only [stoB, stoE] <;> rfl
theorem v_stoE {n s x l K} : stoE n s x (some l) K = stoG n x (frzAll s l (SV.rowsL l)) K := rt
theorem v_stoG {n s x l K} : stoG n x (s, l) K = (onesL l = true ∧ st1 n s x (some l) K) := rt
theorem v_stE {n s i m sz off new K} : st1 n s (.el i m sz off) (some new) K = stEl (widthL new == n) (s.hp[i]?) s i m sz off new K := by
 simp only [st1, stEl]
 by_cases h : widthL new = n
 ·rw [if_pos h, show (widthL new == n) = true by simp [h]] <;> rfl
 ·rw [if_neg h, show (widthL new == n) = false by simp [h]]
theorem v_stEr {mv eb t xs s i m sz off new K} : stEl true (some (.row mv eb t xs)) s i m sz off new K = stE2 (sz == t.size) mv eb t xs s i m off new K := by
 simp only [stEl, stE2]
 by_cases h : sz = t.size
 ·rw [if_pos h, show (sz == t.size) = true by simp [h]]
  exact ste_eq
 ·rw [if_neg h, show (sz == t.size) = false by simp [h]]
theorem v_stE2 {mv eb t xs s i m off new K} : stE2 true mv eb t xs s i m off new K = (nd (m < xs.length) (stE3 (splC (t.sv true (elt t xs m)) off new) mv eb xs s i m K)) := by simp only [stE2]; exact elt_all (t := t) (P := fun x => stE3 (splC (t.sv true x) off new) mv eb xs s i m K)
theorem v_stE3 {t : Ty} {xs : List t.den} {l mv eb s i m K} : stE3 (some l) mv eb xs s i m K = stE4 (t.ofSv l) mv eb xs s i m K := by simp only [stE3, stE4] <;> rfl
theorem v_stE4 {t : Ty} {xs : List t.den} {y : t.den} {mv eb fr hp i m K} : stE4 (no_index (some (y, []))) mv eb xs ⟨fr, hp⟩ i m K = K .junk ⟨fr, hp.set i (.row mv eb t (xs.set m y))⟩ := rt
theorem v_bdN {s d K} : bdC s d none K = K d := rt
theorem v_bdS {s d x K} : bdC s d (some x) K = bdI (s.get x) K := by simp only [bdC, bdI]; rfl
theorem v_bdI {k n K} : bdI (.int k n) K = K n := rt
theorem v_slRn {s sz lo hi K} : slRC s sz .nils lo hi K = bdC s 0 lo fun l => bdC s 0 hi fun h => (l = 0 ∧ h = 0) ∧ (l = 0 → h = 0 → K .nils) := rt
theorem v_slRs {s sz p eb t xs lo hi K} : slRC s sz (.sl p eb t xs) lo hi K = (sz = t.size ∧ bdC s 0 lo fun l => bdC s xs.length hi fun h => nd (0 ≤ l ∧ l ≤ h ∧ h ≤ xs.length) (∀ ys, ys = (xs.drop l.toNat).take (h.toNat - l.toNat) → K (.sl p eb t ys))) := by simp only [slRC, slSC, nd, and_imp]
theorem v_slRo {s sz j lo hi K} : slRC s sz (.own j) lo hi K = slRO s sz j (s.hp[j]?) lo hi K := rt
theorem v_slRO {s sz j mv eb t xs lo hi K} : slRO s sz j (some (.row mv eb t xs)) lo hi K = (sz = t.size ∧ bdC s 0 lo fun l => bdC s xs.length hi fun h => nd (0 ≤ l ∧ l ≤ h ∧ h ≤ xs.length) (K (.vw j l.toNat h.toNat sz))) := by simp only [slRO, two_pt, nd, and_imp]
theorem v_slRv {s sz j a b sz' lo hi K} : slRC s sz (.vw j a b sz') lo hi K = slRV s sz sz' j a b (s.hp[j]?) lo hi K := rt
theorem v_slRV {s sz sz' j a b mv eb t xs lo hi K} : slRV s sz sz' j a b (some (.row mv eb t xs)) lo hi K = ((sz = sz' ∧ sz = t.size) ∧ bdC s 0 lo fun l => bdC s ((b - a : Nat) : Int) hi fun h => nd (0 ≤ l ∧ l ≤ h ∧ h ≤ ((b - a : Nat) : Int)) (K (.vw j (a + l.toNat) (a + h.toNat) sz))) := by simp only [slRV, two_pt, nd, and_imp]
theorem v_slSs {s b lo hi K} : slSC s (.str b) lo hi K = bdC s 0 lo fun l => bdC s b.size hi fun h => nd (0 ≤ l ∧ l ≤ h ∧ h ≤ b.size) (gS (b.extract l.toNat h.toNat) K) := by simp only [slRC, slSC, nd, and_imp]
theorem v_cvSs {b K} : cvSC (.str b) K = K (.str b) := rt
theorem v_o_isn {Γ d g s K} {ng x} : step Γ ⟨d, .isn ng x, g⟩ s K = isnC ng (s.get x) s (goE d K) := by simp only [step, AOp.quiet, eff, isnC]; rfl
theorem v_isnN {ng s K} : isnC ng .nils s K = K (.bool (!ng)) s := rt
theorem v_isnS {ng p eb t xs s K} : isnC ng (.sl p eb t xs) s K = ∀ b : Bool, (b = true → xs = []) → K (.bool (bif ng then !b else b)) s := rt
theorem v_o_alc {Γ d g fr hp K} {zs} : step Γ ⟨d, .alc zs, g⟩ ⟨fr, hp⟩ K = goE d K (.ptr hp.length 0) ⟨fr, hp ++ [.struct zs]⟩ := rt
theorem v_o_alcT {Γ d g fr hp K} {T zs} : step Γ ⟨d, .alcT T zs, g⟩ ⟨fr, hp⟩ K = goE d K (.pty hp.length T) ⟨fr, hp ++ [.struct zs]⟩ := rt
theorem v_o_mkm {Γ d g fr hp K} {va kt vt} : step Γ ⟨d, .mkm va kt vt, g⟩ ⟨fr, hp⟩ K = goE d K (.mp hp.length) ⟨fr, hp ++ [.map va kt vt []]⟩ := rt
theorem v_o_st {Γ d g s K} {n x v} : step Γ ⟨d, .st n x v, g⟩ s K = stores n s (s.get x) (s.get v) (goE d K) := rt
theorem v_o_app {Γ d g s K} {eb t x y} : step Γ ⟨d, .app eb t x y, g⟩ s K = app2 eb t (settle s (s.get x)) (srcH s.hp (s.get y)) (srcOf s.hp t (s.get y)) (goE d K) := rt
theorem v_app2 {eb t x s H ys K} : app2 eb t (x, s) H ys K = app1 eb t s x H ys K := rt
theorem v_o_box {Γ d g fr hp K} {x} : step Γ ⟨d, .box x, g⟩ ⟨fr, hp⟩ K = boxC (flatS (SS.get ⟨fr, hp⟩ x)) fr hp (goE d K) := by simp only [step, AOp.quiet, eff, boxC]; rfl
theorem v_boxC {l fr hp K} : boxC (some l) fr hp K = K (.ptr hp.length 0) ⟨fr, hp ++ [.struct l]⟩ := rt
theorem v_o_call {Γ d g s K} {f ms args} : step Γ ⟨d, .call f ms args, g⟩ s K = callC0 (lkC Γ f) (lend s.hp ms (args.map s.get)) s (goE d K) := by simp only [step, AOp.quiet, eff, callC0]; rfl
theorem v_o_callv {Γ d g s K} {x ms args} : step Γ ⟨d, .callv x ms args, g⟩ s K = callVC Γ ms (args.map s.get) s (s.get x) (goE d K) := by simp only [step, AOp.quiet, eff, callVC]; rfl
theorem v_callVC {Γ ms l s f caps K} : callVC Γ ms l s (.fn f caps) K = bif (f / 1000000 == 0) then callC0 (lkC Γ f) (lend s.hp (ms ++ nones caps) (l ++ caps)) s K else callC0 (lkC Γ (f % 1000000)) (lend s.hp (nones caps ++ ms) (caps ++ l)) s K := by by_cases h : f < 1000000 <;> simp [callVC, callC0, h, Nat.div_eq_zero_iff] <;> rfl
theorem v_nonesN : nones [] = [] := rt
theorem v_nonesC {x r} : nones (x :: r) = none :: nones r := rt
theorem v_callC0 {C al s K} : callC0 (some C) al s K = callC1 C al s K := rt
theorem v_callC1 {C args lent s K} : callC1 C (some (args, lent)) s K = callC2 C (reach s.hp 400 (SV.refsL args) []) lent args s K := rt
theorem v_callC2 {C idx lent args s K} : callC2 C idx lent args s K = ((lent.all fun i => !idx.contains i) = true ∧ C (SV.renL (posOf idx) args) ((selHp idx (posOf idx) s.hp).map SB.reset) (plugK idx lent s K)) := rt
theorem v_plugK {idx lent fr hp K r hp'} : plugK idx lent ⟨fr, hp⟩ K r hp' = K ((unboIf lent r).ren (back idx hp.length)) ⟨frRen (but2 (movedL idx hp')) fr, plugHp idx hp (unboHp lent hp')⟩ := rt
theorem v_lkCN {f} : lkC [] f = none := rt
theorem v_lkCC {k c r f} : lkC ((k, c) :: r) f = bif k == f then some c else lkC r f := rt
theorem v_lendN {hp} : lend hp [] [] = some ([], []) := rt
theorem v_lendC {hp ms x xs} : lend hp (none :: ms) (x :: xs) = lendK x (lend hp ms xs) := by simp only [lend, lendK]; rfl
theorem v_lendK {x ys l} : lendK x (some (ys, l)) = some (x :: ys, l) := rt
theorem v_pick {c a b K} : pickC (.bool c) a b K = sw c (K a) (K b) := rt
theorem v_nck_ptr {i off K} : nckC (.ptr i off) K = K (.ptr i off) := rt
theorem v_nck_el {i n sz off K} : nckC (.el i n sz off) K = K (.el i n sz off) := rt
theorem v_nck_rel {p eb t xs n off K} : nckC (.rel p eb t xs n off) K = K (.rel p eb t xs n off) := rt
theorem v_nck_fn {f caps K} : nckC (.fn f caps) K = K (.fn f caps) := rt
theorem v_nck_pty {i T K} : nckC (.pty i T) K = K (.pty i T) := rt
theorem v_optS {v K} : optC (some v) K = K v := rt
theorem v_fldN {off l} : fldV off none (.agg l) = headO (dropC l off) := rt
theorem v_fldS {off n l} : fldV off (some n) (.agg l) = takeO (dropC l off) n := rt
theorem v_headO {l} : headO (some l) = headC l := rt
theorem v_takeO {l n} : takeO (some l) n = aggO (takeC l n) := rt
theorem v_aggO {l} : aggO (some l) = some (.agg l) := rt
theorem v_faP {off i o K} : faC off (.ptr i o) K = K (.ptr i (o + off)) := rt
theorem v_faE {off i n sz o K} : faC off (.el i n sz o) K = K (.el i n sz (o + off)) := rt
theorem v_faT {off i T K} : faC off (.pty i T) K = K (.ptr i off) := rt
theorem v_faA {off i n sz o K} : faC off (.ptrA i o n sz) K = K (.ptrA i (o + off) n sz) := rt
theorem v_faR {off p eb t xs n o K} : faC off (.rel p eb t xs n o) K = K (.rel p eb t xs n (o + off)) := rt
theorem v_iaS {hp sz p eb t xs k n K} : iaC hp sz (.sl p eb t xs) (.int k n) K = (sz = t.size ∧ nd (0 ≤ n ∧ n < xs.length) (K (.rel p eb t xs n.toNat 0))) := by simp only [iaC, iaO, iaAC, forall_eq, nd]
theorem v_iaO {hp sz j k n K} : iaC hp sz (.own j) (.int k n) K = iaO (hp[j]?) sz j n K := by simp only [iaC, iaO]; rfl
theorem v_iaO1 {sz j n K mv eb t xs} : iaO (some (.row mv eb t xs)) sz j n K = (nd (0 ≤ n ∧ n < xs.length) (K (.el j n.toNat sz 0))) := by simp only [iaC, iaO, iaAC, forall_eq, nd]
theorem v_iaV {hp sz j lo hi sz' k n K} : iaC hp sz (.vw j lo hi sz') (.int k n) K = iaV (hp[j]?) sz sz' j lo hi n K := by simp only [iaC, iaV]; rfl
theorem v_iaV1 {sz sz' j lo hi n K mv eb t xs} : iaV (some (.row mv eb t xs)) sz sz' j lo hi n K = ((sz = sz' ∧ sz = t.size) ∧ nd (0 ≤ n ∧ lo + n < hi ∧ hi ≤ xs.length) (K (.el j (lo + n.toNat) sz 0))) := by simp only [iaV, forall_eq, nd]
theorem v_lenV {hp i lo hi sz K} : lenC hp .s (.vw i lo hi sz) K = lenW (hp[i]?) lo hi sz K := by
 simp only [lenC, cont, lenW]
 cases hp[i]? with
 | none => rfl
 | some b =>
  cases b with
  | row mv eb t xs =>
   simp only
   by_cases h : sz = t.size <;> simp [h]
  | _ => rfl
theorem v_lenW {mv eb t xs lo hi sz K} : lenW (some (.row mv eb t xs)) lo hi sz K = (sz = t.size ∧ (((xs.drop lo).take (hi - lo)).length ≤ maxLen → ((xs.drop lo).take (hi - lo)).length * eb ≤ 140737488355328 → gI .i64 ((xs.drop lo).take (hi - lo)).length K)) := rt
theorem v_iaA {len sz j off k n K} : iaAC len sz (.ptr j off) (.int k n) K = (nd (0 ≤ n ∧ n < len) (K (.ptrA j off n.toNat sz))) := by simp only [iaC, iaO, iaAC, forall_eq, nd]
theorem v_ixS {b k n K} : ixC (.str b) (.int k n) K = (nd (0 ≤ n ∧ n < b.size) (gI .u8 ((b.data.toList.getD n.toNat 0).toNat : Int) K)) := rt
theorem v_ldP {hp i off n K} : ldC hp (.ptr i off) n K = ldP (hp[i]?) off n K := by simp only [ldC, ldP]; rfl
theorem v_ldPN {cells off K} : ldP (some (.struct cells)) off none K = optC (headO (dropC cells off)) K := rt
theorem v_ldPS {cells off n K} : ldP (some (.struct cells)) off (some n) K = optC (takeO (dropC cells off) n) K := rt
theorem v_ldR {hp p eb t xs m off n K} : ldC hp (.rel p eb t xs m off) n K = (nd (m < xs.length) (ldX (dropC (t.sv p (elt t xs m)) off) n K)) := by
 simp only [ldC, seen]
 exact (ldx_eq (fun x => dropC (t.sv p x) off) n K).trans (elt_all (t := t) (P := fun x => ldX (dropC (t.sv p x) off) n K))
theorem v_ldXN {l K} : ldX (some l) none K = optC (headC l) K := rt
theorem v_ldXS {l n K} : ldX (some l) (some n) K = optC (aggO (takeC l n)) K := rt
theorem v_ldEr {mv eb t xs m sz off n K} : ldE (some (.row mv eb t xs)) m sz off n K = ldEb (sz == t.size) t xs m off n K := by
 simp only [ldE]
 by_cases h : sz = t.size
 ·subst h
  simp only [if_true, beq_self_eq_true, ldEb]
  exact ldx_eq (fun x => dropC (t.sv true x) off) n K
 ·have h2 : (sz == t.size) = false := beq_eq_false_iff_ne.2 h
  simp only [if_neg h, h2, ldEb]
theorem v_ldEb {t xs m off n K} : ldEb true t xs m off n K = (nd (m < xs.length) (ldX (dropC (t.sv true (elt t xs m)) off) n K)) := by simp only [ldEb]; exact elt_all (t := t) (P := fun x => ldX (dropC (t.sv true x) off) n K)
theorem v_ldRN {l need K} : ldR (some l) need none K = (need ∧ (need → optC (headC l) K)) := rt
theorem v_ldRS {l need n K} : ldR (some l) need (some n) K = (need ∧ (need → optC (aggO (takeC l n)) K)) := rt
theorem v_ldE {hp i m sz off n K} : ldC hp (.el i m sz off) n K = ldE (hp[i]?) m sz off n K := by simp only [ldC, seen, ldE]; rfl
theorem v_binII {o k a k' b K} : binV o (.int k a) (.int k' b) K = binC o k k' a b K := rt
theorem v_binSS {o a b K} : binV o (.str a) (.str b) K = binSC o a b K := rt
theorem v_i_add {k a b K} : binC .add k k a b K = (inR k a → inR k b → gI k (k.wrap (a + b)) K) := by simp only [binC, true_and]
theorem v_i_sub {k a b K} : binC .sub k k a b K = (inR k a → inR k b → gI k (k.wrap (a - b)) K) := by simp only [binC, true_and]
theorem v_i_mul {k a b K} : binC .mul k k a b K = (inR k a → inR k b → gI k (k.wrap (a * b)) K) := by simp only [binC, true_and]
theorem v_i_and {k a b K} : binC .and k k a b K = (inR k a → inR k b → gI k (bitsI .and k a b) K) := by simp only [binC, true_and]
theorem v_i_or {k a b K} : binC .or k k a b K = (inR k a → inR k b → gI k (bitsI .or k a b) K) := by simp only [binC, true_and]
theorem v_i_xor {k a b K} : binC .xor k k a b K = (inR k a → inR k b → gI k (bitsI .xor k a b) K) := by simp only [binC, true_and]
theorem v_i_andNot {k a b K} : binC .andNot k k a b K = (inR k a → inR k b → gI k (bitsI .andNot k a b) K) := by simp only [binC, true_and]
theorem v_i_quo {k a b K} : binC .quo k k a b K = (b ≠ 0 ∧ (b ≠ 0 → inR k a → inR k b → gI k (k.wrap (a.tdiv b)) K)) := by simp only [binC, true_and]
theorem v_i_rem {k a b K} : binC .rem k k a b K = (b ≠ 0 ∧ (b ≠ 0 → inR k a → inR k b → gI k (a.tmod b) K)) := by simp only [binC, true_and]
theorem v_i_shl {k k' a b K} : binC .shl k k' a b K = (0 ≤ b ∧ (0 ≤ b → inR k a → inR k' b → gI k (k.wrap (a * 2 ^ (min b.toNat k.bits))) K)) := rt
theorem v_i_shr {k k' a b K} : binC .shr k k' a b K = (0 ≤ b ∧ (0 ≤ b → inR k a → inR k' b → gI k (a.fdiv (2 ^ (min b.toNat k.bits))) K)) := rt
theorem v_i_eql {k a b K} : binC .eql k k a b K = gB (decide (a = b)) K := by simp only [binC, true_and]
theorem v_i_neq {k a b K} : binC .neq k k a b K = gB (!decide (a = b)) K := by simp only [binC, true_and]
theorem v_i_lss {k a b K} : binC .lss k k a b K = gB (decide (a < b)) K := by simp only [binC, true_and]
theorem v_i_leq {k a b K} : binC .leq k k a b K = gB (decide (a ≤ b)) K := by simp only [binC, true_and]
theorem v_i_gtr {k a b K} : binC .gtr k k a b K = gB (decide (b < a)) K := by simp only [binC, true_and]
theorem v_i_geq {k a b K} : binC .geq k k a b K = gB (decide (b ≤ a)) K := by simp only [binC, true_and]
theorem v_s_eql {a b K} : binSC .eql a b K = gB (decide (a = b)) K := rt
theorem v_s_neq {a b K} : binSC .neq a b K = gB (!decide (a = b)) K := rt
theorem v_s_lss {a b K} : binSC .lss a b K = gB (ltS a b) K := rt
theorem v_s_leq {a b K} : binSC .leq a b K = gB (ltS a b || decide (a = b)) K := rt
theorem v_s_gtr {a b K} : binSC .gtr a b K = gB (!(ltS a b || decide (a = b))) K := rt
theorem v_s_geq {a b K} : binSC .geq a b K = gB (!ltS a b) K := rt
theorem v_s_add {a b K} : binSC .add a b K = (a.size + b.size ≤ maxLen ∧ gS (a ++ b) K) := rt
theorem v_gBT {K} : gB true K = K (.bool true) := by simp only [gB]; exact propext ⟨fun h => h _ rfl, fun h c hc => by subst hc; exact h⟩
theorem v_gBF {K} : gB false K = K (.bool false) := by simp only [gB]; exact propext ⟨fun h => h _ rfl, fun h c hc => by subst hc; exact h⟩
theorem v_gIL {k n K} [i : OfNat Int n] : gI k (no_index (@OfNat.ofNat Int n i)) K = K (.int k (OfNat.ofNat n)) := by simp only [gI]; exact propext ⟨fun h => h _ rfl, fun h c hc => by subst hc; exact h⟩
theorem v_ndnd {A K} : nd A (nd A K) = nd A K := by simp only [nd]; exact propext ⟨fun h => ⟨h.1, fun a => (h.2 a).2 a⟩, fun h => ⟨h.1, fun a => ⟨a, h.2⟩⟩⟩
theorem v_ndA {A K} : nd A (A ∧ K) = nd A K := by simp only [nd]; exact propext ⟨fun h => ⟨h.1, fun a => (h.2 a).2⟩, fun h => ⟨h.1, fun a => ⟨a, h.2 a⟩⟩⟩
theorem v_ndTr {A} : nd A True = A := by simp only [nd, implies_true, and_true]
theorem v_ndT {K} : nd True K = K := by simp only [nd, true_and, forall_const]
theorem v_gI {k n K} : gI k n K = ∀ m : Int, m = n → K (.int k m) := rt
theorem v_gB {b K} : gB b K = ∀ c : Bool, c = b → K (.bool c) := rt
theorem v_gS {t K} : gS t K = ∀ u : ByteArray, u = t → K (.str u) := rt
theorem v_not {b K} : notC (.bool b) K = K (.bool (!b)) := rt
theorem v_binB {ng a b K} : binBC ng (.bool a) (.bool b) K = gB (bif ng then !(a == b) else (a == b)) K := rt
theorem v_eqS {ng ts l l' K} : eqSC ng ts (.agg l) (.agg l') K = eqOC ng (eqL ts l l') K := rt
theorem v_eqO {ng b K} : eqOC ng (some b) K = gB (bif ng then !b else b) K := rt
theorem v_eqLN : eqL [] [] [] = some true := rt
theorem v_eqLC {t ts x l y l'} : eqL (t :: ts) (x :: l) (y :: l') = eqJ (eqC t x y) (eqL ts l l') := by simp only [eqL]
theorem v_eqJ {a b} : eqJ (some a) (some b) = some (a && b) := rt
theorem v_eqCi {k0 k a b} : eqC (.int k0) (.int k a) (.int k b) = some (decide (a = b)) := by simp only [eqC, if_true]
theorem v_eqCb {a b} : eqC .bool (.bool a) (.bool b) = some (a == b) := rt
theorem v_eqCs {a b} : eqC .str (.str a) (.str b) = some (decide (a = b)) := rt
theorem v_eqR {ng n k K} {xs ys : List Int} : eqRC ng n (.agg [.arr n (.int k) (no_index xs)]) (.agg [.arr n (.int k) (no_index ys)]) K = gB (bif ng then !(decide (xs = ys)) else (decide (xs = ys))) K := by simp only [eqRC, true_and, and_self]
theorem v_e_pnn {ng K} : eqnC ng .p .nilp .nilp K = K (.bool (!ng)) := rt
theorem v_e_pnp {ng i o K} : eqnC ng .p .nilp (.ptr i o) K = K (.bool ng) := rt
theorem v_e_ppn {ng i o K} : eqnC ng .p (.ptr i o) .nilp K = K (.bool ng) := rt
theorem v_e_mnn {ng K} : eqnC ng .m .nilm .nilm K = K (.bool (!ng)) := rt
theorem v_e_mpn {ng i K} : eqnC ng .m (.mp i) .nilm K = K (.bool ng) := rt
theorem v_e_fnn {ng K} : eqnC ng .f .nilf .nilf K = K (.bool (!ng)) := rt
theorem v_e_ffn {ng f c K} : eqnC ng .f (.fn f c) .nilf K = K (.bool ng) := rt
theorem v_neg {k n K} : negC (.int k n) K = (inR k n → gI k (k.wrap (0 - n)) K) := rt
theorem v_cv {k k' n K} : cvC k (.int k' n) K = (inR k' n → gI k (k.wrap n) K) := rt
theorem v_ext {l i K} : extC (.tup l) i K = optC (l[i]?) K := rt
theorem v_lenI {hp b K} : lenC hp .i (.str b) K = (b.size ≤ maxLen → gI .i64 b.size K) := rt
theorem v_lenN {hp K} : lenC hp .s .nils K = K (.int .i64 0) := rt
theorem v_lenS {hp p eb t xs K} : lenC hp .s (.sl p eb t xs) K = (xs.length ≤ maxLen → xs.length * eb ≤ 140737488355328 → gI .i64 xs.length K) := rt
theorem v_lenO {hp i K} : lenC hp .s (.own i) K = lenO (hp[i]?) K := by simp only [lenC, cont, lenO]; split <;> rename_i h <;> (first | (split at h <;> first | cases h | skip) | skip) <;> simp_all
theorem v_lenO1 {mv eb t xs K} : lenO (some (.row mv eb t xs)) K = (xs.length ≤ maxLen → xs.length * eb ≤ 140737488355328 → gI .i64 xs.length K) := rt
theorem v_lenM {hp K} : lenC hp .m .nilm K = K (.int .i64 0) := rt
theorem v_lenP {hp i K} : lenC hp .m (.mp i) K = lenM (hp[i]?) K := by simp only [lenC, lenM]; rfl
theorem v_lenM1 {va kt vt m K} : lenM (some (.map va kt vt m)) K = (m.length ≤ maxLen → gI .i64 m.length K) := rt
theorem v_mm {mx k a b K} : mmC mx (.int k a) (.int k b) K = gI k (bif mx then (if a < b then b else a) else (if b < a then b else a)) K := by simp only [mmC, true_and]
theorem v_lkNil {hp va kt vt ok k K} : lkC2 hp va kt vt ok .nilm k K = lkNC va vt ok (kt.keyOf k) K := by unfold lkC2 lkNC; cases kt.keyOf k <;> rfl
theorem v_lkNCs {va vt ok kd K} {key : kd} : lkNC va vt ok (no_index (some key)) K = lkV va vt none ok K := rt
theorem v_lk {hp va kt vt ok i k K} : lkC2 hp va kt vt ok (.mp i) k K = lkM (hp[i]?) va kt vt ok k K := by simp only [lkC2, lkM]; rfl
theorem v_lkM {va kt vt ok k K m} : lkM (some (.map va kt vt m)) va kt vt ok k K = lkK va kt vt ok (kt.keyOf k) m K := by simp only [lkM, lkK, true_and, and_true]
theorem v_lkV {va vt ok K} {x : Option vt.den} : lkV va vt x ok K = ∀ (y : vt.den) (b : Bool), y = x.getD vt.dflt → b = x.isSome → lkT (toV va true vt y) ok b K := by simp only [lkV, lkT]; rfl
theorem v_lkTt {z b K} : lkT (some z) true b K = K (.tup [z, .bool b]) := rt
theorem v_lkTf {z b K} : lkT (some z) false b K = K z := rt
theorem v_toVt {p t x} : toV true p t x = some (.agg (t.sv p x)) := rt
theorem v_toVf {p t x} : toV false p t x = toV1 (t.sv p x) := by simp only [toV, toV1]; rfl
theorem v_toV1 {y} : toV1 [y] = some y := rt
theorem v_lkK {va kt vt ok key m K} : lkK va kt vt ok (no_index (some key)) m K = lkV va vt (lookM kt vt m key) ok K := rt
theorem v_rh0 {l} : refsHp 0 l = [] := rt
theorem v_rhN {n} : refsHp n [] = [] := by cases n <;> rfl
theorem v_rhC {n b r} : refsHp (n + 1) (b :: r) = b.refs ++ refsHp n r := rt
theorem v_rfN : refsFr [] = [] := rt
theorem v_rfC {k x r} : refsFr ((k, x) :: r) = x.refs ++ refsFr r := rt
theorem v_bS {cells} : SB.refs (.struct cells) = SV.refsL cells := rt
theorem v_bR {mv eb t xs} : SB.refs (.row mv eb t xs) = [] := rt
theorem v_bM {va kt vt m} : SB.refs (.map va kt vt m) = [] := rt
theorem v_bI {s p} : SB.refs (.itr s p) = [] := rt
theorem v_bG : SB.refs .gone = [] := rt
theorem v_rLN : SV.refsL [] = [] := rt
theorem v_rLC {x r} : SV.refsL (x :: r) = x.refs ++ SV.refsL r := rt
theorem v_rf_int {k n} : SV.refs (.int k n) = [] := by simp only [SV.refs]
theorem v_rn_int {k n f} : SV.ren f (.int k n) = (.int k n) := by simp only [SV.ren]
theorem v_rf_bool {b} : SV.refs (.bool b) = [] := by simp only [SV.refs]
theorem v_rn_bool {b f} : SV.ren f (.bool b) = (.bool b) := by simp only [SV.ren]
theorem v_rf_str {t} : SV.refs (.str t) = [] := by simp only [SV.refs]
theorem v_rn_str {t f} : SV.ren f (.str t) = (.str t) := by simp only [SV.ren]
theorem v_rf_sl {p eb t xs} : SV.refs (.sl p eb t xs) = [] := by simp only [SV.refs]
theorem v_rn_sl {p eb t xs f} : SV.ren f (.sl p eb t xs) = (.sl p eb t xs) := by simp only [SV.ren]
theorem v_rf_nilp : SV.refs SV.nilp = [] := by simp only [SV.refs]
theorem v_rn_nilp { f} : SV.ren f SV.nilp = SV.nilp := by simp only [SV.ren]
theorem v_rf_nils : SV.refs SV.nils = [] := by simp only [SV.refs]
theorem v_rn_nils { f} : SV.ren f SV.nils = SV.nils := by simp only [SV.ren]
theorem v_rf_nilm : SV.refs SV.nilm = [] := by simp only [SV.refs]
theorem v_rn_nilm { f} : SV.ren f SV.nilm = SV.nilm := by simp only [SV.ren]
theorem v_rf_nilf : SV.refs SV.nilf = [] := by simp only [SV.refs]
theorem v_rn_nilf { f} : SV.ren f SV.nilf = SV.nilf := by simp only [SV.ren]
theorem v_rf_nili : SV.refs SV.nili = [] := by simp only [SV.refs]
theorem v_rn_nili { f} : SV.ren f SV.nili = SV.nili := by simp only [SV.ren]
theorem v_rf_junk1 : SV.refs SV.junk1 = [] := by simp only [SV.refs]
theorem v_rn_junk1 { f} : SV.ren f SV.junk1 = SV.junk1 := by simp only [SV.ren]
theorem v_rf_junk : SV.refs SV.junk = [] := by simp only [SV.refs]
theorem v_rn_junk { f} : SV.ren f SV.junk = SV.junk := by simp only [SV.ren]
theorem v_rf_ptr {i off} : SV.refs (.ptr i off) = [i] := by simp only [SV.refs]
theorem v_rn_ptr {i off f} : SV.ren f (.ptr i off) = rn_ptr (f i) off := by simp only [SV.ren]; rfl
theorem v_rnS_ptr {j off} : rn_ptr (some j) off = .ptr j off := rt
theorem v_rnN_ptr {off} : rn_ptr none off = .junk1 := rt
theorem v_rf_own {i} : SV.refs (.own i) = [i] := by simp only [SV.refs]
theorem v_rn_own {i f} : SV.ren f (.own i) = rn_own (f i)  := by simp only [SV.ren]; rfl
theorem v_rnS_own {j } : rn_own (some j)  = .own j  := rt
theorem v_rnN_own : rn_own none  = .junk1 := rt
theorem v_rf_vw {i lo hi sz} : SV.refs (.vw i lo hi sz) = [i] := by simp only [SV.refs]
theorem v_rn_vw {i lo hi sz f} : SV.ren f (.vw i lo hi sz) = rn_vw (f i) lo hi sz := by simp only [SV.ren]; rfl
theorem v_rnS_vw {j lo hi sz} : rn_vw (some j) lo hi sz = .vw j lo hi sz := rt
theorem v_rnN_vw {lo hi sz} : rn_vw none lo hi sz = .junk1 := rt
theorem v_rf_mp {i} : SV.refs (.mp i) = [i] := by simp only [SV.refs]
theorem v_rn_mp {i f} : SV.ren f (.mp i) = rn_mp (f i)  := by simp only [SV.ren]; rfl
theorem v_rnS_mp {j } : rn_mp (some j)  = .mp j  := rt
theorem v_rnN_mp : rn_mp none  = .junk1 := rt
theorem v_rf_el {i n sz off} : SV.refs (.el i n sz off) = [i] := by simp only [SV.refs]
theorem v_rn_el {i n sz off f} : SV.ren f (.el i n sz off) = rn_el (f i) n sz off := by simp only [SV.ren]; rfl
theorem v_rnS_el {j n sz off} : rn_el (some j) n sz off = .el j n sz off := rt
theorem v_rnN_el {n sz off} : rn_el none n sz off = .junk1 := rt
theorem v_rf_ptrA {i off n sz} : SV.refs (.ptrA i off n sz) = [i] := by simp only [SV.refs]
theorem v_rn_ptrA {i off n sz f} : SV.ren f (.ptrA i off n sz) = rn_ptrA (f i) off n sz := by simp only [SV.ren]; rfl
theorem v_rnS_ptrA {j off n sz} : rn_ptrA (some j) off n sz = .ptrA j off n sz := rt
theorem v_rnN_ptrA {off n sz} : rn_ptrA none off n sz = .junk1 := rt
theorem v_rf_pty {i T} : SV.refs (.pty i T) = [i] := by simp only [SV.refs]
theorem v_rn_pty {i T f} : SV.ren f (.pty i T) = rn_pty (f i) T := by simp only [SV.ren]; rfl
theorem v_rnS_pty {j T} : rn_pty (some j) T = .pty j T := rt
theorem v_rnN_pty {T} : rn_pty none T = .junk1 := rt
theorem v_rf_svw {i n} : SV.refs (.svw i n) = [i] := by simp only [SV.refs]
theorem v_rn_svw {i n f} : SV.ren f (.svw i n) = rn_svw (f i) n := by simp only [SV.ren]; rfl
theorem v_rnS_svw {j n} : rn_svw (some j) n = .svw j n := rt
theorem v_rnN_svw {n} : rn_svw none n = .junk1 := rt
theorem v_rf_slf {xs} : SV.refs (.slf xs) = [] := by simp only [SV.refs]
theorem v_rn_slf {xs f} : SV.ren f (.slf xs) = (.slf xs) := by simp only [SV.ren]
theorem v_rf_rel {p eb t xs n off} : SV.refs (.rel p eb t xs n off) = [] := by simp only [SV.refs]
theorem v_rn_rel {p eb t xs n off f} : SV.ren f (.rel p eb t xs n off) = (.rel p eb t xs n off) := by simp only [SV.ren]
theorem v_rf_arr {n t xs} : SV.refs (.arr n t xs) = [] := by simp only [SV.refs]
theorem v_rn_arr {n t xs f} : SV.ren f (.arr n t xs) = (.arr n t xs) := by simp only [SV.ren]
theorem v_rf_agg {l} : SV.refs (.agg l) = SV.refsL l := by simp only [SV.refs]
theorem v_rn_agg {l f} : SV.ren f (.agg l) = .agg (SV.renL f l) := by simp only [SV.ren]
theorem v_rf_tup {l} : SV.refs (.tup l) = SV.refsL l := by simp only [SV.refs]
theorem v_rn_tup {l f} : SV.ren f (.tup l) = .tup (SV.renL f l) := by simp only [SV.ren]
theorem v_rf_fn {g l} : SV.refs (.fn g l) = SV.refsL l := by simp only [SV.refs]
theorem v_rn_fn {g l f} : SV.ren f (.fn g l) = .fn g (SV.renL f l) := by simp only [SV.ren]
theorem v_rnLN {f} : SV.renL f [] = [] := by simp only [SV.renL]
theorem v_rnLC {f x r} : SV.renL f (x :: r) = x.ren f :: SV.renL f r := by simp only [SV.renL]
theorem v_brS {f l} : SB.ren f (.struct l) = .struct (SV.renL f l) := rt
theorem v_brR {f mv eb t xs} : SB.ren f (.row mv eb t xs) = .row mv eb t xs := rt
theorem v_brM {f va kt vt m} : SB.ren f (.map va kt vt m) = .map va kt vt m := rt
theorem v_brI {f s p} : SB.ren f (.itr s p) = .itr s p := rt
theorem v_brG {f} : SB.ren f .gone = .gone := rt
theorem v_frN {f} : frRen f [] = [] := rt
theorem v_frC {f k x r} : frRen f ((k, x) :: r) = (k, x.ren f) :: frRen f r := rt
theorem v_but {i j} : but i j = bif j == i then none else some j := by unfold but; cases hb : j == i <;> simp_all
theorem v_posN {i} : posOf [] i = none := rt
theorem v_posC {x r i} : posOf (x :: r) i = bif x == i then some 0 else addO (posOf r i) := by simp only [posOf]; cases posOf r i <;> rfl
theorem v_addN : addO none = none := rt
theorem v_addS {n} : addO (some n) = some (n + 1) := rt
theorem v_selN {f hp} : selHp [] f hp = [] := rt
theorem v_selC {i r f hp} : selHp (i :: r) f hp = SB.ren f (getO (hp[i]?)) :: selHp r f hp := by simp only [selHp, List.map_cons, getO, List.getD_eq_getElem?_getD]; cases hp[i]? <;> rfl
theorem v_getO {b} : getO (some b) = b := rt
theorem v_rchN {hp n acc} : reach hp n [] acc = acc := by cases n <;> rfl
theorem v_rchC {hp n i todo acc} : reach hp (n + 1) (i :: todo) acc = rchB (acc.contains i) (hp[i]?) hp n i todo acc := by simp only [reach, rchB]; cases acc.contains i <;> simp <;> rfl
theorem v_rchT {b hp n i todo acc} : rchB true b hp n i todo acc = reach hp n todo acc := rt
theorem v_rchS {l hp n i todo acc} : rchB false (some (.struct l)) hp n i todo acc = reach hp n (SV.refsL l ++ todo) (acc ++ [i]) := rt
theorem v_rchR {mv eb t xs hp n i todo acc} : rchB false (some (.row mv eb t xs)) hp n i todo acc = reach hp n todo (acc ++ [i]) := rt
theorem v_rchM {va kt vt m hp n i todo acc} : rchB false (some (.map va kt vt m)) hp n i todo acc = reach hp n todo (acc ++ [i]) := rt
theorem v_rchI {s p hp n i todo acc} : rchB false (some (.itr s p)) hp n i todo acc = reach hp n todo (acc ++ [i]) := rt
theorem v_rchG {hp n i todo acc} : rchB false (some .gone) hp n i todo acc = reach hp n todo acc := rt
theorem v_range0 : List.range 0 = [] := rt
theorem v_range1 : List.range 1 = [0] := rt
theorem v_range2 : List.range 2 = [0, 1] := rt
theorem v_range3 : List.range 3 = [0, 1, 2] := rt
theorem v_range4 : List.range 4 = [0, 1, 2, 3] := rt
theorem v_range5 : List.range 5 = [0, 1, 2, 3, 4] := rt
theorem v_range6 : List.range 6 = [0, 1, 2, 3, 4, 5] := rt
theorem v_range7 : List.range 7 = [0, 1, 2, 3, 4, 5, 6] := rt
theorem v_range8 : List.range 8 = [0, 1, 2, 3, 4, 5, 6, 7] := rt
theorem v_drop {x r n} : dropC (x :: r) n = bif n == 0 then some (x :: r) else drpB (decide (x.width ≤ n)) r (n - x.width) := by
 cases n with
 | zero => rfl
 | succ n =>
  simp only [dropC]
  show _ = drpB (decide (x.width ≤ n + 1)) r (n + 1 - x.width)
  by_cases h : x.width ≤ n + 1
  ·rw [if_pos h, decide_eq_true h]
   rfl
  ·rw [if_neg h, decide_eq_false h]
   rfl
theorem v_drop0 {l} : dropC l 0 = some l := by cases l <;> rfl
theorem v_drpT {r n} : drpB true r n = dropC r n := rt
theorem v_take0 {l} : takeC l 0 = some [] := by cases l <;> rfl
theorem v_take {x r n} : takeC (x :: r) n = bif n == 0 then some [] else tkB (decide (x.width ≤ n)) x r (n - x.width) := by
 cases n with
 | zero => rfl
 | succ n =>
  simp only [takeC]
  show _ = tkB (decide (x.width ≤ n + 1)) x r (n + 1 - x.width)
  by_cases h : x.width ≤ n + 1
  ·rw [if_pos h, decide_eq_true h]
   show Option.map _ _ = consO x _; cases takeC r (n + 1 - x.width) <;> rfl
  ·rw [if_neg h, decide_eq_false h]
   rfl
theorem v_tkT {x r n} : tkB true x r n = consO x (takeC r n) := rt
theorem v_consO {x l} : consO x (some l) = some (x :: l) := rt
theorem v_head {x r} : headC (x :: r) = hdB x.isArr x := by simp only [headC, hdB]; cases x.isArr <;> rfl
theorem v_hdF {x} : hdB false x = some x := rt
theorem v_w_int {k n} : SV.width (.int k n) = 1 := rt
theorem v_ia_int {k n} : SV.isArr (.int k n) = false := rt
theorem v_fl_int {k n} : flatS (.int k n) = some [(.int k n)] := rt
theorem v_se_int {k n s} : settle s (.int k n) = ((.int k n), s) := rt
theorem v_on_int {k n r} : onesL ((.int k n) :: r) = onesL r := rt
theorem v_el_int {k n} : isEl (.int k n) = false := rt
theorem v_w_bool {b} : SV.width (.bool b) = 1 := rt
theorem v_ia_bool {b} : SV.isArr (.bool b) = false := rt
theorem v_fl_bool {b} : flatS (.bool b) = some [(.bool b)] := rt
theorem v_se_bool {b s} : settle s (.bool b) = ((.bool b), s) := rt
theorem v_on_bool {b r} : onesL ((.bool b) :: r) = onesL r := rt
theorem v_el_bool {b} : isEl (.bool b) = false := rt
theorem v_w_str {t} : SV.width (.str t) = 1 := rt
theorem v_ia_str {t} : SV.isArr (.str t) = false := rt
theorem v_fl_str {t} : flatS (.str t) = some [(.str t)] := rt
theorem v_se_str {t s} : settle s (.str t) = ((.str t), s) := rt
theorem v_on_str {t r} : onesL ((.str t) :: r) = onesL r := rt
theorem v_el_str {t} : isEl (.str t) = false := rt
theorem v_w_sl {p eb t xs} : SV.width (.sl p eb t xs) = 1 := rt
theorem v_ia_sl {p eb t xs} : SV.isArr (.sl p eb t xs) = false := rt
theorem v_fl_sl {p eb t xs} : flatS (.sl p eb t xs) = some [(.sl p eb t xs)] := rt
theorem v_se_sl {p eb t xs s} : settle s (.sl p eb t xs) = ((.sl p eb t xs), s) := rt
theorem v_on_sl {p eb t xs r} : onesL ((.sl p eb t xs) :: r) = onesL r := rt
theorem v_el_sl {p eb t xs} : isEl (.sl p eb t xs) = false := rt
theorem v_w_nilp : SV.width SV.nilp = 1 := rt
theorem v_ia_nilp : SV.isArr SV.nilp = false := rt
theorem v_fl_nilp : flatS SV.nilp = some [SV.nilp] := rt
theorem v_se_nilp { s} : settle s SV.nilp = (SV.nilp, s) := rt
theorem v_on_nilp { r} : onesL (SV.nilp :: r) = onesL r := rt
theorem v_el_nilp : isEl SV.nilp = false := rt
theorem v_w_nils : SV.width SV.nils = 1 := rt
theorem v_ia_nils : SV.isArr SV.nils = false := rt
theorem v_fl_nils : flatS SV.nils = some [SV.nils] := rt
theorem v_se_nils { s} : settle s SV.nils = (SV.nils, s) := rt
theorem v_on_nils { r} : onesL (SV.nils :: r) = onesL r := rt
theorem v_el_nils : isEl SV.nils = false := rt
theorem v_w_nilm : SV.width SV.nilm = 1 := rt
theorem v_ia_nilm : SV.isArr SV.nilm = false := rt
theorem v_fl_nilm : flatS SV.nilm = some [SV.nilm] := rt
theorem v_se_nilm { s} : settle s SV.nilm = (SV.nilm, s) := rt
theorem v_on_nilm { r} : onesL (SV.nilm :: r) = onesL r := rt
theorem v_el_nilm : isEl SV.nilm = false := rt
theorem v_w_nilf : SV.width SV.nilf = 1 := rt
theorem v_ia_nilf : SV.isArr SV.nilf = false := rt
theorem v_fl_nilf : flatS SV.nilf = some [SV.nilf] := rt
theorem v_se_nilf { s} : settle s SV.nilf = (SV.nilf, s) := rt
theorem v_on_nilf { r} : onesL (SV.nilf :: r) = onesL r := rt
theorem v_el_nilf : isEl SV.nilf = false := rt
theorem v_w_nili : SV.width SV.nili = 1 := rt
theorem v_ia_nili : SV.isArr SV.nili = false := rt
theorem v_fl_nili : flatS SV.nili = some [SV.nili] := rt
theorem v_se_nili { s} : settle s SV.nili = (SV.nili, s) := rt
theorem v_on_nili { r} : onesL (SV.nili :: r) = onesL r := rt
theorem v_el_nili : isEl SV.nili = false := rt
theorem v_w_junk1 : SV.width SV.junk1 = 1 := rt
theorem v_ia_junk1 : SV.isArr SV.junk1 = false := rt
theorem v_fl_junk1 : flatS SV.junk1 = some [SV.junk1] := rt
theorem v_se_junk1 { s} : settle s SV.junk1 = (SV.junk1, s) := rt
theorem v_on_junk1 { r} : onesL (SV.junk1 :: r) = onesL r := rt
theorem v_el_junk1 : isEl SV.junk1 = false := rt
theorem v_w_junk : SV.width SV.junk = 1 := rt
theorem v_ia_junk : SV.isArr SV.junk = false := rt
theorem v_se_junk { s} : settle s SV.junk = (SV.junk, s) := rt
theorem v_el_junk : isEl SV.junk = false := rt
theorem v_w_ptr {i off} : SV.width (.ptr i off) = 1 := rt
theorem v_ia_ptr {i off} : SV.isArr (.ptr i off) = false := rt
theorem v_fl_ptr {i off} : flatS (.ptr i off) = some [(.ptr i off)] := rt
theorem v_se_ptr {i off s} : settle s (.ptr i off) = ((.ptr i off), s) := rt
theorem v_on_ptr {i off r} : onesL ((.ptr i off) :: r) = onesL r := rt
theorem v_el_ptr {i off} : isEl (.ptr i off) = false := rt
theorem v_w_own {i} : SV.width (.own i) = 1 := rt
theorem v_ia_own {i} : SV.isArr (.own i) = false := rt
theorem v_fl_own {i} : flatS (.own i) = some [(.own i)] := rt
theorem v_se_own {i s} : settle s (.own i) = ((.own i), s) := rt
theorem v_on_own {i r} : onesL ((.own i) :: r) = onesL r := rt
theorem v_el_own {i} : isEl (.own i) = false := rt
theorem v_w_vw {i lo hi sz} : SV.width (.vw i lo hi sz) = 1 := rt
theorem v_ia_vw {i lo hi sz} : SV.isArr (.vw i lo hi sz) = false := rt
theorem v_fl_vw {i lo hi sz} : flatS (.vw i lo hi sz) = some [(.vw i lo hi sz)] := rt
theorem v_on_vw {i lo hi sz r} : onesL ((.vw i lo hi sz) :: r) = onesL r := rt
theorem v_el_vw {i lo hi sz} : isEl (.vw i lo hi sz) = false := rt
theorem v_w_mp {i} : SV.width (.mp i) = 1 := rt
theorem v_ia_mp {i} : SV.isArr (.mp i) = false := rt
theorem v_fl_mp {i} : flatS (.mp i) = some [(.mp i)] := rt
theorem v_se_mp {i s} : settle s (.mp i) = ((.mp i), s) := rt
theorem v_on_mp {i r} : onesL ((.mp i) :: r) = onesL r := rt
theorem v_el_mp {i} : isEl (.mp i) = false := rt
theorem v_w_el {i n sz off} : SV.width (.el i n sz off) = 1 := rt
theorem v_ia_el {i n sz off} : SV.isArr (.el i n sz off) = false := rt
theorem v_fl_el {i n sz off} : flatS (.el i n sz off) = some [(.el i n sz off)] := rt
theorem v_se_el {i n sz off s} : settle s (.el i n sz off) = ((.el i n sz off), s) := rt
theorem v_on_el {i n sz off r} : onesL ((.el i n sz off) :: r) = onesL r := rt
theorem v_el_el {i n sz off} : isEl (.el i n sz off) = true := rt
theorem v_w_ptrA {i off n sz} : SV.width (.ptrA i off n sz) = 1 := rt
theorem v_ia_ptrA {i off n sz} : SV.isArr (.ptrA i off n sz) = false := rt
theorem v_fl_ptrA {i off n sz} : flatS (.ptrA i off n sz) = some [(.ptrA i off n sz)] := rt
theorem v_se_ptrA {i off n sz s} : settle s (.ptrA i off n sz) = ((.ptrA i off n sz), s) := rt
theorem v_on_ptrA {i off n sz r} : onesL ((.ptrA i off n sz) :: r) = onesL r := rt
theorem v_el_ptrA {i off n sz} : isEl (.ptrA i off n sz) = false := rt
theorem v_w_pty {i T} : SV.width (.pty i T) = 1 := rt
theorem v_ia_pty {i T} : SV.isArr (.pty i T) = false := rt
theorem v_fl_pty {i T} : flatS (.pty i T) = some [(.pty i T)] := rt
theorem v_se_pty {i T s} : settle s (.pty i T) = ((.pty i T), s) := rt
theorem v_on_pty {i T r} : onesL ((.pty i T) :: r) = onesL r := rt
theorem v_el_pty {i T} : isEl (.pty i T) = false := rt
theorem v_w_svw {i n} : SV.width (.svw i n) = 1 := rt
theorem v_ia_svw {i n} : SV.isArr (.svw i n) = false := rt
theorem v_fl_svw {i n} : flatS (.svw i n) = some [(.svw i n)] := rt
theorem v_se_svw {i n s} : settle s (.svw i n) = ((.svw i n), s) := rt
theorem v_on_svw {i n r} : onesL ((.svw i n) :: r) = onesL r := rt
theorem v_el_svw {i n} : isEl (.svw i n) = false := rt
theorem v_w_slf {xs} : SV.width (.slf xs) = 1 := rt
theorem v_ia_slf {xs} : SV.isArr (.slf xs) = false := rt
theorem v_fl_slf {xs} : flatS (.slf xs) = some [(.slf xs)] := rt
theorem v_se_slf {xs s} : settle s (.slf xs) = ((.slf xs), s) := rt
theorem v_on_slf {xs r} : onesL ((.slf xs) :: r) = onesL r := rt
theorem v_el_slf {xs} : isEl (.slf xs) = false := rt
theorem v_w_rel {p eb t xs n off} : SV.width (.rel p eb t xs n off) = 1 := rt
theorem v_ia_rel {p eb t xs n off} : SV.isArr (.rel p eb t xs n off) = false := rt
theorem v_fl_rel {p eb t xs n off} : flatS (.rel p eb t xs n off) = some [(.rel p eb t xs n off)] := rt
theorem v_se_rel {p eb t xs n off s} : settle s (.rel p eb t xs n off) = ((.rel p eb t xs n off), s) := rt
theorem v_on_rel {p eb t xs n off r} : onesL ((.rel p eb t xs n off) :: r) = onesL r := rt
theorem v_el_rel {p eb t xs n off} : isEl (.rel p eb t xs n off) = false := rt
theorem v_w_arr {n t xs} : SV.width (.arr n t xs) = n * t.size := rt
theorem v_ia_arr {n t xs} : SV.isArr (.arr n t xs) = true := rt
theorem v_se_arr {n t xs s} : settle s (.arr n t xs) = ((.arr n t xs), s) := rt
theorem v_on_arr {n t xs r} : onesL ((.arr n t xs) :: r) = onesL r := rt
theorem v_el_arr {n t xs} : isEl (.arr n t xs) = false := rt
theorem v_w_agg {l} : SV.width (.agg l) = 1 := rt
theorem v_ia_agg {l} : SV.isArr (.agg l) = false := rt
theorem v_fl_agg {l} : flatS (.agg l) = some l := rt
theorem v_se_agg {l s} : settle s (.agg l) = ((.agg l), s) := rt
theorem v_el_agg {l} : isEl (.agg l) = false := rt
theorem v_w_tup {l} : SV.width (.tup l) = 1 := rt
theorem v_ia_tup {l} : SV.isArr (.tup l) = false := rt
theorem v_se_tup {l s} : settle s (.tup l) = ((.tup l), s) := rt
theorem v_el_tup {l} : isEl (.tup l) = false := rt
theorem v_w_fn {g l} : SV.width (.fn g l) = 1 := rt
theorem v_ia_fn {g l} : SV.isArr (.fn g l) = false := rt
theorem v_fl_fn {g l} : flatS (.fn g l) = some [(.fn g l)] := rt
theorem v_se_fn {g l s} : settle s (.fn g l) = ((.fn g l), s) := rt
theorem v_on_fn {g l r} : onesL ((.fn g l) :: r) = onesL r := rt
theorem v_el_fn {g l} : isEl (.fn g l) = false := rt
theorem v_on_nil : onesL [] = true := rt
theorem v_ones {l} : ones (some l) = onesL l := rt
theorem v_wlN : widthL [] = 0 := rt
theorem v_wlC {x r} : widthL (x :: r) = x.width + widthL r := rt
theorem v_spl {l n new} : splC l n new = splB (takeC l n) (dropC l (n + widthL new)) new := by simp only [splC, splB]; rfl
theorem v_splB {a b new} : splB (some a) (some b) new = some (a ++ (new ++ b)) := rt
theorem v_bldN {s l} : bldC s l [] = some l := rt
theorem v_bldC {s l off n x r} : bldC s l ((off, n, x) :: r) = bldB s l off n (flatS (s.get x)) r := by simp only [bldC, bldB]; rfl
theorem v_bldB {s l off n new r} : bldB s l off n (some new) r = bldD (widthL new == n) (splC l off new) s r := by
 simp only [bldB]
 by_cases h : widthL new = n
 ·rw [if_pos h, show (widthL new == n) = true by simp [h]]; rfl
 ·rw [if_neg h, show (widthL new == n) = false by simp [h]]; rfl
theorem v_bldD {l s r} : bldD true (some l) s r = bldC s l r := rt
theorem v_sto {n s x v K} : stores n s x v K = stoB (isEl x) n s x v K := rt
theorem v_stoF {n s x v K} : stoB false n s x v K = stoV n (settle s v) x K := rt
theorem v_stoV {n v s x K} : stoV n (v, s) x K = (ones (flatS v) = true ∧ st1 n s x (flatS v) K) := rt
theorem v_st1 {n s i off new K} : st1 n s (.ptr i off) (some new) K = (widthL new = n ∧ stP (s.hp[i]?) s i off new K) := by simp only [st1, stP]; by_cases h : widthL new = n <;> simp [h] <;> rfl
theorem v_stP {cells s i off new K} : stP (some (.struct cells)) s i off new K = stQ (splC cells off new) s i K := rt
theorem v_stQ {l fr hp i K} : stQ (some l) ⟨fr, hp⟩ i K = K .junk ⟨fr, hp.set i (.struct l)⟩ := rt
theorem v_unboN {x} : unboIf [] x = x := rt
theorem v_unboHN {hp} : unboHp [] hp = hp := rt
theorem v_back {idx N j} : back idx N j = bkB (decide (j < idx.length)) idx N j := by
 unfold back
 by_cases h : j < idx.length
 ·rw [if_pos h, decide_eq_true h]; rfl
 ·rw [if_neg h, decide_eq_false h]; rfl
theorem v_bkT {idx N j} : bkB true idx N j = idx[j]? := rt
theorem v_bkF {idx N j} : bkB false idx N j = some (N + (j - idx.length)) := rt
theorem v_movN {hp} : movedL [] hp = [] := by cases hp <;> rfl
theorem v_movC {i idx b hp} : movedL (i :: idx) (b :: hp) = mvB b.stays i (movedL idx hp) := by simp only [movedL, mvB]; cases b.stays <;> rfl
theorem v_mvT {i l} : mvB true i l = l := rt
theorem v_mvF {i l} : mvB false i l = i :: l := rt
theorem v_stS {l} : SB.stays (.struct l) = true := rt
theorem v_stM {va kt vt m} : SB.stays (.map va kt vt m) = true := rt
theorem v_stI {s p} : SB.stays (.itr s p) = true := rt
theorem v_stR {mv eb t xs} : SB.stays (.row mv eb t xs) = !mv := rt
theorem v_stG : SB.stays .gone = false := rt
theorem v_but2 {M j} : but2 M j = bif M.contains j then none else some j := by unfold but2; cases M.contains j <;> rfl
theorem v_plugHp {idx hp hp'} : plugHp idx hp hp' = plugL idx hp' (back idx hp.length) (but2 (movedL idx hp')) hp 0 ++ mapR (back idx hp.length) (hp'.drop idx.length) := rt
theorem v_mapRN {f} : mapR f [] = [] := rt
theorem v_mapRC {f b r} : mapR f (b :: r) = SB.ren f b :: mapR f r := rt
theorem v_plN {idx hp' g f i} : plugL idx hp' g f [] i = [] := rt
theorem v_plC {idx hp' g f b r i} : plugL idx hp' g f (b :: r) i = plB (posOf idx i) b hp' g f :: plugL idx hp' g f r (i + 1) := by simp only [plugL, plB]; cases posOf idx i <;> rfl
theorem v_plS {j b hp' g f} : plB (some j) b hp' g f = mvOr b (SB.ren g (getO (hp'[j]?))) := by simp only [plB, getO, List.getD_eq_getElem?_getD]; cases hp'[j]? <;> rfl
theorem v_plNo {b hp' g f} : plB none b hp' g f = SB.ren f b := rt
theorem v_mvoR {b mv eb t xs} : mvOr b (.row mv eb t xs) = .row (mv || !b.stays) eb t xs := rt
theorem v_mvoS {b l} : mvOr b (.struct l) = bif b.stays then .struct l else .gone := rt
theorem v_mvoM {b va kt vt m} : mvOr b (.map va kt vt m) = bif b.stays then .map va kt vt m else .gone := rt
theorem v_mvoI {b s p} : mvOr b (.itr s p) = bif b.stays then .itr s p else .gone := rt
theorem v_mvoG {b} : mvOr b .gone = bif b.stays then .gone else .gone := rt
theorem v_rsS {l} : SB.reset (.struct l) = .struct l := rt
theorem v_rsR {mv eb t xs} : SB.reset (.row mv eb t xs) = .row false eb t xs := rt
theorem v_rsM {va kt vt m} : SB.reset (.map va kt vt m) = .map va kt vt m := rt
theorem v_rsI {s p} : SB.reset (.itr s p) = .itr s p := rt
theorem v_rsG : SB.reset .gone = .gone := rt
theorem v_mapGN {s} : List.map (SS.get s) [] = [] := rt
theorem v_mapGC {s x r} : List.map (SS.get s) (x :: r) = s.get x :: List.map (SS.get s) r := rt
theorem v_mapSN : List.map SB.reset [] = [] := rt
theorem v_mapSC {b r} : List.map SB.reset (b :: r) = b.reset :: List.map SB.reset r := rt
theorem v_o_bsl {Γ d g s K} {eb t n parts} : step Γ ⟨d, .bsl eb t n parts, g⟩ s K = bsl1 eb t n s (partsC s t.size parts) (goE d K) := rt
theorem v_o_mu {Γ d g s K} {va kt vt m k v} : step Γ ⟨d, .mu va kt vt m k v, g⟩ s K = mu1 va kt vt s (s.get m) (s.get k) (s.get v) (goE d K) := rt
theorem v_o_s2b {Γ d g s K} {x} : step Γ ⟨d, .s2b x, g⟩ s K = s2b1 s (s.get x) (goE d K) := rt
theorem v_s2b {fr hp b K} : s2b1 ⟨fr, hp⟩ (.str b) K = (b.size ≤ 140737488355328 ∧ K (.own hp.length) ⟨fr, hp ++ [.row true 1 .byte b.data.toList]⟩) := rt
theorem v_o_mks {Γ d g s K} {eb t x y} : step Γ ⟨d, .mks eb t x y, g⟩ s K = mks1 eb t s (s.get x) (s.get y) (goE d K) := rt
theorem v_mks {eb t fr hp k k' l c K} : mks1 eb t ⟨fr, hp⟩ (.int k l) (.int k' c) K = ((0 ≤ l ∧ l ≤ c ∧ c ≤ 9223372036854775807 ∧ c * (eb : Int) ≤ 140737488355328) ∧ K (.own hp.length) ⟨fr, hp ++ [.row true eb t (List.replicate l.toNat t.dflt)]⟩) := rt
theorem v_o_dl {Γ d g s K} {kt x y} : step Γ ⟨d, .dl kt x y, g⟩ s K = dl1 kt s (s.get x) (s.get y) (goE d K) := rt
theorem v_dl1 {kt s i k K} : dl1 kt s (.mp i) k K = dl0 kt s (s.hp[i]?) i k K := rt
theorem v_dl0 {kt va vt m s i k K} : dl0 kt s (some (.map va kt vt m)) i k K = dl2 va kt vt m i s (kt.keyOf k) K := by simp only [dl0, true_and]
theorem v_dl2 {va kt vt m i fr hp key K} : dl2 va kt vt m i ⟨fr, hp⟩ (no_index (some key)) K = K (.tup []) ⟨fr, hp.set i (.map va kt vt (delM kt vt m key))⟩ := rt
theorem v_o_mkb {Γ d g s K} {x} : step Γ ⟨d, .mkb x, g⟩ s K = mkb1 s (s.get x) (goE d K) := rt
theorem v_mkb1 {s i K} : mkb1 s (.own i) K = mkb2 s i (s.hp[i]?) K := rt
theorem v_mkb2 {s i mv eb t xs K} : mkb2 s i (some (.row mv eb t xs)) K = (1 ≤ xs.length ∧ K (.own i) s) := rt
theorem v_o_rng {Γ d g s K} {x} : step Γ ⟨d, .rng x, g⟩ s K = rng1 s (s.get x) (goE d K) := rt
theorem v_rng1 {fr hp b K} : rng1 ⟨fr, hp⟩ (.str b) K = K (.ptr hp.length 0) ⟨fr, hp ++ [.itr b 0]⟩ := rt
theorem v_o_nxt {Γ d g s K} {x} : step Γ ⟨d, .nxt x, g⟩ s K = nxt1 s (s.get x) (goE d K) := rt
theorem v_nxt1 {s i off K} : nxt1 s (.ptr i off) K = (off = 0 ∧ nxt2 s i (s.hp[i]?) K) := rt
theorem v_nxt2 {fr hp i t p K} : nxt2 ⟨fr, hp⟩ i (some (.itr t p)) K = ((p < t.size → (t.data.toList.getD p 0).toNat < 128 ∧ K (.tup [.bool true, .int .i64 p, .int .i32 ((t.data.toList.getD p 0).toNat : Int)]) ⟨fr, hp.set i (.itr t (p + 1))⟩) ∧ (t.size ≤ p → K (.tup [.bool false]) ⟨fr, hp⟩)) := rt
theorem v_o_cpy {Γ d g s K} {t x y} : step Γ ⟨d, .cpy t x y, g⟩ s K = cpy1 t s (s.get x) (srcOf s.hp t (s.get y)) (goE d K) := rt
theorem v_cpy1 {t s i lo hi sz ys K} : cpy1 t s (.vw i lo hi sz) (no_index (some ys)) K = cpy2 t s i lo hi sz ys (s.hp[i]?) K := rt
theorem v_cpy2 {t fr hp i lo hi sz ys mv eb xs K} : cpy2 t ⟨fr, hp⟩ i lo hi sz ys (some (.row mv eb t xs)) K = ((sz = t.size ∧ lo + ys.length ≤ hi ∧ hi ≤ xs.length) ∧ K (.int .i64 ys.length) ⟨fr, hp.set i (.row mv eb t (xs.take lo ++ (ys ++ xs.drop (lo + ys.length))))⟩) := by simp only [cpy2, dite_true, castT_self]; rfl
theorem v_lendBV {hp eb t i lo hi sz ys l} : lendB hp eb t (.vw i lo hi sz) (some (ys, l)) = lendW (hp[i]?) i lo hi sz ys l := by simp only [lendB, cont, lendW]; cases hp[i]? with | none => rfl | some b => cases b <;> rfl
theorem v_lendW {mv eb t xs i lo hi sz ys l} : lendW (some (.row mv eb t xs)) i lo hi sz ys l = lendZ (sz == t.size) eb t ((xs.drop lo).take (hi - lo)) i ys l := by
 simp only [lendW, lendZ]
 by_cases h : sz = t.size
 ·subst h; simp
 ·have h2 : (sz == t.size) = false := beq_eq_false_iff_ne.2 h
  simp [h, h2]
theorem v_lendZ {eb t xs i ys l} : lendZ true eb t xs i ys l = some (.sl false eb t xs :: ys, i :: l) := rt
theorem v_prtN {s sz} : partsC s sz [] = some [] := rt
theorem v_prtC {s sz i x r} : partsC s sz ((i, x) :: r) = prtB sz (flatS (s.get x)) (partsC s sz r) := by
 simp only [partsC, prtB]
 cases flatS (s.get x) with
 | none => rfl
 | some l =>
  show (if widthL l = sz then _ else none) = prtC (widthL l == sz) l _
  by_cases h : widthL l = sz
  ·rw [if_pos h, show (widthL l == sz) = true by simp [h]]; cases partsC s sz r <;> rfl
  ·rw [if_neg h, show (widthL l == sz) = false by simp [h]]; rfl
theorem v_prtB {sz l r} : prtB sz (some l) r = prtC (widthL l == sz) l r := rt
theorem v_prtT {l l'} : prtC true l (some l') = some (l ++ l') := rt
theorem v_o_bldF {Γ d g s K} {zs parts} : step Γ ⟨d, .bldF zs parts, g⟩ s K = bldFC (bldC s zs parts) s (goE d K) := by simp only [step, AOp.quiet, eff, bldF1, bldFC]; rfl
theorem v_bldFC {l s K} : bldFC (some l) s K = bldF2 (frzAll s l (SV.rowsL l)) K := rt
theorem v_bldF2 {l s K} : bldF2 (s, l) K = K (.agg l) s := rt
theorem v_bsl1 {eb t n s l K} : bsl1 eb t n s (some l) K = bslF eb t n (frzAll s l (SV.rowsL l)) K := rt
theorem v_bslF {eb t n s l K} : bslF eb t n (s, l) K = bsl2 eb t s (t.ofSvL n l) K := rt
theorem v_bsl2 {eb t fr hp xs K} : bsl2 eb t ⟨fr, hp⟩ (no_index (some xs)) K = K (.own hp.length) ⟨fr, hp ++ [.row true eb t xs]⟩ := rt
theorem v_mu1 {va kt vt s i k v K} : mu1 va kt vt s (.mp i) k v K = mu0 va kt vt s (s.hp[i]?) i k v K := rt
theorem v_mu0 {va kt vt s m i k v K} : mu0 va kt vt s (some (.map va kt vt m)) i k v K = (m.length + 1 ≤ maxLen ∧ mu2 va kt vt m i s (kt.keyOf k) (valC va v) K) := by simp only [mu0, true_and, and_true]
theorem v_mu2 {va kt vt m i s key l K} : mu2 va kt vt m i s (no_index (some key)) (some l) K = mu2F va kt vt m i key (frzAll s l (SV.rowsL l)) K := rt
theorem v_mu2F {va kt vt m i key s l K} : mu2F va kt vt m i key (s, l) K = mu3 va kt vt m i key s (vt.ofSv l) K := rt
theorem v_mu3 {va kt vt m i key fr hp y K} : mu3 va kt vt m i key ⟨fr, hp⟩ (no_index (some (y, []))) K = K .junk ⟨fr, hp.set i (.map va kt vt (updM kt vt m key y))⟩ := rt
theorem v_rwN : SV.rowsL [] = [] := by simp only [SV.rowsL]
theorem v_rwC {x r} : SV.rowsL (x :: r) = x.rows ++ SV.rowsL r := by simp only [SV.rowsL]
theorem v_frzN {s l} : frzAll s l [] = (s, l) := rt
theorem v_frzC {s l i r} : frzAll s l (i :: r) = frzB (s.hp[i]?) s l i r := by simp only [frzAll, frzB]; rfl
theorem v_frzR {mv eb t xs fr hp l i r} : frzB (some (.row mv eb t xs)) ⟨fr, hp⟩ l i r = frzAll ⟨frTr (frzF i eb t xs) fr, (mapT (frzF i eb t xs) hp).set i .gone⟩ (SV.trL (frzF i eb t xs) l) r := rt
theorem v_frzG {s l i r} : frzB (some .gone) s l i r = frzAll s l r := rt
theorem v_mapTN {f} : mapT f [] = [] := rt
theorem v_mapTC {f b r} : mapT f (b :: r) = SB.tr f b :: mapT f r := rt
theorem v_btS {f l} : SB.tr f (.struct l) = .struct (SV.trL f l) := rt
theorem v_btR {f mv eb t xs} : SB.tr f (.row mv eb t xs) = .row mv eb t xs := rt
theorem v_btM {f va kt vt m} : SB.tr f (.map va kt vt m) = .map va kt vt m := rt
theorem v_btI {f s p} : SB.tr f (.itr s p) = .itr s p := rt
theorem v_btG {f} : SB.tr f .gone = .gone := rt
theorem v_frTN {f} : frTr f [] = [] := rt
theorem v_frTC {f k x r} : frTr f ((k, x) :: r) = (k, x.tr f) :: frTr f r := rt
theorem v_trLN {f} : SV.trL f [] = [] := by simp only [SV.trL]
theorem v_trLC {f x r} : SV.trL f (x :: r) = x.tr f :: SV.trL f r := by simp only [SV.trL]
theorem v_tr_int {k n f} : SV.tr f (.int k n) = f (.int k n) := by simp only [SV.tr]
theorem v_rows_int {k n} : SV.rows (.int k n) = [] := by simp only [SV.rows]
theorem v_ff_int {i eb t xs k' n'} : frzF i eb t xs (.int k' n') = (.int k' n') := rt
theorem v_tr_bool {b f} : SV.tr f (.bool b) = f (.bool b) := by simp only [SV.tr]
theorem v_rows_bool {b} : SV.rows (.bool b) = [] := by simp only [SV.rows]
theorem v_ff_bool {i eb t xs b'} : frzF i eb t xs (.bool b') = (.bool b') := rt
theorem v_tr_str {t f} : SV.tr f (.str t) = f (.str t) := by simp only [SV.tr]
theorem v_rows_str {t} : SV.rows (.str t) = [] := by simp only [SV.rows]
theorem v_ff_str {i eb t xs t'} : frzF i eb t xs (.str t') = (.str t') := rt
theorem v_tr_sl {p eb t xs f} : SV.tr f (.sl p eb t xs) = f (.sl p eb t xs) := by simp only [SV.tr]
theorem v_rows_sl {p eb t xs} : SV.rows (.sl p eb t xs) = [] := by simp only [SV.rows]
theorem v_ff_sl {i eb t xs p' eb' t' xs'} : frzF i eb t xs (.sl p' eb' t' xs') = (.sl p' eb' t' xs') := rt
theorem v_tr_nilp { f} : SV.tr f SV.nilp = f SV.nilp := by simp only [SV.tr]
theorem v_rows_nilp : SV.rows SV.nilp = [] := by simp only [SV.rows]
theorem v_ff_nilp {i eb t xs } : frzF i eb t xs SV.nilp = SV.nilp := rt
theorem v_tr_nils { f} : SV.tr f SV.nils = f SV.nils := by simp only [SV.tr]
theorem v_rows_nils : SV.rows SV.nils = [] := by simp only [SV.rows]
theorem v_ff_nils {i eb t xs } : frzF i eb t xs SV.nils = SV.nils := rt
theorem v_tr_nilm { f} : SV.tr f SV.nilm = f SV.nilm := by simp only [SV.tr]
theorem v_rows_nilm : SV.rows SV.nilm = [] := by simp only [SV.rows]
theorem v_ff_nilm {i eb t xs } : frzF i eb t xs SV.nilm = SV.nilm := rt
theorem v_tr_nilf { f} : SV.tr f SV.nilf = f SV.nilf := by simp only [SV.tr]
theorem v_rows_nilf : SV.rows SV.nilf = [] := by simp only [SV.rows]
theorem v_ff_nilf {i eb t xs } : frzF i eb t xs SV.nilf = SV.nilf := rt
theorem v_tr_nili { f} : SV.tr f SV.nili = f SV.nili := by simp only [SV.tr]
theorem v_rows_nili : SV.rows SV.nili = [] := by simp only [SV.rows]
theorem v_ff_nili {i eb t xs } : frzF i eb t xs SV.nili = SV.nili := rt
theorem v_tr_junk1 { f} : SV.tr f SV.junk1 = f SV.junk1 := by simp only [SV.tr]
theorem v_rows_junk1 : SV.rows SV.junk1 = [] := by simp only [SV.rows]
theorem v_ff_junk1 {i eb t xs } : frzF i eb t xs SV.junk1 = SV.junk1 := rt
theorem v_tr_junk { f} : SV.tr f SV.junk = f SV.junk := by simp only [SV.tr]
theorem v_rows_junk : SV.rows SV.junk = [] := by simp only [SV.rows]
theorem v_ff_junk {i eb t xs } : frzF i eb t xs SV.junk = SV.junk := rt
theorem v_tr_ptr {i off f} : SV.tr f (.ptr i off) = f (.ptr i off) := by simp only [SV.tr]
theorem v_rows_ptr {i off} : SV.rows (.ptr i off) = [] := by simp only [SV.rows]
theorem v_ff_ptr {i eb t xs i' off'} : frzF i eb t xs (.ptr i' off') = (.ptr i' off') := rt
theorem v_tr_own {i f} : SV.tr f (.own i) = f (.own i) := by simp only [SV.tr]
theorem v_rows_own {i} : SV.rows (.own i) = [i] := by simp only [SV.rows]
theorem v_ff_own {i eb t xs j} : frzF i eb t xs (.own j) = bif j == i then .sl true eb t xs else .own j := by simp only [frzF]; cases hb : j == i <;> simp_all
theorem v_tr_vw {i lo hi sz f} : SV.tr f (.vw i lo hi sz) = f (.vw i lo hi sz) := by simp only [SV.tr]
theorem v_rows_vw {i lo hi sz} : SV.rows (.vw i lo hi sz) = [i] := by simp only [SV.rows]
theorem v_ff_vw {i eb t xs j lo hi sz} : frzF i eb t xs (.vw j lo hi sz) = bif j == i then (bif sz == t.size then .sl true eb t ((xs.drop lo).take (hi - lo)) else .junk1) else .vw j lo hi sz := by simp only [frzF]; cases hb : j == i <;> cases hc : sz == t.size <;> simp_all
theorem v_tr_mp {i f} : SV.tr f (.mp i) = f (.mp i) := by simp only [SV.tr]
theorem v_rows_mp {i} : SV.rows (.mp i) = [] := by simp only [SV.rows]
theorem v_ff_mp {i eb t xs i'} : frzF i eb t xs (.mp i') = (.mp i') := rt
theorem v_tr_el {i n sz off f} : SV.tr f (.el i n sz off) = f (.el i n sz off) := by simp only [SV.tr]
theorem v_rows_el {i n sz off} : SV.rows (.el i n sz off) = [] := by simp only [SV.rows]
theorem v_ff_el {i eb t xs j n sz off} : frzF i eb t xs (.el j n sz off) = bif j == i then .junk1 else .el j n sz off := by simp only [frzF]; cases hb : j == i <;> simp_all
theorem v_tr_ptrA {i off n sz f} : SV.tr f (.ptrA i off n sz) = f (.ptrA i off n sz) := by simp only [SV.tr]
theorem v_rows_ptrA {i off n sz} : SV.rows (.ptrA i off n sz) = [] := by simp only [SV.rows]
theorem v_ff_ptrA {i eb t xs i' off' n' sz'} : frzF i eb t xs (.ptrA i' off' n' sz') = (.ptrA i' off' n' sz') := rt
theorem v_tr_pty {i T f} : SV.tr f (.pty i T) = f (.pty i T) := by simp only [SV.tr]
theorem v_rows_pty {i T} : SV.rows (.pty i T) = [] := by simp only [SV.rows]
theorem v_ff_pty {i eb t xs i' T'} : frzF i eb t xs (.pty i' T') = (.pty i' T') := rt
theorem v_tr_svw {i n f} : SV.tr f (.svw i n) = f (.svw i n) := by simp only [SV.tr]
theorem v_rows_svw {i n} : SV.rows (.svw i n) = [] := by simp only [SV.rows]
theorem v_ff_svw {i eb t xs i' n'} : frzF i eb t xs (.svw i' n') = (.svw i' n') := rt
theorem v_tr_slf {xs f} : SV.tr f (.slf xs) = f (.slf xs) := by simp only [SV.tr]
theorem v_rows_slf {xs} : SV.rows (.slf xs) = [] := by simp only [SV.rows]
theorem v_ff_slf {i eb t xs xs'} : frzF i eb t xs (.slf xs') = (.slf xs') := rt
theorem v_tr_rel {p eb t xs n off f} : SV.tr f (.rel p eb t xs n off) = f (.rel p eb t xs n off) := by simp only [SV.tr]
theorem v_rows_rel {p eb t xs n off} : SV.rows (.rel p eb t xs n off) = [] := by simp only [SV.rows]
theorem v_ff_rel {i eb t xs p' eb' t' xs' n' off'} : frzF i eb t xs (.rel p' eb' t' xs' n' off') = (.rel p' eb' t' xs' n' off') := rt
theorem v_tr_arr {n t xs f} : SV.tr f (.arr n t xs) = (.arr n t xs) := by simp only [SV.tr]
theorem v_rows_arr {n t xs} : SV.rows (.arr n t xs) = [] := by simp only [SV.rows]
theorem v_ff_arr {i eb t xs n' t' xs'} : frzF i eb t xs (.arr n' t' xs') = (.arr n' t' xs') := rt
theorem v_tr_agg {l f} : SV.tr f (.agg l) = .agg (SV.trL f l) := by simp only [SV.tr]
theorem v_tr_tup {l f} : SV.tr f (.tup l) = .tup (SV.trL f l) := by simp only [SV.tr]
theorem v_tr_fn {g l f} : SV.tr f (.fn g l) = .fn g (SV.trL f l) := by simp only [SV.tr]
theorem v_rows_agg {l} : SV.rows (.agg l) = SV.rowsL l := by simp only [SV.rows]
theorem v_rows_fn {g l} : SV.rows (.fn g l) = [] := by simp only [SV.rows]
theorem v_of_int {k n r} : Ty.ofSv (.int k) (.int k n :: r) = some (n, r) := by simp only [Ty.ofSv, if_true]
theorem v_of_byte {n r} : Ty.ofSv .byte (.int .u8 n :: r) = some (UInt8.ofNat n.toNat, r) := rt
theorem v_of_bool {b r} : Ty.ofSv .bool (.bool b :: r) = some (b, r) := rt
theorem v_of_str {s r} : Ty.ofSv .str (.str s :: r) = some (s, r) := rt
theorem v_of_sl {eb t xs r} : Ty.ofSv (.sl eb t) (.sl true eb t xs :: r) = some (xs, r) := by simp only [Ty.ofSv, dite_true, if_true, castT_self]
theorem v_of_nils {eb t r} : Ty.ofSv (.sl eb t) (.nils :: r) = some ([], r) := rt
theorem v_of_pair {a b l} : Ty.ofSv (.pair a b) l = ofP b (a.ofSv l) := by simp only [Ty.ofSv, ofP]; cases a.ofSv l with | none => rfl | some p => cases p; simp only; cases b.ofSv _ with | none => rfl | some q => cases q; rfl
theorem v_ofP {α b x r} : ofP (α := α) b (no_index (some (x, r))) = ofP2 x (b.ofSv r) := by simp only [ofP, ofP2]; cases b.ofSv r with | none => rfl | some q => cases q; rfl
theorem v_ofP2 {α β x y r} : ofP2 (α := α) (β := β) x (no_index (some (y, r))) = some ((x, y), r) := rt
theorem v_of_unit {l} : Ty.ofSv .unit l = some ((), l) := rt
theorem v_ofL0 {t} : Ty.ofSvL t 0 [] = some [] := rt
theorem v_ofLS {t n l} : Ty.ofSvL t (n + 1) l = ofLB t n (t.ofSv l) := by simp only [Ty.ofSvL, ofLB]; cases t.ofSv l with | none => rfl | some p => cases p; simp only; cases Ty.ofSvL t n _ <;> rfl
theorem v_ofLB {t n x r} : ofLB t n (no_index (some (x, r))) = ofLC x (t.ofSvL n r) := by simp only [ofLB, ofLC]
theorem v_ofLC {t x xs} : ofLC (t := t) x (no_index (some xs)) = some (x :: xs) := rt
theorem v_key_int {k n} : Ty.keyOf (.int k) (.int k n) = some n := by simp only [Ty.keyOf, if_true]
theorem v_key_str {s} : Ty.keyOf .str (.str s) = some s := rt
theorem v_key_bool {b} : Ty.keyOf .bool (.bool b) = some b := rt
theorem v_valA {l} : valC true (.agg l) = some l := rt
theorem v_valF {v} : valC false v = valB v.one v := by simp only [valC, valB]; cases v.one <;> simp
theorem v_valB {v} : valB true v = some [v] := rt
theorem v_1_int {k n} : SV.one (.int k n) = true := rt
theorem v_1_bool {b} : SV.one (.bool b) = true := rt
theorem v_1_str {t} : SV.one (.str t) = true := rt
theorem v_1_sl {p eb t xs} : SV.one (.sl p eb t xs) = true := rt
theorem v_1_nilp : SV.one SV.nilp = true := rt
theorem v_1_nils : SV.one SV.nils = true := rt
theorem v_1_nilm : SV.one SV.nilm = true := rt
theorem v_1_nilf : SV.one SV.nilf = true := rt
theorem v_1_nili : SV.one SV.nili = true := rt
theorem v_1_junk1 : SV.one SV.junk1 = true := rt
theorem v_1_ptr {i off} : SV.one (.ptr i off) = true := rt
theorem v_1_own {i} : SV.one (.own i) = true := rt
theorem v_1_vw {i lo hi sz} : SV.one (.vw i lo hi sz) = true := rt
theorem v_1_mp {i} : SV.one (.mp i) = true := rt
theorem v_1_el {i n sz off} : SV.one (.el i n sz off) = true := rt
theorem v_1_ptrA {i off n sz} : SV.one (.ptrA i off n sz) = true := rt
theorem v_1_pty {i T} : SV.one (.pty i T) = true := rt
theorem v_1_svw {i n} : SV.one (.svw i n) = true := rt
theorem v_1_slf {xs} : SV.one (.slf xs) = true := rt
theorem v_1_rel {p eb t xs n off} : SV.one (.rel p eb t xs n off) = true := rt
theorem v_1_fn {g l} : SV.one (.fn g l) = true := rt
theorem v_sz_int {k} : Ty.size (.int k) = 1 := rt
theorem v_sz_byte : Ty.size .byte = 1 := rt
theorem v_sz_bool : Ty.size .bool = 1 := rt
theorem v_sz_str : Ty.size .str = 1 := rt
theorem v_sz_sl {eb t} : Ty.size (.sl eb t) = 1 := rt
theorem v_sz_pair {a b} : Ty.size (.pair a b) = a.size + b.size := rt
theorem v_sz_unit : Ty.size .unit = 0 := rt
theorem v_sv_int {p k n} : Ty.sv p (.int k) n = [.int k n] := rt
theorem v_sv_byte {p b} : Ty.sv p .byte b = [.int .u8 (UInt8.toNat b : Int)] := rt
theorem v_sv_bool {p b} : Ty.sv p .bool b = [.bool b] := rt
theorem v_sv_str {p s} : Ty.sv p .str s = [.str s] := rt
theorem v_sv_sl {p eb t xs} : Ty.sv p (.sl eb t) xs = [.sl p eb t xs] := rt
theorem v_sv_pair {p a b x} : Ty.sv p (.pair a b) x = a.sv p x.1 ++ b.sv p x.2 := rt
theorem v_sv_unit {p x} : Ty.sv p .unit x = [] := rt
theorem v_df_int {k} : Ty.dflt (.int k) = (0 : Int) := rt
theorem v_df_bool : Ty.dflt .bool = false := rt
theorem v_df_str : Ty.dflt .str = ByteArray.empty := rt
theorem v_df_sl {eb t} : Ty.dflt (.sl eb t) = [] := rt
theorem v_apN {eb t s H ys K} : app1 eb t s .nils H (no_index (some ys)) K = ((H → ys.length * eb ≤ 140737488355328) ∧ (ys.length * eb ≤ 140737488355328 → K (.own s.hp.length) (pushS s (.row true eb t ys)))) := rt
theorem v_seV {fr hp i lo hi sz} : settle ⟨fr, hp⟩ (.vw i lo hi sz) = seV (hp[i]?) fr hp i lo hi sz := by
 simp only [settle, seV]
 cases hp[i]? with
 | none => rfl
 | some b =>
  cases b with
  | row mv eb t xs =>
   by_cases h : sz = t.size
   ·subst h; simp [seB]
   ·have h2 : (sz == t.size) = false := beq_eq_false_iff_ne.2 h
    simp [seB, h, h2]
  | _ => rfl
theorem v_seV1 {mv eb t xs fr hp i lo hi sz} : seV (some (.row mv eb t xs)) fr hp i lo hi sz = seB (sz == t.size) eb t xs fr hp i lo hi := rt
theorem v_seB {eb t xs fr hp i lo hi} : seB true eb t xs fr hp i lo hi = (.own i, ⟨frRen (but i) fr, (mapR (but i) hp).set i (.row true eb t ((xs.drop lo).take (hi - lo)))⟩) := rt
theorem v_apO {eb t fr hp i H ys K} : app1 eb t ⟨fr, hp⟩ (.own i) H (no_index (some ys)) K = apO (hp[i]?) eb t fr hp i H ys K := by simp only [app1, apO]; rfl
theorem v_apO1 {mv eb t xs fr hp i H ys K} : apO (some (.row mv eb t xs)) eb t fr hp i H ys K = ((H → xs.length * eb ≤ 140737488355328 → (xs.length + ys.length) * eb ≤ 140737488355328) ∧ ((xs.length + ys.length) * eb ≤ 140737488355328 → K (.own i) ⟨frRen (but i) fr, (mapR (but i) hp).set i (.row true eb t (xs ++ ys))⟩)) := by simp only [apO, dite_true, true_and, castT_self]; rfl
theorem v_push {fr hp b} : pushS ⟨fr, hp⟩ b = ⟨fr, hp ++ [b]⟩ := rt
theorem v_shN {hp} : srcH hp .nils = True := by simp only [srcH, cont]
theorem v_shS {hp b} : srcH hp (.str b) = (b.size ≤ maxLen) := rt
theorem v_shSl {hp t eb p xs} : srcH hp (.sl p eb t xs) = (xs.length * eb ≤ 140737488355328) := rt
theorem v_shO {hp i} : srcH hp (.own i) = shR (hp[i]?) := by simp only [srcH, cont, shR]; cases hp[i]? with | none => rfl | some b => cases b <;> rfl
theorem v_shR {mv eb t xs} : shR (some (.row mv eb t xs)) = (xs.length * eb ≤ 140737488355328) := rt
theorem v_shV {hp i lo hi sz} : srcH hp (.vw i lo hi sz) = shV (hp[i]?) lo hi sz := by simp only [srcH, cont, shV]; cases hp[i]? with | none => rfl | some b => cases b with | row mv eb t xs => (by_cases h : sz = t.size <;> simp [h]) | _ => rfl
theorem v_shW {mv eb t xs lo hi sz} : shV (some (.row mv eb t xs)) lo hi sz = shW (sz == t.size) eb ((xs.drop lo).take (hi - lo)) := by
 simp only [shV, shW]
 by_cases h : sz = t.size
 ·subst h; simp
 ·have h2 : (sz == t.size) = false := beq_eq_false_iff_ne.2 h
  simp [h, h2]
theorem v_shWT {α eb xs} : shW (α := α) true eb xs = (xs.length * eb ≤ 140737488355328) := rt
theorem v_srcV {hp t i lo hi sz} : srcOf hp t (.vw i lo hi sz) = srcW (hp[i]?) t lo hi sz := by simp only [srcOf, cont, srcW]; cases hp[i]? with | none => rfl | some b => cases b <;> rfl
theorem v_srcW {mv eb t xs lo hi sz} : srcW (some (.row mv eb t xs)) t lo hi sz = srcZ (sz == t.size) ((xs.drop lo).take (hi - lo)) := by
 simp only [srcW]
 by_cases h : sz = t.size
 ·subst h; simp [srcZ]
 ·have h2 : (sz == t.size) = false := beq_eq_false_iff_ne.2 h
  simp [h, h2, srcZ]
theorem v_srcZT {t : Ty} {xs : List t.den} : srcZ true xs = some xs := rt
theorem v_srcN {hp t} : srcOf hp t .nils = some [] := rt
theorem v_srcS {hp b} : srcOf hp .byte (.str b) = some (b.data.toList : List UInt8) := by simp only [srcOf, dite_true, castT_self]
theorem v_srcSl {hp t eb p xs} : srcOf hp t (.sl p eb t xs) = srcB (p || t.flat) xs := by simp only [srcOf, cont, dite_true, srcB, castT_self]; cases p || t.flat <;> rfl
theorem v_srcT {t xs} : srcB (t := t) true xs = some xs := rt
theorem v_srcO {hp t i} : srcOf hp t (.own i) = srcR (hp[i]?) t := by simp only [srcOf, cont, srcR]; cases hp[i]? with | none => rfl | some b => cases b <;> rfl
theorem v_srcR {mv eb t xs} : srcR (some (.row mv eb t xs)) t = some xs := by simp only [srcR, dite_true, Bool.true_or, if_true, castT_self]
theorem v_fl_t1 {k} : Ty.flat (.int k) = true := rt
theorem v_fl_t2 : Ty.flat .byte = true := rt
theorem v_fl_t3 : Ty.flat .bool = true := rt
theorem v_fl_t4 : Ty.flat .str = true := rt
theorem v_isnO {ng i fr hp K} : isnC ng (.own i) ⟨fr, hp⟩ K = isnO (hp[i]?) ng ⟨fr, hp⟩ K := by simp only [isnC, cont, isnO]; cases hp[i]? with | none => rfl | some b => cases b <;> rfl
theorem v_isnV {ng i lo hi sz fr hp K} : isnC ng (.vw i lo hi sz) ⟨fr, hp⟩ K = isnW (hp[i]?) ng lo hi sz ⟨fr, hp⟩ K := by
 simp only [isnC, cont, isnW]
 cases hp[i]? with
 | none => rfl
 | some b =>
  cases b with
  | row mv eb t xs =>
   simp only
   by_cases h : sz = t.size <;> simp [h]
  | _ => rfl
theorem v_isnW {mv eb t xs ng lo hi sz s K} : isnW (some (.row mv eb t xs)) ng lo hi sz s K = (sz = t.size ∧ ∀ b : Bool, (b = true → (xs.drop lo).take (hi - lo) = []) → K (.bool (bif ng then !b else b)) s) := rt
theorem v_isnO1 {mv eb t xs ng s K} : isnO (some (.row mv eb t xs)) ng s K = ∀ b : Bool, (b = true → xs = []) → K (.bool (bif ng then !b else b)) s := rt
attribute [go_sem] v_skip v_reg v_seq v_cond v_condC v_block v_exit v_ret v_lift v_lfN v_lf_own v_lf_sl v_lf_vw v_lf_junk1 v_lf_junk v_lf_ptr v_lf_nilp v_lf_agg v_lf_mp v_lfP v_lfPn v_lfPj v_lfPk v_cellsOf v_lc v_lcD v_lc_own v_lc_sl v_lc_vw v_lc_junk1 v_lc_junk v_frz v_frzS v_frzT v_rwP v_rwB v_rwO_own v_rwO_sl v_rwO_nils v_rwO_agg v_rwO_tup v_rwO_nilp v_rwO_vw v_rows_tup2 v_swp v_swpO v_swpT v_swp3 v_swpF v_swp2 v_isR v_cellNo v_swpNo v_swpNp v_swpN v_swpSl v_swpFn v_loop v_lpK v_lkAC v_canon v_canonI v_regK v_contN v_contE v_contR v_blkN v_blkR v_blkE v_blkT v_blkF v_finN v_finR v_finE v_stsN v_stsC v_stsD v_settleT v_setP v_finS v_finO v_resLN v_resLT v_resLC v_resLW v_resLF v_stsW v_stsF v_lendB v_lendBN v_lendBS v_lendBO v_lendO v_unboC v_unboHC v_ub_int v_ub_bool v_ub_str v_ub_nilp v_ub_nils v_ub_nilm v_ub_nilf v_ub_nili v_ub_junk1 v_ub_junk v_ub_ptr v_ub_own v_ub_vw v_ub_mp v_ub_el v_ub_ptrA v_ub_pty v_ub_svw v_ub_slf v_ub_sl v_ub_slt v_consV v_ptrV v_cellN v_cellS v_one0 v_one1 v_one2 v_finRR v_finI v_argN v_argC v_getT v_getC v_getF v_lkN v_lkC v_upN v_upC v_putS v_putN v_keepN v_keepC v_fr v_hp v_runN v_runC v_runG v_runK v_grd v_grdT v_goK v_goE v_swN v_regD v_runDN v_runDQ v_runDE v_regT v_runTN v_runTQ v_runTE v_runTO v_runTK v_runDK v_runE0 v_runEG v_grdE v_grdET v_andK v_chkN v_chkC v_chk0 v_chkG v_chkS v_chkT v_eqK v_atA v_atO v_o_mv v_k_mv v_o_pick v_k_pick v_o_nck v_k_nck v_o_fld v_k_fld v_o_fa v_k_fa v_o_ia v_k_ia v_o_iaA v_k_iaA v_o_ixS v_k_ixS v_o_ixA v_k_ixA v_o_bldA v_k_bldA v_o_ld v_k_ld v_o_ldA v_k_ldA v_o_bin v_k_bin v_o_binB v_k_binB v_o_eqS v_k_eqS v_o_eqR v_k_eqR v_o_eqn v_k_eqn v_o_not v_k_not v_o_neg v_k_neg v_o_cv v_k_cv v_o_b2s v_k_b2s v_o_ext v_k_ext v_o_len v_k_len v_o_mm v_k_mm v_o_lk v_k_lk v_o_bld v_k_bld v_o_mkf v_k_mkf v_o_slR v_k_slR v_o_slS v_k_slS v_o_cvS v_k_cvS v_ixA v_arrO v_arrO1 v_b2sN v_b2sL v_b2sO v_b2sR v_b2sV v_b2sW v_ldA v_ldAr v_ldA2 v_ldA3 v_ldA4 v_ldA5 v_ldA6 v_ldAb v_stA v_stA1 v_stA2 v_stA3 v_stoT v_stoE v_stoG v_stE v_stEr v_stE2 v_stE3 v_stE4 v_bdN v_bdS v_bdI v_slRn v_slRs v_slRo v_slRO v_slRv v_slRV v_slSs v_cvSs v_o_isn v_isnN v_isnS v_o_alc v_o_alcT v_o_mkm v_o_st v_o_app v_app2 v_o_box v_boxC v_o_call v_o_callv v_callVC v_nonesN v_nonesC v_callC0 v_callC1 v_callC2 v_plugK v_lkCN v_lkCC v_lendN v_lendC v_lendK v_pick v_nck_ptr v_nck_el v_nck_rel v_nck_fn v_nck_pty v_optS v_fldN v_fldS v_headO v_takeO v_aggO v_faP v_faE v_faT v_faA v_faR v_iaS v_iaO v_iaO1 v_iaV v_iaV1 v_lenV v_lenW v_iaA v_ixS v_ldP v_ldPN v_ldPS v_ldR v_ldXN v_ldXS v_ldEr v_ldEb v_ldRN v_ldRS v_ldE v_binII v_binSS v_i_add v_i_sub v_i_mul v_i_and v_i_or v_i_xor v_i_andNot v_i_quo v_i_rem v_i_shl v_i_shr v_i_eql v_i_neq v_i_lss v_i_leq v_i_gtr v_i_geq v_s_eql v_s_neq v_s_lss v_s_leq v_s_gtr v_s_geq v_s_add v_ndnd v_ndA v_ndTr v_ndT v_gI v_gB v_gS v_not v_binB v_eqS v_eqO v_eqLN v_eqLC v_eqJ v_eqCi v_eqCb v_eqCs v_eqR v_e_pnn v_e_pnp v_e_ppn v_e_mnn v_e_mpn v_e_fnn v_e_ffn v_neg v_cv v_ext v_lenI v_lenN v_lenS v_lenO v_lenO1 v_lenM v_lenP v_lenM1 v_mm v_lkNil v_lkNCs v_lk v_lkM v_lkV v_lkTt v_lkTf v_toVt v_toVf v_toV1 v_lkK v_rh0 v_rhN v_rhC v_rfN v_rfC v_bS v_bR v_bM v_bI v_bG v_rLN v_rLC v_rf_int v_rn_int v_rf_bool v_rn_bool v_rf_str v_rn_str v_rf_sl v_rn_sl v_rf_nilp v_rn_nilp v_rf_nils v_rn_nils v_rf_nilm v_rn_nilm v_rf_nilf v_rn_nilf v_rf_nili v_rn_nili v_rf_junk1 v_rn_junk1 v_rf_junk v_rn_junk v_rf_ptr v_rn_ptr v_rnS_ptr v_rnN_ptr v_rf_own v_rn_own v_rnS_own v_rnN_own v_rf_vw v_rn_vw v_rnS_vw v_rnN_vw v_rf_mp v_rn_mp v_rnS_mp v_rnN_mp v_rf_el v_rn_el v_rnS_el v_rnN_el v_rf_ptrA v_rn_ptrA v_rnS_ptrA v_rnN_ptrA v_rf_pty v_rn_pty v_rnS_pty v_rnN_pty v_rf_svw v_rn_svw v_rnS_svw v_rnN_svw v_rf_slf v_rn_slf v_rf_rel v_rn_rel v_rf_arr v_rn_arr v_rf_agg v_rn_agg v_rf_tup v_rn_tup v_rf_fn v_rn_fn v_rnLN v_rnLC v_brS v_brR v_brM v_brI v_brG v_frN v_frC v_but v_posN v_posC v_addN v_addS v_selN v_selC v_getO v_rchN v_rchC v_rchT v_rchS v_rchR v_rchM v_rchI v_rchG v_range0 v_range1 v_range2 v_range3 v_range4 v_range5 v_range6 v_range7 v_range8 v_drop v_drop0 v_drpT v_take0 v_take v_tkT v_consO v_head v_hdF v_w_int v_ia_int v_fl_int v_se_int v_on_int v_el_int v_w_bool v_ia_bool v_fl_bool v_se_bool v_on_bool v_el_bool v_w_str v_ia_str v_fl_str v_se_str v_on_str v_el_str v_w_sl v_ia_sl v_fl_sl v_se_sl v_on_sl v_el_sl v_w_nilp v_ia_nilp v_fl_nilp v_se_nilp v_on_nilp v_el_nilp v_w_nils v_ia_nils v_fl_nils v_se_nils v_on_nils v_el_nils v_w_nilm v_ia_nilm v_fl_nilm v_se_nilm v_on_nilm v_el_nilm v_w_nilf v_ia_nilf v_fl_nilf v_se_nilf v_on_nilf v_el_nilf v_w_nili v_ia_nili v_fl_nili v_se_nili v_on_nili v_el_nili v_w_junk1 v_ia_junk1 v_fl_junk1 v_se_junk1 v_on_junk1 v_el_junk1 v_w_junk v_ia_junk v_se_junk v_el_junk v_w_ptr v_ia_ptr v_fl_ptr v_se_ptr v_on_ptr v_el_ptr v_w_own v_ia_own v_fl_own v_se_own v_on_own v_el_own v_w_vw v_ia_vw v_fl_vw v_on_vw v_el_vw v_w_mp v_ia_mp v_fl_mp v_se_mp v_on_mp v_el_mp v_w_el v_ia_el v_fl_el v_se_el v_on_el v_el_el v_w_ptrA v_ia_ptrA v_fl_ptrA v_se_ptrA v_on_ptrA v_el_ptrA v_w_pty v_ia_pty v_fl_pty v_se_pty v_on_pty v_el_pty v_w_svw v_ia_svw v_fl_svw v_se_svw v_on_svw v_el_svw v_w_slf v_ia_slf v_fl_slf v_se_slf v_on_slf v_el_slf v_w_rel v_ia_rel v_fl_rel v_se_rel v_on_rel v_el_rel v_w_arr v_ia_arr v_se_arr v_on_arr v_el_arr v_w_agg v_ia_agg v_fl_agg v_se_agg v_el_agg v_w_tup v_ia_tup v_se_tup v_el_tup v_w_fn v_ia_fn v_fl_fn v_se_fn v_on_fn v_el_fn v_on_nil v_ones v_wlN v_wlC v_spl v_splB v_bldN v_bldC v_bldB v_bldD v_sto v_stoF v_stoV v_st1 v_stP v_stQ v_unboN v_unboHN v_back v_bkT v_bkF v_movN v_movC v_mvT v_mvF v_stS v_stM v_stI v_stR v_stG v_but2 v_plugHp v_mapRN v_mapRC v_plN v_plC v_plS v_plNo v_mvoR v_mvoS v_mvoM v_mvoI v_mvoG v_rsS v_rsR v_rsM v_rsI v_rsG v_mapGN v_mapGC v_mapSN v_mapSC v_o_bsl v_o_mu v_o_s2b v_s2b v_o_mks v_mks v_o_dl v_dl1 v_dl0 v_dl2 v_o_mkb v_mkb1 v_mkb2 v_o_rng v_rng1 v_o_nxt v_nxt1 v_nxt2 v_o_cpy v_cpy1 v_cpy2 v_lendBV v_lendW v_lendZ v_prtN v_prtC v_prtB v_prtT v_o_bldF v_bldFC v_bldF2 v_bsl1 v_bslF v_bsl2 v_mu1 v_mu0 v_mu2 v_mu2F v_mu3 v_rwN v_rwC v_frzN v_frzC v_frzR v_frzG v_mapTN v_mapTC v_btS v_btR v_btM v_btI v_btG v_frTN v_frTC v_trLN v_trLC v_tr_int v_rows_int v_ff_int v_tr_bool v_rows_bool v_ff_bool v_tr_str v_rows_str v_ff_str v_tr_sl v_rows_sl v_ff_sl v_tr_nilp v_rows_nilp v_ff_nilp v_tr_nils v_rows_nils v_ff_nils v_tr_nilm v_rows_nilm v_ff_nilm v_tr_nilf v_rows_nilf v_ff_nilf v_tr_nili v_rows_nili v_ff_nili v_tr_junk1 v_rows_junk1 v_ff_junk1 v_tr_junk v_rows_junk v_ff_junk v_tr_ptr v_rows_ptr v_ff_ptr v_tr_own v_rows_own v_ff_own v_tr_vw v_rows_vw v_ff_vw v_tr_mp v_rows_mp v_ff_mp v_tr_el v_rows_el v_ff_el v_tr_ptrA v_rows_ptrA v_ff_ptrA v_tr_pty v_rows_pty v_ff_pty v_tr_svw v_rows_svw v_ff_svw v_tr_slf v_rows_slf v_ff_slf v_tr_rel v_rows_rel v_ff_rel v_tr_arr v_rows_arr v_ff_arr v_tr_agg v_tr_tup v_tr_fn v_rows_agg v_rows_fn v_of_int v_of_byte v_of_bool v_of_str v_of_sl v_of_nils v_of_pair v_ofP v_ofP2 v_of_unit v_ofL0 v_ofLS v_ofLB v_ofLC v_key_int v_key_str v_key_bool v_valA v_valF v_valB v_1_int v_1_bool v_1_str v_1_sl v_1_nilp v_1_nils v_1_nilm v_1_nilf v_1_nili v_1_junk1 v_1_ptr v_1_own v_1_vw v_1_mp v_1_el v_1_ptrA v_1_pty v_1_svw v_1_slf v_1_rel v_1_fn v_sz_int v_sz_byte v_sz_bool v_sz_str v_sz_sl v_sz_pair v_sz_unit v_sv_int v_sv_byte v_sv_bool v_sv_str v_sv_sl v_sv_pair v_sv_unit v_df_int v_df_bool v_df_str v_df_sl v_apN v_seV v_seV1 v_seB v_apO v_apO1 v_push v_shN v_shS v_shSl v_shO v_shR v_shV v_shW v_shWT v_srcV v_srcW v_srcZT v_srcN v_srcS v_srcSl v_srcT v_srcO v_srcR v_fl_t1 v_fl_t2 v_fl_t3 v_fl_t4 v_isnO v_isnV v_isnW v_isnO1
attribute [go_sem high] v_gBT v_gBF v_gIL
attribute [go_sem ↓] v_swT v_swF
end Go.V
