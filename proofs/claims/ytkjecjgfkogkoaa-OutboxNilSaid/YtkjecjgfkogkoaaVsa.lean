/- A quiet operation's value, for reckoning: what is not plain is named anew. -/
import Derived.Test.YtkjecjgfkogkoaaVs
namespace Go.V
set_option linter.unusedSimpArgs false
set_option linter.unnecessarySimpa false
set_option linter.unusedVariables false

/-- Two ways. -/
def sw (b : Bool) (A B : Prop) : Prop :=
  match b with
  | true => A
  | false => B

theorem sw_intro {b : Bool} {A B : Prop} (h1 : b = true → A) (h2 : b = false → B) : sw b A B := by
  cases b
  · exact h2 rfl
  · exact h1 rfl
theorem sw_true {b : Bool} {A B : Prop} (h : sw b A B) (hb : b = true) : A := by subst hb; exact h
theorem sw_false {b : Bool} {A B : Prop} (h : sw b A B) (hb : b = false) : B := by subst hb; exact h

def gI (k : IntKind) (n : Int) (K : SV → Prop) : Prop := ∀ m : Int, m = n → K (.int k m)
def gB (b : Bool) (K : SV → Prop) : Prop := ∀ c : Bool, c = b → K (.bool c)
def gS (t : ByteArray) (K : SV → Prop) : Prop := ∀ u : ByteArray, u = t → K (.str u)

def pickC (c a b : SV) (K : SV → Prop) : Prop :=
  match c with
  | .bool c => sw c (K a) (K b)
  | _ => False

def nckC (x : SV) (K : SV → Prop) : Prop :=
  match x with
  | .ptr i off => K (.ptr i off)
  | .el i n sz off => K (.el i n sz off)
  | .rel p eb t xs n off => K (.rel p eb t xs n off)
  | .fn f caps => K (.fn f caps)
  | _ => False

def optC (x : Option SV) (K : SV → Prop) : Prop :=
  match x with
  | some v => K v
  | none => False

def aggO (x : Option (List SV)) : Option SV :=
  match x with
  | some l => some (.agg l)
  | none => none

def headO (x : Option (List SV)) : Option SV :=
  match x with
  | some l => headC l
  | none => none

def takeO (x : Option (List SV)) (n : Nat) : Option SV :=
  match x with
  | some l => aggO (takeC l n)
  | none => none

def fldV (off : Nat) (n : Option Nat) (x : SV) : Option SV :=
  match x with
  | .agg l => match n with
    | none => headO (dropC l off)
    | some n => takeO (dropC l off) n
  | _ => none

def faC (off : Nat) (x : SV) (K : SV → Prop) : Prop :=
  match x with
  | .ptr i o => K (.ptr i (o + off))
  | .el i n sz o => K (.el i n sz (o + off))
  | .rel p eb t xs n o => K (.rel p eb t xs n (o + off))
  | _ => False

def iaC (hp : List SB) (sz : Nat) (x i : SV) (K : SV → Prop) : Prop :=
  match i with
  | .int _ n => match x with
    | .sl p eb t xs => sz = t.size ∧ (0 ≤ n ∧ n < xs.length) ∧ ((0 ≤ n ∧ n < xs.length) → ∀ m : Nat, m = n.toNat → K (.rel p eb t xs m 0))
    | .own j => match hp[j]? with
      | some (.row _ _ _ xs) => (0 ≤ n ∧ n < xs.length) ∧ ((0 ≤ n ∧ n < xs.length) → ∀ m : Nat, m = n.toNat → K (.el j m sz 0))
      | _ => False
    | .vw j lo hi sz' => match hp[j]? with
      | some (.row _ _ t xs) => (sz = sz' ∧ sz = t.size) ∧ (0 ≤ n ∧ lo + n < hi ∧ hi ≤ xs.length) ∧ ((0 ≤ n ∧ lo + n < hi ∧ hi ≤ xs.length) → ∀ m : Nat, m = lo + n.toNat → K (.el j m sz 0))
      | _ => False
    | _ => False
  | _ => False

def iaAC (len sz : Nat) (x i : SV) (K : SV → Prop) : Prop :=
  match i with
  | .int _ n => match x with
    | .ptr j off => (0 ≤ n ∧ n < len) ∧ ((0 ≤ n ∧ n < len) → ∀ m : Nat, m = n.toNat → K (.ptrA j off m sz))
    | _ => False
  | _ => False

def ixC (x i : SV) (K : SV → Prop) : Prop :=
  match x with
  | .str b => match i with
    | .int _ n => (0 ≤ n ∧ n < b.size) ∧ ((0 ≤ n ∧ n < b.size) → gI .u8 ((b.data.toList.getD n.toNat 0).toNat : Int) K)
    | _ => False
  | _ => False

/-- What an address shows: a struct's cells at once; else with a condition. -/
def ldC (hp : List SB) (x : SV) (n : Option Nat) (K : SV → Prop) : Prop :=
  match x with
  | .ptr i off => match hp[i]? with
    | some (.struct cells) => match n with
      | none => optC (headO (dropC cells off)) K
      | some n => optC (takeO (dropC cells off) n) K
    | _ => False
  | x => match seen hp x with
    | some (need, l) => need ∧ (need → match n with
      | none => optC (headC l) K
      | some n => optC (aggO (takeC l n)) K)
    | none => False

def qrC (q : Option QR) (K : SV → Prop) : Prop :=
  match q with
  | some q => q.need ∧ (q.need → q.hyp → K q.val)
  | none => False

def binC (op : BinOp) (k k' : IntKind) (a b : Int) (K : SV → Prop) : Prop :=
  match op with
  | .shl => 0 ≤ b ∧ (0 ≤ b → inR k a → inR k' b → gI k (k.wrap (a * 2 ^ (min b.toNat k.bits))) K)
  | .shr => 0 ≤ b ∧ (0 ≤ b → inR k a → inR k' b → gI k (a.fdiv (2 ^ (min b.toNat k.bits))) K)
  | .add => k = k' ∧ (inR k a → inR k b → gI k (k.wrap (a + b)) K)
  | .sub => k = k' ∧ (inR k a → inR k b → gI k (k.wrap (a - b)) K)
  | .mul => k = k' ∧ (inR k a → inR k b → gI k (k.wrap (a * b)) K)
  | .quo => k = k' ∧ b ≠ 0 ∧ (b ≠ 0 → inR k a → inR k b → gI k (k.wrap (a.tdiv b)) K)
  | .rem => k = k' ∧ b ≠ 0 ∧ (b ≠ 0 → inR k a → inR k b → gI k (a.tmod b) K)
  | .and => k = k' ∧ (inR k a → inR k b → gI k (bitsI .and k a b) K)
  | .or => k = k' ∧ (inR k a → inR k b → gI k (bitsI .or k a b) K)
  | .xor => k = k' ∧ (inR k a → inR k b → gI k (bitsI .xor k a b) K)
  | .andNot => k = k' ∧ (inR k a → inR k b → gI k (bitsI .andNot k a b) K)
  | .eql => k = k' ∧ gB (decide (a = b)) K
  | .neq => k = k' ∧ gB (!decide (a = b)) K
  | .lss => k = k' ∧ gB (decide (a < b)) K
  | .leq => k = k' ∧ gB (decide (a ≤ b)) K
  | .gtr => k = k' ∧ gB (decide (b < a)) K
  | .geq => k = k' ∧ gB (decide (b ≤ a)) K

def binSC (op : BinOp) (a b : ByteArray) (K : SV → Prop) : Prop :=
  match op with
  | .add => a.size + b.size ≤ maxLen ∧ gS (a ++ b) K
  | .eql => gB (decide (a = b)) K
  | .neq => gB (!decide (a = b)) K
  | .lss => gB (ltS a b) K
  | .leq => gB (ltS a b || decide (a = b)) K
  | .gtr => gB (!(ltS a b || decide (a = b))) K
  | .geq => gB (!ltS a b) K
  | _ => False

def binV (op : BinOp) (x y : SV) (K : SV → Prop) : Prop :=
  match x with
  | .int k a => match y with
    | .int k' b => binC op k k' a b K
    | _ => False
  | .str a => match y with
    | .str b => binSC op a b K
    | _ => False
  | _ => False

def eqnC (ng : Bool) (k : NK) (x y : SV) (K : SV → Prop) : Prop :=
  match k with
  | .p => match x with
    | .nilp => match y with
      | .nilp => K (.bool (!ng))
      | .ptr _ _ => K (.bool ng)
      | _ => False
    | .ptr _ _ => match y with
      | .nilp => K (.bool ng)
      | _ => False
    | _ => False
  | .s => match x with
    | .nils => match y with
      | .nils => K (.bool (!ng))
      | _ => False
    | _ => False
  | .m => match x with
    | .nilm => match y with
      | .nilm => K (.bool (!ng))
      | _ => False
    | .mp _ => match y with
      | .nilm => K (.bool ng)
      | _ => False
    | _ => False
  | .f => match x with
    | .nilf => match y with
      | .nilf => K (.bool (!ng))
      | _ => False
    | .fn _ _ => match y with
      | .nilf => K (.bool ng)
      | _ => False
    | _ => False
  | .i => False

def notC (x : SV) (K : SV → Prop) : Prop :=
  match x with
  | .bool b => K (.bool (!b))
  | _ => False

def binBC (ng : Bool) (x y : SV) (K : SV → Prop) : Prop :=
  match x with
  | .bool a => match y with
    | .bool b => gB (bif ng then !(a == b) else (a == b)) K
    | _ => False
  | _ => False

def negC (x : SV) (K : SV → Prop) : Prop :=
  match x with
  | .int k n => inR k n → gI k (k.wrap (0 - n)) K
  | _ => False

def cvC (k : IntKind) (x : SV) (K : SV → Prop) : Prop :=
  match x with
  | .int k' n => inR k' n → gI k (k.wrap n) K
  | _ => False

def b2sC (hp : List SB) (x : SV) (K : SV → Prop) : Prop :=
  match x with
  | .nils => K (.str ByteArray.empty)
  | y => match cont hp y with
    | some ⟨_, _, .byte, xs⟩ => gS ⟨(xs : List UInt8).toArray⟩ K
    | _ => False

def extC (x : SV) (i : Nat) (K : SV → Prop) : Prop :=
  match x with
  | .tup l => optC (l[i]?) K
  | _ => False

def lenC (hp : List SB) (k : NK) (x : SV) (K : SV → Prop) : Prop :=
  match k with
  | .i => match x with
    | .str b => b.size ≤ maxLen → gI .i64 b.size K
    | _ => False
  | .m => match x with
    | .nilm => K (.int .i64 0)
    | .mp i => match hp[i]? with
      | some (.map _ _ _ m) => m.length ≤ maxLen → gI .i64 m.length K
      | _ => False
    | _ => False
  | .s => match x with
    | .nils => K (.int .i64 0)
    | y => match cont hp y with
      | some C => C.xs.length ≤ maxLen → C.xs.length * C.eb ≤ 140737488355328 → gI .i64 C.xs.length K
      | none => False
  | _ => False

def mmC (mx : Bool) (x y : SV) (K : SV → Prop) : Prop :=
  match x with
  | .int k a => match y with
    | .int k' b => k = k' ∧ gI k (bif mx then (if a < b then b else a) else (if b < a then b else a)) K
    | _ => False
  | _ => False

/-- An entry's value, named anew. -/
def lkV (va : Bool) (vt : Ty) (x : Option vt.den) (ok : Bool) (K : SV → Prop) : Prop :=
  ∀ (y : vt.den) (b : Bool), y = x.getD vt.dflt → b = x.isSome → match toV va true vt y with
    | some z => match ok with
      | true => K (.tup [z, .bool b])
      | false => K z
    | none => False

def lkC2 (hp : List SB) (va : Bool) (kt vt : Ty) (ok : Bool) (x k : SV) (K : SV → Prop) : Prop :=
  match x with
  | .mp i => match hp[i]? with
    | some (.map va' kt' vt' m) => (va' = va ∧ kt' = kt ∧ vt' = vt) ∧ (match kt'.keyOf k with
      | some key => lkV va' vt' (lookM kt' vt' m key) ok K
      | none => False)
    | _ => False
  | _ => False

/-- A bound. -/
def bdC (s : SS) (d : Int) (o : Option Opd) (K : Int → Prop) : Prop :=
  match o with
  | none => K d
  | some x => match s.get x with
    | .int _ n => K n
    | _ => False

theorem bdC_spec {s : SS} {d : Int} {o : Option Opd} {K : Int → Prop} (h : bdC s d o K) : ∃ n, bound s d o = some n ∧ K n := by
  unfold bdC at h
  split at h
  · exact ⟨d, rfl, h⟩
  · rename_i x
    split at h
    · rename_i k n hx
      exact ⟨n, by simp only [bound, hx], h⟩
    · cases h

def slRO (s : SS) (sz j : Nat) (b : Option SB) (lo hi : Option Opd) (K : SV → Prop) : Prop :=
  match b with
  | some (.row _ _ t xs) => sz = t.size ∧ bdC s 0 lo fun l => bdC s xs.length hi fun h => (0 ≤ l ∧ l ≤ h ∧ h ≤ xs.length) ∧
      (0 ≤ l → l ≤ h → h ≤ xs.length → ∀ a b : Nat, a = l.toNat → b = h.toNat → K (.vw j a b sz))
  | _ => False

def slRV (s : SS) (sz sz' j a b : Nat) (r : Option SB) (lo hi : Option Opd) (K : SV → Prop) : Prop :=
  match r with
  | some (.row _ _ t xs) => (sz = sz' ∧ sz = t.size) ∧ bdC s 0 lo fun l => bdC s ((b - a : Nat) : Int) hi fun h => (0 ≤ l ∧ l ≤ h ∧ h ≤ ((b - a : Nat) : Int)) ∧
      (0 ≤ l → l ≤ h → h ≤ ((b - a : Nat) : Int) → ∀ a' b' : Nat, a' = a + l.toNat → b' = a + h.toNat → K (.vw j a' b' sz))
  | _ => False

def slRC (s : SS) (sz : Nat) (x : SV) (lo hi : Option Opd) (K : SV → Prop) : Prop :=
  match x with
  | .nils => bdC s 0 lo fun l => bdC s 0 hi fun h => (l = 0 ∧ h = 0) ∧ (l = 0 → h = 0 → K .nils)
  | .sl p eb t xs => sz = t.size ∧ bdC s 0 lo fun l => bdC s xs.length hi fun h => (0 ≤ l ∧ l ≤ h ∧ h ≤ xs.length) ∧
      (0 ≤ l → l ≤ h → h ≤ xs.length → ∀ ys, ys = (xs.drop l.toNat).take (h.toNat - l.toNat) → K (.sl p eb t ys))
  | .own j => slRO s sz j (s.hp[j]?) lo hi K
  | .vw j a b sz' => slRV s sz sz' j a b (s.hp[j]?) lo hi K
  | _ => False

def slSC (s : SS) (x : SV) (lo hi : Option Opd) (K : SV → Prop) : Prop :=
  match x with
  | .str b => bdC s 0 lo fun l => bdC s b.size hi fun h => (0 ≤ l ∧ l ≤ h ∧ h ≤ b.size) ∧ (0 ≤ l → l ≤ h → h ≤ b.size → gS (b.extract l.toNat h.toNat) K)
  | _ => False

def cvSC (x : SV) (K : SV → Prop) : Prop :=
  match x with
  | .str b => K (.str b)
  | _ => False

def evC (o : AOp) (s : SS) (K : SV → Prop) : Prop :=
  match o with
  | .mv x => K (s.get x)
  | .pick c a b => pickC (s.get c) (s.get a) (s.get b) K
  | .nck x => nckC (s.get x) K
  | .fld off n x => optC (fldV off n (s.get x)) K
  | .fa off x => faC off (s.get x) K
  | .ia sz x i => iaC s.hp sz (s.get x) (s.get i) K
  | .iaA len sz x i => iaAC len sz (s.get x) (s.get i) K
  | .ixS x i => ixC (s.get x) (s.get i) K
  | .ld x => ldC s.hp (s.get x) none K
  | .ldA n x => ldC s.hp (s.get x) (some n) K
  | .bin op x y => binV op (s.get x) (s.get y) K
  | .binB ng x y => binBC ng (s.get x) (s.get y) K
  | .eqn ng k x y => eqnC ng k (s.get x) (s.get y) K
  | .not x => notC (s.get x) K
  | .neg x => negC (s.get x) K
  | .cv k x => cvC k (s.get x) K
  | .b2s x => b2sC s.hp (s.get x) K
  | .ext x i => extC (s.get x) i K
  | .len k x => lenC s.hp k (s.get x) K
  | .mm mx x y => mmC mx (s.get x) (s.get y) K
  | .lk va kt vt ok x k => lkC2 s.hp va kt vt ok (s.get x) (s.get k) K
  | .bld zs parts => optC (aggO (bldC s zs parts)) K
  | .mkf f caps => K (.fn f (caps.map s.get))
  | .slR sz x lo hi => slRC s sz (s.get x) lo hi K
  | .slS x lo hi => slSC s (s.get x) lo hi K
  | .cvS x => cvSC (s.get x) K
  | o => qrC (ev o s) K

def EvOk (o : AOp) (s : SS) (K : SV → Prop) : Prop := ∃ q, ev o s = some q ∧ q.need ∧ (q.hyp → K q.val)

theorem evOk_qr {o : AOp} {s : SS} {K : SV → Prop} (h : qrC (ev o s) K) : EvOk o s K := by
  unfold qrC at h
  split at h
  · rename_i q hq; exact ⟨q, hq, h.1, h.2 h.1⟩
  · cases h

theorem evC_spec {o : AOp} {s : SS} {K : SV → Prop} (h : evC o s K) : EvOk o s K := by
  cases o with
  | mv x => exact ⟨_, rfl, trivial, fun _ => h⟩
  | pick c a b =>
    simp only [evC, pickC] at h
    split at h
    · rename_i c' hc
      refine ⟨_, by (simp only [ev, hc]; first | done | rfl), ?_, ?_⟩
      · trivial
      intro _
      simp only [pickV]
      cases c' with
      | true =>
        have h := sw_true h rfl
        split
        · rename_i h1 h2; rw [h1] at h; exact h
        · exact h
      | false =>
        have h := sw_false h rfl
        split
        · rename_i h1 h2; rw [h2] at h; exact h
        · exact h
    · cases h
  | nck x =>
    simp only [evC, nckC] at h
    split at h <;> first | exact (h : False).elim | skip
    all_goals rename_i hx
    all_goals (refine ⟨_, by (simp only [ev, hx]; first | done | rfl), ?_, ?_⟩; exact trivial; exact fun _ => h)
  | fld off n x =>
    simp only [evC, fldV, optC] at h
    split at h <;> first | exact (h : False).elim | skip
    rename_i v hv
    split at hv <;> first | cases hv | skip
    rename_i l hl
    split at hv
    · simp only [headO] at hv
      split at hv <;> first | cases hv | skip
      rename_i r hr
      (refine ⟨_, by (simp only [ev, hl, hr, hv, Option.map_some]; first | done | rfl), ?_, ?_⟩; exact trivial; exact fun _ => h)
    · simp only [takeO, aggO] at hv
      split at hv <;> first | cases hv | skip
      rename_i r hr
      split at hv <;> first | cases hv | skip
      rename_i l' hl'
      (refine ⟨_, by (simp only [ev, hl, hr, hl', Option.map_some]; first | done | rfl), ?_, ?_⟩; exact trivial; exact fun _ => h)
  | fa off x =>
    simp only [evC, faC] at h
    split at h <;> first | exact (h : False).elim | skip
    all_goals rename_i hx
    all_goals (refine ⟨_, by (simp only [ev, hx]; first | done | rfl), ?_, ?_⟩; exact trivial; exact fun _ => h)
  | ia sz x i =>
    simp only [evC, iaC] at h
    split at h <;> first | exact (h : False).elim | skip
    rename_i n hi
    split at h <;> first | exact (h : False).elim | skip
    · rename_i hx
      obtain ⟨h1, h2, h3⟩ := h
      (refine ⟨_, by (simp only [ev, hi, hx]; rw [if_pos h1]; first | done | rfl), ?_, ?_⟩; exact h2; exact fun _ => h3 h2 _ rfl)
    · rename_i j hx
      split at h <;> first | exact (h : False).elim | skip
      rename_i hj
      obtain ⟨h2, h3⟩ := h
      (refine ⟨_, by (simp only [ev, hi, hx, hj]; first | done | rfl), ?_, ?_⟩; exact h2; exact fun _ => h3 h2 _ rfl)
    · rename_i hx
      split at h <;> first | exact (h : False).elim | skip
      rename_i hj
      obtain ⟨h1, h2, h3⟩ := h
      (refine ⟨_, by (simp only [ev, hi, hx, hj]; rw [if_pos h1]; first | done | rfl), ?_, ?_⟩; exact h2; exact fun _ => h3 h2 _ rfl)
  | iaA len sz x i =>
    simp only [evC, iaAC] at h
    split at h <;> first | exact (h : False).elim | skip
    rename_i n hi
    split at h <;> first | exact (h : False).elim | skip
    rename_i hx
    (refine ⟨_, by (simp only [ev, hi, hx]; first | done | rfl), ?_, ?_⟩; exact h.1; exact fun _ => h.2 h.1 _ rfl)
  | ixS x i =>
    simp only [evC, ixC] at h
    split at h <;> first | exact (h : False).elim | skip
    rename_i b hx
    split at h <;> first | exact (h : False).elim | skip
    rename_i n hi
    (refine ⟨_, by (simp only [ev, hi, hx]; first | done | rfl), ?_, ?_⟩; exact h.1; exact fun _ => h.2 h.1 _ rfl)
  | ld x =>
    simp only [evC, ldC] at h
    split at h
    · rename_i i off hx
      split at h <;> first | exact (h : False).elim | skip
      rename_i cells hi
      simp only [optC, headO] at h
      split at h <;> first | exact (h : False).elim | skip
      rename_i v hv
      split at hv <;> first | cases hv | skip
      rename_i l hl
      (refine ⟨_, by (simp only [ev, hx, seen, hi, hl, Option.map_some, hv]; first | done | rfl), ?_, ?_⟩; exact trivial; exact fun _ => h)
    · split at h <;> first | exact (h : False).elim | skip
      rename_i need l hs
      obtain ⟨h1, h2⟩ := h
      have h2 := h2 h1
      simp only [optC] at h2
      split at h2 <;> first | exact (h2 : False).elim | skip
      rename_i v hv
      (refine ⟨_, by (simp only [ev, hs, hv, Option.map_some]; first | done | rfl), ?_, ?_⟩; exact h1; exact fun _ => h2)
  | ldA n x =>
    simp only [evC, ldC] at h
    split at h
    · rename_i i off hx
      split at h <;> first | exact (h : False).elim | skip
      rename_i cells hi
      simp only [optC, takeO, aggO] at h
      split at h <;> first | exact (h : False).elim | skip
      rename_i v hv
      split at hv <;> first | cases hv | skip
      rename_i l hl
      split at hv <;> first | cases hv | skip
      rename_i l' hl'
      (refine ⟨_, by (simp only [ev, hx, seen, hi, hl, Option.map_some, hl']; first | done | rfl), ?_, ?_⟩; exact trivial; exact fun _ => h)
    · split at h <;> first | exact (h : False).elim | skip
      rename_i need l hs
      obtain ⟨h1, h2⟩ := h
      have h2 := h2 h1
      simp only [optC, aggO] at h2
      split at h2 <;> first | exact (h2 : False).elim | skip
      rename_i v hv
      split at hv <;> first | cases hv | skip
      rename_i l' hl'
      (refine ⟨_, by (simp only [ev, hs, hl', Option.map_some]; first | done | rfl), ?_, ?_⟩; exact h1; exact fun _ => h2)
  | bin op x y =>
    simp only [evC, binV] at h
    split at h <;> first | exact (h : False).elim | skip
    · rename_i k a hx
      split at h <;> first | exact (h : False).elim | skip
      rename_i k' b hy
      cases op <;> simp only [binC] at h
      all_goals first
        | (obtain ⟨h1, h2⟩ := h; subst h1; (refine ⟨_, by (simp only [ev, hx, hy, binI, if_true]; first | done | rfl), ?_, ?_⟩; exact trivial; exact fun hh => h2 hh.1 hh.2 _ rfl))
        | (obtain ⟨h1, h2⟩ := h; subst h1; (refine ⟨_, by (simp only [ev, hx, hy, binI, if_true]; first | done | rfl), ?_, ?_⟩; exact trivial; exact fun hh => h2 _ rfl))
        | (obtain ⟨h1, h3, h2⟩ := h; subst h1; (refine ⟨_, by (simp only [ev, hx, hy, binI, if_true]; first | done | rfl), ?_, ?_⟩; exact h3; exact fun hh => h2 h3 hh.1 hh.2 _ rfl))
        | (obtain ⟨h3, h2⟩ := h; (refine ⟨_, by (simp only [ev, hx, hy, binI]; first | done | rfl), ?_, ?_⟩; exact h3; exact fun hh => h2 h3 hh.1 hh.2 _ rfl))
    · rename_i a hx
      split at h <;> first | exact (h : False).elim | skip
      rename_i b hy
      cases op <;> simp only [binSC] at h
      all_goals first
        | exact (h : False).elim
        | (refine ⟨_, by (simp only [ev, hx, hy, binS]; first | done | rfl), ?_, ?_⟩; exact trivial; exact fun hh => h _ rfl)
        | (refine ⟨_, by (simp only [ev, hx, hy, binS]; first | done | rfl), ?_, ?_⟩; exact h.1; exact fun hh => h.2 _ rfl)
  | binB ng x y =>
    simp only [evC, binBC] at h
    split at h <;> first | exact (h : False).elim | skip
    rename_i a hx
    split at h <;> first | exact (h : False).elim | skip
    rename_i b hy
    (refine ⟨_, by (simp only [ev, hx, hy]; first | done | rfl), ?_, ?_⟩; exact trivial; exact fun _ => h _ rfl)
  | eqn ng k x y =>
    cases k <;> simp only [evC, eqnC] at h
    all_goals first | exact (h : False).elim | skip
    all_goals (split at h <;> first | exact (h : False).elim | skip)
    all_goals rename_i hx
    all_goals (split at h <;> first | exact (h : False).elim | skip)
    all_goals rename_i hy
    all_goals (refine ⟨_, by (simp only [ev, hx, hy]; first | done | rfl), ?_, ?_⟩; exact trivial; exact fun _ => h)
  | not x =>
    simp only [evC, notC] at h
    split at h <;> first | exact (h : False).elim | skip
    rename_i hx
    (refine ⟨_, by (simp only [ev, hx]; first | done | rfl), ?_, ?_⟩; exact trivial; exact fun _ => h)
  | neg x =>
    simp only [evC, negC] at h
    split at h <;> first | exact (h : False).elim | skip
    rename_i hx
    (refine ⟨_, by (simp only [ev, hx]; first | done | rfl), ?_, ?_⟩; exact trivial; exact fun hh => h hh _ rfl)
  | cv k x =>
    simp only [evC, cvC] at h
    split at h <;> first | exact (h : False).elim | skip
    rename_i hx
    (refine ⟨_, by (simp only [ev, hx]; first | done | rfl), ?_, ?_⟩; exact trivial; exact fun hh => h hh _ rfl)
  | b2s x =>
    simp only [evC, b2sC] at h
    split at h
    · rename_i hx
      (refine ⟨_, by (simp only [ev, hx]; first | done | rfl), ?_, ?_⟩; exact trivial; exact fun _ => h)
    · rename_i hx
      split at h <;> first | exact (h : False).elim | skip
      rename_i xs hc
      have he : ev (.b2s x) s = some ⟨True, True, .str ⟨(xs : List UInt8).toArray⟩⟩ := by
        simp only [ev, hc]
      exact ⟨_, he, trivial, fun _ => h _ rfl⟩
  | ext x i =>
    simp only [evC, extC, optC] at h
    split at h <;> first | exact (h : False).elim | skip
    rename_i l hx
    split at h <;> first | exact (h : False).elim | skip
    rename_i v hv
    (refine ⟨_, by (simp only [ev, hx, hv, Option.map_some]; first | done | rfl), ?_, ?_⟩; exact trivial; exact fun _ => h)
  | len k x =>
    cases k <;> simp only [evC, lenC] at h
    · split at h
      · rename_i hx
        (refine ⟨_, by (simp only [ev, hx]; first | done | rfl), ?_, ?_⟩; exact trivial; exact fun _ => h)
      · rename_i hx
        split at h <;> first | exact (h : False).elim | skip
        rename_i C hc
        have he : ev (.len .s x) s = some ⟨True, C.xs.length ≤ maxLen ∧ C.xs.length * C.eb ≤ 140737488355328, .int .i64 C.xs.length⟩ := by
          simp only [ev, hc]
        exact ⟨_, he, trivial, fun hh => h hh.1 hh.2 _ rfl⟩
    · split at h <;> first | exact (h : False).elim | skip
      · rename_i hx
        (refine ⟨_, by (simp only [ev, hx]; first | done | rfl), ?_, ?_⟩; exact trivial; exact fun _ => h)
      · rename_i hx
        split at h <;> first | exact (h : False).elim | skip
        rename_i hm
        (refine ⟨_, by (simp only [ev, hx, hm]; first | done | rfl), ?_, ?_⟩; exact trivial; exact fun hh => h hh _ rfl)
    · split at h <;> first | exact (h : False).elim | skip
      rename_i hx
      (refine ⟨_, by (simp only [ev, hx]; first | done | rfl), ?_, ?_⟩; exact trivial; exact fun hh => h hh _ rfl)
  | mm mx x y =>
    simp only [evC, mmC] at h
    split at h <;> first | exact (h : False).elim | skip
    rename_i hx
    split at h <;> first | exact (h : False).elim | skip
    rename_i hy
    obtain ⟨h1, h2⟩ := h
    subst h1
    (refine ⟨_, by (simp only [ev, hx, hy, if_true]; first | done | rfl), ?_, ?_⟩; exact trivial; exact fun _ => h2 _ rfl)
  | lk va kt vt ok x k =>
    simp only [evC, lkC2] at h
    split at h <;> first | exact (h : False).elim | skip
    rename_i i hx
    split at h <;> first | exact (h : False).elim | skip
    rename_i va' kt' vt' m hm
    obtain ⟨h1, h⟩ := h
    split at h <;> first | exact (h : False).elim | skip
    rename_i key hk
    have h := h _ _ rfl rfl
    split at h <;> first | exact (h : False).elim | skip
    rename_i z hz
    cases ok with
    | true => (refine ⟨_, by (simp only [ev, hx, hm]; rw [if_pos h1]; simp only [hk, hz]; first | done | rfl), ?_, ?_⟩; exact trivial; exact fun _ => h)
    | false => (refine ⟨_, by (simp only [ev, hx, hm]; rw [if_pos h1]; simp only [hk, hz]; first | done | rfl), ?_, ?_⟩; exact trivial; exact fun _ => h)
  | bld zs parts =>
    simp only [evC, optC, aggO] at h
    split at h <;> first | exact (h : False).elim | skip
    rename_i v hv
    split at hv <;> first | cases hv | skip
    rename_i l hl
    (refine ⟨_, by (simp only [ev, hl, Option.map_some]; first | done | rfl), ?_, ?_⟩; exact trivial; exact fun _ => h)
  | mkf f caps => exact ⟨_, rfl, trivial, fun _ => h⟩
  | cvS x =>
    simp only [evC, cvSC] at h
    split at h <;> first | exact (h : False).elim | skip
    rename_i b hx
    exact ⟨_, by simp only [ev, hx]; rfl, trivial, fun _ => h⟩
  | slS x lo hi =>
    simp only [evC, slSC] at h
    split at h <;> first | exact (h : False).elim | skip
    rename_i b hx
    obtain ⟨l, hl, h⟩ := bdC_spec h
    obtain ⟨u, hu, h1, h2⟩ := bdC_spec h
    exact ⟨_, by simp only [ev, hx, hl, hu]; rfl, h1, fun _ => h2 h1.1 h1.2.1 h1.2.2 _ rfl⟩
  | slR sz x lo hi =>
    simp only [evC, slRC] at h
    split at h <;> first | exact (h : False).elim | skip
    · rename_i hx
      obtain ⟨l, hl, h⟩ := bdC_spec h
      obtain ⟨u, hu, h1, h2⟩ := bdC_spec h
      exact ⟨_, by simp only [ev, hx, hl, hu]; rfl, h1, fun _ => h2 h1.1 h1.2⟩
    · rename_i p eb t xs hx
      obtain ⟨h0, h⟩ := h
      obtain ⟨l, hl, h⟩ := bdC_spec h
      obtain ⟨u, hu, h1, h2⟩ := bdC_spec h
      exact ⟨_, by simp only [ev, hx]; rw [if_pos h0]; simp only [hl, hu]; rfl, h1, fun _ => h2 h1.1 h1.2.1 h1.2.2 _ rfl⟩
    · rename_i j hx
      unfold slRO at h
      split at h <;> first | exact (h : False).elim | skip
      rename_i mv eb t xs hj
      obtain ⟨h0, h⟩ := h
      obtain ⟨l, hl, h⟩ := bdC_spec h
      obtain ⟨u, hu, h1, h2⟩ := bdC_spec h
      exact ⟨_, by simp only [ev, hx, hj, hl, hu]; rw [if_pos h0], h1, fun _ => h2 h1.1 h1.2.1 h1.2.2 _ _ rfl rfl⟩
    · rename_i j a b sz' hx
      unfold slRV at h
      split at h <;> first | exact (h : False).elim | skip
      rename_i mv eb t xs hj
      obtain ⟨h0, h⟩ := h
      obtain ⟨l, hl, h⟩ := bdC_spec h
      obtain ⟨u, hu, h1, h2⟩ := bdC_spec h
      exact ⟨_, by simp only [ev, hx, hj, hl, hu]; rw [if_pos h0], h1, fun _ => h2 h1.1 h1.2.1 h1.2.2 _ _ rfl rfl⟩
  | _ => exact evOk_qr h

end Go.V
