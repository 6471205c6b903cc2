/- Runs at closed values: the executor as a function. -/
import Derived.Test.YthfkoeoaehkoaaaGreatDoorVx
namespace Go.V
set_option linter.unusedSimpArgs false
set_option linter.unnecessarySimpa false
set_option linter.unusedVariables false
/-! ### quiet operations -/
def pickX (c a b : SV) : Option SV :=
 match c with
 | .bool c => some (bif c then a else b)
 | _ => none
theorem pickX_ok {c a b v : SV} {K : SV → Prop} (h : pickX c a b = some v) (hk : K v) : pickC c a b K := by
 unfold pickX at h; split at h <;> first | cases h | skip
 rename_i c; cases c <;> exact hk
def nckX (x : SV) : Option SV :=
 match x with
 | .ptr i off => some (.ptr i off)
 | .el i n sz off => some (.el i n sz off)
 | .rel p eb t xs n off => some (.rel p eb t xs n off)
 | .fn f caps => some (.fn f caps)
 | .pty i T => some (.pty i T)
 | _ => none
theorem nckX_ok {x v : SV} {K : SV → Prop} (h : nckX x = some v) (hk : K v) : nckC x K := by
 unfold nckX at h; split at h <;> first | cases h | skip
 all_goals exact hk
def faX (off : Nat) (x : SV) : Option SV :=
 match x with
 | .ptr i o => some (.ptr i (o + off))
 | .el i n sz o => some (.el i n sz (o + off))
 | .rel p eb t xs n o => some (.rel p eb t xs n (o + off))
 | .ptrA i o n sz => some (.ptrA i (o + off) n sz)
 | .pty i _ => some (.ptr i off)
 | _ => none
theorem faX_ok {off : Nat} {x v : SV} {K : SV → Prop} (h : faX off x = some v) (hk : K v) : faC off x K := by
 unfold faX at h; split at h <;> first | cases h | skip
 all_goals exact hk
def iaX (hp : List SB) (sz : Nat) (x i : SV) : Option SV :=
 match i with
 | .int _ n => match x with
  | .sl p eb t xs => if sz = t.size ∧ 0 ≤ n ∧ n < xs.length then some (.rel p eb t xs n.toNat 0) else none
  | .own j => match hp[j]? with
   | some (.row _ _ _ xs) => if 0 ≤ n ∧ n < xs.length then some (.el j n.toNat sz 0) else none
   | _ => none
  | .vw j lo hi sz' => match hp[j]? with
   | some (.row _ _ t xs) => if (sz = sz' ∧ sz = t.size) ∧ 0 ≤ n ∧ lo + n < hi ∧ hi ≤ xs.length then some (.el j (lo + n.toNat) sz 0) else none
   | _ => none
  | _ => none
 | _ => none
theorem iaX_ok {hp : List SB} {sz : Nat} {x i v : SV} {K : SV → Prop} (h : iaX hp sz x i = some v) (hk : K v) : iaC hp sz x i K := by
 unfold iaX at h
 split at h <;> first | cases h | skip
 split at h <;> first | cases h | skip
 ·split at h <;> first | cases h | skip
  rename_i hc
  exact ⟨hc.1, hc.2, fun _ m hm => hm ▸ hk⟩
 ·split at h <;> first | cases h | skip
  rename_i hh
  split at h <;> first | cases h | skip
  rename_i hc
  unfold iaC; simp only [hh]
  exact ⟨hc, fun _ m hm => hm ▸ hk⟩
 ·split at h <;> first | cases h | skip
  rename_i hh
  split at h <;> first | cases h | skip
  rename_i hc
  unfold iaC; simp only [hh]
  exact ⟨hc.1, hc.2, fun _ m hm => hm ▸ hk⟩
def iaAX (len sz : Nat) (x i : SV) : Option SV :=
 match i with
 | .int _ n => match x with
  | .ptr j off => if 0 ≤ n ∧ n < len then some (.ptrA j off n.toNat sz) else none
  | _ => none
 | _ => none
theorem iaAX_ok {len sz : Nat} {x i v : SV} {K : SV → Prop} (h : iaAX len sz x i = some v) (hk : K v) : iaAC len sz x i K := by
 unfold iaAX at h
 split at h <;> first | cases h | skip
 split at h <;> first | cases h | skip
 split at h <;> first | cases h | skip
 rename_i hc
 exact ⟨hc, fun _ m hm => hm ▸ hk⟩
def ixX (x i : SV) : Option SV :=
 match x with
 | .str b => match i with
  | .int _ n => if 0 ≤ n ∧ n < b.size then some (.int .u8 ((b.data.toList.getD n.toNat 0).toNat : Int)) else none
  | _ => none
 | _ => none
theorem ixX_ok {x i v : SV} {K : SV → Prop} (h : ixX x i = some v) (hk : K v) : ixC x i K := by
 unfold ixX at h
 split at h <;> first | cases h | skip
 split at h <;> first | cases h | skip
 split at h <;> first | cases h | skip
 rename_i hc
 exact ⟨hc, fun _ m hm => hm ▸ hk⟩
def seenX (hp : List SB) : SV → Option (List SV)
 | .ptr i off => match hp[i]? with
  | some (.struct cells) => dropC cells off
  | _ => none
 | .el i n sz off => match hp[i]? with
  | some (.row _ eb t xs) => if sz = t.size ∧ n < xs.length then dropC (t.sv true (xs.getD n t.dflt)) off else none
  | _ => none
 | .rel p eb t xs n off => if n < xs.length then dropC (t.sv p (xs.getD n t.dflt)) off else none
 | .ptrA i off n sz => match hp[i]? with
  | some (.struct cells) => match dropC cells off with
   | some (.arr m t xs :: _) => if sz = t.size ∧ n < m then some (t.sv true (xs.getD n t.dflt)) else none
   | _ => none
  | _ => none
 | _ => none
def ldZ (n : Option Nat) (l : Option (List SV)) : Option SV :=
 match n with
 | none => headO l
 | some n => takeO l n
theorem ldZ_some {n : Option Nat} {l : Option (List SV)} {v : SV} (h : ldZ n l = some v) : ∃ l', l = some l' := by
 cases l with
 | none => cases n <;> cases h
 | some l => exact ⟨l, rfl⟩
theorem ldZ_none {l : List SV} {v : SV} {K : SV → Prop} (h : ldZ none (some l) = some v) (hk : K v) : optC (headC l) K := by
 simp only [ldZ, headO] at h; simp only [h, optC]; exact hk
theorem ldZ_n {m : Nat} {l : List SV} {v : SV} {K : SV → Prop} (h : ldZ (some m) (some l) = some v) (hk : K v) : optC (aggO (takeC l m)) K := by
 simp only [ldZ, takeO] at h; simp only [h, optC]; exact hk
theorem ldZ_ok {hp : List SB} {x v : SV} {n : Option Nat} {K : SV → Prop} (h : ldZ n (seenX hp x) = some v) (hk : K v) : ldC hp x n K := by
 obtain ⟨l, hl⟩ := ldZ_some h
 rw [hl] at h
 unfold seenX at hl
 split at hl <;> first | cases hl | skip
 ·split at hl <;> first | cases hl | skip
  rename_i cells hh
  simp only [ldC, hh, hl, headO, takeO]
  cases n with
  | none => exact ldZ_none h hk
  | some n => exact ldZ_n h hk
 ·split at hl <;> first | cases hl | skip
  rename_i hh
  split at hl <;> first | cases hl | skip
  rename_i hc
  simp only [ldC, seen, hh, if_pos hc.1, hl, Option.map_some]
  refine ⟨hc.2, fun _ => ?_⟩
  cases n with
  | none => exact ldZ_none h hk
  | some n => exact ldZ_n h hk
 ·split at hl <;> first | cases hl | skip
  rename_i hc
  simp only [ldC, seen, hl, Option.map_some]
  refine ⟨hc, fun _ => ?_⟩
  cases n with
  | none => exact ldZ_none h hk
  | some n => exact ldZ_n h hk
 ·split at hl <;> first | cases hl | skip
  rename_i hh
  split at hl <;> first | cases hl | skip
  rename_i hd
  split at hl <;> first | cases hl | skip
  rename_i hc
  simp only [ldC, seen, hh, hd, if_pos hc.1]
  refine ⟨hc.2, fun _ => ?_⟩
  cases n with
  | none => exact ldZ_none h hk
  | some n => exact ldZ_n h hk
def beqB (a b : ByteArray) : Bool := a.data.toList == b.data.toList
theorem beqB_eq (a b : ByteArray) : decide (a = b) = beqB a b := by
 unfold beqB
 rw [Bool.eq_iff_iff, decide_eq_true_iff, beq_iff_eq]
 exact ⟨fun h => h ▸ rfl, fun h => ByteArray.ext (Array.ext' h)⟩
def binIX (op : BinOp) (k k' : IntKind) (a b : Int) : Option SV :=
 match op with
 | .shl => if 0 ≤ b then some (.int k (k.wrap (a * 2 ^ (min b.toNat k.bits)))) else none
 | .shr => if 0 ≤ b then some (.int k (a.fdiv (2 ^ (min b.toNat k.bits)))) else none
 | .add => if k = k' then some (.int k (k.wrap (a + b))) else none
 | .sub => if k = k' then some (.int k (k.wrap (a - b))) else none
 | .mul => if k = k' then some (.int k (k.wrap (a * b))) else none
 | .quo => if k = k' ∧ b ≠ 0 then some (.int k (k.wrap (a.tdiv b))) else none
 | .rem => if k = k' ∧ b ≠ 0 then some (.int k (a.tmod b)) else none
 | .and => if k = k' then some (.int k (bitsI .and k a b)) else none
 | .or => if k = k' then some (.int k (bitsI .or k a b)) else none
 | .xor => if k = k' then some (.int k (bitsI .xor k a b)) else none
 | .andNot => if k = k' then some (.int k (bitsI .andNot k a b)) else none
 | .eql => if k = k' then some (.bool (decide (a = b))) else none
 | .neq => if k = k' then some (.bool (!decide (a = b))) else none
 | .lss => if k = k' then some (.bool (decide (a < b))) else none
 | .leq => if k = k' then some (.bool (decide (a ≤ b))) else none
 | .gtr => if k = k' then some (.bool (decide (b < a))) else none
 | .geq => if k = k' then some (.bool (decide (b ≤ a))) else none
def binSX (op : BinOp) (a b : ByteArray) : Option SV :=
 match op with
 | .add => if a.size + b.size ≤ maxLen then some (.str ⟨⟨a.data.toList ++ b.data.toList⟩⟩) else none
 | .eql => some (.bool (beqB a b))
 | .neq => some (.bool (!beqB a b))
 | .lss => some (.bool (ltS a b))
 | .leq => some (.bool (ltS a b || beqB a b))
 | .gtr => some (.bool (!(ltS a b || beqB a b)))
 | .geq => some (.bool (!ltS a b))
 | _ => none
def binX (op : BinOp) (x y : SV) : Option SV :=
 match x with
 | .int k a => match y with
  | .int k' b => binIX op k k' a b
  | _ => none
 | .str a => match y with
  | .str b => binSX op a b
  | _ => none
 | _ => none
theorem binIX_ok {op : BinOp} {k k' : IntKind} {a b : Int} {v : SV} {K : SV → Prop} (h : binIX op k k' a b = some v) (hk : K v) : binC op k k' a b K := by
 cases op <;> (simp only [binIX] at h; split at h <;> first | cases h | skip) <;> rename_i hc <;> simp only [binC] <;>
  first
  | exact ⟨hc, fun _ _ _ m hm => hm ▸ hk⟩
  | exact ⟨hc, fun _ _ m hm => hm ▸ hk⟩
  | exact ⟨hc, fun m hm => hm ▸ hk⟩
  | exact ⟨hc.1, hc.2, fun _ _ _ m hm => hm ▸ hk⟩
theorem app_list (a b : ByteArray) : a ++ b = ⟨⟨a.data.toList ++ b.data.toList⟩⟩ := ByteArray.ext (Array.ext' (by simp [ByteArray.data_append]))
theorem binSX_ok {op : BinOp} {a b : ByteArray} {v : SV} {K : SV → Prop} (h : binSX op a b = some v) (hk : K v) : binSC op a b K := by
 cases op <;> simp only [binSX] at h <;> first | cases h | skip
 ·split at h <;> first | cases h | skip
  rename_i hc
  exact ⟨hc, fun m hm => by rw [hm, app_list]; exact hk⟩
 all_goals (simp only [binSC, gB, beqB_eq]; intro c hc; subst hc; exact hk)
theorem binX_ok {op : BinOp} {x y v : SV} {K : SV → Prop} (h : binX op x y = some v) (hk : K v) : binV op x y K := by
 unfold binX at h
 split at h <;> first | cases h | skip
 ·split at h <;> first | cases h | skip
  exact binIX_ok h hk
 ·split at h <;> first | cases h | skip
  exact binSX_ok h hk
def eqnX (ng : Bool) (k : NK) (x y : SV) : Option SV :=
 match k with
 | .p => match x with
  | .nilp => match y with
   | .nilp => some (.bool (!ng))
   | .ptr _ _ => some (.bool ng)
   | _ => none
  | .ptr _ _ => match y with
   | .nilp => some (.bool ng)
   | _ => none
  | _ => none
 | .s => match x with
  | .nils => match y with
   | .nils => some (.bool (!ng))
   | _ => none
  | _ => none
 | .m => match x with
  | .nilm => match y with
   | .nilm => some (.bool (!ng))
   | _ => none
  | .mp _ => match y with
   | .nilm => some (.bool ng)
   | _ => none
  | _ => none
 | .f => match x with
  | .nilf => match y with
   | .nilf => some (.bool (!ng))
   | _ => none
  | .fn _ _ => match y with
   | .nilf => some (.bool ng)
   | _ => none
  | _ => none
 | .i => none
theorem eqnX_ok {ng : Bool} {k : NK} {x y v : SV} {K : SV → Prop} (h : eqnX ng k x y = some v) (hk : K v) : eqnC ng k x y K := by
 unfold eqnX at h
 split at h <;> first | cases h | skip
 all_goals (split at h <;> first | cases h | skip)
 all_goals (split at h <;> first | cases h | skip)
 all_goals exact hk
def iaPX (x i : SV) : Option SV :=
 match i with
 | .int _ n => match x with
  | .svw j m => if 0 ≤ n ∧ n < m then some (.ptr j n.toNat) else none
  | _ => none
 | _ => none
def lenPX (x : SV) : Option SV :=
 match x with
 | .nils => some (.int .i64 0)
 | .svw _ m => some (.int .i64 m)
 | _ => none
theorem iaPX_ok {s : SS} {x i : Opd} {v : SV} {K : SV → Prop} (h : iaPX (s.get x) (s.get i) = some v) (hk : K v) : evC (.iaP x i) s K := by
 unfold iaPX at h
 split at h <;> first | cases h | skip
 rename_i hi
 split at h <;> first | cases h | skip
 rename_i hx
 split at h <;> first | cases h | skip
 rename_i hc
 simp only [evC, ev, hi, hx, qrC]
 exact ⟨hc, fun _ _ => hk⟩
theorem lenPX_ok {s : SS} {x : Opd} {v : SV} {K : SV → Prop} (h : lenPX (s.get x) = some v) (hk : K v) : evC (.lenP x) s K := by
 unfold lenPX at h
 split at h <;> first | cases h | skip
 all_goals
  rename_i hx
  simp only [evC, ev, hx, qrC]
  exact ⟨trivial, fun _ _ => hk⟩
def ixAX (len : Nat) (x i : SV) : Option SV :=
 match i with
 | .int _ n => match x with
  | .agg [.arr m t xs] => if (m = len ∧ t.size = 1) ∧ 0 ≤ n ∧ n < len then headC (t.sv true (xs.getD n.toNat t.dflt)) else none
  | _ => none
 | _ => none
theorem ixAX_ok {len : Nat} {x i v : SV} {K : SV → Prop} (h : ixAX len x i = some v) (hk : K v) : ixAC len x i K := by
 unfold ixAX at h
 split at h <;> first | cases h | skip
 split at h <;> first | cases h | skip
 split at h <;> first | cases h | skip
 rename_i hc
 simp only [ixAC, ixAV, if_pos hc.1, h, Option.map_some]
 exact ⟨hc.2, fun _ => hk⟩
def eqRX (ng : Bool) (n : Nat) (x y : SV) : Option SV :=
 match x with
 | .agg [.arr m (.int k) xs] => match y with
  | .agg [.arr m' (.int k') ys] => if m = n ∧ m' = n ∧ k = k' then some (.bool (bif ng then !(decide ((xs : List Int) = ys)) else (decide ((xs : List Int) = ys)))) else none
  | _ => none
 | _ => none
theorem eqRX_ok {ng : Bool} {n : Nat} {x y v : SV} {K : SV → Prop} (h : eqRX ng n x y = some v) (hk : K v) : eqRC ng n x y K := by
 unfold eqRX at h
 split at h <;> first | cases h | skip
 split at h <;> first | cases h | skip
 split at h <;> first | cases h | skip
 rename_i hc
 exact ⟨hc, fun c hc => hc ▸ hk⟩
def oneX (o : AOp) (s : SS) : Option SV :=
 match o with
 | .not x => match s.get x with
  | .bool b => some (.bool (!b))
  | _ => none
 | .binB ng x y => match s.get x with
  | .bool a => match s.get y with
   | .bool b => some (.bool (bif ng then !(a == b) else (a == b)))
   | _ => none
  | _ => none
 | .neg x => match s.get x with
  | .int k n => some (.int k (k.wrap (0 - n)))
  | _ => none
 | .cv k x => match s.get x with
  | .int k' n => some (.int k (k.wrap n))
  | _ => none
 | .cvS x => match s.get x with
  | .str b => some (.str b)
  | _ => none
 | .ext x i => match s.get x with
  | .tup l => l[i]?
  | _ => none
 | .mm mx x y => match s.get x with
  | .int k a => match s.get y with
   | .int k' b => if k = k' then some (.int k (bif mx then (if a < b then b else a) else (if b < a then b else a))) else none
   | _ => none
  | _ => none
 | .eqS ng ts x y => match s.get x with
  | .agg l => match s.get y with
   | .agg l' => match eqL ts l l' with
    | some b => some (.bool (bif ng then !b else b))
    | none => none
   | _ => none
  | _ => none
 | _ => none
theorem oneX_ok {o : AOp} {s : SS} {v : SV} {K : SV → Prop} (h : oneX o s = some v) (hk : K v) : evC o s K := by
 unfold oneX at h
 split at h <;> first | cases h | skip
 ·split at h <;> first | cases h | skip
  rename_i hx; simp only [evC, notC, hx]; exact hk
 ·split at h <;> first | cases h | skip
  rename_i hx
  split at h <;> first | cases h | skip
  rename_i hy; simp only [evC, binBC, hx, hy]; exact fun c hc => hc ▸ hk
 ·split at h <;> first | cases h | skip
  rename_i hx; simp only [evC, negC, hx]; exact fun _ c hc => hc ▸ hk
 ·split at h <;> first | cases h | skip
  rename_i hx; simp only [evC, cvC, hx]; exact fun _ c hc => hc ▸ hk
 ·split at h <;> first | cases h | skip
  rename_i hx; simp only [evC, cvSC, hx]; exact hk
 ·split at h <;> first | cases h | skip
  rename_i hx; simp only [evC, extC, hx, h, optC]; exact hk
 ·split at h <;> first | cases h | skip
  rename_i hx
  split at h <;> first | cases h | skip
  rename_i hy
  split at h <;> first | cases h | skip
  rename_i hc; simp only [evC, mmC, hx, hy]; exact ⟨hc, fun c hc => hc ▸ hk⟩
 ·split at h <;> first | cases h | skip
  rename_i hx
  split at h <;> first | cases h | skip
  rename_i hy
  split at h <;> first | cases h | skip
  rename_i hc; simp only [evC, eqSC, hx, hy, hc, eqOC]; exact fun c hc => hc ▸ hk
def b2sX (hp : List SB) (x : SV) : Option SV :=
 match x with
 | .nils => some (.str ByteArray.empty)
 | y => match cont hp y with
  | some ⟨_, _, .byte, xs⟩ => some (.str ⟨⟨(xs : List UInt8)⟩⟩)
  | _ => none
theorem b2sX_ok {hp : List SB} {x v : SV} {K : SV → Prop} (h : b2sX hp x = some v) (hk : K v) : b2sC hp x K := by
 cases x <;> first | (cases h; exact hk) | (simp only [b2sX] at h; split at h <;> first | (cases h; done) | (rename_i hc; cases h; simp only [b2sC, hc]; exact fun c hc => hc ▸ hk))
def lenSX (hp : List SB) (x : SV) : Option SV :=
 match x with
 | .nils => some (.int .i64 0)
 | y => match cont hp y with
  | some C => some (.int .i64 C.xs.length)
  | none => none
theorem lenSX_ok {hp : List SB} {x v : SV} {K : SV → Prop} (h : lenSX hp x = some v) (hk : K v) : lenC hp .s x K := by
 cases x <;> first | (cases h; exact hk) | (simp only [lenSX] at h; split at h <;> first | (cases h; done) | (rename_i hc; cases h; simp only [lenC, hc]; exact fun _ _ c hc => hc ▸ hk))
def lenX (hp : List SB) (k : NK) (x : SV) : Option SV :=
 match k with
 | .i => match x with
  | .str b => some (.int .i64 b.size)
  | _ => none
 | .m => match x with
  | .nilm => some (.int .i64 0)
  | .mp i => match hp[i]? with
   | some (.map _ _ _ m) => some (.int .i64 m.length)
   | _ => none
  | _ => none
 | .s => lenSX hp x
 | _ => none
theorem lenX_ok {hp : List SB} {k : NK} {x v : SV} {K : SV → Prop} (h : lenX hp k x = some v) (hk : K v) : lenC hp k x K := by
 unfold lenX at h
 split at h <;> first | cases h | skip
 ·split at h <;> first | cases h | skip
  exact fun _ c hc => hc ▸ hk
 ·split at h <;> first | cases h | skip
  ·exact hk
  ·split at h <;> first | cases h | skip
   rename_i hh; simp only [lenC, hh]; exact fun _ c hc => hc ▸ hk
 ·exact lenSX_ok h hk
def lkX (hp : List SB) (va : Bool) (kt vt : Ty) (ok : Bool) (x k : SV) : Option SV :=
 match x with
 | .nilm => match kt.keyOf k with
  | some _ => match toV va true vt vt.dflt with
   | some z => some (bif ok then .tup [z, .bool false] else z)
   | none => none
  | none => none
 | .mp i => match hp[i]? with
  | some (.map va' kt' vt' m) => if va' = va ∧ kt' = kt ∧ vt' = vt then match kt'.keyOf k with
    | some key => match toV va' true vt' ((lookM kt' vt' m key).getD vt'.dflt) with
     | some z => some (bif ok then .tup [z, .bool (lookM kt' vt' m key).isSome] else z)
     | none => none
    | none => none
   else none
  | _ => none
 | _ => none
theorem lkX_ok {hp : List SB} {va : Bool} {kt vt : Ty} {ok : Bool} {x k v : SV} {K : SV → Prop} (h : lkX hp va kt vt ok x k = some v) (hk : K v) : lkC2 hp va kt vt ok x k K := by
 unfold lkX at h
 split at h <;> first | cases h | skip
 ·split at h <;> first | cases h | skip
  rename_i key hkey
  split at h <;> first | cases h | skip
  rename_i z hz
  simp only [lkC2, hkey]
  intro y b hy hb
  simp only [Option.getD_none] at hy
  subst hy hb
  simp only [hz]
  cases ok <;> exact hk
 split at h <;> first | cases h | skip
 rename_i hh
 split at h <;> first | cases h | skip
 rename_i hc
 split at h <;> first | cases h | skip
 rename_i key hkey
 split at h <;> first | cases h | skip
 rename_i z hz
 simp only [lkC2, hh, hkey]
 refine ⟨hc, fun y b hy hb => ?_⟩
 subst hy hb
 simp only [hz]
 cases ok <;> exact hk
def bdX (s : SS) (d : Int) (o : Option Opd) : Option Int :=
 match o with
 | none => some d
 | some x => match s.get x with
  | .int _ n => some n
  | _ => none
theorem bdX_ok {s : SS} {d n : Int} {o : Option Opd} {K : Int → Prop} (h : bdX s d o = some n) (hk : K n) : bdC s d o K := by
 unfold bdX at h
 split at h
 ·cases h; exact hk
 ·split at h <;> first | cases h | skip
  rename_i hx; simp only [bdC, hx]; exact hk
def bd2X (s : SS) (d : Nat) (lo hi : Option Opd) : Option (Nat × Nat) :=
 match bdX s 0 lo with
 | some l => match bdX s d hi with
  | some h => if 0 ≤ l ∧ l ≤ h ∧ h ≤ d then some (l.toNat, h.toNat) else none
  | none => none
 | none => none
theorem bd2X_ok {s : SS} {d a b : Nat} {lo hi : Option Opd} {K : Int → Int → Prop} (h : bd2X s d lo hi = some (a, b)) (hk : ∀ l h : Int, (0 ≤ l ∧ l ≤ h ∧ h ≤ d) → a = l.toNat → b = h.toNat → K l h) :
  bdC s 0 lo fun l => bdC s d hi fun h => K l h := by
 unfold bd2X at h
 split at h <;> first | cases h | skip
 rename_i hl
 split at h <;> first | cases h | skip
 rename_i hh
 split at h <;> first | cases h | skip
 rename_i hc
 exact bdX_ok hl (bdX_ok hh (hk _ _ hc rfl rfl))
def slRX (s : SS) (sz : Nat) (x : SV) (lo hi : Option Opd) : Option SV :=
 match x with
 | .nils => match bd2X s 0 lo hi with
  | some _ => some .nils
  | none => none
 | .sl p eb t xs => if sz = t.size then match bd2X s xs.length lo hi with
   | some (l, h) => some (.sl p eb t ((xs.drop l).take (h - l)))
   | none => none
  else none
 | .own j => match s.hp[j]? with
  | some (.row _ _ t xs) => if sz = t.size then match bd2X s xs.length lo hi with
    | some (l, h) => some (.vw j l h sz)
    | none => none
   else none
  | _ => none
 | .vw j a b sz' => match s.hp[j]? with
  | some (.row _ _ t xs) => if sz = sz' ∧ sz = t.size then match bd2X s (b - a) lo hi with
    | some (l, h) => some (.vw j (a + l) (a + h) sz)
    | none => none
   else none
  | _ => none
 | _ => none
theorem slRX_ok {s : SS} {sz : Nat} {x v : SV} {lo hi : Option Opd} {K : SV → Prop} (h : slRX s sz x lo hi = some v) (hk : K v) : slRC s sz x lo hi K := by
 unfold slRX at h
 split at h <;> first | cases h | skip
 ·split at h <;> first | cases h | skip
  rename_i p hb
  unfold slRC
  exact bd2X_ok (d := 0) (a := p.1) (b := p.2) hb fun l h hc _ _ => ⟨by have := hc.2.2; have := hc.1; have := hc.2.1; simp at *; omega, fun _ _ => hk⟩
 ·split at h <;> first | cases h | skip
  rename_i hs
  split at h <;> first | cases h | skip
  rename_i hb
  exact ⟨hs, bd2X_ok hb fun l h hc ha hb => ⟨hc, fun _ _ _ ys hy => by rw [hy, ← ha, ← hb]; exact hk⟩⟩
 ·split at h <;> first | cases h | skip
  rename_i hh
  split at h <;> first | cases h | skip
  rename_i hs
  split at h <;> first | cases h | skip
  rename_i hb
  simp only [slRC, hh, slRO]
  exact ⟨hs, bd2X_ok hb fun l h hc ha hb => ⟨hc, fun _ _ _ a' b' hy hz => by rw [hy, hz, ← ha, ← hb]; exact hk⟩⟩
 ·split at h <;> first | cases h | skip
  rename_i hh
  split at h <;> first | cases h | skip
  rename_i hs
  split at h <;> first | cases h | skip
  rename_i hb
  simp only [slRC, hh, slRV]
  exact ⟨hs, bd2X_ok hb fun l h hc ha hb => ⟨hc, fun _ _ _ a' b' hy hz => by rw [hy, hz, ← ha, ← hb]; exact hk⟩⟩
def slSX (s : SS) (x : SV) (lo hi : Option Opd) : Option SV :=
 match x with
 | .str b => match bd2X s b.size lo hi with
  | some (l, h) => some (.str ⟨⟨(b.data.toList.drop l).take (h - l)⟩⟩)
  | none => none
 | _ => none
theorem ext_list (b : ByteArray) (l h : Nat) : b.extract l h = ⟨⟨(b.data.toList.drop l).take (h - l)⟩⟩ := ByteArray.ext (Array.ext' (by simp [ByteArray.data_extract, List.extract]))
theorem slSX_ok {s : SS} {x v : SV} {lo hi : Option Opd} {K : SV → Prop} (h : slSX s x lo hi = some v) (hk : K v) : slSC s x lo hi K := by
 unfold slSX at h
 split at h <;> first | cases h | skip
 split at h <;> first | cases h | skip
 rename_i hb
 unfold slSC
 exact bd2X_ok hb fun l h hc ha hb => ⟨hc, fun _ _ _ ys hy => by rw [hy, ← ha, ← hb, ext_list]; exact hk⟩
def evX (o : AOp) (s : SS) : Option SV :=
 match o with
 | .mv x => some (s.get x)
 | .pick c a b => pickX (s.get c) (s.get a) (s.get b)
 | .nck x => nckX (s.get x)
 | .fld off n x => fldV off n (s.get x)
 | .fa off x => faX off (s.get x)
 | .ia sz x i => iaX s.hp sz (s.get x) (s.get i)
 | .iaA len sz x i => iaAX len sz (s.get x) (s.get i)
 | .ixS x i => ixX (s.get x) (s.get i)
 | .ixA len x i => ixAX len (s.get x) (s.get i)
 | .eqR ng n x y => eqRX ng n (s.get x) (s.get y)
 | .ld x => ldZ none (seenX s.hp (s.get x))
 | .ldA n x => ldZ (some n) (seenX s.hp (s.get x))
 | .bin op x y => binX op (s.get x) (s.get y)
 | .eqn ng k x y => eqnX ng k (s.get x) (s.get y)
 | .b2s x => b2sX s.hp (s.get x)
 | .len k x => lenX s.hp k (s.get x)
 | .lk va kt vt ok x k => lkX s.hp va kt vt ok (s.get x) (s.get k)
 | .bld zs parts => aggO (bldC s zs parts)
 | .bldA zs n t parts => arrO n t (bldC s zs parts)
 | .mkf f caps => some (.fn f (caps.map s.get))
 | .slR sz x lo hi => slRX s sz (s.get x) lo hi
 | .slS x lo hi => slSX s (s.get x) lo hi
 | .iaP x i => iaPX (s.get x) (s.get i)
 | .lenP x => lenPX (s.get x)
 | o => oneX o s
theorem evX_ok {o : AOp} {s : SS} {v : SV} {K : SV → Prop} (h : evX o s = some v) (hk : K v) : evC o s K := by
 cases o with
 | mv x => cases h; exact hk
 | pick c a b => exact pickX_ok h hk
 | nck x => exact nckX_ok h hk
 | fld off n x => simp only [evX] at h; simp only [evC, h, optC]; exact hk
 | fa off x => exact faX_ok h hk
 | ia sz x i => exact iaX_ok h hk
 | iaA len sz x i => exact iaAX_ok h hk
 | ixS x i => exact ixX_ok h hk
 | ixA len x i => exact ixAX_ok h hk
 | eqR ng n x y => exact eqRX_ok h hk
 | ld x => exact ldZ_ok (n := none) (hp := s.hp) (x := s.get x) h hk
 | ldA n x => exact ldZ_ok (n := some n) (hp := s.hp) (x := s.get x) h hk
 | bin op x y => exact binX_ok h hk
 | eqn ng k x y => exact eqnX_ok h hk
 | b2s x => exact b2sX_ok h hk
 | len k x => exact lenX_ok h hk
 | lk va kt vt ok x k => exact lkX_ok h hk
 | bld zs parts => simp only [evX] at h; simp only [evC, h, optC]; exact hk
 | bldA zs n t parts => simp only [evX] at h; simp only [evC, h, optC]; exact hk
 | mkf f caps => cases h; exact hk
 | slR sz x lo hi => exact slRX_ok h hk
 | slS x lo hi => exact slSX_ok h hk
 | iaP x i => exact iaPX_ok (x := x) (i := i) h hk
 | lenP x => exact lenPX_ok (x := x) h hk
 | _ => exact oneX_ok h hk
end Go.V
namespace Go.V
set_option linter.unusedSimpArgs false
set_option linter.unnecessarySimpa false
set_option linter.unusedVariables false
/-! ### values alike -/
def eqvL {α : Type} (f : α → α → Bool) : List α → List α → Bool
 | [], [] => true
 | x :: r, y :: r' => f x y && eqvL f r r'
 | _, _ => false
theorem eqvL_eq {α : Type} {f : α → α → Bool} (hf : ∀ x y, f x y = true → x = y) : ∀ l l', eqvL f l l' = true → l = l'
 | [], [], _ => rfl
 | x :: r, y :: r', h => by
  simp only [eqvL, Bool.and_eq_true] at h
  rw [hf _ _ h.1, eqvL_eq hf _ _ h.2]
def Ty.eqv : (t : Ty) → t.den → t.den → Bool
 | .int _, a, b => decide ((a : Int) = b)
 | .byte, a, b => (a : UInt8).toNat == (b : UInt8).toNat
 | .bool, a, b => (a : Bool) == b
 | .str, a, b => beqB a b
 | .sl _ t, a, b => eqvL t.eqv a b
 | .pair s t, a, b => s.eqv a.1 b.1 && t.eqv a.2 b.2
 | .unit, _, _ => true
 | .any1, _, _ => true
theorem Ty.eqv_eq : ∀ (t : Ty) (a b : t.den), t.eqv a b = true → a = b
 | .int _, a, b, h => by simpa [Ty.eqv] using h
 | .byte, a, b, h => by simp only [Ty.eqv, beq_iff_eq] at h; exact UInt8.toNat_inj.1 h
 | .bool, a, b, h => by simpa [Ty.eqv] using h
 | .str, a, b, h => by simp only [Ty.eqv, ← beqB_eq, decide_eq_true_eq] at h; exact h
 | .sl _ t, a, b, h => eqvL_eq (Ty.eqv_eq t) _ _ (by simpa only [Ty.eqv] using h)
 | .pair s t, a, b, h => by
  simp only [Ty.eqv, Bool.and_eq_true] at h
  exact Prod.ext (Ty.eqv_eq s _ _ h.1) (Ty.eqv_eq t _ _ h.2)
 | .unit, _, _, _ => rfl
 | .any1, _, _, _ => rfl
def xsEq (t t' : Ty) (xs : List t.den) (ys : List t'.den) : Bool := if h : t = t' then eqvL t'.eqv (castT h xs) ys else false
theorem xsEq_eq {t t' : Ty} {xs : List t.den} {ys : List t'.den} (h : xsEq t t' xs ys = true) : t = t' ∧ HEq xs ys := by
 unfold xsEq at h
 split at h
 ·rename_i e; subst e; exact ⟨rfl, heq_of_eq (eqvL_eq (Ty.eqv_eq t) _ _ h)⟩
 ·cases h
mutual
def svEq : SV → SV → Bool
 | .int k a, y => match y with | .int k' b => decide (k = k') && decide (a = b) | _ => false
 | .bool a, y => match y with | .bool b => a == b | _ => false
 | .str a, y => match y with | .str b => beqB a b | _ => false
 | .sl p eb t xs, y => match y with | .sl p' eb' t' ys => p == p' && eb == eb' && xsEq t t' xs ys | _ => false
 | .nilp, y => match y with | .nilp => true | _ => false
 | .nils, y => match y with | .nils => true | _ => false
 | .nilm, y => match y with | .nilm => true | _ => false
 | .nilf, y => match y with | .nilf => true | _ => false
 | .nili, y => match y with | .nili => true | _ => false
 | .ptr i o, y => match y with | .ptr j o' => i == j && o == o' | _ => false
 | .own i, y => match y with | .own j => i == j | _ => false
 | .vw i a b c, y => match y with | .vw j a' b' c' => i == j && a == a' && b == b' && c == c' | _ => false
 | .mp i, y => match y with | .mp j => i == j | _ => false
 | .svw i n, y => match y with | .svw j m => i == j && n == m | _ => false
 | .agg l, y => match y with | .agg l' => svEqL l l' | _ => false
 | .tup l, y => match y with | .tup l' => svEqL l l' | _ => false
 | .fn f l, y => match y with | .fn g l' => f == g && svEqL l l' | _ => false
 | .junk1, y => match y with | .junk1 => true | _ => false
 | .junk, y => match y with | .junk => true | _ => false
 | _, _ => false
def svEqL : List SV → List SV → Bool
 | [], y => match y with | [] => true | _ => false
 | x :: r, y => match y with | z :: r' => svEq x z && svEqL r r' | [] => false
end
mutual
theorem svEq_eq : ∀ x y, svEq x y = true → x = y
 | .int _ _, y, h => by cases y <;> simp_all [svEq]
 | .bool _, y, h => by cases y <;> simp_all [svEq]
 | .str _, y, h => by cases y <;> simp_all [svEq, ← beqB_eq]
 | .sl _ _ _ _, y, h => by
  cases y <;> simp only [svEq, Bool.and_eq_true, beq_iff_eq, reduceCtorEq, Bool.false_eq_true] at h
  obtain ⟨⟨rfl, rfl⟩, h⟩ := h
  obtain ⟨rfl, h⟩ := xsEq_eq h
  cases h; rfl
 | .nilp, y, h => by cases y <;> simp_all [svEq]
 | .nils, y, h => by cases y <;> simp_all [svEq]
 | .nilm, y, h => by cases y <;> simp_all [svEq]
 | .nilf, y, h => by cases y <;> simp_all [svEq]
 | .nili, y, h => by cases y <;> simp_all [svEq]
 | .ptr _ _, y, h => by cases y <;> simp_all [svEq]
 | .own _, y, h => by cases y <;> simp_all [svEq]
 | .vw _ _ _ _, y, h => by cases y <;> simp_all [svEq]
 | .mp _, y, h => by cases y <;> simp_all [svEq]
 | .agg l, y, h => by
  cases y <;> simp only [svEq, Bool.false_eq_true] at h
  rw [svEqL_eq l _ h]
 | .tup l, y, h => by
  cases y <;> simp only [svEq, Bool.false_eq_true] at h
  rw [svEqL_eq l _ h]
 | .fn f l, y, h => by
  cases y <;> simp only [svEq, Bool.false_eq_true, Bool.and_eq_true, beq_iff_eq] at h
  rw [h.1, svEqL_eq l _ h.2]
 | .junk1, y, h => by cases y <;> simp_all [svEq]
 | .junk, y, h => by cases y <;> simp_all [svEq]
 | .el _ _ _ _, y, h => by simp [svEq] at h
 | .rel _ _ _ _ _ _, y, h => by simp [svEq] at h
 | .ptrA _ _ _ _, y, h => by simp [svEq] at h
 | .pty _ _, y, h => by simp [svEq] at h
 | .svw _ _, y, h => by cases y <;> simp_all [svEq]
 | .slf _, y, h => by simp [svEq] at h
 | .arr _ _ _, y, h => by simp [svEq] at h
theorem svEqL_eq : ∀ l l', svEqL l l' = true → l = l'
 | [], y, h => by cases y <;> simp_all [svEqL]
 | x :: r, y, h => by
  cases y <;> simp only [svEqL, Bool.and_eq_true, Bool.false_eq_true] at h
  rw [svEq_eq x _ h.1, svEqL_eq r _ h.2]
end
def sbEq (a b : SB) : Bool :=
 match a with
 | .struct l => match b with | .struct l' => svEqL l l' | _ => false
 | .row mv eb t xs => match b with | .row mv' eb' t' ys => mv == mv' && eb == eb' && xsEq t t' xs ys | _ => false
 | .map va kt vt m => match b with | .map va' kt' vt' m' => va == va' && xsEq (.pair kt vt) (.pair kt' vt') m m' | _ => false
 | .itr s p => match b with | .itr s' p' => decide (s = s') && p == p' | _ => false
 | .gone => match b with | .gone => true | _ => false
theorem sbEq_eq {a b : SB} (h : sbEq a b = true) : a = b := by
 cases a <;> cases b <;> simp only [sbEq, Bool.and_eq_true, beq_iff_eq, Bool.false_eq_true] at h
 ·rw [svEqL_eq _ _ h]
 ·obtain ⟨⟨rfl, rfl⟩, h⟩ := h
  obtain ⟨rfl, h⟩ := xsEq_eq h
  cases h; rfl
 ·obtain ⟨rfl, h⟩ := h
  obtain ⟨e, h⟩ := xsEq_eq h
  injection e with e1 e2
  subst e1 e2
  cases h; rfl
 ·obtain ⟨h1, rfl⟩ := h
  rw [of_decide_eq_true h1]
 ·rfl
def frEq (a b : Nat × SV) : Bool := a.1 == b.1 && svEq a.2 b.2
def ssEq (a b : SS) : Bool := eqvL frEq a.fr b.fr && eqvL sbEq a.hp b.hp
theorem ssEq_eq {a b : SS} (h : ssEq a b = true) : a = b := by
 simp only [ssEq, Bool.and_eq_true] at h
 cases a; cases b
 have h1 := eqvL_eq (f := frEq) (fun x y h => by simp only [frEq, Bool.and_eq_true, beq_iff_eq] at h; exact Prod.ext h.1 (svEq_eq _ _ h.2)) _ _ h.1
 have h2 := eqvL_eq (fun x y h => sbEq_eq h) _ _ h.2
 simp only at h1 h2
 rw [h1, h2]
/-! ### outcomes: several, each of which may be -/
abbrev Outs (α : Type) := Option (List α)
def oAll {α : Type} (o : Outs α) (p : α → Prop) : Prop := ∃ l, o = some l ∧ ∀ x ∈ l, p x
def oApp {α : Type} (a b : Outs α) : Outs α :=
 match a with
 | none => none
 | some l => match l with
  | [] => b
  | l => match b with
   | none => none
   | some l' => some (l ++ l')
theorem oAll_app {α : Type} {a b : Outs α} {p : α → Prop} (h : oAll (oApp a b) p) : oAll a p ∧ oAll b p := by
 obtain ⟨l, h, hp⟩ := h
 unfold oApp at h
 split at h <;> first | cases h | skip
 split at h
 ·exact ⟨⟨_, rfl, by simp⟩, ⟨l, h, hp⟩⟩
 ·split at h <;> first | cases h | skip
  exact ⟨⟨_, rfl, fun x hx => hp x (List.mem_append_left _ hx)⟩, ⟨_, rfl, fun x hx => hp x (List.mem_append_right _ hx)⟩⟩
def oBindL {α β : Type} (f : α → Outs β) : List α → Outs β
 | [] => some []
 | x :: r => match r with
  | [] => f x
  | r => oApp (f x) (oBindL f r)
def oBind {α β : Type} (a : Outs α) (f : α → Outs β) : Outs β :=
 match a with
 | none => none
 | some l => oBindL f l
theorem oAll_bindL {α β : Type} {f : α → Outs β} {p : β → Prop} : ∀ {l : List α}, oAll (oBindL f l) p → ∀ x ∈ l, oAll (f x) p
 | [], _ => by simp
 | [x], h => by simpa [oBindL] using h
 | x :: y :: r, h => by
  simp only [oBindL] at h
  have h := oAll_app h
  intro z hz
  rcases List.mem_cons.1 hz with rfl | hz
  ·exact h.1
  ·exact oAll_bindL (l := y :: r) h.2 z hz
theorem oAll_bind {α β : Type} {a : Outs α} {f : α → Outs β} {p : β → Prop} (h : oAll (oBind a f) p) : oAll a (fun x => oAll (f x) p) := by
 unfold oBind at h
 split at h
 ·obtain ⟨_, h, _⟩ := h; cases h
 ·exact ⟨_, rfl, oAll_bindL h⟩
def oMap {α β : Type} (f : α → β) (a : Outs α) : Outs β :=
 match a with
 | none => none
 | some l => some (l.map f)
theorem oAll_map {α β : Type} {a : Outs α} {f : α → β} {p : β → Prop} (h : oAll (oMap f a) p) : oAll a (fun x => p (f x)) := by
 unfold oMap at h
 split at h
 ·obtain ⟨_, h, _⟩ := h; cases h
 ·obtain ⟨l, h, hp⟩ := h
  cases h
  exact ⟨_, rfl, fun x hx => hp _ (List.mem_map_of_mem hx)⟩
theorem oAll_mono {α : Type} {a : Outs α} {p q : α → Prop} (h : oAll a p) (hpq : ∀ x, p x → q x) : oAll a q := by
 obtain ⟨l, h, hp⟩ := h
 exact ⟨l, h, fun x hx => hpq x (hp x hx)⟩
theorem oAll_one {α : Type} {x : α} {p : α → Prop} (h : oAll (some [x]) p) : p x := by
 obtain ⟨l, h, hp⟩ := h; cases h; exact hp x (by simp)
theorem oAll_none {α : Type} {p : α → Prop} (h : oAll (none : Outs α) p) : False := by
 obtain ⟨l, h, _⟩ := h; cases h
def nubL {α : Type} (eq : α → α → Bool) : List α → List α
 | [] => []
 | x :: r => match r with
  | [] => [x]
  | r => if r.any (fun y => eq x y) then nubL eq r else x :: nubL eq r
theorem nubL_all {α : Type} {eq : α → α → Bool} (he : ∀ x y, eq x y = true → x = y) : ∀ (l : List α), ∀ x ∈ l, x ∈ nubL eq l
 | [], x, hx => by cases hx
 | [y], x, hx => by simpa [nubL] using hx
 | y :: z :: r, x, hx => by
  have ih := nubL_all he (z :: r)
  simp only [nubL]
  rcases List.mem_cons.1 hx with rfl | hx
  ·split
   ·rename_i h
    obtain ⟨w, hw, hxw⟩ := List.any_eq_true.1 h
    rw [he _ _ hxw]
    exact ih w hw
   ·exact List.mem_cons_self
  ·split
   ·exact ih x hx
   ·exact List.mem_cons_of_mem _ (ih x hx)
theorem oAll_pair {α β : Type} {a : α} {b : β} {K : α → β → Prop} (h : oAll (some [(a, b)]) (fun p => K p.1 p.2)) : K a b := oAll_one (p := fun p : α × β => K p.1 p.2) h
/-! ### effects -/
def appX (eb : Nat) (t : Ty) (s : SS) (x : SV) (ys : Option (List t.den)) : Outs (SV × SS) :=
 match ys with
 | none => none
 | some ys => match x with
  | .nils => if ys.length * eb ≤ 140737488355328 then some [(.own s.hp.length, pushS s (.row true eb t ys))] else none
  | .own i => match s.hp[i]? with
   | some (.row _ eb' t' xs) => if h : t' = t then (if eb' = eb ∧ (xs.length + ys.length) * eb ≤ 140737488355328 then some [(.own i, movS s i (.row true eb t (castT h xs ++ ys)))] else none) else none
   | _ => none
  | _ => none
theorem appX_ok {eb : Nat} {t : Ty} {s : SS} {x : SV} {H : Prop} {ys : Option (List t.den)} {K : SV → SS → Prop} (h : oAll (appX eb t s x ys) (fun p => K p.1 p.2)) : app1 eb t s x H ys K := by
 unfold appX at h
 split at h <;> first | exact (oAll_none h).elim | skip
 split at h <;> first | exact (oAll_none h).elim | skip
 ·split at h <;> first | exact (oAll_none h).elim | skip
  rename_i hc
  exact ⟨fun _ => hc, fun _ => oAll_pair h⟩
 ·split at h <;> first | exact (oAll_none h).elim | skip
  rename_i hh
  split at h <;> first | exact (oAll_none h).elim | skip
  rename_i he
  split at h <;> first | exact (oAll_none h).elim | skip
  rename_i hc
  simp only [app1, hh, dif_pos he]
  exact ⟨hc.1, fun _ _ => hc.2, fun _ => oAll_pair h⟩
def stX (n : Nat) (s : SS) (x : SV) (new : Option (List SV)) : Outs (SV × SS) :=
  match new with
  | none => none
  | some new => if widthL new = n then match x with
      | .ptr i off => match s.hp[i]? with
        | some (.struct cells) => match splC cells off new with
          | some cells' => some [(.junk, setS s i (.struct cells'))]
          | none => none
        | _ => none
      | .el i m sz off => match s.hp[i]? with
        | some (.row mv eb t xs) => if sz = t.size ∧ m < xs.length then match splC (t.sv true (xs.getD m t.dflt)) off new with
            | some l => match t.ofSv l with
              | some (y, []) => some [(.junk, setS s i (.row mv eb t (xs.set m y)))]
              | _ => none
            | none => none
          else none
        | _ => none
      | .ptrA i off m sz => match s.hp[i]? with
        | some (.struct cells) => match takeC cells off with
          | some pre => match dropC cells off with
            | some (.arr k t xs :: rest) => if sz = t.size ∧ m < k then match t.ofSv new with
                | some (y, []) => some [(.junk, setS s i (.struct (pre ++ (.arr k t (xs.set m y) :: rest))))]
                | _ => none
              else none
            | _ => none
          | none => none
        | _ => none
      | _ => none
    else none
theorem stX_ok {n : Nat} {s : SS} {x : SV} {new : Option (List SV)} {K : SV → SS → Prop} (h : oAll (stX n s x new) (fun p => K p.1 p.2)) : st1 n s x new K := by
 unfold stX at h
 split at h <;> first | exact (oAll_none h).elim | skip
 split at h <;> first | exact (oAll_none h).elim | skip
 rename_i hw
 split at h <;> first | exact (oAll_none h).elim | skip
 ·split at h <;> first | exact (oAll_none h).elim | skip
  rename_i hh
  split at h <;> first | exact (oAll_none h).elim | skip
  rename_i hs
  simp only [st1, if_pos hw, hh, hs]
  exact oAll_pair h
 ·split at h <;> first | exact (oAll_none h).elim | skip
  rename_i hh
  split at h <;> first | exact (oAll_none h).elim | skip
  rename_i hc
  split at h <;> first | exact (oAll_none h).elim | skip
  rename_i hs
  split at h <;> first | exact (oAll_none h).elim | skip
  rename_i ho
  simp only [st1, if_pos hw, hh, if_pos hc.1, hs, ho]
  exact ⟨hc.2, fun _ => oAll_pair h⟩
 ·split at h <;> first | exact (oAll_none h).elim | skip
  rename_i hh
  split at h <;> first | exact (oAll_none h).elim | skip
  rename_i ht
  split at h <;> first | exact (oAll_none h).elim | skip
  rename_i hd
  split at h <;> first | exact (oAll_none h).elim | skip
  rename_i hc
  split at h <;> first | exact (oAll_none h).elim | skip
  rename_i ho
  simp only [st1, if_pos hw, hh, ht, hd, if_pos hc.1, ho]
  exact ⟨hc.2, fun _ => oAll_pair h⟩
def storesX (n : Nat) (s : SS) (x v : SV) : Outs (SV × SS) :=
 match isEl x with
 | true => match flatS v with
  | some l => match frzAll s l (SV.rowsL l) with
   | (s', l') => if onesL l' = true then stX n s' x (some l') else none
  | none => none
 | false => match settle s v with
  | (v', s') => if ones (flatS v') = true then stX n s' x (flatS v') else none
theorem storesX_ok {n : Nat} {s : SS} {x v : SV} {K : SV → SS → Prop} (h : oAll (storesX n s x v) (fun p => K p.1 p.2)) : stores n s x v K := by
 unfold storesX at h
 split at h <;> first | exact (oAll_none h).elim | skip
 ·rename_i he
  split at h <;> first | exact (oAll_none h).elim | skip
  rename_i hf
  simp only at h
  split at h <;> first | exact (oAll_none h).elim | skip
  rename_i ho
  simp only [stores, he, hf]
  exact ⟨ho, stX_ok h⟩
 ·rename_i he
  simp only at h
  split at h <;> first | exact (oAll_none h).elim | skip
  rename_i ho
  simp only [stores, he]
  exact ⟨ho, stX_ok h⟩
def muX (va : Bool) (kt vt : Ty) (s : SS) (x k v : SV) : Outs (SV × SS) :=
  match x with
  | .mp i => match s.hp[i]? with
    | some (.map va' kt' vt' m) => if (va' = va ∧ kt' = kt ∧ vt' = vt) ∧ m.length + 1 ≤ maxLen then match kt'.keyOf k with
        | some key => match valC va' v with
          | some l => match vt'.ofSv (frzAll s l (SV.rowsL l)).2 with
            | some (y, []) => some [(.junk, setS (frzAll s l (SV.rowsL l)).1 i (.map va' kt' vt' (updM kt' vt' m key y)))]
            | _ => none
          | none => none
        | none => none
      else none
    | _ => none
  | _ => none
theorem muX_ok {va : Bool} {kt vt : Ty} {s : SS} {x k v : SV} {K : SV → SS → Prop} (h : oAll (muX va kt vt s x k v) (fun p => K p.1 p.2)) : mu1 va kt vt s x k v K := by
 unfold muX at h
 split at h <;> first | exact (oAll_none h).elim | skip
 split at h <;> first | exact (oAll_none h).elim | skip
 rename_i hh
 split at h <;> first | exact (oAll_none h).elim | skip
 rename_i hc
 split at h <;> first | exact (oAll_none h).elim | skip
 rename_i hk
 split at h <;> first | exact (oAll_none h).elim | skip
 rename_i hl
 split at h <;> first | exact (oAll_none h).elim | skip
 rename_i hy
 simp only [mu1, hh, mu0, mu2, mu3, hk, hl, hy]
 exact ⟨hc.1, hc.2, oAll_pair h⟩
def bslX (eb : Nat) (t : Ty) (n : Nat) (s : SS) (l : Option (List SV)) : Outs (SV × SS) :=
 match l with
 | some l => match t.ofSvL n (frzAll s l (SV.rowsL l)).2 with
  | some xs => some [(.own (frzAll s l (SV.rowsL l)).1.hp.length, pushS (frzAll s l (SV.rowsL l)).1 (.row true eb t xs))]
  | none => none
 | none => none
theorem bslX_ok {eb : Nat} {t : Ty} {n : Nat} {s : SS} {l : Option (List SV)} {K : SV → SS → Prop} (h : oAll (bslX eb t n s l) (fun p => K p.1 p.2)) : bsl1 eb t n s l K := by
 unfold bslX at h
 split at h <;> first | exact (oAll_none h).elim | skip
 split at h <;> first | exact (oAll_none h).elim | skip
 rename_i hx
 simp only [bsl1, hx, bsl2]
 exact oAll_pair h
def mksX (eb : Nat) (t : Ty) (s : SS) (x y : SV) : Outs (SV × SS) :=
 match x with
 | .int _ l => match y with
  | .int _ c => if 0 ≤ l ∧ l ≤ c ∧ c ≤ 9223372036854775807 ∧ c * (eb : Int) ≤ 140737488355328 then some [(.own s.hp.length, pushS s (.row true eb t (List.replicate l.toNat t.dflt)))] else none
  | _ => none
 | _ => none
theorem mksX_ok {eb : Nat} {t : Ty} {s : SS} {x y : SV} {K : SV → SS → Prop} (h : oAll (mksX eb t s x y) (fun p => K p.1 p.2)) : mks1 eb t s x y K := by
 unfold mksX at h
 split at h <;> first | exact (oAll_none h).elim | skip
 split at h <;> first | exact (oAll_none h).elim | skip
 split at h <;> first | exact (oAll_none h).elim | skip
 rename_i hc
 exact ⟨hc, oAll_pair h⟩
def dlX (kt : Ty) (s : SS) (x k : SV) : Outs (SV × SS) :=
 match x with
 | .mp i => match s.hp[i]? with
  | some (.map va kt' vt m) => if kt' = kt then match kt'.keyOf k with
    | some key => some [(.tup [], setS s i (.map va kt' vt (delM kt' vt m key)))]
    | none => none
   else none
  | _ => none
 | _ => none
theorem dlX_ok {kt : Ty} {s : SS} {x k : SV} {K : SV → SS → Prop} (h : oAll (dlX kt s x k) (fun p => K p.1 p.2)) : dl1 kt s x k K := by
 unfold dlX at h
 split at h <;> first | exact (oAll_none h).elim | skip
 split at h <;> first | exact (oAll_none h).elim | skip
 rename_i hh
 split at h <;> first | exact (oAll_none h).elim | skip
 rename_i hc
 split at h <;> first | exact (oAll_none h).elim | skip
 rename_i hk
 simp only [dl1, hh, dl0, dl2, hk]
 exact ⟨hc, oAll_pair h⟩
def mkbX (s : SS) (x : SV) : Outs (SV × SS) :=
 match x with
 | .own i => match s.hp[i]? with
  | some (.row _ _ _ xs) => if 1 ≤ xs.length then some [(.own i, s)] else none
  | _ => none
 | _ => none
theorem mkbX_ok {s : SS} {x : SV} {K : SV → SS → Prop} (h : oAll (mkbX s x) (fun p => K p.1 p.2)) : mkb1 s x K := by
 unfold mkbX at h
 split at h <;> first | exact (oAll_none h).elim | skip
 split at h <;> first | exact (oAll_none h).elim | skip
 rename_i hh
 split at h <;> first | exact (oAll_none h).elim | skip
 rename_i hc
 simp only [mkb1, hh, mkb2]
 exact ⟨hc, oAll_pair h⟩
def cpyX (t : Ty) (s : SS) (x : SV) (ys : Option (List t.den)) : Outs (SV × SS) :=
  match ys with
  | some ys => match x with
    | .vw i lo hi sz => match s.hp[i]? with
      | some (.row mv eb t' xs) => if h : t' = t then (if sz = t.size ∧ lo + ys.length ≤ hi ∧ hi ≤ xs.length then
          some [(.int .i64 ys.length, setS s i (.row mv eb t ((castT h xs).take lo ++ (ys ++ (castT h xs).drop (lo + ys.length)))))] else none) else none
      | _ => none
    | _ => none
  | none => none
theorem cpyX_ok {t : Ty} {s : SS} {x : SV} {ys : Option (List t.den)} {K : SV → SS → Prop} (h : oAll (cpyX t s x ys) (fun p => K p.1 p.2)) : cpy1 t s x ys K := by
 unfold cpyX at h
 split at h <;> first | exact (oAll_none h).elim | skip
 split at h <;> first | exact (oAll_none h).elim | skip
 split at h <;> first | exact (oAll_none h).elim | skip
 rename_i hh
 split at h <;> first | exact (oAll_none h).elim | skip
 rename_i he
 split at h <;> first | exact (oAll_none h).elim | skip
 rename_i hc
 simp only [cpy1, hh, cpy2, dif_pos he]
 exact ⟨hc, oAll_pair h⟩
abbrev Run := Nat → List SV → List SB → Outs (SV × List SB)
def plugX (idx lent : List Nat) (s : SS) (p : SV × List SB) : SV × SS :=
 match p with
 | (r, hp') => ((unboIf lent r).ren (back idx s.hp.length), ⟨frRen (but2 (movedL idx hp')) s.fr, plugHp idx s.hp (unboHp lent hp')⟩)
def call3X (R : Run) (f : Nat) (idx lent : List Nat) (args : List SV) (s : SS) : Outs (SV × SS) :=
 if (lent.all fun i => !idx.contains i) = true then oMap (plugX idx lent s) (R f (SV.renL (posOf idx) args) ((selHp idx (posOf idx) s.hp).map SB.reset)) else none
def callX (R : Run) (f : Nat) (al : Option (List SV × List Nat)) (s : SS) : Outs (SV × SS) :=
 match al with
 | none => none
 | some (args, lent) => call3X R f (reach s.hp 400 (SV.refsL args) []) lent args s
def RunOk (R : Run) (Γ : List (Nat × Contract)) : Prop := ∀ f args hp K, oAll (R f args hp) (fun p => K p.1 p.2) → ∃ C, lkC Γ f = some C ∧ C args hp K
theorem callX_ok {R : Run} {Γ : List (Nat × Contract)} (hR : RunOk R Γ) {f : Nat} {al : Option (List SV × List Nat)} {s : SS} {K : SV → SS → Prop} (h : oAll (callX R f al s) (fun p => K p.1 p.2)) :
  ∃ C, lkC Γ f = some C ∧ callC1 C al s K := by
 unfold callX at h
 split at h <;> first | exact (oAll_none h).elim | skip
 unfold call3X at h
 split at h <;> first | exact (oAll_none h).elim | skip
 rename_i hc
 obtain ⟨C, h1, h2⟩ := hR _ _ _ (fun r hp' => plug _ _ s r hp' K) (oAll_map h)
 exact ⟨C, h1, hc, h2⟩
def effX (R : Run) (o : AOp) (s : SS) : Outs (SV × SS) :=
 match o with
 | .isn ng x => match s.get x with
  | .nils => some [(.bool (!ng), s)]
  | y => match cont s.hp y with
   | some C => match C.xs with
    | [] => some [(.bool true, s), (.bool false, s)]
    | _ => some [(.bool ng, s)]
   | none => none
 | .alc zs => some [(.ptr s.hp.length 0, pushS s (.struct zs))]
 | .alcT T zs => some [(.pty s.hp.length T, pushS s (.struct zs))]
 | .box x => match flatS (s.get x) with
  | some l => some [(.ptr s.hp.length 0, pushS s (.struct l))]
  | none => none
 | .st n x v => storesX n s (s.get x) (s.get v)
 | .mu va kt vt m k v => muX va kt vt s (s.get m) (s.get k) (s.get v)
 | .s2b x => match s.get x with
  | .str b => if b.size ≤ 140737488355328 then some [(.own s.hp.length, pushS s (.row true 1 .byte b.data.toList))] else none
  | _ => none
 | .mks eb t n c => mksX eb t s (s.get n) (s.get c)
 | .dl kt m k => dlX kt s (s.get m) (s.get k)
 | .mkb x => mkbX s (s.get x)
 | .cpy t x y => cpyX t s (s.get x) (srcOf s.hp t (s.get y))
 | .bldF zs parts => match bldC s zs parts with
  | some l => some [(.agg (frzAll s l (SV.rowsL l)).2, (frzAll s l (SV.rowsL l)).1)]
  | none => none
 | .bsl eb t n parts => bslX eb t n s (partsC s t.size parts)
 | .bslP n parts => match partsC s 1 parts with
  | some l => some [(.svw s.hp.length n, pushS s (.struct l))]
  | none => none
 | .app eb t x y => match settle s (s.get x) with
  | (x', s') => appX eb t s' x' (srcOf s.hp t (s.get y))
 | .mkm va kt vt => some [(.mp s.hp.length, pushS s (.map va kt vt []))]
 | .call f ms args => callX R f (lend s.hp ms (args.map s.get)) s
 | .callv x ms args => match s.get x with
  | .fn f caps => if f < 1000000 then callX R f (lend s.hp (ms ++ nones caps) (args.map s.get ++ caps)) s
   else callX R (f % 1000000) (lend s.hp (nones caps ++ ms) (caps ++ args.map s.get)) s
  | _ => none
 | _ => none
theorem effX_ok {R : Run} {Γ : List (Nat × Contract)} (hR : RunOk R Γ) {o : AOp} {s : SS} {K : SV → SS → Prop} (h : oAll (effX R o s) (fun p => K p.1 p.2)) : eff Γ o s K := by
 cases o with
 | isn ng x =>
  simp only [effX] at h
  split at h
  ·rename_i hx; simp only [eff, hx]; exact oAll_pair h
  ·rename_i hn
   split at h <;> first | exact (oAll_none h).elim | skip
   rename_i C hc
   have key : ∀ b : Bool, (b = true → C.xs = []) → K (.bool (bif ng then !b else b)) s := by
    split at h
    ·intro b _
     obtain ⟨l, hl, hp⟩ := h
     cases hl
     have h1 := hp (.bool true, s) (by simp)
     have h2 := hp (.bool false, s) (by simp)
     cases ng <;> cases b <;> first | exact h1 | exact h2
    ·rename_i hne
     intro b hb
     have hb' : b = false := by cases b <;> first | rfl | exact (hne (hb rfl)).elim
     subst hb'
     have := oAll_pair h
     cases ng <;> exact this
   simp only [eff]
   split <;> rename_i hx <;> first | (exact (hn hx).elim) | (rw [hc] at hx; cases hx; exact key) | (rw [hc] at hx; cases hx; done) | (simp only [hc]; exact key)
 | alc zs => simp only [effX] at h; simp only [eff]; exact oAll_pair h
 | alcT T zs => simp only [effX] at h; simp only [eff]; exact oAll_pair h
 | box x =>
  simp only [effX] at h
  split at h <;> first | exact (oAll_none h).elim | skip
  rename_i hx
  simp only [eff, hx]; exact oAll_pair h
 | st n x v => exact storesX_ok h
 | mu va kt vt m k v => exact muX_ok h
 | s2b x =>
  simp only [effX] at h
  split at h <;> first | exact (oAll_none h).elim | skip
  rename_i hx
  split at h <;> first | exact (oAll_none h).elim | skip
  rename_i hc
  simp only [eff, hx, s2b1]; exact ⟨hc, oAll_pair h⟩
 | mks eb t n c => exact mksX_ok h
 | dl kt m k => exact dlX_ok h
 | mkb x => exact mkbX_ok h
 | cpy t x y => exact cpyX_ok h
 | bldF zs parts =>
  simp only [effX] at h
  split at h <;> first | exact (oAll_none h).elim | skip
  rename_i hx
  simp only [eff, hx, bldF1]; exact oAll_pair h
 | bsl eb t n parts => exact bslX_ok h
 | bslP n parts =>
  simp only [effX] at h
  split at h <;> first | exact (oAll_none h).elim | skip
  rename_i hx
  simp only [eff, hx, bslP1]; exact oAll_pair h
 | app eb t x y => exact appX_ok h
 | mkm va kt vt => simp only [effX] at h; simp only [eff]; exact oAll_pair h
 | call f ms args =>
  obtain ⟨C, h1, h2⟩ := callX_ok hR h
  simp only [eff, h1]; exact h2
 | callv x ms args =>
  simp only [effX] at h
  split at h <;> first | exact (oAll_none h).elim | skip
  rename_i hx
  split at h
  ·rename_i hf
   obtain ⟨C, h1, h2⟩ := callX_ok hR h
   simp only [eff, hx, if_pos hf, h1]; exact h2
  ·rename_i hf
   obtain ⟨C, h1, h2⟩ := callX_ok hR h
   simp only [eff, hx, if_neg hf, h1]; exact h2
 | _ => exact (oAll_none h).elim
end Go.V
