/- The symbolic values of the proof layer, and what they say of a world. -/
import Derived.Tactics
import Derived.Orders
import Derived.Laws.Append
import Derived.Laws.CopyRow
import Derived.Laws.AppendOwn
import Derived.Laws.Strings
import Derived.Laws.BytesArg
import Derived.MapKept
namespace Go.V
set_option linter.unusedSimpArgs false
set_option linter.unnecessarySimpa false
theorem rt {α : Sort _} {a : α} : a = a := rfl.trans rfl
set_option linter.unusedVariables false
inductive Ty where
 | int (k : IntKind) | byte | bool | str | sl (eb : Nat) (t : Ty) | pair (a b : Ty) | unit | any1
 deriving DecidableEq
@[reducible] def Ty.den : Ty → Type
 | .int _ => Int
 | .byte => UInt8
 | .bool => Bool
 | .str => ByteArray
 | .sl _ t => List t.den
 | .pair a b => a.den × b.den
 | .unit => Unit
 | .any1 => Unit
def Ty.size : Ty → Nat
 | .pair a b => a.size + b.size
 | .unit => 0
 | _ => 1
def Ty.dflt : (t : Ty) → t.den
 | .int _ => (0 : Int)
 | .byte => (0 : UInt8)
 | .bool => false
 | .str => ByteArray.empty
 | .sl _ _ => []
 | .pair a b => (a.dflt, b.dflt)
 | .unit => ()
 | .any1 => ()
def Ty.flat : Ty → Bool
 | .sl _ _ => false
 | .pair a b => a.flat && b.flat
 | _ => true
def rdL {α : Type} (R : α → List Value → Prop) : List α → List Value → Prop
 | [], cs => cs = []
 | x :: xs, cs => ∃ c1 c2, cs = c1 ++ c2 ∧ R x c1 ∧ rdL R xs c2
def slv {α : Type} (w : World) (F : Nat → Prop) (R : α → List Value → Prop) (eb sz : Nat) (xs : List α) (v : Value) : Prop :=
 (xs = [] ∧ ∃ a c, v = .slice a 0 c ∧ c ≤ maxLen ∧ (a = none → c = 0)) ∨
 ∃ b off cap cur E fr cs, v = .slice (some ⟨b, off, none⟩) xs.length cap ∧ F b ∧ w.heap[b]? = some (.cells cur E fr) ∧ xs.length ≤ cap ∧ cap ≤ maxLen ∧
  xs.length * eb ≤ 140737488355328 ∧ (cur.toList.drop off).take (xs.length * sz) = cs ∧ rdL R xs cs
def rd (w : World) (F : Nat → Prop) : (t : Ty) → t.den → List Value → Prop
 | .int k, n, cs => cs = [.int k n] ∧ k.min ≤ n ∧ n ≤ k.max
 | .byte, b, cs => cs = [.int .u8 b.toNat]
 | .bool, b, cs => cs = [.bool b]
 | .str, s, cs => cs = [.string s] ∧ s.size ≤ maxLen
 | .sl eb t, xs, cs => ∃ v, cs = [v] ∧ slv w F (rd w F t) eb t.size xs v
 | .pair a b, x, cs => ∃ c1 c2, cs = c1 ++ c2 ∧ rd w F a x.1 c1 ∧ rd w F b x.2 c2
 | .unit, _, cs => cs = []
 | .any1, _, cs => ∃ v, cs = [v] ∧ v.oneCell' = true
theorem rdL_length {α : Type} {R : α → List Value → Prop} {n : Nat} (h : ∀ x c, R x c → c.length = n) : ∀ (xs : List α) (cs : List Value), rdL R xs cs → cs.length = xs.length * n
 | [], cs, hc => by simp only [rdL] at hc; subst hc; simp
 | x :: xs, cs, hc => by
  obtain ⟨c1, c2, rfl, h1, h2⟩ := hc
  rw [List.length_append, h x c1 h1, rdL_length h xs c2 h2, List.length_cons, Nat.succ_mul]; omega
theorem rd_length {w : World} {F : Nat → Prop} : ∀ (t : Ty) (x : t.den) (cs : List Value), rd w F t x cs → cs.length = t.size
 | .int _, _, cs, h => by simp only [rd] at h; obtain ⟨rfl, _⟩ := h; rfl
 | .byte, _, cs, h => by simp only [rd] at h; subst h; rfl
 | .bool, _, cs, h => by simp only [rd] at h; subst h; rfl
 | .str, _, cs, h => by simp only [rd] at h; obtain ⟨rfl, _⟩ := h; rfl
 | .sl _ _, _, cs, h => by simp only [rd] at h; obtain ⟨v, rfl, _⟩ := h; rfl
 | .pair a b, x, cs, h => by
  simp only [rd] at h
  obtain ⟨c1, c2, rfl, h1, h2⟩ := h
  rw [List.length_append, rd_length a _ _ h1, rd_length b _ _ h2]; rfl
 | .unit, _, cs, h => by simp only [rd] at h; subst h; rfl
 | .any1, _, cs, h => by simp only [rd] at h; obtain ⟨v, rfl, _⟩ := h; rfl
theorem rdL_mono {α : Type} {R R' : α → List Value → Prop} (h : ∀ x c, R x c → R' x c) : ∀ (xs : List α) (cs : List Value), rdL R xs cs → rdL R' xs cs
 | [], _, hc => hc
 | x :: xs, cs, hc => by
  obtain ⟨c1, c2, rfl, h1, h2⟩ := hc
  exact ⟨c1, c2, rfl, h _ _ h1, rdL_mono h xs c2 h2⟩
theorem slv_mono {α : Type} {w w' : World} {F F' : Nat → Prop} {R R' : α → List Value → Prop} {eb sz : Nat} {xs : List α} {v : Value}
  (hF : ∀ b, F b → F' b) (hw : ∀ b, F b → w'.heap[b]? = w.heap[b]?) (hR : ∀ x c, R x c → R' x c) (h : slv w F R eb sz xs v) : slv w' F' R' eb sz xs v := by
 rcases h with h | ⟨b, off, cap, cur, E, fr, cs, h1, h2, h3, h4, h5, h6, h7, h8⟩
 ·exact .inl h
 ·exact .inr ⟨b, off, cap, cur, E, fr, cs, h1, hF b h2, (hw b h2).trans h3, h4, h5, h6, h7, rdL_mono hR _ _ h8⟩
theorem rd_mono {w w' : World} {F F' : Nat → Prop} (hF : ∀ b, F b → F' b) (hw : ∀ b, F b → w'.heap[b]? = w.heap[b]?) : ∀ (t : Ty) (x : t.den) (cs : List Value), rd w F t x cs → rd w' F' t x cs
 | .int _, _, cs, h => by simp only [rd] at h ⊢; exact h
 | .byte, _, cs, h => by simp only [rd] at h ⊢; exact h
 | .bool, _, cs, h => by simp only [rd] at h ⊢; exact h
 | .str, _, cs, h => by simp only [rd] at h ⊢; exact h
 | .sl _ t, _, cs, h => by
  simp only [rd] at h ⊢
  obtain ⟨v, rfl, hs⟩ := h
  exact ⟨v, rfl, slv_mono hF hw (fun x c hx => rd_mono hF hw t x c hx) hs⟩
 | .pair a b, x, cs, h => by
  simp only [rd] at h ⊢
  obtain ⟨c1, c2, rfl, h1, h2⟩ := h
  exact ⟨c1, c2, rfl, rd_mono hF hw a _ _ h1, rd_mono hF hw b _ _ h2⟩
 | .unit, _, cs, h => by simp only [rd] at h ⊢; exact h
 | .any1, _, cs, h => by simp only [rd] at h ⊢; exact h
theorem rd_flat {w w' : World} {F F' : Nat → Prop} : ∀ (t : Ty) (_ : t.flat = true) (x : t.den) (cs : List Value), rd w F t x cs → rd w' F' t x cs
 | .int _, _, _, cs, h => by simp only [rd] at h ⊢; exact h
 | .byte, _, _, cs, h => by simp only [rd] at h ⊢; exact h
 | .bool, _, _, cs, h => by simp only [rd] at h ⊢; exact h
 | .str, _, _, cs, h => by simp only [rd] at h ⊢; exact h
 | .sl _ t, hf, _, cs, h => by simp [Ty.flat] at hf
 | .pair a b, hf, x, cs, h => by
  simp only [rd] at h ⊢
  simp only [Ty.flat, Bool.and_eq_true] at hf
  obtain ⟨c1, c2, rfl, h1, h2⟩ := h
  exact ⟨c1, c2, rfl, rd_flat a hf.1 _ _ h1, rd_flat b hf.2 _ _ h2⟩
 | .unit, _, _, cs, h => by simp only [rd] at h ⊢; exact h
 | .any1, _, _, cs, h => by simp only [rd] at h ⊢; exact h
inductive SV where
 | int (k : IntKind) (n : Int)
 | bool (b : Bool)
 | str (s : ByteArray)
 | sl (p : Bool) (eb : Nat) (t : Ty) (xs : List t.den)
 | nilp | nils | nilm | nilf | nili
 | ptr (i off : Nat)
 | own (i : Nat)
 | vw (i lo hi sz : Nat)
 | mp (i : Nat)
 | el (i n sz off : Nat)
 | rel (p : Bool) (eb : Nat) (t : Ty) (xs : List t.den) (n off : Nat)
 | ptrA (i off n sz : Nat)
 | pty (i T : Nat)
 | svw (i n : Nat)
 | slf (xs : List UInt8)
 | arr (n : Nat) (t : Ty) (xs : List t.den)
 | agg (l : List SV)
 | tup (l : List SV)
 | fn (f : Nat) (caps : List SV)
 | junk1
 | junk
inductive SB where
 | struct (cells : List SV)
 | row (mv : Bool) (eb : Nat) (t : Ty) (xs : List t.den)
 | map (va : Bool) (kt vt : Ty) (m : List (kt.den × vt.den))
 | itr (s : ByteArray) (p : Nat)
 | gone
structure RV where
 blk : Option Nat
 val : Value
structure En where
 N : Nat
 ρ : Nat → RV
 w : World
 Fz : Nat → Prop
 B : Nat → Prop
def En.F (E : En) (p : Bool) : Nat → Prop := fun b => E.Fz b ∨ (p = false ∧ E.B b)
def fnV (f : Nat) (cs : Array Value) : Value := if f < 1000000 then .func (.func f) #[] cs else .func (.func (f % 1000000)) cs #[]
mutual
def den (E : En) : SV → Value → Prop
 | .int k n, v => v = .int k n ∧ k.min ≤ n ∧ n ≤ k.max
 | .bool b, v => v = .bool b
 | .str s, v => v = .string s ∧ s.size ≤ maxLen
 | .sl p eb t xs, v => slv E.w (E.F p) (rd E.w (E.F p) t) eb t.size xs v
 | .nilp, v => v = .pointer none
 | .nils, v => v = .slice none 0 0
 | .nilm, v => v = .map none
 | .nilf, v => v = .nilFunc
 | .nili, v => v = .nilIface
 | .ptr i off, v => i < E.N ∧ ∃ b, (E.ρ i).blk = some b ∧ v = .pointer (some ⟨b, off, none⟩)
 | .own i, v => i < E.N ∧ v = (E.ρ i).val ∧ v.oneCell' = true
 | .vw i lo hi sz, v => i < E.N ∧ lo ≤ hi ∧ ((lo = 0 ∧ hi = 0 ∧ ∃ ad, (E.ρ i).val = .slice ad 0 0 ∧ v = .slice ad 0 0) ∨
   ∃ b o l c, (E.ρ i).val = .slice (some ⟨b, o, none⟩) l c ∧ hi ≤ l ∧ ∃ ad, v = .slice (some ad) (hi - lo) (c - lo) ∧ (c ≠ lo → ad = ⟨b, o + lo * sz, none⟩))
 | .mp i, v => i < E.N ∧ ∃ b, (E.ρ i).blk = some b ∧ v = .map (some b)
 | .el i n sz off, v => i < E.N ∧ ∃ b o l c, (E.ρ i).val = .slice (some ⟨b, o, none⟩) l c ∧ v = .pointer (some ⟨b, o + (n * sz + off), none⟩)
 | .rel p eb t xs n off, v => ∃ vs b o l c, slv E.w (E.F p) (rd E.w (E.F p) t) eb t.size xs vs ∧ vs = .slice (some ⟨b, o, none⟩) l c ∧ v = .pointer (some ⟨b, o + (n * t.size + off), none⟩)
 | .ptrA i off n sz, v => i < E.N ∧ ∃ b, (E.ρ i).blk = some b ∧ v = .pointer (some ⟨b, off + n * sz, none⟩)
 | .pty i T, v => i < E.N ∧ ∃ b, (E.ρ i).blk = some b ∧ v = .pointer (some ⟨b, 0, none⟩) ∧ (E.ρ i).val = .int .u64 T
 | .svw i n, v => i < E.N ∧ ∃ b cap, (E.ρ i).blk = some b ∧ v = .slice (some ⟨b, 0, none⟩) n cap ∧ n ≤ cap ∧ cap ≤ maxLen
 | .slf xs, v => ∃ (b cap : Nat) (cur : Array Value) (fr : Nat × Nat × Nat), v = .slice (some ⟨b, fr.2.2, none⟩) xs.length cap ∧ E.Fz b ∧ E.w.heap[b]? = some (.cells cur 5 (fr.1, fr.2.1)) ∧ (fr.1 ≤ fr.2.2 ∧ fr.2.2 + xs.length ≤ fr.2.1) ∧ xs.length ≤ cap ∧ cap ≤ maxLen ∧ (cur.toList.drop fr.2.2).take xs.length = xs.map (fun x => Value.int .u8 x.toNat)
 | .arr _ _ _, _ => False
 | .agg l, v => ∃ cs, v = .agg cs ∧ denC E l cs.toList
 | .tup l, v => ∃ vs, v = .tuple vs ∧ denL E l vs.toList
 | .fn f caps, v => ∃ cs, v = fnV f cs ∧ denL E caps cs.toList
 | .junk1, v => v.oneCell' = true
 | .junk, _ => True
def denC (E : En) : List SV → List Value → Prop
 | [], cs => cs = []
 | x :: r, cs => match x with
  | .arr n t xs => ∃ c1 c2, cs = c1 ++ c2 ∧ xs.length = n ∧ t.flat = true ∧ rdL (rd E.w E.Fz t) xs c1 ∧ denC E r c2
  | x => ∃ v c2, cs = v :: c2 ∧ den E x v ∧ denC E r c2
def denL (E : En) : List SV → List Value → Prop
 | [], vs => vs = []
 | x :: r, vs => ∃ v r', vs = v :: r' ∧ den E x v ∧ denL E r r'
end
mutual
def SV.ren (f : Nat → Option Nat) : SV → SV
 | .ptr i off => match f i with | some j => .ptr j off | none => .junk1
 | .own i => match f i with | some j => .own j | none => .junk1
 | .vw i lo hi sz => match f i with | some j => .vw j lo hi sz | none => .junk1
 | .mp i => match f i with | some j => .mp j | none => .junk1
 | .el i n sz off => match f i with | some j => .el j n sz off | none => .junk1
 | .ptrA i off n sz => match f i with | some j => .ptrA j off n sz | none => .junk1
 | .pty i T => match f i with | some j => .pty j T | none => .junk1
 | .svw i n => match f i with | some j => .svw j n | none => .junk1
 | .agg l => .agg (SV.renL f l)
 | .tup l => .tup (SV.renL f l)
 | .fn g caps => .fn g (SV.renL f caps)
 | x => x
def SV.renL (f : Nat → Option Nat) : List SV → List SV
 | [] => []
 | x :: r => x.ren f :: SV.renL f r
end
def SB.ren (f : Nat → Option Nat) : SB → SB
 | .struct cells => .struct (SV.renL f cells)
 | x => x
def SV.isArr : SV → Bool
 | .arr _ _ _ => true
 | _ => false
theorem SV.isArr_ren (f : Nat → Option Nat) (x : SV) : (x.ren f).isArr = x.isArr := by
 cases x <;> simp only [SV.ren] <;> first | rfl | (split <;> rfl)
theorem denC_cons {E : En} {x : SV} {r : List SV} {cs : List Value} (h : x.isArr = false) : denC E (x :: r) cs ↔ ∃ v c2, cs = v :: c2 ∧ den E x v ∧ denC E r c2 := by
 cases x <;> first | (simp only [denC]; done) | (simp [SV.isArr] at h)
structure Ren (E E' : En) (f : Nat → Option Nat) : Prop where
 idx : ∀ i j, i < E.N → f i = some j → j < E'.N ∧ E'.ρ j = E.ρ i
 fz : ∀ b, E.Fz b → E'.Fz b
 bo : ∀ b, E.B b → E'.B b ∨ E'.Fz b
 mem : ∀ b, E.Fz b ∨ E.B b → E'.w.heap[b]? = E.w.heap[b]?
theorem Ren.F {E E' : En} {f : Nat → Option Nat} (h : Ren E E' f) (p : Bool) : ∀ b, E.F p b → E'.F p b := by
 rintro b (hb | ⟨hp, hb⟩)
 ·exact .inl (h.fz b hb)
 ·rcases h.bo b hb with h' | h'
  ·exact .inr ⟨hp, h'⟩
  ·exact .inl h'
theorem Ren.memF {E E' : En} {f : Nat → Option Nat} (h : Ren E E' f) (p : Bool) : ∀ b, E.F p b → E'.w.heap[b]? = E.w.heap[b]? :=
 fun b hb => h.mem b (hb.imp id And.right)
mutual
theorem den_ren {E E' : En} {f : Nat → Option Nat} (h : Ren E E' f) : ∀ (x : SV) (v : Value), den E x v → den E' (x.ren f) v
 | .int _ _, v, hv => by simp only [den, SV.ren] at hv ⊢; exact hv
 | .bool _, v, hv => by simp only [den, SV.ren] at hv ⊢; exact hv
 | .str _, v, hv => by simp only [den, SV.ren] at hv ⊢; exact hv
 | .sl p eb t xs, v, hv => by
  simp only [den, SV.ren] at hv ⊢
  exact slv_mono (h.F p) (h.memF p) (fun x c hx => rd_mono (h.F p) (h.memF p) t x c hx) hv
 | .nilp, v, hv => by simp only [den, SV.ren] at hv ⊢; exact hv
 | .nils, v, hv => by simp only [den, SV.ren] at hv ⊢; exact hv
 | .nilm, v, hv => by simp only [den, SV.ren] at hv ⊢; exact hv
 | .nilf, v, hv => by simp only [den, SV.ren] at hv ⊢; exact hv
 | .nili, v, hv => by simp only [den, SV.ren] at hv ⊢; exact hv
 | .ptr i off, v, hv => by
  simp only [den, SV.ren] at hv ⊢
  cases hf : f i with
  | none => simp only [den]; obtain ⟨_, b, _, rfl⟩ := hv; rfl
  | some j => simp only [den]; obtain ⟨hj, he⟩ := h.idx i j hv.1 hf; rw [he]; exact ⟨hj, hv.2⟩
 | .own i, v, hv => by
  simp only [den, SV.ren] at hv ⊢
  cases hf : f i with
  | none => simp only [den]; exact hv.2.2
  | some j => simp only [den]; obtain ⟨hj, he⟩ := h.idx i j hv.1 hf; rw [he]; exact ⟨hj, hv.2⟩
 | .vw i lo hi sz, v, hv => by
  simp only [den, SV.ren] at hv ⊢
  cases hf : f i with
  | none => simp only [den]; rcases hv.2.2 with ⟨_, _, _, _, rfl⟩ | ⟨b, o, l, c, _, _, ad, rfl, _⟩ <;> rfl
  | some j => simp only [den]; obtain ⟨hj, he⟩ := h.idx i j hv.1 hf; rw [he]; exact ⟨hj, hv.2⟩
 | .mp i, v, hv => by
  simp only [den, SV.ren] at hv ⊢
  cases hf : f i with
  | none => simp only [den]; obtain ⟨_, b, _, rfl⟩ := hv; rfl
  | some j => simp only [den]; obtain ⟨hj, he⟩ := h.idx i j hv.1 hf; rw [he]; exact ⟨hj, hv.2⟩
 | .el i n sz off, v, hv => by
  simp only [den, SV.ren] at hv ⊢
  cases hf : f i with
  | none => simp only [den]; obtain ⟨_, b, o, l, c, _, rfl⟩ := hv; rfl
  | some j => simp only [den]; obtain ⟨hj, he⟩ := h.idx i j hv.1 hf; rw [he]; exact ⟨hj, hv.2⟩
 | .ptrA i off n sz, v, hv => by
  simp only [den, SV.ren] at hv ⊢
  cases hf : f i with
  | none => simp only [den]; obtain ⟨_, b, _, rfl⟩ := hv; rfl
  | some j => simp only [den]; obtain ⟨hj, he⟩ := h.idx i j hv.1 hf; rw [he]; exact ⟨hj, hv.2⟩
 | .svw i n, v, hv => by
  simp only [den, SV.ren] at hv ⊢
  cases hf : f i with
  | none => simp only [den]; obtain ⟨_, b, cap, _, rfl, _⟩ := hv; rfl
  | some j => simp only [den]; obtain ⟨hj, he⟩ := h.idx i j hv.1 hf; rw [he]; exact ⟨hj, hv.2⟩
 | .pty i T, v, hv => by
  simp only [den, SV.ren] at hv ⊢
  cases hf : f i with
  | none => simp only [den]; obtain ⟨_, b, _, rfl, _⟩ := hv; rfl
  | some j => simp only [den]; obtain ⟨hj, he⟩ := h.idx i j hv.1 hf; rw [he]; exact ⟨hj, hv.2⟩
 | .slf xs, v, hv => by
  simp only [den, SV.ren] at hv ⊢
  obtain ⟨b, cap, cur, T, h1, h2, h3, h4⟩ := hv
  exact ⟨b, cap, cur, T, h1, h.fz b h2, (h.mem b (.inl h2)).trans h3, h4⟩
 | .rel p eb t xs n off, v, hv => by
  simp only [den, SV.ren] at hv ⊢
  obtain ⟨vs, b, o, l, c, h1, h2, h3⟩ := hv
  exact ⟨vs, b, o, l, c, slv_mono (h.F p) (h.memF p) (fun x c hx => rd_mono (h.F p) (h.memF p) t x c hx) h1, h2, h3⟩
 | .arr _ _ _, v, hv => by simp only [den] at hv
 | .agg l, v, hv => by
  simp only [den, SV.ren] at hv ⊢
  obtain ⟨cs, rfl, hc⟩ := hv
  exact ⟨cs, rfl, denC_ren h l _ hc⟩
 | .tup l, v, hv => by
  simp only [den, SV.ren] at hv ⊢
  obtain ⟨cs, rfl, hc⟩ := hv
  exact ⟨cs, rfl, denL_ren h l _ hc⟩
 | .fn g caps, v, hv => by
  simp only [den, SV.ren] at hv ⊢
  obtain ⟨cs, rfl, hc⟩ := hv
  exact ⟨cs, rfl, denL_ren h caps _ hc⟩
 | .junk1, v, hv => by simp only [den, SV.ren] at hv ⊢; exact hv
 | .junk, v, hv => by simp only [den, SV.ren]
theorem denC_ren {E E' : En} {f : Nat → Option Nat} (h : Ren E E' f) : ∀ (l : List SV) (cs : List Value), denC E l cs → denC E' (SV.renL f l) cs
 | [], cs, hc => by simp only [denC, SV.renL] at hc ⊢; exact hc
 | x :: r, cs, hc => by
  have ih := denC_ren h r
  have ihx := den_ren h x
  by_cases ha : x.isArr = true
  ·cases x <;> simp only [SV.isArr, Bool.false_eq_true] at ha
   simp only [denC, SV.renL, SV.ren] at hc ⊢
   obtain ⟨c1, c2, h1, h2, h3, h4, h5⟩ := hc
   exact ⟨c1, c2, h1, h2, h3, rdL_mono (fun x c hx => rd_flat _ h3 x c hx) _ _ h4, ih c2 h5⟩
  ·have ha' : x.isArr = false := by simpa using ha
   rw [denC_cons ha'] at hc
   obtain ⟨v, c2, h1, h2, h3⟩ := hc
   simp only [SV.renL]
   rw [denC_cons (by rw [SV.isArr_ren]; exact ha')]
   exact ⟨v, c2, h1, ihx v h2, ih c2 h3⟩
theorem denL_ren {E E' : En} {f : Nat → Option Nat} (h : Ren E E' f) : ∀ (l : List SV) (cs : List Value), denL E l cs → denL E' (SV.renL f l) cs
 | [], cs, hc => by simp only [denL, SV.renL] at hc ⊢; exact hc
 | x :: r, cs, hc => by
  simp only [denL, SV.renL] at hc ⊢
  obtain ⟨v, r', rfl, h1, h2⟩ := hc
  exact ⟨v, r', rfl, den_ren h x v h1, denL_ren h r r' h2⟩
end
mutual
theorem SV.ren_some : ∀ x : SV, x.ren some = x
 | .int _ _ => by simp only [SV.ren]
 | .bool _ => by simp only [SV.ren]
 | .str _ => by simp only [SV.ren]
 | .sl _ _ _ _ => by simp only [SV.ren]
 | .nilp => by simp only [SV.ren]
 | .nils => by simp only [SV.ren]
 | .nilm => by simp only [SV.ren]
 | .nilf => by simp only [SV.ren]
 | .nili => by simp only [SV.ren]
 | .ptr _ _ => by simp only [SV.ren]
 | .own _ => by simp only [SV.ren]
 | .vw _ _ _ _ => by simp only [SV.ren]
 | .mp _ => by simp only [SV.ren]
 | .el _ _ _ _ => by simp only [SV.ren]
 | .rel _ _ _ _ _ _ => by simp only [SV.ren]
 | .ptrA _ _ _ _ => by simp only [SV.ren]
 | .pty _ _ => by simp only [SV.ren]
 | .svw _ _ => by simp only [SV.ren]
 | .slf _ => by simp only [SV.ren]
 | .arr _ _ _ => by simp only [SV.ren]
 | .agg l => by simp only [SV.ren, SV.renL_some l]
 | .tup l => by simp only [SV.ren, SV.renL_some l]
 | .fn _ l => by simp only [SV.ren, SV.renL_some l]
 | .junk1 => by simp only [SV.ren]
 | .junk => by simp only [SV.ren]
theorem SV.renL_some : ∀ l : List SV, SV.renL some l = l
 | [] => by simp only [SV.renL]
 | x :: r => by simp only [SV.renL, SV.ren_some x, SV.renL_some r]
end
theorem SB.ren_some (s : SB) : s.ren some = s := by cases s <;> simp [SB.ren, SV.renL_some]
end Go.V
namespace Go.V
set_option linter.unusedSimpArgs false
set_option linter.unnecessarySimpa false
set_option linter.unusedVariables false
def nofz (fr : Nat × Nat) (n : Nat) : Prop := fr = (0, 0) ∨ n ≤ fr.1
def nz (rv : RV) (T : Nat) (fr : Nat × Nat) (n : Nat) : Prop := nofz fr n ∧ ∀ t : Nat, rv.val = .int .u64 t → T = t
def nzr (eb T : Nat) (fr : Nat × Nat) (n : Nat) : Prop := nofz fr n ∧ (eb = 1 → T = 5)
def ownv {α : Type} (w : World) (R : α → List Value → Prop) (rv : RV) (eb sz : Nat) (xs : List α) : Prop :=
 ((∃ ad, rv.val = .slice ad 0 0) ∧ rv.blk = none ∧ xs = []) ∨
 ∃ b off cap cur T fr cs, rv.val = .slice (some ⟨b, off, none⟩) xs.length cap ∧ rv.blk = some b ∧ w.heap[b]? = some (.cells cur T fr) ∧ nzr eb T fr cur.size ∧
  xs.length ≤ cap ∧ cap ≤ maxLen ∧ off + cap * sz ≤ cur.size ∧ xs.length * eb ≤ 140737488355328 ∧ (cur.toList.drop off).take (xs.length * sz) = cs ∧ rdL R xs cs
def rdV (w : World) (F : Nat → Prop) (va : Bool) (t : Ty) (x : t.den) (v : Value) : Prop :=
 match va with
 | true => ∃ cs, v = .agg cs ∧ rd w F t x cs.toList
 | false => rd w F t x [v]
def rdM (w : World) (F : Nat → Prop) (va : Bool) (kt vt : Ty) : List (kt.den × vt.den) → List MapEntry → Prop
 | [], es => es = []
 | x :: m, es => ∃ e r, es = e :: r ∧ rd w F kt x.1 [e.key] ∧ rdV w F va vt x.2 e.val ∧ rdM w F va kt vt m r
structure mapok (w : World) (F : Nat → Prop) (va : Bool) (kt vt : Ty) (m : List (kt.den × vt.den)) (es : Array MapEntry) (clk : Nat) : Prop where
 rd : rdM w F va kt vt m es.toList
 nodup : (m.map Prod.fst).Nodup
 born : (es.toList.map MapEntry.born).Pairwise (· < ·)
 clk : ∀ e ∈ es.toList, e.born < clk
 len : m.length ≤ maxLen
def SBok (E : En) (rv : RV) : SB → Prop
 | .struct cells => ∃ b cur T fr, rv.blk = some b ∧ E.w.heap[b]? = some (.cells cur T fr) ∧ nz rv T fr cur.size ∧ denC E cells cur.toList
 | .row _ eb t xs => ownv E.w (rd E.w E.Fz t) rv eb t.size xs
 | .map va kt vt m => ∃ b es clk, rv.blk = some b ∧ E.w.heap[b]? = some (.map es clk) ∧ mapok E.w E.Fz va kt vt m es clk
 | .itr s p => ∃ b, rv.blk = some b ∧ E.w.heap[b]? = some (.stringIter s p) ∧ s.size ≤ maxLen
 | .gone => True
def SB.live : SB → Bool
 | .gone => false
 | _ => true
def Lv (hp : List SB) (E : En) (b : Nat) : Prop := ∃ i sb, hp[i]? = some sb ∧ sb.live = true ∧ (E.ρ i).blk = some b
structure HS (hp : List SB) (E : En) : Prop where
 n : E.N = hp.length
 ok : ∀ i sb, hp[i]? = some sb → SBok E (E.ρ i) sb
 dist : ∀ i j si sj b, hp[i]? = some si → hp[j]? = some sj → si.live = true → sj.live = true → (E.ρ i).blk = some b → (E.ρ j).blk = some b → i = j
 own : ∀ b, Lv hp E b → b < E.w.heap.size ∧ ¬ E.Fz b ∧ ¬ E.B b
 old : ∀ b, E.Fz b ∨ E.B b → b < E.w.heap.size
structure Ev (hp : List SB) (E : En) (hp' : List SB) (E' : En) : Prop where
 os : E'.w.os = E.w.os
 tape : E'.w.tape = E.w.tape
 output : E'.w.output = E.w.output
 size : E.w.heap.size ≤ E'.w.heap.size
 keep : ∀ b, b < E.w.heap.size → ¬ Lv hp E b → E'.w.heap[b]? = E.w.heap[b]?
 lv : ∀ b, Lv hp' E' b → Lv hp E b ∨ E.w.heap.size ≤ b
 fz : ∀ b, E.Fz b → E'.Fz b
 fz' : ∀ b, E'.Fz b → E.Fz b ∨ Lv hp E b ∨ E.w.heap.size ≤ b
 bo : E'.B = E.B
theorem Ev.refl (hp : List SB) (E : En) : Ev hp E hp E :=
 ⟨rfl, rfl, rfl, Nat.le_refl _, fun _ _ _ => rfl, fun _ h => .inl h, fun _ h => h, fun _ h => .inl h, rfl⟩
theorem Ev.trans {h1 h2 h3 : List SB} {E1 E2 E3 : En} (a : Ev h1 E1 h2 E2) (b : Ev h2 E2 h3 E3) : Ev h1 E1 h3 E3 where
 os := b.os.trans a.os
 tape := b.tape.trans a.tape
 output := b.output.trans a.output
 size := Nat.le_trans a.size b.size
 keep c hc hn := (b.keep c (Nat.lt_of_lt_of_le hc a.size) (fun h => (a.lv c h).elim hn (fun h' => absurd hc (by omega)))).trans (a.keep c hc hn)
 lv c h := by
  rcases b.lv c h with h | h
  ·exact a.lv c h
  ·exact .inr (Nat.le_trans a.size h)
 fz c h := b.fz c (a.fz c h)
 fz' c h := by
  rcases b.fz' c h with h | h | h
  ·exact a.fz' c h
  ·exact (a.lv c h).elim (fun h => .inr (.inl h)) (fun h => .inr (.inr h))
  ·exact .inr (.inr (Nat.le_trans a.size h))
 bo := b.bo.trans a.bo
def idok (sb : SB) (rv0 rv : RV) : Prop :=
 match sb with
 | .struct _ => rv = rv0
 | .map _ _ _ _ => rv = rv0
 | .itr _ _ => rv = rv0
 | .row false _ _ _ => rv = rv0
 | _ => True
structure Id (n0 : Nat) (ρ0 : Nat → RV) (hp : List SB) (ρ : Nat → RV) : Prop where
 le : n0 ≤ hp.length
 id : ∀ i sb, i < n0 → hp[i]? = some sb → idok sb (ρ0 i) (ρ i)
def lkF : List (Nat × SV) → Nat → SV
 | [], _ => .junk
 | (k, x) :: r, n => bif k == n then x else lkF r n
def Fr (E : En) (fr : List (Nat × SV)) (a : Act) : Prop := ∀ k, den E (lkF fr k) (a.tmps.getD k undef)
structure SS where
 fr : List (Nat × SV)
 hp : List SB
structure Start where
 hp : List SB
 E : En
 nt : Nat
structure Sat (S : Start) (s : SS) (E : En) (a : Act) : Prop where
 hs : HS s.hp E
 fr : Fr E s.fr a
 ev : Ev S.hp S.E s.hp E
 id : Id S.hp.length S.E.ρ s.hp E.ρ
 defers : a.defers = []
 size : a.tmps.size = S.nt
def St (S : Start) (s : SS) (a : Act) (w : World) : Prop := ∃ E, E.w = w ∧ Sat S s E a
/-! ### preservation under what does not touch a resource -/
structure Chg (w w' : World) (W : Nat → Prop) : Prop where
 os : w'.os = w.os
 tape : w'.tape = w.tape
 output : w'.output = w.output
 size : w.heap.size ≤ w'.heap.size
 keep : ∀ b, b < w.heap.size → ¬ W b → w'.heap[b]? = w.heap[b]?
theorem Chg.refl (w : World) (W : Nat → Prop) : Chg w w W := ⟨rfl, rfl, rfl, Nat.le_refl _, fun _ _ _ => rfl⟩
theorem Chg.alloc (w : World) (o : Obj) : Chg w (w.alloc o) (fun _ => False) :=
 ⟨rfl, rfl, rfl, by simp, fun b hb _ => heap_alloc_old w o b hb⟩
theorem Chg.drew (w : World) : Chg w w.drew (fun _ => False) := ⟨rfl, rfl, rfl, Nat.le_refl _, fun _ _ _ => rfl⟩
theorem Chg.mono {w w' : World} {W W' : Nat → Prop} (h : Chg w w' W) (hW : ∀ b, W b → W' b) : Chg w w' W' :=
 ⟨h.os, h.tape, h.output, h.size, fun b hb hn => h.keep b hb (fun x => hn (hW b x))⟩
theorem Chg.trans {w w1 w2 : World} {W : Nat → Prop} (h : Chg w w1 W) (h' : Chg w1 w2 W) : Chg w w2 W :=
 ⟨h'.os.trans h.os, h'.tape.trans h.tape, h'.output.trans h.output, Nat.le_trans h.size h'.size, fun b hb hn => (h'.keep b (Nat.lt_of_lt_of_le hb h.size) hn).trans (h.keep b hb hn)⟩
theorem Chg.setRow (w : World) (g : Nat) (cs : Array Value) : Chg w (w.setRow g cs) (fun b => b = g) :=
 ⟨rfl, rfl, rfl, by simp, fun b _ hn => setRow_other w g b cs hn⟩
theorem ownv_mono {α : Type} {w w' : World} {R R' : α → List Value → Prop} {rv : RV} {eb sz : Nat} {xs : List α} (hw : ∀ b, rv.blk = some b → w'.heap[b]? = w.heap[b]?) (hR : ∀ x c, R x c → R' x c)
  (h : ownv w R rv eb sz xs) : ownv w' R' rv eb sz xs := by
 rcases h with h | ⟨b, off, cap, cur, T, fr, cs, h1, h2, h3, h4, h5, h6, h7, h8, h9, h10⟩
 ·exact .inl h
 ·exact .inr ⟨b, off, cap, cur, T, fr, cs, h1, h2, (hw b h2).trans h3, h4, h5, h6, h7, h8, h9, rdL_mono hR _ _ h10⟩
theorem rdV_mono {w w' : World} {F F' : Nat → Prop} (hF : ∀ b, F b → F' b) (hw : ∀ b, F b → w'.heap[b]? = w.heap[b]?) {va : Bool} {t : Ty} {x : t.den} {v : Value} (h : rdV w F va t x v) : rdV w' F' va t x v := by
 cases va with
 | true => obtain ⟨cs, h1, h2⟩ := h; exact ⟨cs, h1, rd_mono hF hw _ _ _ h2⟩
 | false => exact rd_mono hF hw _ _ _ h
theorem rdM_mono {w w' : World} {F F' : Nat → Prop} (hF : ∀ b, F b → F' b) (hw : ∀ b, F b → w'.heap[b]? = w.heap[b]?) {va : Bool} {kt vt : Ty} : ∀ (m : List (kt.den × vt.den)) (es : List MapEntry), rdM w F va kt vt m es → rdM w' F' va kt vt m es
 | [], _, h => h
 | x :: m, es, h => by
  obtain ⟨e, r, rfl, h1, h2, h3⟩ := h
  exact ⟨e, r, rfl, rd_mono hF hw _ _ _ h1, rdV_mono hF hw h2, rdM_mono hF hw m r h3⟩
theorem mapok.mono {w w' : World} {F F' : Nat → Prop} (hF : ∀ b, F b → F' b) (hw : ∀ b, F b → w'.heap[b]? = w.heap[b]?) {va : Bool} {kt vt : Ty} {m : List (kt.den × vt.den)} {es : Array MapEntry} {clk : Nat} (h : mapok w F va kt vt m es clk) :
  mapok w' F' va kt vt m es clk := ⟨rdM_mono hF hw _ _ h.rd, h.nodup, h.born, h.clk, h.len⟩
theorem SBok.ren {E E' : En} {f : Nat → Option Nat} (h : Ren E E' f) {rv : RV} {sb : SB} (hw : sb.live = true → ∀ b, rv.blk = some b → E'.w.heap[b]? = E.w.heap[b]?) (ho : SBok E rv sb) : SBok E' rv (sb.ren f) := by
 cases sb with
 | struct cells =>
  obtain ⟨b, cur, T, fr, h1, h2, h3, h4⟩ := ho
  exact ⟨b, cur, T, fr, h1, (hw rfl b h1).trans h2, h3, denC_ren h cells _ h4⟩
 | row mv eb t xs =>
  exact ownv_mono (hw rfl) (fun x c hx => rd_mono h.fz (fun b hb => h.mem b (.inl hb)) t x c hx) ho
 | map va kt vt m =>
  obtain ⟨b, es, clk, h1, h2, h3⟩ := ho
  exact ⟨b, es, clk, h1, (hw rfl b h1).trans h2, h3.mono h.fz (fun b hb => h.mem b (.inl hb))⟩
 | itr s p =>
  obtain ⟨b, h1, h2, h3⟩ := ho
  exact ⟨b, h1, (hw rfl b h1).trans h2, h3⟩
 | gone => trivial
theorem SB.live_ren (f : Nat → Option Nat) (sb : SB) : (sb.ren f).live = sb.live := by cases sb <;> rfl
def upR {α : Type} (ρ : Nat → α) (i : Nat) (x : α) : Nat → α := fun j => if j = i then x else ρ j
theorem upd_same {α : Type} (ρ : Nat → α) (i : Nat) (x : α) : upR ρ i x i = x := by simp [upR]
theorem upd_other {α : Type} (ρ : Nat → α) {i j : Nat} (x : α) (h : j ≠ i) : upR ρ i x j = ρ j := by simp [upR, h]
def but (i : Nat) : Nat → Option Nat := fun j => if j = i then none else some j
theorem HS.upd {hp : List SB} {E : En} (h : HS hp E) {i : Nat} {sb sb' : SB} (hi : hp[i]? = some sb) (hl : sb.live = true) {w' : World} {rv' : RV} {f : Nat → Option Nat}
  (hf : f = but i ∨ (f = some ∧ rv' = E.ρ i))
  (hc : Chg E.w w' (fun b => (E.ρ i).blk = some b)) (hn : ∀ b, rv'.blk = some b → ((E.ρ i).blk = some b ∨ E.w.heap.size ≤ b) ∧ b < w'.heap.size)
  (ho : SBok { E with ρ := upR E.ρ i rv', w := w' } rv' sb') (hl' : sb'.live = true) :
  HS ((hp.map (SB.ren f)).set i sb') { E with ρ := upR E.ρ i rv', w := w' } ∧ Ren E { E with ρ := upR E.ρ i rv', w := w' } f := by
 have hlt : i < hp.length := (List.getElem?_eq_some_iff.1 hi).1
 have hfz : ∀ b, E.Fz b ∨ E.B b → w'.heap[b]? = E.w.heap[b]? := fun b hb => hc.keep b (h.old b hb) (fun hx => by
  have := h.own b ⟨i, sb, hi, hl, hx⟩
  rcases hb with hb | hb
  ·exact this.2.1 hb
  ·exact this.2.2 hb)
 have hren : Ren E { E with ρ := upR E.ρ i rv', w := w' } f := by
  refine ⟨fun a b ha hab => ?_, fun _ hb => hb, fun _ hb => .inl hb, hfz⟩
  rcases hf with rfl | ⟨rfl, rfl⟩
  ·simp only [but] at hab
   split at hab
   ·cases hab
   ·rename_i hne
    cases hab
    exact ⟨ha, upd_other _ _ hne⟩
  ·cases hab
   refine ⟨ha, ?_⟩
   by_cases hai : a = i
   ·subst hai; exact upd_same _ _ _
   ·exact upd_other _ _ hai
 have hget : ∀ j s', ((hp.map (SB.ren f)).set i sb')[j]? = some s' → (j = i ∧ s' = sb') ∨ (j ≠ i ∧ ∃ s, hp[j]? = some s ∧ s' = s.ren f) := by
  intro j s' hj
  rw [List.getElem?_set] at hj
  split at hj
  ·rename_i hij
   subst hij
   rw [if_pos (by simpa using hlt)] at hj
   cases hj
   exact .inl ⟨rfl, rfl⟩
  ·rename_i hij
   rw [List.getElem?_map] at hj
   cases hs : hp[j]? with
   | none => rw [hs] at hj; cases hj
   | some s => rw [hs] at hj; cases hj; exact .inr ⟨fun e => hij e.symm, s, rfl, rfl⟩
 refine ⟨⟨?_, ?_, ?_, ?_, ?_⟩, hren⟩
 ·simp [h.n]
 ·intro j s' hj
  rcases hget j s' hj with ⟨rfl, rfl⟩ | ⟨hji, s, hs, rfl⟩
  ·simpa [upd_same] using ho
  ·show SBok _ (upR E.ρ i rv' j) _
   rw [upd_other _ _ hji]
   refine SBok.ren hren (fun hsl b hb => ?_) (h.ok j s hs)
   exact hc.keep b (h.own b ⟨j, s, hs, hsl, hb⟩).1 (fun hx => hji (h.dist j i s sb b hs hi hsl hl hb hx))
 ·intro j k sj sk b hj hk hjl hkl hjb hkb
  rcases hget j sj hj with ⟨rfl, rfl⟩ | ⟨hji, s, hs, rfl⟩
  ·rcases hget k sk hk with ⟨rfl, rfl⟩ | ⟨hki, s2, hs2, rfl⟩
   ·rfl
   ·simp only [upd_same] at hjb
    simp only [upd_other _ _ hki] at hkb
    rw [SB.live_ren] at hkl
    rcases (hn b hjb).1 with hx | hx
    ·exact (h.dist _ _ _ _ b hi hs2 hl hkl hx hkb)
    ·have := (h.own b ⟨k, s2, hs2, hkl, hkb⟩).1; omega
  ·rw [SB.live_ren] at hjl
   simp only [upd_other _ _ hji] at hjb
   rcases hget k sk hk with ⟨rfl, rfl⟩ | ⟨hki, s2, hs2, rfl⟩
   ·simp only [upd_same] at hkb
    rcases (hn b hkb).1 with hx | hx
    ·exact (h.dist _ _ _ _ b hs hi hjl hl hjb hx)
    ·have := (h.own b ⟨j, s, hs, hjl, hjb⟩).1; omega
   ·rw [SB.live_ren] at hkl
    simp only [upd_other _ _ hki] at hkb
    exact h.dist _ _ _ _ b hs hs2 hjl hkl hjb hkb
 ·rintro b ⟨j, sj, hj, hjl, hjb⟩
  rcases hget j sj hj with ⟨rfl, rfl⟩ | ⟨hji, s, hs, rfl⟩
  ·simp only [upd_same] at hjb
   refine ⟨(hn b hjb).2, ?_⟩
   rcases (hn b hjb).1 with hx | hx
   ·exact (h.own b ⟨j, sb, hi, hl, hx⟩).2
   ·exact ⟨fun hy => by have := h.old b (.inl hy); omega, fun hy => by have := h.old b (.inr hy); omega⟩
  ·rw [SB.live_ren] at hjl
   simp only [upd_other _ _ hji] at hjb
   have := h.own b ⟨j, s, hs, hjl, hjb⟩
   exact ⟨Nat.lt_of_lt_of_le this.1 hc.size, this.2⟩
 ·intro b hb
  exact Nat.lt_of_lt_of_le (h.old b hb) hc.size
theorem Lv_of_upd {hp : List SB} {E : En} {i : Nat} {sb sb' : SB} (hi : hp[i]? = some sb) (hl : sb.live = true) {w' : World} {rv' : RV} {f : Nat → Option Nat}
  (hn : ∀ b, rv'.blk = some b → (E.ρ i).blk = some b ∨ E.w.heap.size ≤ b) (b : Nat)
  (h : Lv ((hp.map (SB.ren f)).set i sb') { E with ρ := upR E.ρ i rv', w := w' } b) : Lv hp E b ∨ E.w.heap.size ≤ b := by
 obtain ⟨j, sj, hj, hjl, hjb⟩ := h
 rw [List.getElem?_set] at hj
 have hlt : i < hp.length := (List.getElem?_eq_some_iff.1 hi).1
 split at hj
 ·rename_i hij
  subst hij
  simp only [upd_same] at hjb
  exact (hn b hjb).imp (fun hx => ⟨i, sb, hi, hl, hx⟩) id
 ·rename_i hij
  rw [List.getElem?_map] at hj
  cases hs : hp[j]? with
  | none => rw [hs] at hj; cases hj
  | some s =>
   rw [hs] at hj
   cases hj
   rw [SB.live_ren] at hjl
   simp only [upd_other _ _ (fun e => hij e.symm)] at hjb
   exact .inl ⟨j, s, hs, hjl, hjb⟩
theorem Ev.upd {hp : List SB} {E : En} {i : Nat} {sb sb' : SB} (hi : hp[i]? = some sb) (hl : sb.live = true) {w' : World} {rv' : RV} {f : Nat → Option Nat}
  (hc : Chg E.w w' (fun b => (E.ρ i).blk = some b)) (hn : ∀ b, rv'.blk = some b → (E.ρ i).blk = some b ∨ E.w.heap.size ≤ b) :
  Ev hp E ((hp.map (SB.ren f)).set i sb') { E with ρ := upR E.ρ i rv', w := w' } where
 os := hc.os
 tape := hc.tape
 output := hc.output
 size := hc.size
 keep b hb hnl := hc.keep b hb (fun hx => hnl ⟨i, sb, hi, hl, hx⟩)
 lv b hb := Lv_of_upd hi hl hn b hb
 fz b h := h
 fz' b h := .inl h
 bo := rfl
theorem HS.push {hp : List SB} {E : En} (h : HS hp E) {sb' : SB} {w' : World} {rv' : RV} (hc : Chg E.w w' (fun _ => False))
  (hn : ∀ b, rv'.blk = some b → E.w.heap.size ≤ b ∧ b < w'.heap.size)
  (ho : SBok { E with N := E.N + 1, ρ := upR E.ρ E.N rv', w := w' } rv' sb') :
  HS (hp ++ [sb']) { E with N := E.N + 1, ρ := upR E.ρ E.N rv', w := w' } ∧ Ren E { E with N := E.N + 1, ρ := upR E.ρ E.N rv', w := w' } some := by
 have hfz : ∀ b, E.Fz b ∨ E.B b → w'.heap[b]? = E.w.heap[b]? := fun b hb => hc.keep b (h.old b hb) (fun x => x)
 have hren : Ren E { E with N := E.N + 1, ρ := upR E.ρ E.N rv', w := w' } some := by
  refine ⟨fun a b ha hab => ?_, fun _ hb => hb, fun _ hb => .inl hb, hfz⟩
  cases hab
  exact ⟨Nat.lt_succ_of_lt ha, upd_other _ _ (by omega)⟩
 have hget : ∀ j s', (hp ++ [sb'])[j]? = some s' → (j = E.N ∧ s' = sb') ∨ (j < E.N ∧ hp[j]? = some s') := by
  intro j s' hj
  rcases Nat.lt_trichotomy j hp.length with hlt | heq | hgt
  ·rw [List.getElem?_append_left hlt] at hj
   exact .inr ⟨h.n ▸ hlt, hj⟩
  ·subst heq
   rw [List.getElem?_append_right (Nat.le_refl _)] at hj
   simp at hj
   exact .inl ⟨h.n.symm, hj.symm⟩
  ·rw [List.getElem?_eq_none (by simp; omega)] at hj
   cases hj
 refine ⟨⟨?_, ?_, ?_, ?_, ?_⟩, hren⟩
 ·simp [h.n]
 ·intro j s' hj
  rcases hget j s' hj with ⟨rfl, rfl⟩ | ⟨hji, hs⟩
  ·simpa [upd_same] using ho
  ·show SBok _ (upR E.ρ E.N rv' j) _
   rw [upd_other _ _ (by omega)]
   have := SBok.ren hren (rv := E.ρ j) (sb := s') (fun hsl b hb => hc.keep b (h.own b ⟨j, s', hs, hsl, hb⟩).1 (fun x => x)) (h.ok j s' hs)
   rwa [SB.ren_some] at this
 ·intro j k sj sk b hj hk hjl hkl hjb hkb
  rcases hget j sj hj with ⟨rfl, rfl⟩ | ⟨hji, hs⟩
  ·rcases hget k sk hk with ⟨rfl, rfl⟩ | ⟨hki, hs2⟩
   ·rfl
   ·simp only [upd_same] at hjb
    simp only [upd_other _ _ (Nat.ne_of_lt hki)] at hkb
    have := (h.own b ⟨k, sk, hs2, hkl, hkb⟩).1
    have := (hn b hjb).1
    omega
  ·simp only [upd_other _ _ (Nat.ne_of_lt hji)] at hjb
   rcases hget k sk hk with ⟨rfl, rfl⟩ | ⟨hki, hs2⟩
   ·simp only [upd_same] at hkb
    have := (h.own b ⟨j, sj, hs, hjl, hjb⟩).1
    have := (hn b hkb).1
    omega
   ·simp only [upd_other _ _ (Nat.ne_of_lt hki)] at hkb
    exact h.dist _ _ _ _ b hs hs2 hjl hkl hjb hkb
 ·rintro b ⟨j, sj, hj, hjl, hjb⟩
  rcases hget j sj hj with ⟨rfl, rfl⟩ | ⟨hji, hs⟩
  ·simp only [upd_same] at hjb
   have := hn b hjb
   exact ⟨this.2, fun hy => by have := h.old b (.inl hy); omega, fun hy => by have := h.old b (.inr hy); omega⟩
  ·simp only [upd_other _ _ (Nat.ne_of_lt hji)] at hjb
   have := h.own b ⟨j, sj, hs, hjl, hjb⟩
   exact ⟨Nat.lt_of_lt_of_le this.1 hc.size, this.2⟩
 ·intro b hb
  exact Nat.lt_of_lt_of_le (h.old b hb) hc.size
theorem Ev.push {hp : List SB} {E : En} (h : HS hp E) {sb' : SB} {w' : World} {rv' : RV} (hc : Chg E.w w' (fun _ => False)) (hn : ∀ b, rv'.blk = some b → E.w.heap.size ≤ b) :
  Ev hp E (hp ++ [sb']) { E with N := E.N + 1, ρ := upR E.ρ E.N rv', w := w' } where
 os := hc.os
 tape := hc.tape
 output := hc.output
 size := hc.size
 keep b hb hnl := hc.keep b hb (fun hx => hx)
 lv b hb := by
  obtain ⟨j, sj, hj, hjl, hjb⟩ := hb
  rcases Nat.lt_trichotomy j hp.length with hlt | heq | hgt
  ·rw [List.getElem?_append_left hlt] at hj
   simp only [upd_other _ _ (show j ≠ E.N by have := h.n; omega)] at hjb
   exact .inl ⟨j, sj, hj, hjl, hjb⟩
  ·have hN : j = E.N := by have := h.n; omega
   subst hN
   simp only [upd_same] at hjb
   exact .inr (hn b hjb)
  ·rw [List.getElem?_eq_none (by simp; omega)] at hj
   cases hj
 fz b h := h
 fz' b h := .inl h
 bo := rfl
theorem HS.same {hp : List SB} {E : En} (h : HS hp E) {w' : World} (hc : Chg E.w w' (fun _ => False)) : HS hp { E with w := w' } ∧ Ren E { E with w := w' } some := by
 have hfz : ∀ b, E.Fz b ∨ E.B b → w'.heap[b]? = E.w.heap[b]? := fun b hb => hc.keep b (h.old b hb) (fun x => x)
 have hren : Ren E { E with w := w' } some := ⟨fun a b ha hab => by cases hab; exact ⟨ha, rfl⟩, fun _ hb => hb, fun _ hb => .inl hb, hfz⟩
 refine ⟨⟨h.n, fun j s' hs => ?_, h.dist, fun b hb => ?_, fun b hb => Nat.lt_of_lt_of_le (h.old b hb) hc.size⟩, hren⟩
 ·have := SBok.ren hren (rv := E.ρ j) (sb := s') (fun hsl b hb => hc.keep b (h.own b ⟨j, s', hs, hsl, hb⟩).1 (fun x => x)) (h.ok j s' hs)
  rwa [SB.ren_some] at this
 ·have := h.own b hb
  exact ⟨Nat.lt_of_lt_of_le this.1 hc.size, this.2⟩
def frRen (f : Nat → Option Nat) (fr : List (Nat × SV)) : List (Nat × SV) := fr.map fun x => (x.1, x.2.ren f)
theorem lkF_ren (f : Nat → Option Nat) (k : Nat) : ∀ fr, lkF (frRen f fr) k = (lkF fr k).ren f
 | [] => by simp [frRen, lkF, SV.ren]
 | (k', x) :: r => by
  have ih := lkF_ren f k r
  simp only [frRen, List.map_cons, lkF] at ih ⊢
  cases k' == k
  ·simpa using ih
  ·simp
theorem Fr.ren {E E' : En} {f : Nat → Option Nat} (h : Ren E E' f) {fr : List (Nat × SV)} {a : Act} (hf : Fr E fr a) : Fr E' (frRen f fr) a := by
 intro k
 rw [lkF_ren]
 exact den_ren h _ _ (hf k)
theorem frRen_some (fr : List (Nat × SV)) : frRen some fr = fr := by
 unfold frRen
 conv => rhs; rw [← List.map_id fr]
 apply List.map_congr_left
 intro x _
 simp [SV.ren_some]
theorem map_ren_some (hp : List SB) : hp.map (SB.ren some) = hp := by
 conv => rhs; rw [← List.map_id hp]
 apply List.map_congr_left
 intro x _
 simp [SB.ren_some]
end Go.V
namespace Go.V
set_option linter.unusedSimpArgs false
set_option linter.unnecessarySimpa false
set_option linter.unusedVariables false
/-! ### cells -/
def SV.width : SV → Nat
 | .arr n t _ => n * t.size
 | _ => 1
def dropC : List SV → Nat → Option (List SV)
 | l, 0 => some l
 | [], _ + 1 => none
 | x :: r, n + 1 => if x.width ≤ n + 1 then dropC r (n + 1 - x.width) else none
def takeC : List SV → Nat → Option (List SV)
 | _, 0 => some []
 | [], _ + 1 => none
 | x :: r, n + 1 => if x.width ≤ n + 1 then (takeC r (n + 1 - x.width)).map (x :: ·) else none
def widthL : List SV → Nat
 | [] => 0
 | x :: r => x.width + widthL r
def splC (l : List SV) (n : Nat) (new : List SV) : Option (List SV) :=
 match takeC l n with
 | none => none
 | some a => match dropC l (n + widthL new) with
  | none => none
  | some b => some (a ++ (new ++ b))
def headC : List SV → Option SV
 | [] => none
 | x :: _ => if x.isArr then none else some x
def Ty.sv (p : Bool) : (t : Ty) → t.den → List SV
 | .int k, n => [.int k n]
 | .byte, b => [.int .u8 (b.toNat : Int)]
 | .bool, b => [.bool b]
 | .str, s => [.str s]
 | .sl eb t, xs => [.sl p eb t xs]
 | .pair a b, x => a.sv p x.1 ++ b.sv p x.2
 | .unit, _ => []
 | .any1, _ => [.junk1]
theorem denC_width {E : En} : ∀ (l : List SV) (cs : List Value), denC E l cs → cs.length = widthL l
 | [], cs, h => by simp only [denC] at h; subst h; rfl
 | x :: r, cs, h => by
  by_cases ha : x.isArr = true
  ·cases x <;> simp only [SV.isArr, Bool.false_eq_true] at ha
   simp only [denC] at h
   obtain ⟨c1, c2, rfl, h2, h3, h4, h5⟩ := h
   rw [List.length_append, rdL_length (fun x c hx => rd_length _ x c hx) _ _ h4, denC_width r c2 h5, h2]
   rfl
  ·have ha' : x.isArr = false := by simpa using ha
   rw [denC_cons ha'] at h
   obtain ⟨v, c2, rfl, _, h3⟩ := h
   rw [List.length_cons, denC_width r c2 h3]
   cases x <;> simp [SV.isArr] at ha' <;> simp [widthL, SV.width] <;> omega
theorem denC_split {E : En} (x : SV) (r : List SV) (cs : List Value) (h : denC E (x :: r) cs) : ∃ c1 c2, cs = c1 ++ c2 ∧ c1.length = x.width ∧ denC E [x] c1 ∧ denC E r c2 := by
 by_cases ha : x.isArr = true
 ·cases x <;> simp only [SV.isArr, Bool.false_eq_true] at ha
  simp only [denC] at h
  obtain ⟨c1, c2, rfl, h2, h3, h4, h5⟩ := h
  refine ⟨c1, c2, rfl, ?_, ?_, h5⟩
  ·rw [rdL_length (fun x c hx => rd_length _ x c hx) _ _ h4, h2]; rfl
  ·simp only [denC]; exact ⟨c1, [], by simp, h2, h3, h4, rfl⟩
 ·have ha' : x.isArr = false := by simpa using ha
  rw [denC_cons ha'] at h
  obtain ⟨v, c2, rfl, h2, h3⟩ := h
  refine ⟨[v], c2, rfl, ?_, ?_, h3⟩
  ·cases x <;> simp [SV.isArr] at ha' <;> rfl
  ·rw [denC_cons ha']; exact ⟨v, [], rfl, h2, by simp only [denC]⟩
theorem denC_append {E : En} : ∀ (l1 l2 : List SV) (c1 c2 : List Value), denC E l1 c1 → denC E l2 c2 → denC E (l1 ++ l2) (c1 ++ c2)
 | [], l2, c1, c2, h1, h2 => by simp only [denC] at h1; subst h1; exact h2
 | x :: r, l2, c1, c2, h1, h2 => by
  have ih := denC_append (E := E) r l2
  by_cases ha : x.isArr = true
  ·cases x <;> simp only [SV.isArr, Bool.false_eq_true] at ha
   simp only [denC, List.cons_append] at h1 ⊢
   obtain ⟨d1, d2, rfl, h4, h5, h6, h7⟩ := h1
   exact ⟨d1, d2 ++ c2, by simp, h4, h5, h6, ih _ _ h7 h2⟩
  ·have ha' : x.isArr = false := by simpa using ha
   rw [denC_cons ha'] at h1
   rw [List.cons_append, denC_cons ha']
   obtain ⟨v, d2, rfl, h4, h5⟩ := h1
   exact ⟨v, d2 ++ c2, rfl, h4, ih _ _ h5 h2⟩
theorem denC_drop {E : En} : ∀ (l : List SV) (n : Nat) (r : List SV) (cs : List Value), denC E l cs → dropC l n = some r → denC E r (cs.drop n) ∧ n ≤ cs.length
 | l, 0, r, cs, h, hd => by simp only [dropC] at hd; cases hd; exact ⟨by simpa using h, Nat.zero_le _⟩
 | [], n + 1, r, cs, h, hd => by simp only [dropC] at hd; cases hd
 | x :: l, n + 1, r, cs, h, hd => by
  simp only [dropC] at hd
  split at hd
  ·rename_i hw
   obtain ⟨c1, c2, rfl, h1, h2, h3⟩ := denC_split x l cs h
   obtain ⟨h4, h5⟩ := denC_drop l _ r c2 h3 hd
   refine ⟨?_, by rw [List.length_append]; omega⟩
   rw [List.drop_append, List.drop_of_length_le (by omega), List.nil_append, h1]
   exact h4
  ·cases hd
theorem denC_take {E : En} : ∀ (l : List SV) (n : Nat) (r : List SV) (cs : List Value), denC E l cs → takeC l n = some r → denC E r (cs.take n) ∧ n ≤ cs.length
 | l, 0, r, cs, h, hd => by simp only [takeC] at hd; cases hd; exact ⟨by simp [denC], Nat.zero_le _⟩
 | [], n + 1, r, cs, h, hd => by simp only [takeC] at hd; cases hd
 | x :: l, n + 1, r, cs, h, hd => by
  simp only [takeC] at hd
  split at hd
  ·rename_i hw
   obtain ⟨c1, c2, rfl, h1, h2, h3⟩ := denC_split x l cs h
   cases ht : takeC l (n + 1 - x.width) with
   | none => rw [ht] at hd; cases hd
   | some r' =>
    rw [ht] at hd
    cases hd
    obtain ⟨h4, h5⟩ := denC_take l _ r' c2 h3 ht
    refine ⟨?_, by rw [List.length_append]; omega⟩
    rw [List.take_append, List.take_of_length_le (by omega), h1]
    have := denC_append [x] r' c1 _ h2 h4
    simpa using this
  ·cases hd
theorem denC_spl {E : En} {l new r : List SV} {n : Nat} {cs nc : List Value} (h : denC E l cs) (hn : denC E new nc) (hs : splC l n new = some r) :
  denC E r (cs.take n ++ (nc ++ cs.drop (n + nc.length))) ∧ n + nc.length ≤ cs.length := by
 unfold splC at hs
 have hw := denC_width new nc hn
 cases ht : takeC l n with
 | none => rw [ht] at hs; cases hs
 | some a =>
  rw [ht] at hs
  cases hd : dropC l (n + widthL new) with
  | none => rw [hd] at hs; cases hs
  | some b =>
   rw [hd] at hs
   cases hs
   obtain ⟨h1, _⟩ := denC_take l n a cs h ht
   obtain ⟨h2, h3⟩ := denC_drop l _ b cs h hd
   rw [hw]
   exact ⟨denC_append _ _ _ _ h1 (denC_append _ _ _ _ hn h2), h3⟩
theorem denC_head {E : En} {l : List SV} {x : SV} {cs : List Value} (h : denC E l cs) (hh : headC l = some x) : ∃ v c2, cs = v :: c2 ∧ den E x v := by
 cases l with
 | nil => simp [headC] at hh
 | cons y r =>
  simp only [headC] at hh
  split at hh
  ·cases hh
  ·rename_i ha
   cases hh
   rw [denC_cons (by simpa using ha)] at h
   obtain ⟨v, c2, h1, h2, _⟩ := h
   exact ⟨v, c2, h1, h2⟩
theorem u8_in (b : UInt8) : IntKind.u8.min ≤ (b.toNat : Int) ∧ (b.toNat : Int) ≤ IntKind.u8.max := by
 have := UInt8.toNat_lt b
 simp only [IntKind.min, IntKind.max, IntKind.signed, IntKind.bits]
 constructor <;> simp <;> omega
theorem denC_sv {E : En} (p : Bool) : ∀ (t : Ty) (x : t.den) (cs : List Value), rd E.w (E.F p) t x cs → denC E (t.sv p x) cs
 | .int k, n, cs, h => by simp only [rd] at h; obtain ⟨rfl, h1⟩ := h; simp only [Ty.sv, denC]; exact ⟨_, _, rfl, by simp only [den]; exact ⟨trivial, h1⟩, rfl⟩
 | .byte, b, cs, h => by
  simp only [rd] at h; subst h; simp only [Ty.sv, denC]
  exact ⟨_, _, rfl, by simp only [den]; exact ⟨trivial, u8_in b⟩, rfl⟩
 | .bool, b, cs, h => by simp only [rd] at h; subst h; simp only [Ty.sv, denC]; exact ⟨_, _, rfl, by simp only [den], rfl⟩
 | .str, s, cs, h => by simp only [rd] at h; obtain ⟨rfl, h1⟩ := h; simp only [Ty.sv, denC]; exact ⟨_, _, rfl, by simp only [den]; exact ⟨trivial, h1⟩, rfl⟩
 | .sl eb t, xs, cs, h => by
  simp only [rd] at h; obtain ⟨v, rfl, h1⟩ := h
  simp only [Ty.sv, denC]
  exact ⟨_, _, rfl, by simp only [den]; exact h1, rfl⟩
 | .pair a b, x, cs, h => by
  simp only [rd] at h
  obtain ⟨c1, c2, rfl, h1, h2⟩ := h
  simp only [Ty.sv]
  exact denC_append _ _ _ _ (denC_sv p a _ _ h1) (denC_sv p b _ _ h2)
 | .unit, _, cs, h => by simp only [rd] at h; subst h; simp only [Ty.sv, denC]
 | .any1, _, cs, h => by simp only [rd] at h; obtain ⟨v, rfl, hv⟩ := h; simp only [Ty.sv]; rw [denC_cons rfl]; exact ⟨v, [], rfl, by simp only [den]; exact hv, by simp only [denC]⟩
end Go.V
namespace Go.V
set_option linter.unusedSimpArgs false
set_option linter.unnecessarySimpa false
set_option linter.unusedVariables false
section rows
variable {α : Type} {R : α → List Value → Prop} {sz : Nat}
theorem rdL_append : ∀ (xs ys : List α) (c1 c2 : List Value), rdL R xs c1 → rdL R ys c2 → rdL R (xs ++ ys) (c1 ++ c2)
 | [], ys, c1, c2, h1, h2 => by simp only [rdL] at h1; subst h1; exact h2
 | x :: xs, ys, c1, c2, h1, h2 => by
  obtain ⟨d1, d2, rfl, h3, h4⟩ := h1
  exact ⟨d1, d2 ++ c2, by simp, h3, rdL_append xs ys _ _ h4 h2⟩
theorem rdL_drop (hl : ∀ x c, R x c → c.length = sz) : ∀ (n : Nat) (xs : List α) (cs : List Value), rdL R xs cs → rdL R (xs.drop n) (cs.drop (n * sz))
 | 0, xs, cs, h => by simpa using h
 | n + 1, [], cs, h => by simp only [rdL] at h; subst h; simp [rdL]
 | n + 1, x :: xs, cs, h => by
  obtain ⟨c1, c2, rfl, h1, h2⟩ := h
  have := rdL_drop hl n xs c2 h2
  have d1 : c1.drop ((n + 1) * sz) = [] := List.drop_of_length_le (by rw [hl x c1 h1, Nat.succ_mul]; omega)
  rw [List.drop_succ_cons, List.drop_append, d1, List.nil_append, hl x c1 h1]
  rwa [show (n + 1) * sz - sz = n * sz by rw [Nat.succ_mul]; omega]
theorem rdL_take (hl : ∀ x c, R x c → c.length = sz) : ∀ (n : Nat) (xs : List α) (cs : List Value), rdL R xs cs → rdL R (xs.take n) (cs.take (n * sz))
 | 0, xs, cs, h => by simp [rdL]
 | n + 1, [], cs, h => by simp only [rdL] at h; subst h; simp [rdL]
 | n + 1, x :: xs, cs, h => by
  obtain ⟨c1, c2, rfl, h1, h2⟩ := h
  have := rdL_take hl n xs c2 h2
  have d1 : c1.take ((n + 1) * sz) = c1 := List.take_of_length_le (by rw [hl x c1 h1, Nat.succ_mul]; omega)
  rw [List.take_succ_cons, List.take_append, d1, hl x c1 h1]
  refine ⟨c1, _, rfl, h1, ?_⟩
  rwa [show (n + 1) * sz - sz = n * sz by rw [Nat.succ_mul]; omega]
theorem rdL_get (hl : ∀ x c, R x c → c.length = sz) (n : Nat) (xs : List α) (cs : List Value) (x : α) (h : rdL R xs cs) (hx : xs[n]? = some x) :
  ∃ c, R x c ∧ cs.drop (n * sz) = c ++ cs.drop ((n + 1) * sz) := by
 have h1 := rdL_drop hl n xs cs h
 obtain ⟨hn, hxe⟩ := List.getElem?_eq_some_iff.1 hx
 rw [List.drop_eq_getElem_cons hn] at h1
 obtain ⟨c1, c2, h2, h3, h4⟩ := h1
 rw [hxe] at h3
 refine ⟨c1, h3, ?_⟩
 rw [h2]
 congr 1
 have h5 : (cs.drop (n * sz)).drop sz = c2 := by rw [h2, List.drop_append, List.drop_of_length_le (by rw [hl _ _ h3]; exact Nat.le_refl _), hl _ _ h3]; simp
 rw [← h5, List.drop_drop, Nat.succ_mul]
theorem rdL_set (hl : ∀ x c, R x c → c.length = sz) : ∀ (n : Nat) (xs : List α) (cs : List Value) (y : α) (c : List Value), rdL R xs cs → n < xs.length → R y c →
  rdL R (xs.set n y) (cs.take (n * sz) ++ c ++ cs.drop (n * sz + c.length))
 | _, [], cs, y, c, h, hn, hy => by simp at hn
 | 0, x :: xs, cs, y, c, h, hn, hy => by
  obtain ⟨c1, c2, rfl, h1, h2⟩ := h
  refine ⟨c, c2, ?_, hy, h2⟩
  rw [List.drop_append, List.drop_of_length_le (by rw [hl _ _ h1, hl _ _ hy]; omega), hl _ _ h1, hl _ _ hy]; simp
 | n + 1, x :: xs, cs, y, c, h, hn, hy => by
  obtain ⟨c1, c2, rfl, h1, h2⟩ := h
  have ih := rdL_set hl n xs c2 y c h2 (by simpa using hn) hy
  have e := hl _ _ h1
  refine ⟨c1, _, ?_, h1, ih⟩
  have h3 : (n + 1) * sz = sz + n * sz := by rw [Nat.succ_mul]; omega
  rw [List.take_append, List.take_of_length_le (by omega), List.drop_append, List.drop_of_length_le (by omega), h3, e]
  simp [show sz + n * sz + c.length - sz = n * sz + c.length by omega]
end rows
abbrev slr {α : Type} (w : World) (R : α → List Value → Prop) (eb sz : Nat) (xs : List α) (v : Value) : Prop := slv w (fun _ => True) R eb sz xs v
structure Cont where
 p : Bool
 eb : Nat
 t : Ty
 xs : List t.den
def cont (hp : List SB) : SV → Option Cont
 | .sl p eb t xs => some ⟨p, eb, t, xs⟩
 | .own i => match hp[i]? with
  | some (.row _ eb t xs) => some ⟨true, eb, t, xs⟩
  | _ => none
 | .vw i lo hi sz => match hp[i]? with
  | some (.row _ eb t xs) => if sz = t.size then some ⟨true, eb, t, (xs.drop lo).take (hi - lo)⟩ else none
  | _ => none
 | _ => none
theorem slr_part {α : Type} {w : World} {R : α → List Value → Prop} {eb sz : Nat} {xs : List α} (hl : ∀ x c, R x c → c.length = sz) {b o l c : Nat} {F : Nat → Prop} (h : slv w F R eb sz xs (.slice (some ⟨b, o, none⟩) l c))
  {lo hi : Nat} (h1 : lo ≤ hi) (h2 : hi ≤ l) {ad : Addr} (had : c ≠ lo → ad = ⟨b, o + lo * sz, none⟩) : slv w F R eb sz ((xs.drop lo).take (hi - lo)) (.slice (some ad) (hi - lo) (c - lo)) := by
 rcases h with ⟨rfl, a, c', he, hc, ha⟩ | ⟨b', off, cap, cur, T, fr, cs, he, hF, hh, hle, hm, hb, ht, hr⟩
 ·injection he with e1 e2 e3
  subst e2
  have : hi = 0 := by omega
  subst this
  have : lo = 0 := by omega
  subst this
  exact .inl ⟨by simp, _, _, rfl, by omega, by simp⟩
 ·injection he with e1 e2 e3
  subst e2; subst e3
  injection e1 with e1
  injection e1 with e1 e4
  subst e1; subst e4
  by_cases hz : hi = lo
  ·subst hz
   exact .inl ⟨by simp, some ad, c - hi, by simp, by omega, by simp⟩
  ·have hlen : ((xs.drop lo).take (hi - lo)).length = hi - lo := by simp; omega
   rw [had (by omega)]
   refine .inr ⟨b, o + lo * sz, c - lo, cur, T, fr, _, by rw [hlen], hF, hh, by rw [hlen]; omega, by omega, ?_, rfl, ?_⟩
   ·rw [hlen]; exact Nat.le_trans (Nat.mul_le_mul_right _ (by omega)) hb
   ·rw [hlen]
    have h3 := rdL_take hl (hi - lo) _ _ (rdL_drop hl lo xs cs hr)
    rw [← ht] at h3
    have e5 : ((List.drop o cur.toList).take (xs.length * sz)).drop (lo * sz) = (List.drop (o + lo * sz) cur.toList).take (xs.length * sz - lo * sz) := by
     rw [List.drop_take, List.drop_drop]
    rw [e5, List.take_take] at h3
    have e6 : min ((hi - lo) * sz) (xs.length * sz - lo * sz) = (hi - lo) * sz := by
     rw [← Nat.sub_mul]
     exact Nat.min_eq_left (Nat.mul_le_mul_right _ (by omega))
    rwa [e6] at h3
theorem ownv_slr {α : Type} {w : World} {R : α → List Value → Prop} {rv : RV} {eb sz : Nat} {xs : List α} (h : ownv w R rv eb sz xs) : slr w R eb sz xs rv.val := by
 rcases h with ⟨⟨ad, h1⟩, h2, rfl⟩ | ⟨b, off, cap, cur, T, fr, cs, h1, h2, h3, h4, h5, h6, h7, h8, h9, h10⟩
 ·exact .inl ⟨rfl, ad, 0, h1, by simp [maxLen], by simp⟩
 ·exact .inr ⟨b, off, cap, cur, T, fr, cs, h1, trivial, h3, h5, h6, h8, h9, h10⟩
theorem cont_sound {hp : List SB} {E : En} (h : HS hp E) {x : SV} {v : Value} (hx : den E x v) {C : Cont} (hc : cont hp x = some C) : slr E.w (rd E.w (E.F C.p) C.t) C.eb C.t.size C.xs v := by
 have up : ∀ (p : Bool) (t : Ty) (y : t.den) c, rd E.w E.Fz t y c → rd E.w (E.F p) t y c := fun p t y c hy => rd_mono (fun b hb => .inl hb) (fun _ _ => rfl) t y c hy
 cases x <;> simp only [cont] at hc <;> try cases hc
 ·simp only [den] at hx
  exact slv_mono (fun _ _ => trivial) (fun _ _ => rfl) (fun _ _ h => h) hx
 ·rename_i i
  simp only [den] at hx
  obtain ⟨_, rfl, _⟩ := hx
  split at hc
  ·rename_i mv eb t xs hi
   cases hc
   exact slv_mono (fun _ _ => trivial) (fun _ _ => rfl) (up true t) (ownv_slr (h.ok i _ hi))
  ·cases hc
 ·rename_i i lo hi' sz
  simp only [den] at hx
  split at hc
  ·rename_i mv eb t xs hi
   split at hc
   ·rename_i hsz
    cases hc
    have ho := slv_mono (F' := fun _ => True) (fun _ _ => trivial) (fun _ _ => rfl) (up true t) (ownv_slr (h.ok i _ hi))
    rcases hx.2.2 with ⟨rfl, rfl, ad, _, rfl⟩ | ⟨b, o, l, c, h1, h2, ad, rfl, had⟩
    ·exact .inl ⟨by simp, ad, 0, rfl, by simp [maxLen], by simp⟩
    ·rw [h1] at ho
     exact slr_part (rd_length t) ho hx.2.1 h2 (by rw [← hsz]; exact had)
   ·cases hc
  ·cases hc
def seenF (cells : List SV) (off n sz : Nat) : Option (Prop × List SV) :=
 match cells with
 | .arr m t xs :: _ => if sz = t.size then (dropC (t.sv true (xs.getD n t.dflt)) off).map fun r => (n < m, r) else none
 | _ => none
def seen (hp : List SB) : SV → Option (Prop × List SV)
 | .ptr i off => match hp[i]? with
  | some (.struct cells) => (dropC cells off).map fun r => (True, r)
  | _ => none
 | .el i n sz off => match hp[i]? with
  | some (.row _ eb t xs) => if sz = t.size then (dropC (t.sv true (xs.getD n t.dflt)) off).map fun r => (n < xs.length, r) else none
  | _ => none
 | .rel p eb t xs n off => (dropC (t.sv p (xs.getD n t.dflt)) off).map fun r => (n < xs.length, r)
 | .ptrA i off n sz => match hp[i]? with
  | some (.struct cells) => match dropC cells off with
   | some (.arr m t xs :: _) => if sz = t.size then some (n < m, t.sv true (xs.getD n t.dflt)) else none
   | _ => seenF cells off n sz
  | _ => none
 | _ => none
theorem take_append_of {l : List Value} {k : Nat} {a b : List Value} (h : l.take k = a ++ b) : ∃ r, l = a ++ r ∧ l.take a.length = a := by
 have h1 : l = (a ++ b) ++ l.drop k := by rw [← h, List.take_append_drop]
 refine ⟨b ++ l.drop k, by rw [← List.append_assoc]; exact h1, ?_⟩
 rw [h1, List.append_assoc]; simp
theorem elem_at {α : Type} {R : α → List Value → Prop} {sz : Nat} (hl : ∀ x c, R x c → c.length = sz) {xs : List α} {cur : List Value} {off : Nat} {cs : List Value} (ht : (cur.drop off).take (xs.length * sz) = cs) (hr : rdL R xs cs)
  {n : Nat} {x : α} (hx : xs[n]? = some x) : ∃ c r, R x c ∧ cur.drop (off + n * sz) = c ++ r := by
 obtain ⟨c, h1, h2⟩ := rdL_get hl n xs cs x hr hx
 rw [← ht, List.drop_take, List.drop_drop] at h2
 obtain ⟨r, h3, _⟩ := take_append_of h2
 exact ⟨c, r, h1, h3⟩
theorem seen_sound {hp : List SB} {E : En} (h : HS hp E) {x : SV} {v : Value} (hx : den E x v) {need : Prop} {l : List SV} (hs : seen hp x = some (need, l)) (hn : need) :
  ∃ b off cur T fr cs r, v = .pointer (some ⟨b, off, none⟩) ∧ E.w.heap[b]? = some (.cells cur T fr) ∧ cur.toList.drop off = cs ++ r ∧ denC E l cs := by
 have up : ∀ (t : Ty) (y : t.den) c, rd E.w E.Fz t y c → rd E.w (E.F true) t y c := fun t y c hy => rd_mono (fun b hb => .inl hb) (fun _ _ => rfl) t y c hy
 cases x <;> simp only [seen] at hs <;> try cases hs
 ·rename_i i off
  simp only [den] at hx
  obtain ⟨_, b, hb, rfl⟩ := hx
  split at hs
  ·rename_i cells hi
   cases hd : dropC cells off with
   | none => rw [hd] at hs; cases hs
   | some r =>
    rw [hd] at hs
    cases hs
    obtain ⟨b', cur, T, fr, h1, h2, h3, h4⟩ := h.ok i _ hi
    rw [hb] at h1
    cases h1
    obtain ⟨h5, _⟩ := denC_drop cells off l _ h4 hd
    exact ⟨b, off, cur, T, fr, _, [], rfl, h2, (List.append_nil _).symm, h5⟩
  ·cases hs
 ·rename_i i n sz off
  simp only [den] at hx
  obtain ⟨_, b, o, l', c, hb, rfl⟩ := hx
  split at hs
  ·rename_i mv eb t xs hi
   split at hs
   ·rename_i hsz
    cases hd : dropC (t.sv true (xs.getD n t.dflt)) off with
    | none => rw [hd] at hs; cases hs
    | some r =>
     rw [hd] at hs
     cases hs
     have hx : xs[n]? = some (xs.getD n t.dflt) := by rw [List.getD_eq_getElem?_getD, List.getElem?_eq_getElem hn]; rfl
     rcases h.ok i _ hi with ⟨_, _, h1⟩ | ⟨b', off', cap, cur, T, fr, cs, h1, h2, h3, h4, h5, h6, h7, h8, h9, h10⟩
     ·rw [h1] at hn; simp at hn
     ·rw [hb] at h1
      injection h1 with h1
      injection h1 with h1
      injection h1 with h1 h11
      subst h1; subst h11
      obtain ⟨c', r', h12, h13⟩ := elem_at (rd_length t) h9 h10 hx
      have h14 := denC_sv (E := E) true t _ _ (up t _ _ h12)
      obtain ⟨h15, h16⟩ := denC_drop _ off l _ h14 hd
      refine ⟨b, o + (n * sz + off), cur, T, fr, _, r', rfl, h3, ?_, h15⟩
      rw [hsz, ← Nat.add_assoc, ← List.drop_drop, h13, List.drop_append, Nat.sub_eq_zero_of_le h16, List.drop_zero]
   ·cases hs
  ·cases hs
 ·rename_i p eb t xs n off
  simp only [den] at hx
  obtain ⟨vs, b, o, l', c, hsl, rfl, rfl⟩ := hx
  cases hd : dropC (t.sv p (xs.getD n t.dflt)) off with
  | none => rw [hd] at hs; cases hs
  | some r =>
   rw [hd] at hs
   cases hs
   have hx : xs[n]? = some (xs.getD n t.dflt) := by rw [List.getD_eq_getElem?_getD, List.getElem?_eq_getElem hn]; rfl
   rcases hsl with ⟨rfl, _⟩ | ⟨b', off', cap, cur, T, fr, cs, h1, h2, h3, h4, h5, h6, h7, h8⟩
   ·simp at hn
   ·injection h1 with h1
    injection h1 with h1
    injection h1 with h1 h11
    subst h1; subst h11
    obtain ⟨c', r', h12, h13⟩ := elem_at (rd_length t) h7 h8 hx
    have h14 := denC_sv (E := E) p t _ _ h12
    obtain ⟨h15, h16⟩ := denC_drop _ off l _ h14 hd
    refine ⟨b, o + (n * t.size + off), cur, T, fr, _, r', rfl, h3, ?_, h15⟩
    rw [← Nat.add_assoc, ← List.drop_drop, h13, List.drop_append, Nat.sub_eq_zero_of_le h16, List.drop_zero]
 ·rename_i i off n sz
  simp only [den] at hx
  obtain ⟨_, b, hb, rfl⟩ := hx
  split at hs
  ·rename_i cells hi
   split at hs
   ·rename_i m t xs rest hd
    split at hs
    ·rename_i hsz
     cases hs
     obtain ⟨b', cur, T, fr, h1, h2, h3, h4⟩ := h.ok i _ hi
     rw [hb] at h1
     cases h1
     obtain ⟨h5, _⟩ := denC_drop cells off _ _ h4 hd
     simp only [denC] at h5
     obtain ⟨c1, c2, h6, h7, h8, h9, h10⟩ := h5
     have hx : xs[n]? = some (xs.getD n t.dflt) := by rw [List.getD_eq_getElem?_getD, List.getElem?_eq_getElem (by rw [h7]; exact hn)]; rfl
     obtain ⟨c', h11, h12⟩ := rdL_get (rd_length t) n xs c1 _ h9 hx
     refine ⟨b, off + n * sz, cur, T, fr, _, c1.drop ((n + 1) * t.size) ++ c2, rfl, h2, ?_, denC_sv (E := E) true t _ _ (up t _ _ h11)⟩
     rw [hsz, ← List.drop_drop, h6, List.drop_append, h12, List.append_assoc]
     congr 2
     have hlen := rdL_length (rd_length t) xs c1 h9
     rw [Nat.sub_eq_zero_of_le, List.drop_zero]
     rw [hlen, h7]
     exact Nat.mul_le_mul_right _ (Nat.le_of_lt hn)
    ·cases hs
   ·cases cells with
    | nil => cases hs
    | cons c0 rest =>
     cases c0 <;> simp only [seenF] at hs <;> try cases hs
     rename_i m t xs hnot
     split at hs
     ·rename_i hsz
      cases hd : dropC (t.sv true (xs.getD n t.dflt)) off with
      | none => rw [hd] at hs; cases hs
      | some r =>
       rw [hd] at hs
       cases hs
       obtain ⟨b', cur, T, fr, h1, h2, h3, h4⟩ := h.ok i _ hi
       rw [hb] at h1
       cases h1
       simp only [denC] at h4
       obtain ⟨c1, c2, h6, h7, h8, h9, h10⟩ := h4
       have hx : xs[n]? = some (xs.getD n t.dflt) := by rw [List.getD_eq_getElem?_getD, List.getElem?_eq_getElem (by rw [h7]; exact hn)]; rfl
       obtain ⟨c', h11, h12⟩ := rdL_get (rd_length t) n xs c1 _ h9 hx
       have h14 := denC_sv (E := E) true t _ _ (up t _ _ h11)
       obtain ⟨h15, h16⟩ := denC_drop _ off l _ h14 hd
       refine ⟨b, off + n * sz, cur, T, fr, _, c1.drop ((n + 1) * t.size) ++ c2, rfl, h2, ?_, h15⟩
       rw [hsz, Nat.add_comm, ← List.drop_drop, h6, List.drop_append, h12]
       have hlen := rdL_length (rd_length t) xs c1 h9
       rw [Nat.sub_eq_zero_of_le (by rw [hlen, h7]; exact Nat.mul_le_mul_right _ (Nat.le_of_lt hn)), List.drop_zero, List.append_assoc, List.drop_append, Nat.sub_eq_zero_of_le h16, List.drop_zero]
     ·cases hs
  ·cases hs
end Go.V
namespace Go.V
set_option linter.unusedSimpArgs false
set_option linter.unnecessarySimpa false
set_option linter.unusedVariables false
/-! ### plain values out of symbolic cells -/
def castT {t' t : Ty} (h : t' = t) (xs : List t'.den) : List t.den := h ▸ xs
@[simp] theorem castT_self {t : Ty} (h : t = t) (xs : List t.den) : castT h xs = xs := rfl
def isOne : SV → Bool
 | .agg _ | .tup _ | .junk | .arr _ _ _ => false
 | _ => true
theorem slv_one0 {α : Type} {w : World} {F : Nat → Prop} {R : α → List Value → Prop} {eb sz : Nat} {xs : List α} {v : Value} (h : slv w F R eb sz xs v) : v.oneCell' = true := by
 rcases h with ⟨_, a, c, rfl, _⟩ | ⟨b, off, cap, cur, E, fr, cs, rfl, _⟩ <;> rfl
theorem isOne_cell {E : En} {x : SV} {v : Value} (hv : den E x v) (h : isOne x = true) : v.oneCell' = true := by
 cases x <;> simp only [isOne, Bool.false_eq_true] at h <;> simp only [den] at hv
 case int => rw [hv.1]; rfl
 case bool => rw [hv]; rfl
 case str => rw [hv.1]; rfl
 case sl => exact slv_one0 hv
 case nilp => rw [hv]; rfl
 case nils => rw [hv]; rfl
 case nilm => rw [hv]; rfl
 case nilf => rw [hv]; rfl
 case nili => rw [hv]; rfl
 case ptr => obtain ⟨_, b, _, rfl⟩ := hv; rfl
 case own => exact hv.2.2
 case vw => rcases hv.2.2 with ⟨_, _, _, _, rfl⟩ | ⟨b, o, l, c, _, _, ad, rfl, _⟩ <;> rfl
 case mp => obtain ⟨_, b, _, rfl⟩ := hv; rfl
 case el => obtain ⟨_, b, o, l, c, _, rfl⟩ := hv; rfl
 case rel => obtain ⟨vs, b, o, l, c, _, _, rfl⟩ := hv; rfl
 case ptrA => obtain ⟨_, b, _, rfl⟩ := hv; rfl
 case pty => obtain ⟨_, b, _, rfl, _⟩ := hv; rfl
 case svw => obtain ⟨_, b, c, _, rfl, _⟩ := hv; rfl
 case slf => obtain ⟨b, c, cur, fr, rfl, _⟩ := hv; rfl
 case fn => obtain ⟨cs, rfl, _⟩ := hv; unfold fnV; split <;> rfl
 case junk1 => exact hv
theorem isOne_noArr {x : SV} (h : isOne x = true) : x.isArr = false := by cases x <;> simp_all [isOne, SV.isArr]
def Ty.ofSv : (t : Ty) → List SV → Option (t.den × List SV)
 | .int k, l => match l with
  | .int k' n :: r => if k' = k then some (n, r) else none
  | _ => none
 | .byte, l => match l with
  | .int .u8 n :: r => some (UInt8.ofNat n.toNat, r)
  | _ => none
 | .bool, l => match l with
  | .bool b :: r => some (b, r)
  | _ => none
 | .str, l => match l with
  | .str s :: r => some (s, r)
  | _ => none
 | .sl eb t, l => match l with
  | .sl true eb' t' xs :: r => if h : t' = t then (if eb' = eb then some (castT h xs, r) else none) else none
  | .nils :: r => some ([], r)
  | _ => none
 | .pair a b, l => match a.ofSv l with
  | some (x, r) => match b.ofSv r with
   | some (y, r') => some ((x, y), r')
   | none => none
  | none => none
 | .unit, l => some ((), l)
 | .any1, l => match l with
  | x :: r => if isOne x then some ((), r) else none
  | _ => none
theorem ofSv_sound {E : En} : ∀ (t : Ty) (l : List SV) (x : t.den) (r : List SV) (cs : List Value), t.ofSv l = some (x, r) → denC E l cs → ∃ c1 c2, cs = c1 ++ c2 ∧ rd E.w E.Fz t x c1 ∧ denC E r c2
 | .int k, l, x, r, cs, h, hc => by
  simp only [Ty.ofSv] at h
  split at h
  ·split at h
   ·rename_i k' n r' hk
    cases h; subst hk
    rw [denC_cons rfl] at hc
    obtain ⟨v, c2, rfl, h1, h2⟩ := hc
    simp only [den] at h1
    exact ⟨[v], c2, rfl, by simp only [rd]; exact ⟨by rw [h1.1], h1.2⟩, h2⟩
   ·cases h
  ·cases h
 | .byte, l, x, r, cs, h, hc => by
  simp only [Ty.ofSv] at h
  split at h
  ·cases h
   rw [denC_cons rfl] at hc
   obtain ⟨v, c2, rfl, h1, h2⟩ := hc
   simp only [den] at h1
   refine ⟨[v], c2, rfl, ?_, h2⟩
   simp only [rd]
   rw [h1.1]
   obtain ⟨_, h3, h4⟩ := h1
   simp [IntKind.min, IntKind.max, IntKind.signed, IntKind.bits] at h3 h4
   simp
   omega
  ·cases h
 | .bool, l, x, r, cs, h, hc => by
  simp only [Ty.ofSv] at h
  split at h
  ·cases h
   rw [denC_cons rfl] at hc
   obtain ⟨v, c2, rfl, h1, h2⟩ := hc
   simp only [den] at h1
   exact ⟨[v], c2, rfl, by simp only [rd]; rw [h1], h2⟩
  ·cases h
 | .str, l, x, r, cs, h, hc => by
  simp only [Ty.ofSv] at h
  split at h
  ·cases h
   rw [denC_cons rfl] at hc
   obtain ⟨v, c2, rfl, h1, h2⟩ := hc
   simp only [den] at h1
   exact ⟨[v], c2, rfl, by simp only [rd]; exact ⟨by rw [h1.1], h1.2⟩, h2⟩
  ·cases h
 | .sl eb t, l, x, r, cs, h, hc => by
  simp only [Ty.ofSv] at h
  split at h
  ·split at h
   ·split at h
    ·rename_i eb' t' xs r' ht he
     cases h; subst ht; subst he
     rw [denC_cons rfl] at hc
     obtain ⟨v, c2, rfl, h1, h2⟩ := hc
     simp only [den] at h1
     refine ⟨[v], c2, rfl, ?_, h2⟩
     have up : ∀ b, E.F true b → E.Fz b := fun b hb => hb.elim id (fun h => by cases h.1)
     simp only [rd]
     exact ⟨v, rfl, slv_mono up (fun _ _ => rfl) (fun x c hx => rd_mono up (fun _ _ => rfl) _ x c hx) h1⟩
    ·cases h
   ·cases h
  ·cases h
   rw [denC_cons rfl] at hc
   obtain ⟨v, c2, rfl, h1, h2⟩ := hc
   simp only [den] at h1
   exact ⟨[v], c2, rfl, by simp only [rd]; exact ⟨v, rfl, .inl ⟨rfl, none, 0, h1, by simp [maxLen], by simp⟩⟩, h2⟩
  ·cases h
 | .pair a b, l, x, r, cs, h, hc => by
  simp only [Ty.ofSv] at h
  split at h
  ·rename_i x1 r1 h1
   split at h
   ·rename_i y1 r2 h2
    cases h
    obtain ⟨c1, c2, rfl, h3, h4⟩ := ofSv_sound a l x1 r1 cs h1 hc
    obtain ⟨c3, c4, rfl, h5, h6⟩ := ofSv_sound b r1 y1 _ c2 h2 h4
    exact ⟨c1 ++ c3, c4, by simp, by simp only [rd]; exact ⟨c1, c3, rfl, h3, h5⟩, h6⟩
   ·cases h
  ·cases h
 | .any1, l, x, r, cs, h, hc => by
  simp only [Ty.ofSv] at h
  split at h
  ·split at h
   ·rename_i y r' hy
    cases h
    rw [denC_cons (isOne_noArr hy)] at hc
    obtain ⟨v, c2, rfl, h1, h2⟩ := hc
    exact ⟨[v], c2, rfl, by simp only [rd]; exact ⟨v, rfl, isOne_cell h1 hy⟩, h2⟩
   ·cases h
  ·cases h
 | .unit, l, x, r, cs, h, hc => by
  simp only [Ty.ofSv] at h
  cases h
  exact ⟨[], cs, rfl, by simp only [rd], hc⟩
def Ty.ofSvL (t : Ty) : Nat → List SV → Option (List t.den)
 | 0, [] => some []
 | 0, _ :: _ => none
 | n + 1, l => match t.ofSv l with
  | some (x, r) => match Ty.ofSvL t n r with
   | some xs => some (x :: xs)
   | none => none
  | none => none
theorem ofSvL_sound {E : En} (t : Ty) : ∀ (n : Nat) (l : List SV) (xs : List t.den) (cs : List Value), t.ofSvL n l = some xs → denC E l cs → xs.length = n ∧ rdL (rd E.w E.Fz t) xs cs
 | 0, [], xs, cs, h, hc => by simp only [Ty.ofSvL] at h; cases h; simp only [denC] at hc; subst hc; exact ⟨rfl, rfl⟩
 | 0, _ :: _, xs, cs, h, hc => by simp only [Ty.ofSvL] at h; cases h
 | n + 1, l, xs, cs, h, hc => by
  simp only [Ty.ofSvL] at h
  split at h
  ·rename_i x r hx
   split at h
   ·rename_i xs' hxs
    cases h
    obtain ⟨c1, c2, rfl, h1, h2⟩ := ofSv_sound t l x r cs hx hc
    obtain ⟨h3, h4⟩ := ofSvL_sound t n r xs' c2 hxs h2
    exact ⟨by simp [h3], c1, c2, rfl, h1, h4⟩
   ·cases h
  ·cases h
end Go.V
namespace Go.V
set_option linter.unusedSimpArgs false
set_option linter.unnecessarySimpa false
set_option linter.unusedVariables false
inductive Opd where
 | t (n : Nat)
 | c (x : SV)
 | f (n : Nat)
inductive NK where
 | p | s | m | f | i
 deriving DecidableEq
inductive AOp where
 | mv (x : Opd)
 | pick (c a b : Opd)
 | nck (x : Opd)
 | fld (off : Nat) (n : Option Nat) (x : Opd)
 | fa (off : Nat) (x : Opd)
 | ia (sz : Nat) (x i : Opd)
 | iaA (len sz : Nat) (x i : Opd)
 | ixS (x i : Opd)
 | ixA (len : Nat) (x i : Opd)
 | ld (x : Opd)
 | ldA (n : Nat) (x : Opd)
 | bin (op : BinOp) (x y : Opd)
 | binB (neg : Bool) (x y : Opd)
 | eqS (neg : Bool) (ts : List Ty) (x y : Opd)
 | eqR (neg : Bool) (n : Nat) (x y : Opd)
 | eqn (neg : Bool) (k : NK) (x y : Opd)
 | not (x : Opd)
 | neg (x : Opd)
 | cv (k : IntKind) (x : Opd)
 | cvS (x : Opd)
 | b2s (x : Opd)
 | ext (x : Opd) (i : Nat)
 | len (k : NK) (x : Opd)
 | mm (mx : Bool) (x y : Opd)
 | lk (va : Bool) (kt vt : Ty) (ok : Bool) (x k : Opd)
 | bld (zs : List SV) (parts : List (Nat × Nat × Opd))
 | bldA (zs : List SV) (n : Nat) (t : Ty) (parts : List (Nat × Nat × Opd))
 | mkf (f : Nat) (caps : List Opd)
 | slS (x : Opd) (lo hi : Option Opd)
 | slR (sz : Nat) (x : Opd) (lo hi : Option Opd)
 | isn (neg : Bool) (x : Opd)
 | alc (zs : List SV)
 | alcT (T : Nat) (zs : List SV)
 | box (x : Opd)
 | bldF (zs : List SV) (parts : List (Nat × Nat × Opd))
 | bsl (eb : Nat) (t : Ty) (n : Nat) (parts : List (Nat × Opd))
 | st (n : Nat) (x v : Opd)
 | app (eb : Nat) (t : Ty) (x y : Opd)
 | cpy (t : Ty) (x y : Opd)
 | mkm (va : Bool) (kt vt : Ty)
 | mks (eb : Nat) (t : Ty) (n c : Opd)
 | mu (va : Bool) (kt vt : Ty) (m k v : Opd)
 | dl (kt : Ty) (m k : Opd)
 | s2b (x : Opd)
 | mkb (x : Opd)
 | rng (x : Opd)
 | nxt (x : Opd)
 | iaP (x i : Opd)
 | lenP (x : Opd)
 | bslP (n : Nat) (parts : List (Nat × Opd))
 | call (f : Nat) (ms : List (Option (Nat × Ty))) (args : List Opd)
 | callv (f : Opd) (ms : List (Option (Nat × Ty))) (args : List Opd)
def eqC : Ty → SV → SV → Option Bool
 | .int _, .int k a, .int k' b => if k = k' then some (decide (a = b)) else none
 | .bool, .bool a, .bool b => some (a == b)
 | .str, .str a, .str b => some (decide (a = b))
 | _, _, _ => none
def eqJ : Option Bool → Option Bool → Option Bool
 | some a, some b => some (a && b)
 | _, _ => none
def eqL : List Ty → List SV → List SV → Option Bool
 | [], [], [] => some true
 | t :: ts, x :: l, y :: l' => eqJ (eqC t x y) (eqL ts l l')
 | _, _, _ => none
structure AOper where
 dst : Option Nat
 op : AOp
 guard : Option (Nat × Bool)
structure QR where
 need : Prop
 hyp : Prop
 val : SV
def inR (k : IntKind) (n : Int) : Prop := k.min ≤ n ∧ n ≤ k.max
def SS.get (s : SS) : Opd → SV
 | .t n => lkF s.fr n
 | .c x => x
 | .f n => .fn n []
def ltS (a b : ByteArray) : Bool := Op.bytesLess a.data.toList b.data.toList
def bitsI (op : BinOp) (k : IntKind) (a b : Int) : Int :=
 let x := BitVec.ofInt k.bits a
 let y := BitVec.ofInt k.bits b
 match op with
 | .and => k.wrap (x &&& y).toNat
 | .or => k.wrap (x ||| y).toNat
 | .xor => k.wrap (x ^^^ y).toNat
 | _ => k.wrap (x &&& ~~~y).toNat
def binI (op : BinOp) (k k' : IntKind) (a b : Int) : Option QR :=
 match op with
 | .shl => some ⟨0 ≤ b, inR k a ∧ inR k' b, .int k (k.wrap (a * 2 ^ (min b.toNat k.bits)))⟩
 | .shr => some ⟨0 ≤ b, inR k a ∧ inR k' b, .int k (a.fdiv (2 ^ (min b.toNat k.bits)))⟩
 | .add => if k = k' then some ⟨True, inR k a ∧ inR k b, .int k (k.wrap (a + b))⟩ else none
 | .sub => if k = k' then some ⟨True, inR k a ∧ inR k b, .int k (k.wrap (a - b))⟩ else none
 | .mul => if k = k' then some ⟨True, inR k a ∧ inR k b, .int k (k.wrap (a * b))⟩ else none
 | .quo => if k = k' then some ⟨b ≠ 0, inR k a ∧ inR k b, .int k (k.wrap (a.tdiv b))⟩ else none
 | .rem => if k = k' then some ⟨b ≠ 0, inR k a ∧ inR k b, .int k (a.tmod b)⟩ else none
 | .and => if k = k' then some ⟨True, inR k a ∧ inR k b, .int k (bitsI .and k a b)⟩ else none
 | .or => if k = k' then some ⟨True, inR k a ∧ inR k b, .int k (bitsI .or k a b)⟩ else none
 | .xor => if k = k' then some ⟨True, inR k a ∧ inR k b, .int k (bitsI .xor k a b)⟩ else none
 | .andNot => if k = k' then some ⟨True, inR k a ∧ inR k b, .int k (bitsI .andNot k a b)⟩ else none
 | .eql => if k = k' then some ⟨True, True, .bool (decide (a = b))⟩ else none
 | .neq => if k = k' then some ⟨True, True, .bool (!decide (a = b))⟩ else none
 | .lss => if k = k' then some ⟨True, True, .bool (decide (a < b))⟩ else none
 | .leq => if k = k' then some ⟨True, True, .bool (decide (a ≤ b))⟩ else none
 | .gtr => if k = k' then some ⟨True, True, .bool (decide (b < a))⟩ else none
 | .geq => if k = k' then some ⟨True, True, .bool (decide (b ≤ a))⟩ else none
def binS (op : BinOp) (a b : ByteArray) : Option QR :=
 match op with
 | .add => some ⟨a.size + b.size ≤ maxLen, True, .str (a ++ b)⟩
 | .eql => some ⟨True, True, .bool (decide (a = b))⟩
 | .neq => some ⟨True, True, .bool (!decide (a = b))⟩
 | .lss => some ⟨True, True, .bool (ltS a b)⟩
 | .leq => some ⟨True, True, .bool (ltS a b || decide (a = b))⟩
 | .gtr => some ⟨True, True, .bool (!(ltS a b || decide (a = b)))⟩
 | .geq => some ⟨True, True, .bool (!ltS a b)⟩
 | _ => none
def pickV (c : Bool) (a b : SV) : SV :=
 match a, b with
 | .bool a, .bool b => .bool (bif c then a else b)
 | a, b => bif c then a else b
def Ty.keyOf : (t : Ty) → SV → Option t.den
 | .int k, .int k' n => if k = k' then some n else none
 | .str, .str s => some s
 | .bool, .bool b => some b
 | _, _ => none
def Ty.beq : (t : Ty) → t.den → t.den → Bool
 | .int _, a, b => decide ((a : Int) = b)
 | .byte, a, b => decide ((a : UInt8) = b)
 | .bool, a, b => decide ((a : Bool) = b)
 | .str, a, b => decide ((a : ByteArray) = b)
 | _, _, _ => false
def lookM (kt vt : Ty) (m : List (kt.den × vt.den)) (k : kt.den) : Option vt.den := (m.find? fun e => kt.beq e.1 k).map Prod.snd
def toV (va p : Bool) (t : Ty) (x : t.den) : Option SV :=
 match va with
 | true => some (.agg (t.sv p x))
 | false => match t.sv p x with
  | [y] => some y
  | _ => none
def bound (s : SS) (d : Int) : Option Opd → Option Int
 | none => some d
 | some x => match s.get x with
  | .int _ n => some n
  | _ => none
def SV.one : SV → Bool
 | .agg _ | .tup _ | .junk | .arr _ _ _ => false
 | _ => true
def flatS : SV → Option (List SV)
 | .agg l => some l
 | x => if x.one then some [x] else none
def ixAV (len : Nat) (x i : SV) : Option (Prop × SV) :=
 match i with
 | .int _ n => match x with
  | .agg [.arr m t xs] => if m = len ∧ t.size = 1 then (headC (t.sv true (xs.getD n.toNat t.dflt))).map fun v => (0 ≤ n ∧ n < len, v) else none
  | _ => none
 | _ => none
def arrO (n : Nat) (t : Ty) (o : Option (List SV)) : Option SV :=
 match o with
 | some l => match t.ofSvL n l with
  | some xs => if t.flat then some (.agg [.arr n t xs]) else none
  | none => none
 | none => none
def bldC (s : SS) : List SV → List (Nat × Nat × Opd) → Option (List SV)
  | l, [] => some l
  | l, (off, n, x) :: r => match flatS (s.get x) with
    | none => none
    | some new => if widthL new = n then match splC l off new with
        | some l' => bldC s l' r
        | none => none
      else none
def ev (o : AOp) (s : SS) : Option QR :=
  match o with
  | .mv x => some ⟨True, True, s.get x⟩
  | .pick c a b => match s.get c with
    | .bool c => some ⟨True, True, pickV c (s.get a) (s.get b)⟩
    | _ => none
  | .nck x => match s.get x with
    | .ptr i off => some ⟨True, True, .ptr i off⟩
    | .el i n sz off => some ⟨True, True, .el i n sz off⟩
    | .rel p eb t xs n off => some ⟨True, True, .rel p eb t xs n off⟩
    | .fn f caps => some ⟨True, True, .fn f caps⟩
    | .pty i T => some ⟨True, True, .pty i T⟩
    | _ => none
  | .fld off n x => match s.get x with
    | .agg l => match dropC l off with
      | none => none
      | some r => match n with
        | none => (headC r).map fun v => ⟨True, True, v⟩
        | some n => (takeC r n).map fun l' => ⟨True, True, .agg l'⟩
    | _ => none
  | .fa off x => match s.get x with
    | .ptr i o => some ⟨True, True, .ptr i (o + off)⟩
    | .el i n sz o => some ⟨True, True, .el i n sz (o + off)⟩
    | .rel p eb t xs n o => some ⟨True, True, .rel p eb t xs n (o + off)⟩
    | .ptrA i o n sz => some ⟨True, True, .ptrA i (o + off) n sz⟩
    | .pty i _ => some ⟨True, True, .ptr i off⟩
    | _ => none
  | .ia sz x i => match s.get i with
    | .int _ n => match s.get x with
      | .sl p eb t xs => if sz = t.size then some ⟨0 ≤ n ∧ n < xs.length, True, .rel p eb t xs n.toNat 0⟩ else none
      | .own j => match s.hp[j]? with
        | some (.row _ _ _ xs) => some ⟨0 ≤ n ∧ n < xs.length, True, .el j n.toNat sz 0⟩
        | _ => none
      | .vw j lo hi sz' => match s.hp[j]? with
        | some (.row _ _ t xs) => if sz = sz' ∧ sz = t.size then some ⟨0 ≤ n ∧ lo + n < hi ∧ hi ≤ xs.length, True, .el j (lo + n.toNat) sz 0⟩ else none
        | _ => none
      | _ => none
    | _ => none
  | .iaA len sz x i => match s.get i with
    | .int _ n => match s.get x with
      | .ptr j off => some ⟨0 ≤ n ∧ n < len, True, .ptrA j off n.toNat sz⟩
      | _ => none
    | _ => none
  | .ixS x i => match s.get x with
    | .str b => match s.get i with
      | .int _ n => some ⟨0 ≤ n ∧ n < b.size, True, .int .u8 ((b.data.toList.getD n.toNat 0).toNat : Int)⟩
      | _ => none
    | _ => none
  | .ixA len x i => (ixAV len (s.get x) (s.get i)).map fun p => ⟨p.1, True, p.2⟩
  | .ld x => match seen s.hp (s.get x) with
    | none => none
    | some (need, l) => (headC l).map fun v => ⟨need, True, v⟩
  | .ldA n x => match seen s.hp (s.get x) with
    | none => none
    | some (need, l) => (takeC l n).map fun l' => ⟨need, True, .agg l'⟩
  | .bin op x y => match s.get x with
    | .int k a => match s.get y with
      | .int k' b => binI op k k' a b
      | _ => none
    | .str a => match s.get y with
      | .str b => binS op a b
      | _ => none
    | _ => none
  | .binB ng x y => match s.get x with
    | .bool a => match s.get y with
      | .bool b => some ⟨True, True, .bool (bif ng then !(a == b) else (a == b))⟩
      | _ => none
    | _ => none
  | .eqS ng ts x y => match s.get x with
    | .agg l => match s.get y with
      | .agg l' => (eqL ts l l').map fun b => ⟨True, True, .bool (bif ng then !b else b)⟩
      | _ => none
    | _ => none
  | .eqR ng n x y => match s.get x with
    | .agg [.arr m (.int k) xs] => match s.get y with
      | .agg [.arr m' (.int k') ys] => if m = n ∧ m' = n ∧ k = k' then some ⟨True, True, .bool (bif ng then !(decide ((xs : List Int) = ys)) else (decide ((xs : List Int) = ys)))⟩ else none
      | _ => none
    | _ => none
  | .eqn ng k x y => match k, s.get x, s.get y with
    | .p, .nilp, .nilp => some ⟨True, True, .bool (!ng)⟩
    | .p, .nilp, .ptr _ _ => some ⟨True, True, .bool ng⟩
    | .p, .ptr _ _, .nilp => some ⟨True, True, .bool ng⟩
    | .s, .nils, .nils => some ⟨True, True, .bool (!ng)⟩
    | .m, .nilm, .nilm => some ⟨True, True, .bool (!ng)⟩
    | .m, .mp _, .nilm => some ⟨True, True, .bool ng⟩
    | .f, .nilf, .nilf => some ⟨True, True, .bool (!ng)⟩
    | .f, .fn _ _, .nilf => some ⟨True, True, .bool ng⟩
    | _, _, _ => none
  | .not x => match s.get x with
    | .bool b => some ⟨True, True, .bool (!b)⟩
    | _ => none
  | .neg x => match s.get x with
    | .int k n => some ⟨True, inR k n, .int k (k.wrap (0 - n))⟩
    | _ => none
  | .cv k x => match s.get x with
    | .int k' n => some ⟨True, inR k' n, .int k (k.wrap n)⟩
    | _ => none
  | .cvS x => match s.get x with
    | .str b => some ⟨True, True, .str b⟩
    | _ => none
  | .b2s x => match s.get x with
    | .nils => some ⟨True, True, .str ByteArray.empty⟩
    | y => match cont s.hp y with
      | some ⟨_, _, .byte, xs⟩ => some ⟨True, True, .str ⟨(xs : List UInt8).toArray⟩⟩
      | _ => none
  | .ext x i => match s.get x with
    | .tup l => (l[i]?).map fun v => ⟨True, True, v⟩
    | _ => none
  | .len .i x => match s.get x with
    | .str b => some ⟨True, b.size ≤ maxLen, .int .i64 b.size⟩
    | _ => none
  | .len .m x => match s.get x with
    | .nilm => some ⟨True, True, .int .i64 0⟩
    | .mp i => match s.hp[i]? with
      | some (.map _ _ _ m) => some ⟨True, m.length ≤ maxLen, .int .i64 m.length⟩
      | _ => none
    | _ => none
  | .len .s x => match s.get x with
    | .nils => some ⟨True, True, .int .i64 0⟩
    | y => match cont s.hp y with
      | some C => some ⟨True, C.xs.length ≤ maxLen ∧ C.xs.length * C.eb ≤ 140737488355328, .int .i64 C.xs.length⟩
      | none => none
  | .mm mx x y => match s.get x with
    | .int k a => match s.get y with
      | .int k' b => if k = k' then some ⟨True, True, .int k (bif mx then (if a < b then b else a) else (if b < a then b else a))⟩ else none
      | _ => none
    | _ => none
  | .lk va kt vt ok x k => match s.get x with
    | .nilm => match kt.keyOf (s.get k) with
      | some key => match toV va true vt vt.dflt with
        | some y => some ⟨True, True, if ok then .tup [y, .bool false] else y⟩
        | none => none
      | none => none
    | .mp i => match s.hp[i]? with
      | some (.map va' kt' vt' m) => if va' = va ∧ kt' = kt ∧ vt' = vt then match kt'.keyOf (s.get k) with
        | some key => match toV va' true vt' ((lookM kt' vt' m key).getD vt'.dflt) with
          | some y => some ⟨True, True, if ok then .tup [y, .bool (lookM kt' vt' m key).isSome] else y⟩
          | none => none
        | none => none else none
      | _ => none
    | _ => none
  | .bld zs parts => (bldC s zs parts).map fun l => ⟨True, True, .agg l⟩
  | .bldA zs n t parts => (arrO n t (bldC s zs parts)).map fun v => ⟨True, True, v⟩
  | .iaP x i => match s.get i with
    | .int _ n => match s.get x with
      | .svw j m => some ⟨0 ≤ n ∧ n < m, True, .ptr j n.toNat⟩
      | _ => none
    | _ => none
  | .lenP x => match s.get x with
    | .nils => some ⟨True, True, .int .i64 0⟩
    | .svw _ m => some ⟨True, m ≤ maxLen, .int .i64 m⟩
    | _ => none
  | .mkf f caps => some ⟨True, True, .fn f (caps.map s.get)⟩
  | .slS x lo hi => match s.get x with
    | .str b => match bound s 0 lo, bound s b.size hi with
      | some l, some h => some ⟨0 ≤ l ∧ l ≤ h ∧ h ≤ b.size, True, .str (b.extract l.toNat h.toNat)⟩
      | _, _ => none
    | _ => none
  | .slR sz x lo hi => match s.get x with
    | .nils => match bound s 0 lo, bound s 0 hi with
      | some l, some h => some ⟨l = 0 ∧ h = 0, True, .nils⟩
      | _, _ => none
    | .sl p eb t xs => if sz = t.size then match bound s 0 lo, bound s xs.length hi with
      | some l, some h => some ⟨0 ≤ l ∧ l ≤ h ∧ h ≤ xs.length, True, .sl p eb t ((xs.drop l.toNat).take (h.toNat - l.toNat))⟩
      | _, _ => none else none
    | .own j => match s.hp[j]? with
      | some (.row _ _ t xs) => match bound s 0 lo, bound s xs.length hi with
        | some l, some h => if sz = t.size then some ⟨0 ≤ l ∧ l ≤ h ∧ h ≤ xs.length, True, .vw j l.toNat h.toNat sz⟩ else none
        | _, _ => none
      | _ => none
    | .vw j a b sz' => match s.hp[j]? with
      | some (.row _ _ t xs) => match bound s 0 lo, bound s (b - a : Nat) hi with
        | some l, some h => if sz = sz' ∧ sz = t.size then some ⟨0 ≤ l ∧ l ≤ h ∧ h ≤ (b - a : Nat), True, .vw j (a + l.toNat) (a + h.toNat) sz⟩ else none
        | _, _ => none
      | _ => none
    | _ => none
  | _ => none
end Go.V
namespace Go.V
set_option linter.unusedSimpArgs false
set_option linter.unnecessarySimpa false
set_option linter.unusedVariables false
def cst1 : SV → Value → Bool
 | .int k n, .int k' m => decide (k = k') && decide (n = m) && decide (k.min ≤ n) && decide (n ≤ k.max)
 | .bool b, .bool c => b == c
 | .str s, .string t => decide (s.data.toList = t.data.toList) && decide (s.size ≤ maxLen)
 | .nilp, .pointer none => true
 | .nils, .slice none 0 0 => true
 | .nilm, .map none => true
 | .nilf, .nilFunc => true
 | .nili, .nilIface => true
 | _, _ => false
theorem bytes_ext {s t : ByteArray} (h : s.data.toList = t.data.toList) : s = t := by
 cases s; cases t
 simp only at h
 congr
 exact Array.toList_inj.1 h
theorem cst1_sound {E : En} {x : SV} {v : Value} (h : cst1 x v = true) : den E x v := by
 unfold cst1 at h
 split at h <;> first
  | (simp only [den]; done)
  | (simp only [Bool.and_eq_true, decide_eq_true_eq] at h; obtain ⟨⟨⟨rfl, rfl⟩, h1⟩, h2⟩ := h; simp only [den]; exact ⟨trivial, h1, h2⟩)
  | (simp only [beq_iff_eq] at h; subst h; simp only [den]; done)
  | (simp only [Bool.and_eq_true, decide_eq_true_eq] at h; obtain ⟨h1, h2⟩ := h; simp only [den]; exact ⟨by rw [bytes_ext h1], h2⟩)
  | cases h
theorem cst1_noArr {x : SV} {v : Value} (h : cst1 x v = true) : x.isArr = false := by
 unfold cst1 at h
 split at h <;> first | rfl | cases h
def cst0 : (t : Ty) → t.den → Value → Bool
 | .int k, n, v => match v with
  | .int k' m => decide (k = k') && decide ((n : Int) = m) && decide (k.min ≤ m) && decide (m ≤ k.max)
  | _ => false
 | .byte, b, v => match v with
  | .int .u8 m => decide ((UInt8.toNat b : Int) = m)
  | _ => false
 | .bool, b, v => match v with
  | .bool c => (b : Bool) == c
  | _ => false
 | .str, s, v => match v with
  | .string c => decide (ByteArray.data s = c.data) && decide (c.size ≤ maxLen)
  | _ => false
 | .sl _ _, xs, v => match v with
  | .slice none 0 0 => List.isEmpty xs
  | _ => false
 | .any1, _, v => v.oneCell'
 | _, _, _ => false
theorem cst0_sound {w : World} {F : Nat → Prop} (t : Ty) (x : t.den) (v : Value) (h : cst0 t x v = true) : rd w F t x [v] := by
 cases t <;> simp only [cst0] at h
 ·split at h <;> try cases h
  simp only [Bool.and_eq_true, decide_eq_true_eq] at h
  obtain ⟨⟨⟨rfl, rfl⟩, h1⟩, h2⟩ := h
  simp only [rd]; exact ⟨trivial, h1, h2⟩
 ·split at h <;> try cases h
  simp only [decide_eq_true_eq] at h
  simp only [rd]; rw [h]
 ·split at h <;> try cases h
  simp only [beq_iff_eq] at h
  simp only [rd]; rw [h]
 ·split at h <;> try cases h
  simp only [Bool.and_eq_true, decide_eq_true_eq] at h
  obtain ⟨h1, h2⟩ := h
  rename_i c
  have e : x = c := bytes_ext (by rw [h1])
  simp only [rd]
  subst e
  exact ⟨rfl, h2⟩
 ·split at h <;> try cases h
  rename_i eb t
  have e : x = [] := by cases x <;> simp_all
  subst e
  simp only [rd]; exact ⟨_, rfl, .inl ⟨rfl, none, 0, rfl, by simp [maxLen], fun _ => rfl⟩⟩
 ·cases h
 ·cases h
 ·simp only [rd]; exact ⟨_, rfl, h⟩
def cstRd : (t : Ty) → t.den → List Value → Option (List Value)
 | .pair a b, x, cs => match cstRd a x.1 cs with
  | some r => cstRd b x.2 r
  | none => none
 | .unit, _, r => some r
 | t, x, cs => match cs with
  | [] => none
  | v :: r => if cst0 t x v then some r else none
theorem cstRd_sound {w : World} {F : Nat → Prop} : ∀ (t : Ty) (x : t.den) (cs r : List Value), cstRd t x cs = some r → ∃ c, cs = c ++ r ∧ rd w F t x c := by
 have one : ∀ (t : Ty) (x : t.den) (cs r : List Value), (match cs with | [] => none | v :: r => if cst0 t x v then some r else none) = some r → ∃ c, cs = c ++ r ∧ rd w F t x c := by
  intro t x cs r h
  cases cs with
  | nil => cases h
  | cons v cs =>
   simp only at h
   split at h
   ·rename_i hc
    cases h
    exact ⟨[v], rfl, cst0_sound t x v hc⟩
   ·cases h
 intro t
 induction t with
 | pair a b iha ihb =>
  intro x cs r h
  simp only [cstRd] at h
  cases h1 : cstRd a x.1 cs with
  | none => rw [h1] at h; cases h
  | some r1 =>
   rw [h1] at h
   obtain ⟨c1, rfl, h2⟩ := iha _ _ _ h1
   obtain ⟨c2, rfl, h3⟩ := ihb _ _ _ h
   exact ⟨c1 ++ c2, by simp, by simp only [rd]; exact ⟨c1, c2, rfl, h2, h3⟩⟩
 | unit =>
  intro x cs r h
  simp only [cstRd] at h
  cases h
  exact ⟨[], rfl, by simp only [rd]⟩
 | _ => intro x cs r h; exact one _ x cs r (by simpa only [cstRd] using h)
def cstRdL (t : Ty) : List t.den → List Value → Option (List Value)
 | [], cs => some cs
 | x :: xs, cs => match cstRd t x cs with
  | some r => cstRdL t xs r
  | none => none
theorem cstRdL_sound {w : World} {F : Nat → Prop} (t : Ty) : ∀ (xs : List t.den) (cs r : List Value), cstRdL t xs cs = some r → ∃ c, cs = c ++ r ∧ rdL (rd w F t) xs c
 | [], cs, r, h => by simp only [cstRdL] at h; cases h; exact ⟨[], rfl, rfl⟩
 | x :: xs, cs, r, h => by
  simp only [cstRdL] at h
  cases h1 : cstRd t x cs with
  | none => rw [h1] at h; cases h
  | some r1 =>
   rw [h1] at h
   obtain ⟨c1, rfl, h2⟩ := cstRd_sound t _ _ _ h1
   obtain ⟨c2, rfl, h3⟩ := cstRdL_sound t xs _ _ h
   exact ⟨c1 ++ c2, by simp, c1, c2, rfl, h2, h3⟩
def cstC : List SV → List Value → Bool
 | [], cs => cs.isEmpty
 | x :: r, cs => match x with
  | .arr n t xs => (xs.length == n) && t.flat && (match cstRdL t xs cs with
   | some cs' => cstC r cs'
   | none => false)
  | x => match cs with
   | [] => false
   | v :: cs => cst1 x v && cstC r cs
theorem cstC_sound {E : En} : ∀ (l : List SV) (cs : List Value), cstC l cs = true → denC E l cs
 | [], cs, h => by simp only [cstC, List.isEmpty_iff] at h; simp only [denC]; exact h
 | x :: r, cs, h => by
  have ih := cstC_sound (E := E) r
  by_cases ha : x.isArr = true
  ·cases x <;> simp only [SV.isArr, Bool.false_eq_true] at ha
   rename_i n t xs
   simp only [cstC, Bool.and_eq_true, beq_iff_eq] at h
   obtain ⟨⟨h1, h2⟩, h3⟩ := h
   cases h4 : cstRdL t xs cs with
   | none => rw [h4] at h3; cases h3
   | some cs' =>
    rw [h4] at h3
    obtain ⟨c, rfl, h5⟩ := cstRdL_sound (w := E.w) (F := E.Fz) t _ _ _ h4
    simp only [denC]
    exact ⟨c, cs', rfl, h1, h2, h5, ih _ h3⟩
  ·have ha' : x.isArr = false := by simpa using ha
   rw [denC_cons ha']
   cases cs with
   | nil => cases x <;> simp only [SV.isArr, Bool.true_eq_false] at ha' <;> simp [cstC] at h
   | cons v cs =>
    have h' : (cst1 x v && cstC r cs) = true := by
     cases x <;> simp only [SV.isArr, Bool.true_eq_false] at ha' <;> simpa only [cstC] using h
    simp only [Bool.and_eq_true] at h'
    exact ⟨v, cs, rfl, cst1_sound h'.1, ih _ h'.2⟩
def cst : SV → Value → Bool
 | .agg l, .agg cs => cstC l cs.toList
 | x, v => cst1 x v
theorem cst_sound {E : En} {x : SV} {v : Value} (h : cst x v = true) : den E x v := by
 unfold cst at h
 split at h
 ·simp only [den]; exact ⟨_, rfl, cstC_sound _ _ h⟩
 ·exact cst1_sound h
def okOpd : Operand → Opd → Bool
 | .tmp a, .t b => a == b
 | .const v, .c x => cst x v
 | .func a, .f b => a == b && decide (b < 1000000)
 | _, _ => false
theorem get_sound {E : En} {s : SS} {a : Act} {o : Operand} {x : Opd} (hok : okOpd o x = true) (h : Fr E s.fr a) : den E (s.get x) (a.eval o) := by
 unfold okOpd at hok
 split at hok
 ·have := beq_iff_eq.1 hok
  subst this
  exact h _
 ·exact cst_sound hok
 ·rw [Bool.and_eq_true, decide_eq_true_eq] at hok
  obtain ⟨hok, hlt⟩ := hok
  have := beq_iff_eq.1 hok
  subst this
  simp only [SS.get, den, Act.eval]
  exact ⟨#[], by unfold fnV; rw [if_pos hlt], by simp [denL]⟩
 ·cases hok
end Go.V
namespace Go.V
set_option linter.unusedSimpArgs false
set_option linter.unnecessarySimpa false
set_option linter.unusedVariables false
def agOf (P : Program) (t : TypeId) : Option Bool :=
 match P.underlying t with
 | some (.struct _) => some true
 | some (.array _ _) => some true
 | some _ => some false
 | none => none
def szOf (P : Program) (t : TypeId) : Option Nat := (P.info? t).map (·.size)
def okOpds : List Operand → List Opd → Bool
 | [], [] => true
 | x :: xs, y :: ys => okOpd x y && okOpds xs ys
 | _, _ => false
def okOpdO : Option Operand → Option Opd → Bool
 | none, none => true
 | some x, some y => okOpd x y
 | _, _ => false
def fieldOf (P : Program) (T f : Nat) : Option Field :=
 match P.underlying T with
 | some (.struct fs) => fs[f]?
 | _ => none
def zeroOf (P : Program) (T : TypeId) : Option Value := (P.info? T).bind (·.zero)
def okKind (P : Program) (T : TypeId) : NK → Bool
 | .p => match P.underlying T with | some (.pointer _) => true | _ => false
 | .s => match P.underlying T with | some (.slice _) => true | _ => false
 | .m => match P.underlying T with | some (.map _ _) => true | _ => false
 | .f => match P.underlying T with | some (.func _ _ _) => true | _ => false
 | .i => match P.underlying T with | some .string => true | _ => false
def placesOf (P : Program) (T : TypeId) : Option (List (Nat × Nat)) :=
 match P.underlying T with
 | some (.struct fs) => fs.toList.mapM fun f => (P.info? f.type).map fun i => (f.offset, i.size)
 | _ => none
def okParts (pl : List (Nat × Nat)) : List (Nat × Operand) → List (Nat × Nat × Opd) → Bool
 | [], [] => true
 | (f, x) :: r, (off, n, y) :: r' => pl[f]? == some (off, n) && okOpd x y && okParts pl r r'
 | _, _ => false
def okKey (P : Program) (K : TypeId) (t : Ty) : Bool :=
 match P.underlying K with
 | some (.int k) => decide (t = .int k)
 | some .string => decide (t = .str)
 | some .bool => decide (t = .bool)
 | _ => false
def okZero (P : Program) (T : TypeId) (va : Bool) (t : Ty) : Bool :=
 match zeroOf P T with
 | some (.agg cs) => va && (match cstRd t t.dflt cs.toList with | some [] => true | _ => false)
 | some v => !va && (match cstRd t t.dflt [v] with | some [] => true | _ => false)
 | none => false
def scalOf (P : Program) (T : TypeId) : Ty → Bool
 | .int _ => match P.underlying T with
  | some (.int _) => true
  | _ => false
 | .bool => match P.underlying T with
  | some .bool => true
  | _ => false
 | .str => match P.underlying T with
  | some .string => true
  | _ => false
 | _ => false
def okFl (P : Program) : List Field → List Ty → Nat → Bool
 | [], [], _ => true
 | f :: fs, t :: ts, n => (f.offset == n) && (f.name != "_") && scalOf P f.type t && okFl P fs ts (n + 1)
 | _, _, _ => false
def okFlT (P : Program) (T : TypeId) (ts : List Ty) : Bool :=
 match P.underlying T with
 | some (.struct fs) => okFl P fs.toList ts 0 && !P.stoodInHeld T && !P.eqGuardType P.depth T
 | _ => false
def okArT (P : Program) (T : TypeId) (n : Nat) : Bool :=
 match P.underlying T with
 | some (.array m e) => (m == n) && scalOf P e (.int .i64) && (P.info? e).isSome && (P.cellsOf e == 1) && !P.eqGuardType P.depth T
 | _ => false
def okQ (P : Program) (o : Op) : AOp → Bool
 | .mv y => match o with
  | .move x => okOpd x y
  | .assign x => okOpd x y
  | _ => false
 | .pick c a b => match o with
  | .pick c' a' b' => okOpd c' c && okOpd a' a && okOpd b' b
  | _ => false
 | .nck y => match o with
  | .nilCheck x => okOpd x y
  | _ => false
 | .fld off n y => match o with
  | .field T x f => okOpd x y && (match fieldOf P T f with
   | some fd => fd.offset == off && (match n with
    | none => agOf P fd.type == some false
    | some n => agOf P fd.type == some true && szOf P fd.type == some n)
   | none => false)
  | _ => false
 | .fa off y => match o with
  | .fieldAddr T x f => okOpd x y && (match fieldOf P T f with
   | some fd => fd.offset == off && (match szOf P fd.type with | some n => n != 0 | none => false)
   | none => false)
  | _ => false
 | .ia sz y j => match o with
  | .indexAddr T x i => okOpd x y && okOpd i j && (match P.underlying T with
   | some (.slice e) => szOf P e == some sz
   | _ => false)
  | _ => false
 | .iaP y j => match o with
  | .indexAddr T x i => okOpd x y && okOpd i j && (match P.underlying T with
   | some (.slice e) => szOf P e == some 1
   | _ => false)
  | _ => false
 | .lenP y => match o with
  | .call { callee := .builtin .len, args := args, argTypes := ts } => okOpds args.toList [y] && (match ts.toList with | [T] => okKind P T .s | _ => false)
  | _ => false
 | .iaA len sz y j => match o with
  | .indexAddr T x i => okOpd x y && okOpd i j && (match P.underlying T with
   | some (.array n e) => n == len && szOf P e == some sz
   | _ => false)
  | _ => false
 | .ixS y j => match o with
  | .index T x i => okOpd x y && okOpd i j && okKind P T .i
  | _ => false
 | .ixA len y j => match o with
  | .index T x i => okOpd x y && okOpd i j && (match P.underlying T with
   | some (.array n e) => n == len && szOf P e == some 1 && agOf P e == some false
   | _ => false)
  | _ => false
 | .ld y => match o with
  | .load T x => okOpd x y && agOf P T == some false
  | _ => false
 | .ldA n y => match o with
  | .load T x => okOpd x y && agOf P T == some true && szOf P T == some n
  | _ => false
 | .bin op y z => match o with
  | .binOp op' T x x' _ => decide (op' = op) && okOpd x y && okOpd x' z
  | _ => false
 | .binB ng y z => match o with
  | .binOp op' T x x' _ => decide (op' = if ng then .neq else .eql) && okOpd x y && okOpd x' z && (match P.underlying T with | some .bool => true | _ => false)
  | _ => false
 | .eqS ng ts y z => match o with
  | .binOp op' T x x' _ => decide (op' = if ng then .neq else .eql) && okOpd x y && okOpd x' z && okFlT P T ts
  | _ => false
 | .eqR ng n y z => match o with
  | .binOp op' T x x' _ => decide (op' = if ng then .neq else .eql) && okOpd x y && okOpd x' z && okArT P T n
  | _ => false
 | .eqn ng k y z => match o with
  | .binOp op' T x x' _ => decide (op' = if ng then .neq else .eql) && okOpd x y && okOpd x' z && okKind P T k
  | _ => false
 | .not y => match o with
  | .unOp .not _ x => okOpd x y
  | _ => false
 | .neg y => match o with
  | .unOp .neg _ x => okOpd x y
  | _ => false
 | .cv k y => match o with
  | .convert S D x => okOpd x y && (P.underlying S).isSome && (match P.underlying D with | some (.int k') => decide (k' = k) | _ => false)
  | _ => false
 | .cvS y => match o with
  | .convert S D x => okOpd x y && okKind P S .i && okKind P D .i
  | _ => false
 | .b2s y => match o with
  | .convert S D x => okOpd x y && okKind P D .i && (match P.underlying S with
   | some (.slice e) => (match P.underlying e with | some (.int .u8) => true | _ => false)
   | _ => false)
  | _ => false
 | .ext y i => match o with
  | .extract x j => okOpd x y && i == j
  | _ => false
 | .len k y => match o with
  | .call { callee := .builtin .len, args := args, argTypes := ts } => okOpds args.toList [y] && (match ts.toList with | [T] => okKind P T k | _ => false)
  | _ => false
 | .mm mx y z => match o with
  | .call { callee := .builtin b, args := args, argTypes := _ } => okOpds args.toList [y, z] && (match b with | .max => mx | .min => !mx | _ => false)
  | _ => false
 | .lk va kt vt ok y k => match o with
  | .lookup T x i c => okOpd x y && okOpd i k && c == ok && (match P.underlying T with
   | some (.map K V) => okKey P K kt && okZero P V va vt
   | _ => false)
  | _ => false
 | .bld zs ps => match o with
  | .build T parts => (match placesOf P T with
   | some pl => okParts pl parts.toList ps
   | none => false) && (match zeroOf P T with
   | some z => cstC zs z.cells.toList
   | none => false)
  | _ => false
 | .bldA zs n t ps => match o with
  | .build T parts => (match P.underlying T with
   | some (.array _ e) => (match szOf P e with
    | some sz => okParts ((List.range n).map fun i => (i * sz, sz)) parts.toList ps
    | none => false)
   | _ => false) && (match zeroOf P T with
   | some z => cstC zs z.cells.toList
   | none => false)
  | _ => false
 | .mkf f caps => match o with
  | .makeFunc (.func g) first cs => if f < 1000000 then g == f && first.isEmpty && okOpds cs.toList caps else g == f % 1000000 && cs.isEmpty && okOpds first.toList caps
  | _ => false
 | .slS y lo hi => match o with
  | .slice T x l h m => okOpd x y && okOpdO l lo && okOpdO h hi && m.isNone && okKind P T .i
  | _ => false
 | .slR sz y lo hi => match o with
  | .slice T x l h m => okOpd x y && okOpdO l lo && okOpdO h hi && m.isNone && (match P.underlying T with
   | some (.slice e) => szOf P e == some sz
   | _ => false)
  | _ => false
 | _ => false
section quiet
variable {P : Program} {o : Oper} {s : SS} {E : En} {a : Act} {q : QR}
def Comes1 (P : Program) (o : Oper) (a : Act) (E : En) (q : QR) : Prop := q.hyp ∧ ∃ v, (execOp a.eval o).run P E.w = .ok (.value v) E.w ∧ den E q.val v
theorem q_mv {y : Opd} (hok : okQ P o.op (.mv y) = true) (hf : Fr E s.fr a) (he : ev (.mv y) s = some q) : Comes1 P o a E q := by
 simp only [ev] at he; cases he
 refine ⟨trivial, ?_⟩
 cases ho : o.op <;> simp only [okQ, ho] at hok <;> first | cases hok | skip
 all_goals exact ⟨_, by simp [execOp, ho], get_sound hok hf⟩
theorem q_pick {c x y : Opd} (hok : okQ P o.op (.pick c x y) = true) (hf : Fr E s.fr a) (he : ev (.pick c x y) s = some q) : Comes1 P o a E q := by
 cases ho : o.op <;> simp only [okQ, ho] at hok <;> first | cases hok | skip
 rename_i c' x' y'
 simp only [Bool.and_eq_true] at hok
 obtain ⟨⟨h1, h2⟩, h3⟩ := hok
 have g1 := get_sound h1 hf
 have g2 := get_sound h2 hf
 have g3 := get_sound h3 hf
 simp only [ev] at he
 split at he
 ·rename_i b hb
  cases he
  rw [hb] at g1
  simp only [den] at g1
  refine ⟨trivial, if b then a.eval x' else a.eval y', by simp [execOp, ho, g1, asBool], ?_⟩
  simp only [pickV]
  split
  ·rename_i p r hp hr
   rw [hp] at g2; rw [hr] at g3
   simp only [den] at g2 g3 ⊢
   rw [g2, g3]
   cases b <;> rfl
  ·cases b
   ·exact g3
   ·exact g2
 ·cases he
end quiet
end Go.V
