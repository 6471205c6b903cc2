/- The symbolic values of the proof layer, and what they say of a world. -/
import Derived.Tactics
import Derived.Orders
import Derived.Laws.Append
import Derived.Laws.CopyRow
import Derived.Laws.AppendOwn
import Derived.Laws.Strings
import Derived.Laws.BytesArg
import Derived.MapKept
namespace Go.V
set_option linter.unusedSimpArgs false
set_option linter.unnecessarySimpa false
set_option linter.unusedVariables false

/-- The types of plain values, as the layer sees them. 'sl eb t': a slice of elements t, eb bytes each. -/
inductive Ty where
  | int (k : IntKind) | byte | bool | str | sl (eb : Nat) (t : Ty) | pair (a b : Ty) | unit
  deriving DecidableEq

@[reducible] def Ty.den : Ty → Type
  | .int _ => Int
  | .byte => UInt8
  | .bool => Bool
  | .str => ByteArray
  | .sl _ t => List t.den
  | .pair a b => a.den × b.den
  | .unit => Unit

def Ty.size : Ty → Nat
  | .pair a b => a.size + b.size
  | .unit => 0
  | _ => 1

def Ty.dflt : (t : Ty) → t.den
  | .int _ => (0 : Int)
  | .byte => (0 : UInt8)
  | .bool => false
  | .str => ByteArray.empty
  | .sl _ _ => []
  | .pair a b => (a.dflt, b.dflt)
  | .unit => ()

def Ty.flat : Ty → Bool
  | .sl _ _ => false
  | .pair a b => a.flat && b.flat
  | _ => true

/-- A list of readings, one behind the other. -/
def rdL {α : Type} (R : α → List Value → Prop) : List α → List Value → Prop
  | [], cs => cs = []
  | x :: xs, cs => ∃ c1 c2, cs = c1 ++ c2 ∧ R x c1 ∧ rdL R xs c2

/-- A slice that is read, in blocks of F. -/
def slv {α : Type} (w : World) (F : Nat → Prop) (R : α → List Value → Prop) (eb sz : Nat) (xs : List α) (v : Value) : Prop :=
  (xs = [] ∧ ∃ a c, v = .slice a 0 c ∧ c ≤ maxLen ∧ (a = none → c = 0)) ∨
  ∃ b off cap cur E fr cs, v = .slice (some ⟨b, off, none⟩) xs.length cap ∧ F b ∧ w.heap[b]? = some (.cells cur E fr) ∧ xs.length ≤ cap ∧ cap ≤ maxLen ∧
    xs.length * eb ≤ 140737488355328 ∧ (cur.toList.drop off).take (xs.length * sz) = cs ∧ rdL R xs cs

def rd (w : World) (F : Nat → Prop) : (t : Ty) → t.den → List Value → Prop
  | .int k, n, cs => cs = [.int k n] ∧ k.min ≤ n ∧ n ≤ k.max
  | .byte, b, cs => cs = [.int .u8 b.toNat]
  | .bool, b, cs => cs = [.bool b]
  | .str, s, cs => cs = [.string s] ∧ s.size ≤ maxLen
  | .sl eb t, xs, cs => ∃ v, cs = [v] ∧ slv w F (rd w F t) eb t.size xs v
  | .pair a b, x, cs => ∃ c1 c2, cs = c1 ++ c2 ∧ rd w F a x.1 c1 ∧ rd w F b x.2 c2
  | .unit, _, cs => cs = []

theorem rdL_length {α : Type} {R : α → List Value → Prop} {n : Nat} (h : ∀ x c, R x c → c.length = n) : ∀ (xs : List α) (cs : List Value), rdL R xs cs → cs.length = xs.length * n
  | [], cs, hc => by simp only [rdL] at hc; subst hc; simp
  | x :: xs, cs, hc => by
    obtain ⟨c1, c2, rfl, h1, h2⟩ := hc
    rw [List.length_append, h x c1 h1, rdL_length h xs c2 h2, List.length_cons, Nat.succ_mul]; omega

theorem rd_length {w : World} {F : Nat → Prop} : ∀ (t : Ty) (x : t.den) (cs : List Value), rd w F t x cs → cs.length = t.size
  | .int _, _, cs, h => by simp only [rd] at h; obtain ⟨rfl, _⟩ := h; rfl
  | .byte, _, cs, h => by simp only [rd] at h; subst h; rfl
  | .bool, _, cs, h => by simp only [rd] at h; subst h; rfl
  | .str, _, cs, h => by simp only [rd] at h; obtain ⟨rfl, _⟩ := h; rfl
  | .sl _ _, _, cs, h => by simp only [rd] at h; obtain ⟨v, rfl, _⟩ := h; rfl
  | .pair a b, x, cs, h => by
    simp only [rd] at h
    obtain ⟨c1, c2, rfl, h1, h2⟩ := h
    rw [List.length_append, rd_length a _ _ h1, rd_length b _ _ h2]; rfl
  | .unit, _, cs, h => by simp only [rd] at h; subst h; rfl

theorem rdL_mono {α : Type} {R R' : α → List Value → Prop} (h : ∀ x c, R x c → R' x c) : ∀ (xs : List α) (cs : List Value), rdL R xs cs → rdL R' xs cs
  | [], _, hc => hc
  | x :: xs, cs, hc => by
    obtain ⟨c1, c2, rfl, h1, h2⟩ := hc
    exact ⟨c1, c2, rfl, h _ _ h1, rdL_mono h xs c2 h2⟩

theorem slv_mono {α : Type} {w w' : World} {F F' : Nat → Prop} {R R' : α → List Value → Prop} {eb sz : Nat} {xs : List α} {v : Value}
    (hF : ∀ b, F b → F' b) (hw : ∀ b, F b → w'.heap[b]? = w.heap[b]?) (hR : ∀ x c, R x c → R' x c) (h : slv w F R eb sz xs v) : slv w' F' R' eb sz xs v := by
  rcases h with h | ⟨b, off, cap, cur, E, fr, cs, h1, h2, h3, h4, h5, h6, h7, h8⟩
  · exact .inl h
  · exact .inr ⟨b, off, cap, cur, E, fr, cs, h1, hF b h2, (hw b h2).trans h3, h4, h5, h6, h7, rdL_mono hR _ _ h8⟩

theorem rd_mono {w w' : World} {F F' : Nat → Prop} (hF : ∀ b, F b → F' b) (hw : ∀ b, F b → w'.heap[b]? = w.heap[b]?) : ∀ (t : Ty) (x : t.den) (cs : List Value), rd w F t x cs → rd w' F' t x cs
  | .int _, _, cs, h => by simp only [rd] at h ⊢; exact h
  | .byte, _, cs, h => by simp only [rd] at h ⊢; exact h
  | .bool, _, cs, h => by simp only [rd] at h ⊢; exact h
  | .str, _, cs, h => by simp only [rd] at h ⊢; exact h
  | .sl _ t, _, cs, h => by
    simp only [rd] at h ⊢
    obtain ⟨v, rfl, hs⟩ := h
    exact ⟨v, rfl, slv_mono hF hw (fun x c hx => rd_mono hF hw t x c hx) hs⟩
  | .pair a b, x, cs, h => by
    simp only [rd] at h ⊢
    obtain ⟨c1, c2, rfl, h1, h2⟩ := h
    exact ⟨c1, c2, rfl, rd_mono hF hw a _ _ h1, rd_mono hF hw b _ _ h2⟩
  | .unit, _, cs, h => by simp only [rd] at h ⊢; exact h

/-- A flat value is read of no memory at all. -/
theorem rd_flat {w w' : World} {F F' : Nat → Prop} : ∀ (t : Ty) (_ : t.flat = true) (x : t.den) (cs : List Value), rd w F t x cs → rd w' F' t x cs
  | .int _, _, _, cs, h => by simp only [rd] at h ⊢; exact h
  | .byte, _, _, cs, h => by simp only [rd] at h ⊢; exact h
  | .bool, _, _, cs, h => by simp only [rd] at h ⊢; exact h
  | .str, _, _, cs, h => by simp only [rd] at h ⊢; exact h
  | .sl _ t, hf, _, cs, h => by simp [Ty.flat] at hf
  | .pair a b, hf, x, cs, h => by
    simp only [rd] at h ⊢
    simp only [Ty.flat, Bool.and_eq_true] at hf
    obtain ⟨c1, c2, rfl, h1, h2⟩ := h
    exact ⟨c1, c2, rfl, rd_flat a hf.1 _ _ h1, rd_flat b hf.2 _ _ h2⟩
  | .unit, _, _, cs, h => by simp only [rd] at h ⊢; exact h

/-- A symbolic value. 'ptr i off', 'own i', 'vw i ..', 'el i ..', 'mp i' speak of the resource i. -/
inductive SV where
  | int (k : IntKind) (n : Int)
  | bool (b : Bool)
  | str (s : ByteArray)
  | sl (p : Bool) (eb : Nat) (t : Ty) (xs : List t.den)
  | nilp | nils | nilm | nilf | nili
  | ptr (i off : Nat)
  | own (i : Nat)
  | vw (i lo hi sz : Nat)
  | mp (i : Nat)
  | el (i n sz off : Nat)
  | rel (p : Bool) (eb : Nat) (t : Ty) (xs : List t.den) (n off : Nat)
  | ptrA (i off n sz : Nat)
  | arr (n : Nat) (t : Ty) (xs : List t.den)
  | agg (l : List SV)
  | tup (l : List SV)
  | fn (f : Nat) (caps : List SV)
  | junk1
  | junk

/-- A resource: a struct's cells, a row that is owned, a map that is owned, or none any more. -/
inductive SB where
  | struct (cells : List SV)
  | row (mv : Bool) (eb : Nat) (t : Ty) (xs : List t.den)
  | map (va : Bool) (kt vt : Ty) (m : List (kt.den × vt.den))
  | gone

/-- Where a resource lies: its block, and (of a row) the slice's value. -/
structure RV where
  blk : Option Nat
  val : Value

structure En where
  N : Nat
  ρ : Nat → RV
  w : World
  Fz : Nat → Prop
  B : Nat → Prop

/-- The blocks that a reading may lie in: frozen ones; borrowed ones too, where p is false. -/
def En.F (E : En) (p : Bool) : Nat → Prop := fun b => E.Fz b ∨ (p = false ∧ E.B b)

mutual
def den (E : En) : SV → Value → Prop
  | .int k n, v => v = .int k n ∧ k.min ≤ n ∧ n ≤ k.max
  | .bool b, v => v = .bool b
  | .str s, v => v = .string s ∧ s.size ≤ maxLen
  | .sl p eb t xs, v => slv E.w (E.F p) (rd E.w (E.F p) t) eb t.size xs v
  | .nilp, v => v = .pointer none
  | .nils, v => v = .slice none 0 0
  | .nilm, v => v = .map none
  | .nilf, v => v = .nilFunc
  | .nili, v => v = .nilIface
  | .ptr i off, v => i < E.N ∧ ∃ b, (E.ρ i).blk = some b ∧ v = .pointer (some ⟨b, off, none⟩)
  | .own i, v => i < E.N ∧ v = (E.ρ i).val ∧ v.oneCell' = true
  | .vw i lo hi sz, v => i < E.N ∧ lo ≤ hi ∧ ((lo = 0 ∧ hi = 0 ∧ ∃ ad, (E.ρ i).val = .slice ad 0 0 ∧ v = .slice ad 0 0) ∨
      ∃ b o l c, (E.ρ i).val = .slice (some ⟨b, o, none⟩) l c ∧ hi ≤ l ∧ ∃ ad, v = .slice (some ad) (hi - lo) (c - lo) ∧ (c ≠ lo → ad = ⟨b, o + lo * sz, none⟩))
  | .mp i, v => i < E.N ∧ ∃ b, (E.ρ i).blk = some b ∧ v = .map (some b)
  | .el i n sz off, v => i < E.N ∧ ∃ b o l c, (E.ρ i).val = .slice (some ⟨b, o, none⟩) l c ∧ v = .pointer (some ⟨b, o + (n * sz + off), none⟩)
  | .rel p eb t xs n off, v => ∃ vs b o l c, slv E.w (E.F p) (rd E.w (E.F p) t) eb t.size xs vs ∧ vs = .slice (some ⟨b, o, none⟩) l c ∧ v = .pointer (some ⟨b, o + (n * t.size + off), none⟩)
  | .ptrA i off n sz, v => i < E.N ∧ ∃ b, (E.ρ i).blk = some b ∧ v = .pointer (some ⟨b, off + n * sz, none⟩)
  | .arr _ _ _, _ => False
  | .agg l, v => ∃ cs, v = .agg cs ∧ denC E l cs.toList
  | .tup l, v => ∃ vs, v = .tuple vs ∧ denL E l vs.toList
  | .fn f caps, v => ∃ cs, v = .func (.func f) #[] cs ∧ denL E caps cs.toList
  | .junk1, v => v.oneCell' = true
  | .junk, _ => True
/-- Cells behind one another; an array has as many as it has. -/
def denC (E : En) : List SV → List Value → Prop
  | [], cs => cs = []
  | x :: r, cs => match x with
    | .arr n t xs => ∃ c1 c2, cs = c1 ++ c2 ∧ xs.length = n ∧ t.flat = true ∧ rdL (rd E.w E.Fz t) xs c1 ∧ denC E r c2
    | x => ∃ v c2, cs = v :: c2 ∧ den E x v ∧ denC E r c2
def denL (E : En) : List SV → List Value → Prop
  | [], vs => vs = []
  | x :: r, vs => ∃ v r', vs = v :: r' ∧ den E x v ∧ denL E r r'
end

mutual
def SV.ren (f : Nat → Option Nat) : SV → SV
  | .ptr i off => match f i with | some j => .ptr j off | none => .junk1
  | .own i => match f i with | some j => .own j | none => .junk1
  | .vw i lo hi sz => match f i with | some j => .vw j lo hi sz | none => .junk1
  | .mp i => match f i with | some j => .mp j | none => .junk1
  | .el i n sz off => match f i with | some j => .el j n sz off | none => .junk1
  | .ptrA i off n sz => match f i with | some j => .ptrA j off n sz | none => .junk1
  | .agg l => .agg (SV.renL f l)
  | .tup l => .tup (SV.renL f l)
  | .fn g caps => .fn g (SV.renL f caps)
  | x => x
def SV.renL (f : Nat → Option Nat) : List SV → List SV
  | [] => []
  | x :: r => x.ren f :: SV.renL f r
end

def SB.ren (f : Nat → Option Nat) : SB → SB
  | .struct cells => .struct (SV.renL f cells)
  | x => x

def SV.isArr : SV → Bool
  | .arr _ _ _ => true
  | _ => false

theorem SV.isArr_ren (f : Nat → Option Nat) (x : SV) : (x.ren f).isArr = x.isArr := by
  cases x <;> simp only [SV.ren] <;> first | rfl | (split <;> rfl)

theorem denC_cons {E : En} {x : SV} {r : List SV} {cs : List Value} (h : x.isArr = false) : denC E (x :: r) cs ↔ ∃ v c2, cs = v :: c2 ∧ den E x v ∧ denC E r c2 := by
  cases x <;> first | (simp only [denC]; done) | (simp [SV.isArr] at h)

/-- What E says E' says too, the resources renamed by f. -/
structure Ren (E E' : En) (f : Nat → Option Nat) : Prop where
  idx : ∀ i j, i < E.N → f i = some j → j < E'.N ∧ E'.ρ j = E.ρ i
  fz : ∀ b, E.Fz b → E'.Fz b
  bo : ∀ b, E.B b → E'.B b ∨ E'.Fz b
  mem : ∀ b, E.Fz b ∨ E.B b → E'.w.heap[b]? = E.w.heap[b]?

theorem Ren.F {E E' : En} {f : Nat → Option Nat} (h : Ren E E' f) (p : Bool) : ∀ b, E.F p b → E'.F p b := by
  rintro b (hb | ⟨hp, hb⟩)
  · exact .inl (h.fz b hb)
  · rcases h.bo b hb with h' | h'
    · exact .inr ⟨hp, h'⟩
    · exact .inl h'
theorem Ren.memF {E E' : En} {f : Nat → Option Nat} (h : Ren E E' f) (p : Bool) : ∀ b, E.F p b → E'.w.heap[b]? = E.w.heap[b]? :=
  fun b hb => h.mem b (hb.imp id And.right)

mutual
theorem den_ren {E E' : En} {f : Nat → Option Nat} (h : Ren E E' f) : ∀ (x : SV) (v : Value), den E x v → den E' (x.ren f) v
  | .int _ _, v, hv => by simp only [den, SV.ren] at hv ⊢; exact hv
  | .bool _, v, hv => by simp only [den, SV.ren] at hv ⊢; exact hv
  | .str _, v, hv => by simp only [den, SV.ren] at hv ⊢; exact hv
  | .sl p eb t xs, v, hv => by
    simp only [den, SV.ren] at hv ⊢
    exact slv_mono (h.F p) (h.memF p) (fun x c hx => rd_mono (h.F p) (h.memF p) t x c hx) hv
  | .nilp, v, hv => by simp only [den, SV.ren] at hv ⊢; exact hv
  | .nils, v, hv => by simp only [den, SV.ren] at hv ⊢; exact hv
  | .nilm, v, hv => by simp only [den, SV.ren] at hv ⊢; exact hv
  | .nilf, v, hv => by simp only [den, SV.ren] at hv ⊢; exact hv
  | .nili, v, hv => by simp only [den, SV.ren] at hv ⊢; exact hv
  | .ptr i off, v, hv => by
    simp only [den, SV.ren] at hv ⊢
    cases hf : f i with
    | none => simp only [den]; obtain ⟨_, b, _, rfl⟩ := hv; rfl
    | some j => simp only [den]; obtain ⟨hj, he⟩ := h.idx i j hv.1 hf; rw [he]; exact ⟨hj, hv.2⟩
  | .own i, v, hv => by
    simp only [den, SV.ren] at hv ⊢
    cases hf : f i with
    | none => simp only [den]; exact hv.2.2
    | some j => simp only [den]; obtain ⟨hj, he⟩ := h.idx i j hv.1 hf; rw [he]; exact ⟨hj, hv.2⟩
  | .vw i lo hi sz, v, hv => by
    simp only [den, SV.ren] at hv ⊢
    cases hf : f i with
    | none => simp only [den]; rcases hv.2.2 with ⟨_, _, _, _, rfl⟩ | ⟨b, o, l, c, _, _, ad, rfl, _⟩ <;> rfl
    | some j => simp only [den]; obtain ⟨hj, he⟩ := h.idx i j hv.1 hf; rw [he]; exact ⟨hj, hv.2⟩
  | .mp i, v, hv => by
    simp only [den, SV.ren] at hv ⊢
    cases hf : f i with
    | none => simp only [den]; obtain ⟨_, b, _, rfl⟩ := hv; rfl
    | some j => simp only [den]; obtain ⟨hj, he⟩ := h.idx i j hv.1 hf; rw [he]; exact ⟨hj, hv.2⟩
  | .el i n sz off, v, hv => by
    simp only [den, SV.ren] at hv ⊢
    cases hf : f i with
    | none => simp only [den]; obtain ⟨_, b, o, l, c, _, rfl⟩ := hv; rfl
    | some j => simp only [den]; obtain ⟨hj, he⟩ := h.idx i j hv.1 hf; rw [he]; exact ⟨hj, hv.2⟩
  | .ptrA i off n sz, v, hv => by
    simp only [den, SV.ren] at hv ⊢
    cases hf : f i with
    | none => simp only [den]; obtain ⟨_, b, _, rfl⟩ := hv; rfl
    | some j => simp only [den]; obtain ⟨hj, he⟩ := h.idx i j hv.1 hf; rw [he]; exact ⟨hj, hv.2⟩
  | .rel p eb t xs n off, v, hv => by
    simp only [den, SV.ren] at hv ⊢
    obtain ⟨vs, b, o, l, c, h1, h2, h3⟩ := hv
    exact ⟨vs, b, o, l, c, slv_mono (h.F p) (h.memF p) (fun x c hx => rd_mono (h.F p) (h.memF p) t x c hx) h1, h2, h3⟩
  | .arr _ _ _, v, hv => by simp only [den] at hv
  | .agg l, v, hv => by
    simp only [den, SV.ren] at hv ⊢
    obtain ⟨cs, rfl, hc⟩ := hv
    exact ⟨cs, rfl, denC_ren h l _ hc⟩
  | .tup l, v, hv => by
    simp only [den, SV.ren] at hv ⊢
    obtain ⟨cs, rfl, hc⟩ := hv
    exact ⟨cs, rfl, denL_ren h l _ hc⟩
  | .fn g caps, v, hv => by
    simp only [den, SV.ren] at hv ⊢
    obtain ⟨cs, rfl, hc⟩ := hv
    exact ⟨cs, rfl, denL_ren h caps _ hc⟩
  | .junk1, v, hv => by simp only [den, SV.ren] at hv ⊢; exact hv
  | .junk, v, hv => by simp only [den, SV.ren]
theorem denC_ren {E E' : En} {f : Nat → Option Nat} (h : Ren E E' f) : ∀ (l : List SV) (cs : List Value), denC E l cs → denC E' (SV.renL f l) cs
  | [], cs, hc => by simp only [denC, SV.renL] at hc ⊢; exact hc
  | x :: r, cs, hc => by
    have ih := denC_ren h r
    have ihx := den_ren h x
    by_cases ha : x.isArr = true
    · cases x <;> simp only [SV.isArr, Bool.false_eq_true] at ha
      simp only [denC, SV.renL, SV.ren] at hc ⊢
      obtain ⟨c1, c2, h1, h2, h3, h4, h5⟩ := hc
      exact ⟨c1, c2, h1, h2, h3, rdL_mono (fun x c hx => rd_flat _ h3 x c hx) _ _ h4, ih c2 h5⟩
    · have ha' : x.isArr = false := by simpa using ha
      rw [denC_cons ha'] at hc
      obtain ⟨v, c2, h1, h2, h3⟩ := hc
      simp only [SV.renL]
      rw [denC_cons (by rw [SV.isArr_ren]; exact ha')]
      exact ⟨v, c2, h1, ihx v h2, ih c2 h3⟩
theorem denL_ren {E E' : En} {f : Nat → Option Nat} (h : Ren E E' f) : ∀ (l : List SV) (cs : List Value), denL E l cs → denL E' (SV.renL f l) cs
  | [], cs, hc => by simp only [denL, SV.renL] at hc ⊢; exact hc
  | x :: r, cs, hc => by
    simp only [denL, SV.renL] at hc ⊢
    obtain ⟨v, r', rfl, h1, h2⟩ := hc
    exact ⟨v, r', rfl, den_ren h x v h1, denL_ren h r r' h2⟩
end

mutual
theorem SV.ren_some : ∀ x : SV, x.ren some = x
  | .int _ _ => by simp only [SV.ren]
  | .bool _ => by simp only [SV.ren]
  | .str _ => by simp only [SV.ren]
  | .sl _ _ _ _ => by simp only [SV.ren]
  | .nilp => by simp only [SV.ren]
  | .nils => by simp only [SV.ren]
  | .nilm => by simp only [SV.ren]
  | .nilf => by simp only [SV.ren]
  | .nili => by simp only [SV.ren]
  | .ptr _ _ => by simp only [SV.ren]
  | .own _ => by simp only [SV.ren]
  | .vw _ _ _ _ => by simp only [SV.ren]
  | .mp _ => by simp only [SV.ren]
  | .el _ _ _ _ => by simp only [SV.ren]
  | .rel _ _ _ _ _ _ => by simp only [SV.ren]
  | .ptrA _ _ _ _ => by simp only [SV.ren]
  | .arr _ _ _ => by simp only [SV.ren]
  | .agg l => by simp only [SV.ren, SV.renL_some l]
  | .tup l => by simp only [SV.ren, SV.renL_some l]
  | .fn _ l => by simp only [SV.ren, SV.renL_some l]
  | .junk1 => by simp only [SV.ren]
  | .junk => by simp only [SV.ren]
theorem SV.renL_some : ∀ l : List SV, SV.renL some l = l
  | [] => by simp only [SV.renL]
  | x :: r => by simp only [SV.renL, SV.ren_some x, SV.renL_some r]
end
theorem SB.ren_some (s : SB) : s.ren some = s := by cases s <;> simp [SB.ren, SV.renL_some]

end Go.V
