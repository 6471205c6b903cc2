/- From a given statement's arguments to the layer's; and back. -/
import Derived.Test.YthfkoeoaehkoaaaGreatDoorVE
import Derived.WalkKit
import Derived.ProofKit
import Derived.OpenShut
import Derived.Deep.DeepHandedRow
import Derived.KernelRfl
import Derived.RowKit
namespace Go.V
set_option linter.unusedSimpArgs false
set_option linter.unnecessarySimpa false
open Go.ChangeShapes Go.WideShapes Go.ChangeAt Go.RowKit
set_option linter.unusedVariables false
def bk : (t : Ty) → t.den → Nat
 | .str, s => (s : ByteArray).size + 1
 | .sl _ t, xs => 1 + ((xs : List t.den).map (bk t)).sum
 | .pair a b, x => bk a x.1 + bk b x.2
 | .unit, _ => 0
 | .any1, _ => 0
 | _, _ => 1
structure BulkOk {H : Type} (B : DataW H → Nat) : Prop where
 lit : ∀ l, 1 ≤ B (.lit l)
 str : ∀ s, s.length + 1 ≤ B (.lit (.string s))
 nil : 1 ≤ B .nil
 slice : ∀ es sp, 1 + (es.map B).sum ≤ B (.slice es sp)
 agg : ∀ ds, (ds.map B).sum ≤ B (.agg ds)
def okFs (P : Program) (ok : TypeId → Ty → Bool) : Nat → List Field → Ty → Bool
 | _, [], t => t == .unit
 | off, f :: r, t => match r with
  | [] => f.offset == off && P.cellsOf f.type == t.size && ok f.type t
  | g :: r' => match t with
   | .pair a b => f.offset == off && P.cellsOf f.type == a.size && ok f.type a && okFs P ok (off + a.size) (g :: r') b
   | _ => false
def okTy (P : Program) : Nat → TypeId → Ty → Bool
 | 0, _, _ => false
 | n + 1, T, t => match P.underlying T with
  | some .bool => t == .bool
  | some (.int k) => match t with
   | .int k' => k == k'
   | .byte => k == .u8
   | _ => false
  | some .string => t == .str
  | some (.slice e) => match t with
   | .sl eb t' => okTy P n e t' && P.bytesOf e == eb && P.cellsOf e == t'.size && t'.size != 0 && eb != 0
   | _ => false
  | some (.struct fs) => P.cellsOf T == t.size && okFs P (okTy P n) 0 fs.toList t
  | _ => false
section
variable {H : Type} {enc : TypeId × Value → H} {P : Program} {W : World}
theorem mapM_imp {α β : Type} {f g : α → Option β} : ∀ {l : List α} {ys : List β}, l.mapM f = some ys → (∀ x ∈ l, ∀ y ∈ ys, f x = some y → g x = some y) → l.mapM g = some ys
 | [], ys, h, _ => by simpa using h
 | x :: l, ys, h, hi => by
  rw [List.mapM_cons] at h ⊢
  cases hx : f x with
  | none => rw [hx] at h; cases h
  | some y =>
   rw [hx] at h
   simp only [Option.bind_eq_bind, Option.bind_some] at h
   cases hl : l.mapM f with
   | none => rw [hl] at h; cases h
   | some zs =>
    rw [hl] at h
    simp only [Option.bind_some, Option.pure_def, Option.some.injEq] at h
    subst h
    rw [hi x (by simp) y (by simp) hx]
    rw [mapM_imp hl (fun a ha b hb => hi a (List.mem_cons_of_mem _ ha) b (List.mem_cons_of_mem _ hb))]
    rfl
def Kept (W W' : World) : Prop := ∀ b, b < W.heap.size → W'.heap[b]? = W.heap[b]?
theorem Kept.cell {W W' : World} (h : Kept W W') {a : Addr} {v : Value} (hc : W.cell? a = some v) : W'.cell? a = some v := by
 have hlt : a.block < W.heap.size := by
  unfold World.cell? at hc
  split at hc
  ·rename_i hb; exact (Array.getElem?_eq_some_iff.1 hb).1
  ·cases hc
 unfold World.cell? at hc ⊢
 rw [h _ hlt]; exact hc
theorem Kept.cells {W W' : World} (h : Kept W W') {base : Nat} {a : Addr} {n : Nat} {cs : List Value} (hc : W.cells? base a n = some cs) : W'.cells? base a n = some cs := by
 unfold World.cells? at hc ⊢
 split at hc
 ·rename_i hb
  rw [if_pos hb]
  exact mapM_imp hc (fun x _ y _ hy => h.cell hy)
 ·cases hc
def rch : (t : Ty) → t.den → Prop
 | .sl eb _, xs => xs.length * eb ≤ reachBytes
 | .pair a b, x => rch a x.1 ∧ rch b x.2
 | .int _, _ => True
 | .byte, _ => True
 | .bool, _ => True
 | .str, _ => True
 | .unit, _ => True
 | .any1, _ => True
def Opens (enc : TypeId × Value → H) (P : Program) (W : World) (fuel : Nat) (T : TypeId) (t : Ty) (cs : List Value) (d : DataW H) (ps : List MemPlace) : Prop :=
 (∃ x : t.den, (rd W (fun b => b < W.heap.size) t x cs ∧ rch t x) ∧ ∀ B : DataW H → Nat, BulkOk B → bk t x ≤ B d) ∧
 ∀ (W' : World) (sp : Nat → Bool), Kept W W' → (∀ p ∈ ps, sp p.block = true) → DataW.trod enc P W' 0 sp true fuel T cs = some (d, ps)
theorem addr_plain (a : Addr) (h : a.spot = none) : a = ⟨a.block, a.off, none⟩ := by cases a; cases h; rfl
theorem add_none (b off i : Nat) : (⟨b, off, none⟩ : Addr).add i = ⟨b, off + i, none⟩ := by
 unfold Addr.add; split <;> simp_all
theorem cells_at {cur : Array Value} {E : TypeId} {fr : Nat × Nat} {b off n : Nat} {cs : List Value} (hb : W.heap[b]? = some (.cells cur E fr)) (h : W.cells? 0 ⟨b, off, none⟩ n = some cs) : cs = (cur.toList.drop off).take n := by
 obtain ⟨_, hl, hc⟩ := World.cells?_some h
 apply List.ext_getElem?
 intro i
 by_cases hi : i < n
 ·rw [← hc i hi, add_none]
  simp [World.cell?, hb, List.getElem?_take, hi]
 ·rw [List.getElem?_eq_none (by omega), List.getElem?_eq_none (by simp; omega)]
theorem weightsAll_mem {P : Program} {e : TypeId} {n : Nat} : ∀ {l : List (DataW H)} {d : DataW H}, d ∈ l → n ∈ d.weights P e → n ∈ DataW.weightsAll P e l
 | x :: r, d, h, hn => by
  simp only [DataW.weightsAll, List.mem_append]
  rcases List.mem_cons.1 h with rfl | h
  ·exact .inl hn
  ·exact .inr (weightsAll_mem h hn)
theorem openS {P : Program} {n : Nat} {fuel : Nat} (ih : ∀ (T : TypeId) (t : Ty) (cs : List Value) (d : DataW H) (ps : List MemPlace), okTy P n T t = true → DataW.trod enc P W 0 (fun _ => true) true fuel T cs = some (d, ps) → (∀ k ∈ d.weights P T, k ≤ reachBytes) → Opens enc P W fuel T t cs d ps) :
  ∀ (fs : List Field) (off : Nat) (t : Ty) (cs : List Value) (xs : List (DataW H × List MemPlace)), okFs P (okTy P n) off fs t = true → off + t.size = cs.length →
   fs.mapM (fun f => DataW.trod enc P W 0 (fun _ => true) true fuel f.type ((cs.drop f.offset).take (P.cellsOf f.type))) = some xs → (∀ k ∈ DataW.weightsEach P (fs.map (·.type)) (xs.map (·.1)), k ≤ reachBytes) →
   (∃ x : t.den, (rd W (fun b => b < W.heap.size) t x (cs.drop off) ∧ rch t x) ∧ ∀ B : DataW H → Nat, BulkOk B → bk t x ≤ ((xs.map (·.1)).map B).sum) ∧
   ∀ (W' : World) (sp : Nat → Bool), Kept W W' → (∀ p ∈ xs.flatMap (·.2), sp p.block = true) → fs.mapM (fun f => DataW.trod enc P W' 0 sp true fuel f.type ((cs.drop f.offset).take (P.cellsOf f.type))) = some xs
 | [], off, t, cs, xs, hok, hlen, hm, hw => by
  simp only [okFs, beq_iff_eq] at hok
  subst hok
  simp only [List.mapM_nil, Option.pure_def, Option.some.injEq] at hm
  subst hm
  refine ⟨⟨(), ⟨?_, by simp only [rch]⟩, fun B hB => by simp [bk]⟩, fun W' sp hk hp => rfl⟩
  simp only [rd]
  simp only [Ty.size] at hlen
  exact List.drop_of_length_le (by omega)
 | f :: r, off, t, cs, xs, hok, hlen, hm, hw => by
  rw [List.mapM_cons] at hm
  cases h1 : DataW.trod enc P W 0 (fun _ => true) true fuel f.type ((cs.drop f.offset).take (P.cellsOf f.type)) with
  | none => rw [h1] at hm; cases hm
  | some y =>
   rw [h1] at hm
   simp only [Option.bind_eq_bind, Option.bind_some] at hm
   cases h2 : r.mapM (fun f => DataW.trod enc P W 0 (fun _ => true) true fuel f.type ((cs.drop f.offset).take (P.cellsOf f.type))) with
   | none => rw [h2] at hm; cases hm
   | some ys =>
    rw [h2] at hm
    simp only [Option.bind_some, Option.pure_def, Option.some.injEq] at hm
    subst hm
    obtain ⟨d, ps⟩ := y
    simp only [List.map_cons, DataW.weightsEach, List.mem_append] at hw
    have hw1 : ∀ k ∈ d.weights P f.type, k ≤ reachBytes := fun k hk => hw k (.inl hk)
    have hw2 : ∀ k ∈ DataW.weightsEach P (r.map (·.type)) (ys.map (·.1)), k ≤ reachBytes := fun k hk => hw k (.inr hk)
    cases r with
    | nil =>
     simp only [okFs, Bool.and_eq_true, beq_iff_eq] at hok
     obtain ⟨⟨ho, hc⟩, hok⟩ := hok
     obtain ⟨⟨x, hx, hb⟩, hk⟩ := ih f.type t _ d ps hok h1 hw1
     simp only [List.mapM_nil, Option.pure_def, Option.some.injEq] at h2
     subst h2
     have he : (cs.drop f.offset).take (P.cellsOf f.type) = cs.drop off := by
      rw [ho, hc]
      exact List.take_of_length_le (by simp; omega)
     rw [he] at hx
     refine ⟨⟨x, hx, fun B hB => ?_⟩, fun W' sp hkk hp => ?_⟩
     ·have := hb B hB; simpa using this
     ·rw [List.mapM_cons, hk W' sp hkk (fun p hp' => hp p (by simp [hp']))]; rfl
    | cons g r' =>
     cases t <;> simp only [okFs, Bool.false_eq_true] at hok
     rename_i a b
     simp only [Bool.and_eq_true, beq_iff_eq] at hok
     obtain ⟨⟨⟨ho, hc⟩, hok1⟩, hok2⟩ := hok
     simp only [Ty.size] at hlen
     obtain ⟨⟨x, hx, hb⟩, hk⟩ := ih f.type a _ d ps hok1 h1 hw1
     obtain ⟨⟨y, hy, hb2⟩, hk2⟩ := openS ih (g :: r') (off + a.size) b cs ys hok2 (by omega) h2 hw2
     refine ⟨⟨(x, y), ⟨?_, by simp only [rch]; exact ⟨hx.2, hy.2⟩⟩, fun B hB => ?_⟩, fun W' sp hkk hp => ?_⟩
     ·simp only [rd]
      refine ⟨(cs.drop off).take a.size, cs.drop (off + a.size), ?_, ?_, hy.1⟩
      ·rw [← List.drop_drop, List.take_append_drop]
      ·rw [ho, hc] at hx; exact hx.1
     ·have := hb B hB
      have := hb2 B hB
      simp only [bk, List.map_cons, List.sum_cons]
      omega
     ·rw [List.mapM_cons, hk W' sp hkk (fun p hp' => hp p (by simp [hp'])), hk2 W' sp hkk (fun p hp' => hp p (by simp only [List.flatMap_cons, List.mem_append]; exact .inr hp'))]
      rfl
theorem sum_take {α : Type} (f : α → Nat) (l : List α) (k : Nat) (x : α) (h : l[k]? = some x) : ((l.take (k + 1)).map f).sum = ((l.take k).map f).sum + f x := by
 have hk : k < l.length := (List.getElem?_eq_some_iff.1 h).1
 have hx : l[k] = x := (List.getElem?_eq_some_iff.1 h).2
 rw [List.take_add_one, h]
 simp
theorem openT {P : Program} : ∀ (n fuel : Nat) (T : TypeId) (t : Ty) (cs : List Value) (d : DataW H) (ps : List MemPlace), okTy P n T t = true → DataW.trod enc P W 0 (fun _ => true) true fuel T cs = some (d, ps) →
  (∀ k ∈ d.weights P T, k ≤ reachBytes) → Opens enc P W fuel T t cs d ps
 | 0, _, _, _, _, _, _, hok, _, _ => by simp [okTy] at hok
 | n + 1, fuel, T, t, cs, d, ps, hok, h, hw => by
  have hf : ∃ m, fuel = m + 1 := by
   cases fuel with
   | zero => simp [DataW.trod] at h
   | succ m => exact ⟨m, rfl⟩
  obtain ⟨m, rfl⟩ := hf
  simp only [okTy] at hok
  split at hok
  ·-- a bool
   rename_i hT
   have hok := beq_iff_eq.1 hok
   subst hok
   obtain ⟨b, rfl, hx⟩ := DataW.trod_bool hT h
   cases hx
   exact ⟨⟨b, ⟨by simp only [rd], by simp only [rch]⟩, fun B hB => hB.lit _⟩, fun W' sp _ _ => by simp [DataW.trod, hT]⟩
  ·-- a number
   rename_i k hT
   obtain ⟨q, rfl, hx, hwf⟩ := DataW.trod_int hT h
   cases hx
   have hr : k.min ≤ q ∧ q ≤ k.max := by simpa [Lit.wf] using hwf
   refine ⟨?_, fun W' sp _ _ => by simp [DataW.trod, hT, hwf]⟩
   cases t <;> simp only [Bool.false_eq_true] at hok
   ·have hok := beq_iff_eq.1 hok
    subst hok
    exact ⟨q, ⟨by simp only [rd]; exact ⟨trivial, hr⟩, by simp only [rch]⟩, fun B hB => hB.lit _⟩
   ·have hok := beq_iff_eq.1 hok
    subst hok
    have h0 : 0 ≤ q ∧ q ≤ 255 := by simpa [IntKind.min, IntKind.max, IntKind.signed, IntKind.bits] using hr
    refine ⟨UInt8.ofNat q.toNat, ⟨?_, by simp only [rch]⟩, fun B hB => hB.lit _⟩
    simp only [rd]
    congr 2
    have : (UInt8.ofNat q.toNat).toNat = q.toNat := by rw [UInt8.toNat_ofNat']; omega
    rw [this]; omega
  ·-- a text
   rename_i hT
   have hok := beq_iff_eq.1 hok
   subst hok
   obtain ⟨s, rfl, hx, hs⟩ := DataW.trod_string hT h
   cases hx
   exact ⟨⟨s, ⟨by simp only [rd]; exact ⟨trivial, hs⟩, by simp only [rch]⟩, fun B hB => hB.str s.data.toList⟩, fun W' sp _ _ => by simp [DataW.trod, hT, hs]⟩
  ·-- a list
   rename_i e hT
   cases t <;> simp only [Bool.false_eq_true] at hok
   rename_i eb t'
   simp only [Bool.and_eq_true, beq_iff_eq, bne_iff_ne, ne_eq] at hok
   obtain ⟨⟨⟨⟨hok, heb⟩, hsz⟩, hsz0⟩, heb0⟩ := hok
   rcases DataW.trod_slice hT h with ⟨rfl, hx⟩ | ⟨a, len, cap, elems, rest, m', hm', rfl, hx, _, hlc, hcm, hel, hels, hsp, _⟩
   ·cases hx
    refine ⟨⟨[], ⟨?_, by simp [rch]⟩, fun B hB => by have := hB.nil; simpa [bk] using this⟩, fun W' sp _ _ => by simp [DataW.trod, hT]⟩
    simp only [rd]
    exact ⟨_, rfl, .inl ⟨rfl, none, 0, rfl, by simp [maxLen], by simp⟩⟩
   ·clear hx hel hels hsp
    have h' := h
    simp only [DataW.trod, hT] at h'
    rw [if_pos ⟨Nat.zero_le _, hlc, hcm⟩] at h'
    obtain ⟨els, h1, h'⟩ := Option.bind_eq_some_iff.1 h'
    obtain ⟨rs, h2, h'⟩ := Option.map_eq_some_iff.1 h'
    simp only [if_true] at h2
    injection h' with hd hps
    subst hd
    simp only [DataW.weights, hT] at hw
    have hl1 : els.length = len := by have := mapM_some_length h1; simpa using this
    have hl2 : rs.length = cap - len := by have := mapM_some_length h2; simpa using this
    have hwt : cap * eb ≤ reachBytes := by
     have := hw _ (by simp only [List.mem_cons]; left; rfl)
     rw [heb] at this
     simp only [List.length_map, hl1, hl2] at this
     rw [show len + (cap - len) = cap by omega] at this
     exact this
    have hwe : ∀ y ∈ els ++ rs, ∀ k ∈ y.1.weights P e, k ≤ reachBytes := by
     intro y hy k hk
     apply hw
     simp only [List.mem_cons, List.mem_append]
     right
     rcases List.mem_append.1 hy with hy | hy
     ·left; exact weightsAll_mem (List.mem_map.2 ⟨y, hy, rfl⟩) hk
     ·right; exact weightsAll_mem (List.mem_map.2 ⟨y, hy, rfl⟩) hk
    have one : ∀ y ∈ els ++ rs, ∀ c, DataW.trod enc P W 0 (fun _ => true) true m e c = some y → Opens enc P W m e t' c y.1 y.2 := fun y hy c hc => openT n m e t' c y.1 y.2 hok hc (hwe y hy)
    refine ⟨?_, ?_⟩
    ·-- what is read
     have hget : ∀ i y, els[i]? = some y → ∃ c, W.cells? 0 (a.add (i * P.cellsOf e)) (P.cellsOf e) = some c ∧ DataW.trod enc P W 0 (fun _ => true) true m e c = some y := by
      intro i y hy
      have hi : i < len := by have := (List.getElem?_eq_some_iff.1 hy).1; omega
      have := mapM_some_get h1 i i (by simp [hi])
      rw [hy] at this
      exact Option.bind_eq_some_iff.1 this
     by_cases hlen : len = 0
     ·refine ⟨[], ⟨?_, by simp [rch]⟩, fun B hB => ?_⟩
      ·simp only [rd]
       exact ⟨_, rfl, .inl ⟨rfl, some a, cap, by rw [hlen], hcm, by simp⟩⟩
      ·have := hB.slice (els.map (·.1)) (rs.map (·.1))
       simp only [bk, List.map_nil, List.sum_nil]; omega
     ·obtain ⟨y0, hy0⟩ : ∃ y0, els[0]? = some y0 := ⟨els[0], List.getElem?_eq_getElem (by omega)⟩
      obtain ⟨c0, hc0, _⟩ := hget 0 y0 hy0
      rw [Nat.zero_mul] at hc0
      have ha0 : a.add 0 = a := by simp [Addr.add]
      rw [ha0] at hc0
      obtain ⟨_, hl0, hcell⟩ := World.cells?_some hc0
      have h00 := hcell 0 (by omega)
      rw [ha0] at h00
      obtain ⟨v0, hv0⟩ : ∃ v0, c0[0]? = some v0 := ⟨c0[0]'(by omega), List.getElem?_eq_getElem (by omega)⟩
      rw [hv0] at h00
      have hspot := World.cell?_spot h00
      obtain ⟨b, off, spot⟩ := a
      simp only at hspot
      subst hspot
      obtain ⟨cur, E, fr, hb⟩ : ∃ cur E fr, W.heap[b]? = some (.cells cur E fr) := by
       unfold World.cell? at h00
       split at h00
       ·rename_i cur E fr hb; exact ⟨cur, E, fr, hb⟩
       ·cases h00
      have hblt : b < W.heap.size := (Array.getElem?_eq_some_iff.1 hb).1
      have build : ∀ k, k ≤ len → ∃ xs : List t'.den, xs.length = k ∧ rdL (rd W (fun b => b < W.heap.size) t') xs ((cur.toList.drop off).take (k * t'.size)) ∧
        ∀ B : DataW H → Nat, BulkOk B → (xs.map (bk t')).sum ≤ ((els.take k).map (fun y => B y.1)).sum := by
       intro k
       induction k with
       | zero => intro _; exact ⟨[], rfl, by simp [rdL], fun B hB => by simp⟩
       | succ k ihk =>
        intro hk
        obtain ⟨xs, hx1, hx2, hx3⟩ := ihk (by omega)
        obtain ⟨y, hy⟩ : ∃ y, els[k]? = some y := ⟨els[k], List.getElem?_eq_getElem (by omega)⟩
        obtain ⟨c, hc1, hc2⟩ := hget k y hy
        rw [add_none, hsz] at hc1
        have hce := cells_at hb hc1
        obtain ⟨⟨x, hx, hbx⟩, _⟩ := one y (List.mem_append_left _ (List.mem_of_getElem? hy)) c hc2
        refine ⟨xs ++ [x], by simp [hx1], ?_, fun B hB => ?_⟩
        ·rw [Nat.add_mul, Nat.one_mul, List.take_add]
         refine rdL_append _ _ _ _ hx2 ?_
         simp only [rdL]
         refine ⟨c, [], ?_, hx.1, rfl⟩
         rw [hce, List.drop_drop, List.append_nil]
        ·rw [sum_take _ _ _ _ hy]
         have := hx3 B hB
         have := hbx B hB
         simp only [List.map_append, List.sum_append, List.map_cons, List.map_nil, List.sum_cons, List.sum_nil]
         omega
      obtain ⟨xs, hx1, hx2, hx3⟩ := build len (Nat.le_refl _)
      refine ⟨xs, ⟨?_, by simp only [rch]; rw [hx1]; exact Nat.le_trans (Nat.mul_le_mul_right _ hlc) hwt⟩, fun B hB => ?_⟩
      ·simp only [rd]
       refine ⟨_, rfl, .inr ⟨b, off, cap, cur, E, fr, _, by rw [hx1], hblt, hb, by omega, hcm, ?_, rfl, by rw [hx1]; exact hx2⟩⟩
       rw [hx1]
       have : len * eb ≤ cap * eb := Nat.mul_le_mul_right _ hlc
       have : reachBytes ≤ 140737488355328 := by decide
       omega
      ·have h3 := hx3 B hB
       have h4 := hB.slice (els.map (·.1)) (rs.map (·.1))
       rw [List.take_of_length_le (by omega)] at h3
       simp only [List.map_map] at h4
       simp only [bk]
       have : (els.map (B ∘ fun x => x.1)).sum = (els.map fun y => B y.1).sum := rfl
       omega
    ·intro W' sp hkk hp
     have hkeep : ∀ i y, (W.cells? 0 (a.add (i * P.cellsOf e)) (P.cellsOf e)).bind (DataW.trod enc P W 0 (fun _ => true) true m e) = some y → y ∈ els ++ rs →
       (W'.cells? 0 (a.add (i * P.cellsOf e)) (P.cellsOf e)).bind (DataW.trod enc P W' 0 sp true m e) = some y := by
      intro i y hy hmem
      obtain ⟨c, hc1, hc2⟩ := Option.bind_eq_some_iff.1 hy
      rw [hkk.cells hc1]
      refine (one y hmem c hc2).2 W' sp hkk (fun p hp' => hp p ?_)
      rw [← hps]
      exact List.mem_append.2 (.inr (List.mem_flatMap.2 ⟨y, hmem, hp'⟩))
     have k1 := mapM_imp (g := fun i => (W'.cells? 0 (a.add (i * P.cellsOf e)) (P.cellsOf e)).bind (DataW.trod enc P W' 0 sp true m e)) h1 (fun i _ y hy h => hkeep i y h (List.mem_append_left _ hy))
     have k2 := mapM_imp (g := fun j => (W'.cells? 0 (a.add ((len + j) * P.cellsOf e)) (P.cellsOf e)).bind (DataW.trod enc P W' 0 sp true m e)) h2 (fun j _ y hy h => hkeep (len + j) y h (List.mem_append_right _ hy))
     simp only [DataW.trod, hT]
     rw [if_pos ⟨Nat.zero_le _, hlc, hcm⟩, k1, Option.bind_some]
     cases hs : sp a.block with
     | true =>
      simp only [if_true]
      rw [k2]
      simp only [Option.map_some, hps]
     | false =>
      simp only [Bool.false_eq_true, if_false, Option.map_some]
      have hr : rs = [] := by
       cases rs with
       | nil => rfl
       | cons r0 rs =>
        have : sp a.block = true := by
         refine hp (.cell a.block (a.off + 0)) ?_
         rw [← hps]
         refine List.mem_append.2 (.inl ?_)
         unfold MemPlace.row
         refine List.mem_map.2 ⟨0, List.mem_range.2 ?_, rfl⟩
         have : 1 ≤ P.cellsOf e := by omega
         exact Nat.mul_pos (by simp only [List.length_cons]; omega) this
        rw [hs] at this; cases this
      subst hr
      simp only [List.map_nil, hps]
  ·-- a struct
   rename_i fs hT
   simp only [Bool.and_eq_true, beq_iff_eq] at hok
   obtain ⟨hsz, hok⟩ := hok
   have h' := h
   simp only [DataW.trod, hT] at h'
   split at h'
   ·rename_i hlen
    obtain ⟨xs, h1, h'⟩ := Option.map_eq_some_iff.1 h'
    injection h' with hd hps
    subst hd
    simp only [DataW.weights, hT] at hw
    obtain ⟨⟨x, hx, hb⟩, hk⟩ := openS (fun T t cs d ps h1 h2 h3 => openT n m T t cs d ps h1 h2 h3) fs.toList 0 t cs xs hok (by omega) h1 hw
    refine ⟨⟨x, by simpa using hx, fun B hB => Nat.le_trans (hb B hB) (hB.agg _)⟩, fun W' sp hkk hp => ?_⟩
    have := hk W' sp hkk (fun p hp' => hp p (by rw [← hps]; exact hp'))
    simp only [DataW.trod, hT]
    rw [if_pos hlen, this]
    simp only [Option.map_some, hps]
   ·cases h'
  ·cases hok
/-! ### a parameter; the call -/
def E0 (W : World) : En := { N := 0, ρ := fun _ => ⟨none, undef⟩, w := W, Fz := fun b => b < W.heap.size, B := fun _ => False }
theorem hs0 (W : World) : HS [] (E0 W) where
 n := rfl
 ok i sb h := by simp at h
 dist i j si sj b h := by simp at h
 own b h := by obtain ⟨i, sb, h, _⟩ := h; simp at h
 old b h := by rcases h with h | h; exact h; exact h.elim
def argV (va : Bool) (t : Ty) (x : t.den) : SV :=
 match va with
 | true => .agg (t.sv true x)
 | false => (t.sv true x).headD .junk
def isStructT (P : Program) (T : TypeId) : Bool :=
 match P.underlying T with
 | some (.struct _) => true
 | _ => false
theorem openPr {P : Program} {n base : Nat} {T : TypeId} {t : Ty} {va : Bool} {v : Value} {d : DataW H} {ps : List MemPlace} (hok : okTy P n T t = true) (hva : isStructT P T = va) (hval : Value.okWide P W .any base T v)
  (h : DataW.Trod enc P W 0 (fun _ => true) true T v d ps) (hw : ∀ k ∈ d.weights P T, k ≤ reachBytes) :
  (∃ x : t.den, den (E0 W) (argV va t x) v ∧ (∀ B : DataW H → Nat, BulkOk B → bk t x ≤ B d) ∧ rch t x) ∧
  ∀ (W' : World) (sp : Nat → Bool), Kept W W' → (∀ p ∈ ps, sp p.block = true) → DataW.Trod enc P W' 0 sp true T v d ps := by
 obtain ⟨fuel, h⟩ := h
 obtain ⟨⟨x, ⟨hx, hr⟩, hb⟩, hk⟩ := openT n fuel T t _ d ps hok h hw
 refine ⟨⟨x, ?_, hb, hr⟩, fun W' sp hkk hp => ⟨fuel, hk W' sp hkk hp⟩⟩
 have hF : ∀ b, (fun b => b < W.heap.size) b → (E0 W).F true b := fun b hb => .inl hb
 have hx' : rd (E0 W).w ((E0 W).F true) t x v.cells.toList := rd_mono hF (fun _ _ => rfl) t x _ hx
 have hd := denC_sv true t x _ hx'
 unfold isStructT at hva
 cases n with
 | zero => simp [okTy] at hok
 | succ n =>
  simp only [okTy] at hok
  split at hva
  ·rename_i fs hT
   subst hva
   simp only [Value.okWide, hT] at hval
   obtain ⟨cs, rfl, _, _⟩ := hval
   simp only [argV, den]
   exact ⟨cs, rfl, by simpa [Value.cells] using hd⟩
  ·rename_i hns
   subst hva
   have hcell : v.cells.toList = [v] := by
    cases v <;> first | rfl | skip
    rename_i cs
    exfalso
    split at hok <;> rename_i hT <;> simp only [Value.okWide, hT, Cell.okWide, Cell.ok] at hval
    ·exact hns _ hT
    ·cases hok
   rw [hcell] at hd
   simp only [argV]
   have one : ∀ y : SV, y.isArr = false → denC (E0 W) [y] [v] → den (E0 W) y v := by
    intro y hy hd
    rw [denC_cons hy] at hd
    obtain ⟨v', c2, h1, h2, _⟩ := hd
    cases h1; exact h2
   split at hok <;> first | cases hok | skip
   ·have := beq_iff_eq.1 hok; subst this; exact one _ rfl hd
   ·cases t <;> simp only [Bool.false_eq_true] at hok <;> exact one _ rfl hd
   ·have := beq_iff_eq.1 hok; subst this; exact one _ rfl hd
   ·cases t <;> simp only [Bool.false_eq_true] at hok; exact one _ rfl hd
   ·rename_i hT; exact absurd hT (hns _)
theorem openP {P : Program} {n base : Nat} {T : TypeId} {t : Ty} {va : Bool} {v : Value} {d : DataW H} {ps : List MemPlace} (hok : okTy P n T t = true) (hva : isStructT P T = va) (hval : Value.okWide P W .any base T v)
  (h : DataW.Trod enc P W 0 (fun _ => true) true T v d ps) (hw : ∀ k ∈ d.weights P T, k ≤ reachBytes) :
  (∃ x : t.den, den (E0 W) (argV va t x) v ∧ ∀ B : DataW H → Nat, BulkOk B → bk t x ≤ B d) ∧
  ∀ (W' : World) (sp : Nat → Bool), Kept W W' → (∀ p ∈ ps, sp p.block = true) → DataW.Trod enc P W' 0 sp true T v d ps := by
 obtain ⟨⟨x, hx, hb, _⟩, hk⟩ := openPr hok hva hval h hw
 exact ⟨⟨x, hx, hb⟩, hk⟩
theorem calls_true {P : Program} {f : FuncId} {C : Contract} (hS : Sound P f C) (hG : Gl P (E0 W)) {svs : List SV} {args : Array Value} (hargs : denL (E0 W) svs args.toList) (hC : C svs [] (fun r _ => r = .bool true)) :
  Calls P f args W fun e W' => e = .returned (.bool true) ∧ Kept W W' ∧ W'.os = W.os ∧ W'.output = W.output := by
 have := hS svs [] _ hC (E0 W) args.toList (hs0 W) hG hargs
 have h2 : args.toList.toArray = args := by simp
 rw [h2] at this
 refine this.mono fun e w' h => ?_
 obtain ⟨r, hp', E', v, rfl, rfl, hr, _, hv, hev, _⟩ := h
 subst hr
 simp only [den] at hv
 subst hv
 refine ⟨rfl, fun b hb => hev.keep b hb (fun hl => ?_), hev.os, hev.output⟩
 obtain ⟨i, sb, h, _⟩ := hl
 simp at h
theorem Kept.frame {W' : World} (h : Kept W W') (h1 : W'.os = W.os) (h2 : W'.output = W.output) (may : MemPlace → Prop) : W.keptBut W' may := by
 refine ⟨h1, h2, fun i hi => ?_⟩
 rw [h i hi]
 cases hw : W.heap[i]? with
 | none => rfl
 | some o => cases o with
  | cells c t fr => exact ⟨rfl, rfl, rfl, fun _ _ => rfl⟩
  | map es clk => exact .inr ⟨rfl, rfl⟩
  | _ => rfl
theorem post_law {f : Func} {s : ChangeSpec} {apart fresh handsOn again : Bool} {W' : World} {args : Array Value} {ds : List (DataW H)} {before : List MemPlace} {rt : TypeId}
  (hW : DataW.Whole enc P f.params.toList s.vars apart W args.toList ds [] before) (hvars : s.vars = []) (hrt : f.resultTypes = #[rt]) (hb : P.underlying rt = some .bool)
  (hs : s.fn H (ds ++ []) = { results := [.lit (.bool true)], args := ds })
  (hk : Kept W W') (hos : W'.os = W.os) (hout : W'.output = W.output)
  (hargs : ∀ sp : Nat → Bool, (∀ p ∈ before, sp p.block = true) → DataW.TrodAll enc P W' 0 sp true f.params.toList args.toList ds before) :
  s.post enc P f apart fresh handsOn again W args (.bool true) W' := by
 have hold : ∀ p ∈ before, (fun b => decide (b < W.heap.size)) p.block = true := fun p hp => by simpa using hW.lt p hp
 have hres : ∀ (b : Nat) (sp : Nat → Bool) (hd : Bool), DataW.TrodAll enc P W' b sp hd f.resultTypes.toList ((Value.bool true).resultList f.resultTypes.size) [.lit (.bool true)] [] := by
  intro b sp hd
  rw [hrt]
  exact ⟨[], [], ⟨1, by simp [DataW.trod, Value.cells, hb]⟩, rfl, rfl⟩
 refine ⟨ds, [], before, [], before, [], hW, by rw [hs]; exact hres _ _ _, by rw [hs]; exact hargs _ hold, by rw [hs, hvars]; rfl, hk.frame hos hout _, fun _ => ?_⟩
 have hW' := hW
 obtain ⟨_, _, _, _, _, hz, hn⟩ := hW
 refine ⟨?_, _, [], ([] ++ before) ++ [], ⟨[] ++ before, [], trodAll_append (hargs _ (fun _ _ => rfl)) (hres _ _ _), by rw [hvars]; rfl, rfl, ?_, ?_⟩, ?_⟩
 ·exact ok_one hrt rfl (okWide_bool_mk hb _)
 ·intro b off hp
  have hp' : MemPlace.cell b off ∈ before := by simpa using hp
  have h1 := hz b off hp'
  have h2 : b < W.heap.size := hW'.lt _ hp'
  unfold World.frozen? at h1 ⊢
  rw [hk b h2]
  exact h1
 ·intro ha
  simpa using hn ha
 ·intro p hp _
  simpa using hp
end
end Go.V
