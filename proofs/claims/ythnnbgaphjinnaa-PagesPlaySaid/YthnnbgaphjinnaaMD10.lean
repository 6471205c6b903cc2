/- A part of the proof layer, or functions of the given program in it: contracts and their proofs. -/
import Derived.Test.YthnnbgaphjinnaaMD7
namespace Go.V
set_option maxRecDepth 100000
set_option linter.unusedSimpArgs false
set_option linter.unnecessarySimpa false
set_option linter.unusedVariables false
/-! ### sealed blocks -/
theorem openF_seal {kd : UInt8} {pl : Nat} {p : List UInt8} (h : p.length ≤ 242) : openF kd pl (sealF kd pl p) = some p := by
  have h1 := sealF_length (kd := kd) (pl := pl) h
  have e : sealF kd pl p = (bytesB 8 (sumF (sBody kd pl p)).toNat ++ (kd :: bytesB 4 pl)) ++ (UInt8.ofNat p.length :: (p ++ List.replicate (242 - p.length) 0)) := by
    unfold sealF sBody
    simp
  have hl : (bytesB 8 (sumF (sBody kd pl p)).toNat ++ (kd :: bytesB 4 pl)).length = 13 := by simp [bytesB_length]
  have h13 : elt .byte (sealF kd pl p) 13 = UInt8.ofNat p.length := by
    apply elt_eq (t := .byte)
    rw [e, List.getElem?_append_right (by rw [hl]; exact Nat.le_refl _), hl]
    rfl
  have hn : (elt .byte (sealF kd pl p) 13).toNat = p.length := by
    rw [h13]; simp; omega
  have hd : ((sealF kd pl p).drop 14).take p.length = p := by
    rw [e, List.drop_append, hl, List.drop_of_length_le (by omega), List.nil_append]
    show (List.drop 1 (UInt8.ofNat p.length :: (p ++ _))).take p.length = p
    rw [List.drop_succ_cons, List.drop_zero, List.take_append_of_le_length (Nat.le_refl _), List.take_length]
  unfold openF
  rw [hn, hd, if_pos ⟨h1, h⟩, if_pos rfl]

/-! ### writes -/
theorem elt_set_ne {t : Ty} {l : List t.den} {i j : Nat} {x : t.den} (h : i ≠ j) : elt t (l.set i x) j = elt t l j := by
  unfold elt
  rw [List.getD_eq_getElem?_getD, List.getD_eq_getElem?_getD, List.getElem?_set_ne h]
theorem elt_set_eq {t : Ty} {l : List t.den} {i : Nat} {x : t.den} (h : i < l.length) : elt t (l.set i x) i = x := elt_eq (List.getElem?_set_self h)
theorem wrL_other (ws : List LgT.den) : ∀ (bl : List ByT.den) (a : Nat), (∀ w ∈ ws, w.1.toNat ≠ a) → elt ByT (wrL bl ws) a = elt ByT bl a := by
  induction ws with
  | nil => intro bl a _; rfl
  | cons w r ih =>
    intro bl a h
    show elt ByT (wrL (bl.set w.1.toNat w.2) r) a = _
    rw [ih _ _ (fun x hx => h x (List.mem_cons_of_mem _ hx)), elt_set_ne (h w (by simp))]
theorem wsF_take_mem {bs : List Int} {c : List UInt8} {k : Nat} {w : LgT.den} (h : w ∈ (wsF bs c).take k) : w.1 ∈ bs := by
  have := List.mem_of_mem_take h
  unfold wsF at this
  obtain ⟨i, hi, rfl⟩ := List.mem_map.1 this
  exact List.mem_of_getElem? (elt_get (t := .int .i64) (List.mem_range.1 hi))
theorem elt_inj {l : List Int} (h : l.Nodup) {i j : Nat} (hi : i < l.length) (hj : j < l.length) (he : elt (.int .i64) l i = elt (.int .i64) l j) : i = j := by
  have h1 := elt_get (t := .int .i64) hi
  have h2 := elt_get (t := .int .i64) hj
  rw [he] at h1
  obtain ⟨a1, a2⟩ := List.getElem?_eq_some_iff.1 h1
  obtain ⟨b1, b2⟩ := List.getElem?_eq_some_iff.1 h2
  have h3 := List.pairwise_iff_getElem.1 h
  rcases Nat.lt_trichotomy i j with hij | hij | hij
  · exact absurd (a2.trans b2.symm) (h3 i j a1 b1 hij)
  · exact hij
  · exact absurd (b2.trans a2.symm) (h3 j i b1 a1 hij)
theorem wrL_at {bs : List Int} {c : List UInt8} (hn : bs.Nodup) {bl : List ByT.den} (hb : ∀ b ∈ bs, 0 ≤ b ∧ b < bl.length) : ∀ (k i : Nat), k ≤ bs.length → i < k →
    elt ByT (wrL bl ((wsF bs c).take k)) (Int.toNat (elt (.int .i64) bs i)) = blkF bs c i
  | 0, i, _, h => absurd h (Nat.not_lt_zero _)
  | k + 1, i, hk, h => by
    have hkl : k < bs.length := hk
    rw [← take_snoc (wsF_get hkl), wrL_snoc]
    have hbk := hb _ (List.mem_of_getElem? (elt_get (t := .int .i64) hkl))
    by_cases hik : i = k
    · subst hik
      exact elt_set_eq (t := ByT) (by rw [wrL_length]; omega)
    · have hbi := hb _ (List.mem_of_getElem? (elt_get (t := .int .i64) (xs := bs) (m := i) (by omega)))
      rw [elt_set_ne (t := ByT) (fun e => hik (elt_inj hn (by omega) hkl (by
        have e' : Int.toNat (elt (.int .i64) bs k) = Int.toNat (elt (.int .i64) bs i) := e
        show @Eq Int _ _
        omega)))]
      exact wrL_at hn hb k i (by omega) (by omega)

/-! ### chains -/
structure Chain (bl : List ByT.den) (bs : List Int) (c : List UInt8) : Prop where
  len : bs.length = needN c.length
  sz : c.length ≤ 20000
  nd : bs.Nodup
  mem : ∀ b ∈ bs, 0 ≤ b ∧ b < bl.length
  op : ∀ i, i < bs.length → opB bl (elt (.int .i64) bs i) = some (headF bs i ++ partF c i)

theorem Chain.keep {bl : List ByT.den} {bs : List Int} {c : List UInt8} (h : Chain bl bs c) {ws : List LgT.den} (hw : ∀ w ∈ ws, 0 ≤ w.1 ∧ w.1 ∉ bs) : Chain (wrL bl ws) bs c := by
  refine ⟨h.len, h.sz, h.nd, fun b hb => by rw [wrL_length]; exact h.mem b hb, fun i hi => ?_⟩
  rw [← h.op i hi]
  unfold opB
  have hb := List.mem_of_getElem? (elt_get (t := .int .i64) hi)
  rw [wrL_other]
  intro w hw' e
  obtain ⟨h1, h2⟩ := hw w hw'
  have h3 := h.mem _ hb
  exact h2 (by
    have : @Eq Int w.1 (elt (.int .i64) bs i) := by
      have e' : Int.toNat w.1 = Int.toNat (elt (.int .i64) bs i) := e
      have h1' : (0 : Int) ≤ w.1 := h1
      omega
    rw [this]; exact hb)
theorem Chain.put {bl : List ByT.den} {bs : List Int} {c : List UInt8} (hl : bs.length = needN c.length) (hs : c.length ≤ 20000) (hn : bs.Nodup) (hb : ∀ b ∈ bs, 0 ≤ b ∧ b < bl.length) : Chain (wrL bl (wsF bs c)) bs c := by
  refine ⟨hl, hs, hn, fun b hb' => by rw [wrL_length]; exact hb b hb', fun i hi => ?_⟩
  have h1 := wrL_at (c := c) hn hb bs.length i (Nat.le_refl _) hi
  rw [List.take_of_length_le (by rw [wsF_length]; exact Nat.le_refl _)] at h1
  unfold opB
  rw [h1]
  unfold blkF
  exact openF_seal (by rw [List.length_append, headF_length]; have := partF_length c i; omega)
theorem part_take (c : List UInt8) (i : Nat) : c.take (238 * i) ++ partF c i = c.take (238 * (i + 1)) := by
  unfold partF
  rw [show 238 * (i + 1) = 238 * i + 238 by omega, List.take_add]
theorem needN_bound (n : Nat) : n ≤ 238 * needN n ∧ (n ≤ 20000 → needN n ≤ 85) ∧ 1 ≤ needN n := by unfold needN; omega
theorem Chain.get {bl : List ByT.den} {bs : List Int} {c : List UInt8} (h : Chain bl bs c) : bs.flatMap (pl4 bl) = c := by
  have key : ∀ i, i ≤ bs.length → (bs.take i).flatMap (pl4 bl) = c.take (238 * i) := by
    intro i
    induction i with
    | zero => intro _; simp
    | succ i ih =>
      intro hi
      have hi' : i < bs.length := hi
      rw [← take_elt (t := .int .i64) hi', List.flatMap_append, ih (by omega), ← part_take]
      congr 1
      simp only [List.flatMap_cons, List.flatMap_nil, List.append_nil]
      unfold pl4
      rw [h.op i hi', Option.getD_some, List.drop_append, List.drop_of_length_le (by rw [headF_length]; exact Nat.le_refl _), headF_length]
      simp
  have := key bs.length (Nat.le_refl _)
  rw [List.take_length] at this
  rw [this, List.take_of_length_le (by rw [h.len]; exact (needN_bound _).1)]
theorem Chain.rd {bl : List ByT.den} {bs : List Int} {c : List UInt8} (h : Chain bl bs c) (hbl : bl.length ≤ 65536) : ∀ b ∈ bs, rdOk bl b := by
  intro b hb
  have h1 := h.mem b hb
  refine ⟨⟨h1.1, h1.2, by omega⟩, ?_⟩
  obtain ⟨i, hi, e⟩ := List.getElem_of_mem hb
  have h2 := h.op i hi
  have e2 : elt (.int .i64) bs i = b := elt_eq (t := .int .i64) (by rw [List.getElem?_eq_getElem hi, e])
  rw [e2] at h2
  exact ⟨_, h2, by rw [List.length_append, headF_length]; omega⟩
theorem u8n (n : Nat) : (UInt8.ofNat n).toNat = n % 256 := by simp
theorem nextF_head {bs : List Int} {i : Nat} {q : List UInt8} (h : nxF bs i < 16777216) : nextF (headF bs i ++ q) = nxF bs i := by
  unfold nextF
  have e1 : elt .byte (headF bs i ++ q) 1 = UInt8.ofNat (nxF bs i) := rfl
  have e2 : elt .byte (headF bs i ++ q) 2 = UInt8.ofNat (nxF bs i / 256) := rfl
  have e3 : elt .byte (headF bs i ++ q) 3 = UInt8.ofNat (nxF bs i / 65536) := rfl
  rw [e1, e2, e3, u8n, u8n, u8n]
  omega
theorem Chain.text {bl : List ByT.den} {bs : List Int} {c : List UInt8} {fr ct : Int} (h : Chain bl bs c) (hbl : bl.length ≤ 65536) (ha : ∀ b ∈ bs, fr ≤ b ∧ b < fr + ct) :
    textF bl fr ct (elt (.int .i64) bs 0) 86 (elt (.int .i64) bs 0) [] [] = some (c, bs) := by
  have hnb := needN_bound c.length
  have hlen := h.len
  have h85 := hnb.2.1 h.sz
  have key : ∀ m i, i + m = bs.length → 1 ≤ m → textF bl fr ct (elt (.int .i64) bs 0) (86 - i) (elt (.int .i64) bs i) (c.take (238 * i)) (bs.take i) = some (c, bs) := by
    intro m
    induction m with
    | zero => intro i _ h; omega
    | succ m ih =>
      intro i him _
      have hi : i < bs.length := by omega
      obtain ⟨n, hn⟩ : ∃ n, 86 - i = n + 1 := ⟨85 - i, by omega⟩
      have hb := List.mem_of_getElem? (elt_get (t := .int .i64) hi)
      have hr := ha _ hb
      have hop := h.op i hi
      rw [hn, textF, if_neg (by
        rw [List.length_take]
        rintro (q | q | q)
        · exact absurd hr.1 (Int.not_le.2 q)
        · exact absurd hr.2 (Int.not_lt.2 q)
        · omega), hop]
      simp only
      have h0 : (elt .byte (headF bs i ++ partF c i) 0 = 1) ↔ elt (.int .i64) bs i = elt (.int .i64) bs 0 := by
        have e0 : elt .byte (headF bs i ++ partF c i) 0 = if i = 0 then 1 else 0 := rfl
        rw [e0]
        by_cases hz : i = 0
        · subst hz; simp
        · rw [if_neg hz]
          constructor
          · intro e; cases e
          · intro e; exact absurd (elt_inj h.nd hi (by omega) e) hz
      have hpl : 4 ≤ (headF bs i ++ partF c i).length := by rw [List.length_append, headF_length]; omega
      rw [if_neg (by rintro (q | q); omega; exact q h0)]
      have hdr : (headF bs i ++ partF c i).drop 4 = partF c i := by
        rw [List.drop_append, List.drop_of_length_le (by rw [headF_length]; exact Nat.le_refl _), headF_length]
        simp
      rw [hdr, part_take, take_elt (t := .int .i64) hi]
      by_cases hlast : i + 1 < bs.length
      · have hnx : nxF bs i = (elt (.int .i64) bs (i + 1) + 1).toNat := by unfold nxF; rw [if_pos hlast]
        have hb2 := List.mem_of_getElem? (elt_get (t := .int .i64) hlast)
        obtain ⟨h3, h4⟩ := h.mem _ hb2
        have hnl : nxF bs i < 16777216 := by rw [hnx]; omega
        have hne : nextF (headF bs i ++ partF c i) = elt (.int .i64) bs (i + 1) + 1 := by
          rw [nextF_head hnl, hnx]; omega
        rw [hne, if_neg (fun q : @Eq Int _ _ => by omega)]
        have e1 : elt (.int .i64) bs (i + 1) + 1 - 1 = elt (.int .i64) bs (i + 1) := Int.add_sub_cancel _ _
        rw [e1, if_neg]
        · have := ih (i + 1) (by omega) (by omega)
          rw [show 86 - (i + 1) = n by omega] at this
          exact this
        · intro hin
          obtain ⟨j, hj, e⟩ := List.getElem_of_mem hin
          rw [List.length_take] at hj
          rw [List.getElem_take] at e
          have e2 : elt (.int .i64) bs j = elt (.int .i64) bs (i + 1) := elt_eq (t := .int .i64) (by rw [List.getElem?_eq_getElem (by omega), e])
          have := elt_inj h.nd (by omega) hlast e2
          omega
      · have hnx : nxF bs i = 0 := by unfold nxF; rw [if_neg hlast]
        rw [nextF_head (by rw [hnx]; omega), hnx, if_pos Int.natCast_zero, List.take_of_length_le (by rw [show i + 1 = bs.length by omega, hlen]; exact hnb.1), List.take_of_length_le (by omega)]
  have := key bs.length 0 (by omega) (by omega)
  exact this
end Go.V
namespace Go.V
set_option maxRecDepth 100000
set_option linter.unusedSimpArgs false
set_option linter.unnecessarySimpa false
set_option linter.unusedVariables false
/-! ### maps of integers -/
section
variable {vt : Ty}
theorem beq_int (a b : Int) : Ty.beq (.int .i64) a b = decide (a = b) := rfl
theorem lookI_some {m : List (Int × vt.den)} (hn : (m.map Prod.fst).Nodup) {k : Int} {v : vt.den} (h : (k, v) ∈ m) : lookM (.int .i64) vt m k = some v := by
  induction m with
  | nil => cases h
  | cons x r ih =>
    simp only [List.map_cons, List.nodup_cons] at hn
    unfold lookM at ih ⊢
    rw [List.find?_cons]
    rcases List.mem_cons.1 h with h | h
    · subst h
      simp [beq_int]
    · have hne : x.1 ≠ k := fun e => hn.1 (by rw [e]; exact List.mem_map_of_mem h)
      rw [beq_int, decide_eq_false hne]
      exact ih hn.2 h
theorem lookI_none {m : List (Int × vt.den)} {k : Int} (h : k ∉ m.map Prod.fst) : lookM (.int .i64) vt m k = none := by
  unfold lookM
  rw [List.find?_eq_none.2]
  · rfl
  · intro x hx
    rw [beq_int]
    intro e
    exact h (by rw [← of_decide_eq_true e]; exact List.mem_map_of_mem hx)
theorem updI_new {m : List (Int × vt.den)} {k : Int} {v : vt.den} (h : k ∉ m.map Prod.fst) : updM (.int .i64) vt m k v = m ++ [(k, v)] := by
  induction m with
  | nil => rfl
  | cons x r ih =>
    simp only [List.map_cons, List.mem_cons, not_or] at h
    simp only [updM, beq_int]
    rw [decide_eq_false (fun e => h.1 e.symm), cond_false, ih h.2]
    rfl
theorem delI_eq (m : List (Int × vt.den)) (k : Int) : delM (.int .i64) vt m k = m.filter fun e => decide (e.1 ≠ k) := by
  unfold delM
  congr 1
  funext e
  rw [beq_int]
  simp
end
def ksF (F : List (Int × Bool)) : List Int := F.map Prod.fst
theorem ksF_del (F : List (Int × Bool)) (b : Int) : ksF (delM (.int .i64) .bool F b) = (ksF F).filter fun x => decide (x ≠ b) := by
  rw [delI_eq]
  unfold ksF
  rw [List.filter_map]
  rfl
theorem ksF_delF (bs : List Int) : ∀ F, ksF (delF F bs) = (ksF F).filter fun x => decide (x ∉ bs) := by
  induction bs with
  | nil => intro F; show ksF F = _; rw [List.filter_eq_self.2 (fun _ _ => decide_eq_true (by simp))]
  | cons b r ih =>
    intro F
    show ksF (delF (delM (.int .i64) .bool F b) r) = _
    rw [ih, ksF_del, List.filter_filter]
    congr 1
    funext x
    simp only [List.mem_cons, not_or]
    rw [← Bool.decide_and]
    exact decide_eq_decide.2 ⟨fun h => ⟨h.2, h.1⟩, fun h => ⟨h.2, h.1⟩⟩
theorem delF_tru {F : List (Int × Bool)} (h : ∀ x ∈ F, x.2 = true) (bs : List Int) : ∀ x ∈ delF F bs, x.2 = true := by
  induction bs generalizing F with
  | nil => exact h
  | cons b r ih =>
    refine ih (F := delM (.int .i64) .bool F b) ?_
    intro x hx
    rw [delI_eq, List.mem_filter] at hx
    exact h x hx.1
theorem lkB_mem {F : List (Int × Bool)} (hn : (ksF F).Nodup) (h : ∀ x ∈ F, x.2 = true) {b : Int} (hb : b ∈ ksF F) : lkB F b = true := by
  obtain ⟨x, hx, rfl⟩ := List.mem_map.1 hb
  have := lookI_some (vt := .bool) hn (k := x.1) (v := x.2) hx
  unfold lkB
  rw [this]
  exact h x hx
theorem takeBs_ok (bs : List Int) : ∀ F, (ksF F).Nodup → (∀ x ∈ F, x.2 = true) → bs.Nodup → (∀ b ∈ bs, b ∈ ksF F) → takeBs bs F = some (delF F bs) := by
  induction bs with
  | nil => intro F _ _ _ _; rfl
  | cons b r ih =>
    intro F hn ht hb hs
    rw [takeBs, if_pos (lkB_mem hn ht (hs b (by simp)))]
    have hb' := List.nodup_cons.1 hb
    refine ih _ ?_ ?_ hb'.2 ?_
    · rw [ksF_del]; exact List.Pairwise.filter _ hn
    · intro x hx
      rw [delI_eq, List.mem_filter] at hx
      exact ht x hx.1
    · intro x hx
      rw [ksF_del, List.mem_filter]
      exact ⟨hs x (List.mem_cons_of_mem _ hx), decide_eq_true (fun e => hb'.1 (e ▸ hx))⟩
theorem perm_split {l bs : List Int} (hl : l.Nodup) (hb : bs.Nodup) (hs : ∀ b ∈ bs, b ∈ l) : ((l.filter fun x => decide (x ∉ bs)) ++ bs).Perm l := by
  refine (List.perm_ext_iff_of_nodup ?_ hl).2 fun x => ?_
  · refine List.nodup_append.2 ⟨List.Pairwise.filter _ hl, hb, fun a ha b hb' e => ?_⟩
    rw [List.mem_filter] at ha
    exact of_decide_eq_true ha.2 (e ▸ hb')
  · rw [List.mem_append, List.mem_filter]
    constructor
    · rintro (h | h)
      · exact h.1
      · exact hs x h
    · intro h
      by_cases hx : x ∈ bs
      · exact .inr hx
      · exact .inl ⟨h, decide_eq_true hx⟩

/-! ### what is kept -/
structure PE where
  n : Int
  bs : List Int
  c : List UInt8
def tOf (L : List PE) : List (Int × List Int) := L.map fun e => (e.n, e.bs)
def lOf (L : List PE) : List KpT.den := L.map fun e => ((e.n, ⟨e.c.toArray⟩) : Int × ByteArray)
def nOf (L : List PE) : List Int := L.map PE.n
def bOf (L : List PE) : List Int := L.flatMap PE.bs
def EOk (bl : List ByT.den) (e : PE) : Prop := Chain bl e.bs e.c ∧ elt (.int .i64) e.bs 0 = e.n
structure Inv (fr ct : Int) (bl : List ByT.den) (L : List PE) (F : List (Int × Bool)) : Prop where
  f0 : 0 ≤ fr
  c1 : 1 ≤ ct
  hb : fr + ct ≤ bl.length
  sz : bl.length ≤ 65536
  ent : ∀ e ∈ L, EOk bl e
  tru : ∀ x ∈ F, x.2 = true
  perm : (ksF F ++ bOf L).Perm (areaL fr ct ct.toNat)

theorem areaL_mem {fr ct : Int} {n : Nat} {x : Int} : x ∈ areaL fr ct n ↔ fr ≤ x ∧ x < fr + n := by
  unfold areaL
  rw [List.mem_map]
  constructor
  · rintro ⟨i, hi, rfl⟩
    rw [List.mem_range] at hi
    omega
  · intro h
    exact ⟨(x - fr).toNat, List.mem_range.2 (by omega), by omega⟩
theorem areaL_nodup (fr ct : Int) (n : Nat) : (areaL fr ct n).Nodup := by
  unfold areaL
  refine List.pairwise_map.2 (List.nodup_range.imp fun {a b} h e => h ?_)
  omega
theorem addF_new (bs : List Int) : ∀ F, (ksF F ++ bs).Nodup → addF F bs = F ++ bs.map fun b => (b, true) := by
  induction bs with
  | nil => intro F _; simp [addF]
  | cons b r ih =>
    intro F h
    show addF (updM (.int .i64) .bool F b true) r = _
    have hb : b ∉ ksF F := fun hx => (List.nodup_append.1 h).2.2 b hx b (by simp) rfl
    rw [updI_new (vt := .bool) hb, ih]
    · simp
    · unfold ksF at h ⊢
      rw [List.map_append, List.map_cons, List.map_nil, List.append_assoc]
      exact h
theorem initF_eq (fr ct : Int) : initF fr ct = (areaL fr ct ct.toNat).map fun b => (b, true) := by
  unfold initF
  rw [addF_new _ [] (by simpa [ksF] using areaL_nodup fr ct ct.toNat)]
  rfl
theorem ksF_map (bs : List Int) : ksF (bs.map fun b => (b, true)) = bs := by
  unfold ksF; rw [List.map_map]; exact List.map_id' bs
theorem inv_init {fr ct : Int} {bl : List ByT.den} (h0 : 0 ≤ fr) (h1 : 1 ≤ ct) (h2 : fr + ct ≤ bl.length) (h3 : bl.length ≤ 65536) : Inv fr ct bl [] (initF fr ct) := by
  refine ⟨h0, h1, h2, h3, fun e he => (by cases he), fun x hx => ?_, ?_⟩
  · rw [initF_eq] at hx
    obtain ⟨b, _, rfl⟩ := List.mem_map.1 hx
    rfl
  · rw [initF_eq, ksF_map]
    simp [bOf]

section inv
variable {fr ct : Int} {bl : List ByT.den} {L : List PE} {F : List (Int × Bool)}
theorem Inv.nodup (h : Inv fr ct bl L F) : (ksF F ++ bOf L).Nodup := (h.perm.nodup_iff).2 (areaL_nodup _ _ _)
theorem Inv.mem (h : Inv fr ct bl L F) {x : Int} (hx : x ∈ ksF F ∨ x ∈ bOf L) : fr ≤ x ∧ x < fr + ct := by
  have := areaL_mem.1 (h.perm.mem_iff.1 (List.mem_append.2 hx))
  have := h.c1
  omega
theorem Inv.name (h : Inv fr ct bl L F) {e : PE} (he : e ∈ L) : e.n ∈ e.bs := by
  obtain ⟨h1, h2⟩ := h.ent e he
  rw [← h2]
  exact List.mem_of_getElem? (elt_get (t := .int .i64) (by have := (needN_bound e.c.length).2.2; have := h1.len; omega))
theorem bOf_mem {e : PE} (he : e ∈ L) {b : Int} (hb : b ∈ e.bs) : b ∈ bOf L := List.mem_flatMap.2 ⟨e, he, hb⟩
theorem Inv.names (h : Inv fr ct bl L F) : ∀ x ∈ nOf L, x ∈ bOf L := by
  intro x hx
  obtain ⟨e, he, rfl⟩ := List.mem_map.1 hx
  exact bOf_mem he (h.name he)
theorem names_nodup : ∀ {L : List PE}, (∀ e ∈ L, e.n ∈ e.bs) → (bOf L).Nodup → (nOf L).Nodup
  | [], _, _ => List.nodup_nil
  | e :: r, hn, hb => by
    have hb' : (e.bs ++ bOf r).Nodup := hb
    obtain ⟨h1, h2, h3⟩ := List.nodup_append.1 hb'
    refine List.nodup_cons.2 ⟨fun hx => ?_, names_nodup (fun x hx => hn x (List.mem_cons_of_mem _ hx)) h2⟩
    obtain ⟨y, hy, e'⟩ := List.mem_map.1 hx
    exact h3 e.n (hn e (by simp)) y.n (bOf_mem hy (hn y (List.mem_cons_of_mem _ hy))) e'.symm
theorem Inv.nnodup (h : Inv fr ct bl L F) : (nOf L).Nodup := names_nodup (fun e he => h.name he) (List.nodup_append.1 h.nodup).2.1
theorem tOf_keys (L : List PE) : (tOf L).map Prod.fst = nOf L := by unfold tOf nOf; rw [List.map_map]; rfl
theorem Inv.lk (h : Inv fr ct bl L F) {e : PE} (he : e ∈ L) : lkT' (tOf L) e.n = some e.bs := by
  unfold lkT'
  exact lookI_some (vt := .sl 8 (.int .i64)) (by rw [tOf_keys]; exact h.nnodup) (List.mem_map_of_mem (f := fun e : PE => (e.n, e.bs)) he)
theorem lk_none {n : Int} (hn : n ∉ nOf L) : lkT' (tOf L) n = none := by
  unfold lkT'
  exact lookI_none (vt := .sl 8 (.int .i64)) (by rw [tOf_keys]; exact hn)
theorem updT_new {n : Int} {bs : List Int} (hn : n ∉ nOf L) : updT (tOf L) n bs = tOf L ++ [(n, bs)] := by
  unfold updT
  exact updI_new (vt := .sl 8 (.int .i64)) (by rw [tOf_keys]; exact hn)

/-- A further text out of the free blocks. -/
theorem Inv.add (h : Inv fr ct bl L F) {e : PE} (he : EOk bl e) (hs : ∀ b ∈ e.bs, b ∈ ksF F) : Inv fr ct bl (L ++ [e]) (delF F e.bs) := by
  refine ⟨h.f0, h.c1, h.hb, h.sz, fun x hx => ?_, delF_tru h.tru _, ?_⟩
  · rcases List.mem_append.1 hx with hx | hx
    · exact h.ent x hx
    · rw [List.mem_singleton] at hx; subst hx; exact he
  · have hF := (List.nodup_append.1 h.nodup).1
    have h1 := perm_split hF he.1.nd hs
    have h2 : bOf (L ++ [e]) = bOf L ++ e.bs := by simp [bOf, List.flatMap_append]
    rw [ksF_delF, h2]
    refine List.Perm.trans ?_ h.perm
    refine List.Perm.trans ?_ (h1.append_right (bOf L))
    rw [List.append_assoc]
    exact List.Perm.append_left _ List.perm_append_comm
theorem Inv.fresh (h : Inv fr ct bl L F) {e : PE} (he : EOk bl e) (hs : ∀ b ∈ e.bs, b ∈ ksF F) : e.n ∉ nOf L := by
  intro hx
  have h1 : e.n ∈ e.bs := by
    rw [← he.2]
    exact List.mem_of_getElem? (elt_get (t := .int .i64) (by have := (needN_bound e.c.length).2.2; have := he.1.len; omega))
  exact (List.nodup_append.1 h.nodup).2.2 e.n (hs _ h1) e.n (h.names _ hx) rfl
theorem open_ok : ∀ (L2 : List PE) (L : List PE) (F : List (Int × Bool)), Inv fr ct bl L F → (∀ e ∈ L2, EOk bl e) → (bOf L2).Nodup → (∀ b ∈ bOf L2, b ∈ ksF F) →
    ∃ F', openL bl fr ct (nOf L2) (tOf L) F = some (tOf (L ++ L2), F') ∧ Inv fr ct bl (L ++ L2) F'
  | [], L, F, h, _, _, _ => ⟨F, by simp [nOf, openL], by simpa using h⟩
  | e :: r, L, F, h, he, hn, hs => by
    have he1 := he e (by simp)
    have hs1 : ∀ b ∈ e.bs, b ∈ ksF F := fun b hb => hs b (bOf_mem (by simp) hb)
    have hn' : (e.bs ++ bOf r).Nodup := hn
    obtain ⟨n1, n2, n3⟩ := List.nodup_append.1 hn'
    have hF := (List.nodup_append.1 h.nodup).1
    have htx := he1.1.text (fr := fr) (ct := ct) h.sz (fun b hb => h.mem (.inl (hs1 b hb)))
    rw [he1.2] at htx
    obtain ⟨F', g1, g2⟩ := open_ok r (L ++ [e]) (delF F e.bs) (h.add he1 hs1) (fun x hx => he x (List.mem_cons_of_mem _ hx)) n2 (fun b hb => by
      rw [ksF_delF, List.mem_filter]
      exact ⟨hs b (by rw [show bOf (e :: r) = e.bs ++ bOf r from rfl]; exact List.mem_append_right _ hb), decide_eq_true (fun hx => n3 b hx b hb rfl)⟩)
    refine ⟨F', ?_, by rw [List.append_assoc] at g2; exact g2⟩
    show openL bl fr ct (e.n :: nOf r) (tOf L) F = _
    rw [openL, htx]
    simp only
    rw [takeBs_ok _ _ hF h.tru n1 hs1]
    simp only
    rw [updT_new (h.fresh he1 hs1)]
    have e1 : tOf L ++ [(e.n, e.bs)] = tOf (L ++ [e]) := by simp [tOf]
    rw [e1, g1, List.append_assoc]
    rfl
theorem Inv.reopen (h : Inv fr ct bl L F) : ∃ F', openL bl fr ct (nOf L) [] (initF fr ct) = some (tOf L, F') ∧ Inv fr ct bl L F' := by
  have h1 := List.nodup_append.1 h.nodup
  have := open_ok L [] (initF fr ct) (inv_init h.f0 h.c1 h.hb h.sz) h.ent h1.2.1 (fun b hb => by
    rw [initF_eq, ksF_map]
    exact areaL_mem.2 (by have := h.mem (.inr hb); have := h.c1; omega))
  rw [List.nil_append] at this
  exact this
end inv
end Go.V
namespace Go.V
set_option maxRecDepth 100000
set_option linter.unusedSimpArgs false
set_option linter.unnecessarySimpa false
set_option linter.unusedVariables false
section inv
variable {fr ct : Int} {bl : List ByT.den} {L : List PE} {F : List (Int × Bool)}
theorem Inv.total (h : Inv fr ct bl L F) : F.length + (bOf L).length = ct.toNat ∧ ct ≤ 65536 := by
  have h1 := h.perm.length_eq
  rw [List.length_append, areaL_length] at h1
  have h2 : (ksF F).length = F.length := List.length_map ..
  have := h.f0
  have := h.hb
  have := h.sz
  exact ⟨by omega, by omega⟩
theorem bOf_length : ∀ {L : List PE}, (∀ e ∈ L, 1 ≤ e.bs.length) → L.length ≤ (bOf L).length
  | [], _ => Nat.zero_le _
  | e :: r, h => by
    have := bOf_length (L := r) (fun x hx => h x (List.mem_cons_of_mem _ hx))
    have h1 := h e (by simp)
    show _ ≤ (e.bs ++ bOf r).length
    rw [List.length_append, List.length_cons]
    omega
theorem EOk.pos {e : PE} (h : EOk bl e) : 1 ≤ e.bs.length ∧ e.bs.length ≤ 85 := by
  have := needN_bound e.c.length
  have h2 := h.1.len
  have h3 := h.1.sz
  omega
theorem srt_lt {vt : Ty} {m : List (Int × vt.den)} (h : (m.map Prod.fst).Nodup) : (srtI m).Pairwise (· < ·) := by
  have tr : ∀ a b c : Int, leI a b = true → leI b c = true → leI a c = true := fun a b c h1 h2 => by simp only [leI, decide_eq_true_eq] at *; exact Int.le_trans h1 h2
  have to : ∀ a b : Int, (leI a b || leI b a) = true := fun a b => by simp only [leI, Bool.or_eq_true, decide_eq_true_eq]; exact Int.le_total a b
  have h1 : (srtI m).Pairwise fun a b => leI a b = true := List.pairwise_mergeSort tr to _
  have h2 : (srtI m).Nodup := (List.mergeSort_perm (keysI m) leI).nodup_iff.2 h
  refine (h1.and h2).imp fun {a b} hab => ?_
  have h3 : a ≤ b := of_decide_eq_true hab.1
  have h4 : a ≠ b := hab.2
  omega
theorem srt_perm (F : List (Int × Bool)) : (srtI (vt := .bool) F).Perm (ksF F) := List.mergeSort_perm _ _
theorem onesL'_flat (l : List Int) : (onesL' l).flatten = l := by
  unfold onesL'
  induction l with
  | nil => rfl
  | cons a r ih => simp only [List.map_cons, List.flatten_cons, ih]; rfl
theorem lsL_flat (h : Inv fr ct bl L F) : (lsL (tOf L) F (lOf L)).flatten = srtI (vt := .bool) F ++ bOf L := by
  have key : ∀ L2 : List PE, (∀ e ∈ L2, e ∈ L) → ((lOf L2).flatMap fun x => onesL' (bkT (tOf L) x.1)).flatten = bOf L2 := by
    intro L2
    induction L2 with
    | nil => intro _; rfl
    | cons e r ih =>
      intro hs
      have h1 : bkT (tOf L) e.n = e.bs := by unfold bkT; rw [h.lk (hs e (by simp))]; rfl
      show ((onesL' (bkT (tOf L) e.n)) ++ ((lOf r).flatMap fun x => onesL' (bkT (tOf L) x.1))).flatten = e.bs ++ bOf r
      rw [List.flatten_append, ih (fun x hx => hs x (List.mem_cons_of_mem _ hx)), h1, onesL'_flat]
  show srtI (vt := .bool) F ++ ((lOf L).flatMap fun x => onesL' (bkT (tOf L) x.1)).flatten = _
  rw [key L (fun e he => he)]
theorem Inv.gd (h : Inv fr ct bl L F) : Gd fr ct bl (tOf L) F (lOf L) := by
  have ht := h.total
  have hbl := bOf_length (fun e he => (h.ent e he).pos.1)
  have hll : (lOf L).length = L.length := List.length_map ..
  have hlt : (tOf L).length = L.length := List.length_map ..
  refine ⟨by rw [hll, hlt], by omega, by omega, srt_lt (vt := .sl 8 (.int .i64)) (by rw [tOf_keys]; exact h.nnodup), fun x hx => ?_, ⟨h.f0, by have := h.c1; omega, by have := h.hb; have := h.sz; omega, ?_, ?_, ?_, ?_⟩⟩
  · obtain ⟨e, he, rfl⟩ := List.mem_map.1 hx
    obtain ⟨h1, h2⟩ := h.ent e he
    have hs : (⟨e.c.toArray⟩ : ByteArray).size = e.c.length := rfl
    exact ⟨e.bs, h.lk he, by show _ = needN (⟨e.c.toArray⟩ : ByteArray).size; rw [hs]; exact h1.len, h2, h1.rd h.sz, h1.get, by show (⟨e.c.toArray⟩ : ByteArray).size ≤ _; rw [hs]; exact h1.sz⟩
  · rw [lsL_flat h]
    exact ((srt_perm F).append_right _).nodup_iff.2 h.nodup
  · intro x hx
    rw [lsL_flat h] at hx
    have := (((srt_perm F).append_right (bOf L)).mem_iff.1 hx)
    exact h.mem (List.mem_append.1 this)
  · intro l hl
    rcases List.mem_cons.1 hl with rfl | hl
    · exact srt_lt (vt := .bool) (List.nodup_append.1 h.nodup).1
    · obtain ⟨x, _, hx⟩ := List.mem_flatMap.1 hl
      obtain ⟨b, _, rfl⟩ := List.mem_map.1 hx
      exact List.pairwise_singleton _ _
  · rw [lsL_flat h, List.length_append, srtI_length]
    have := h.c1
    omega
theorem Inv.keep (h : Inv fr ct bl L F) {ws : List LgT.den} (hw : ∀ w ∈ ws, w.1 ∈ ksF F) : Inv fr ct (wrL bl ws) L F := by
  refine ⟨h.f0, h.c1, by rw [wrL_length]; exact h.hb, by rw [wrL_length]; exact h.sz, fun e he => ⟨(h.ent e he).1.keep (fun w hw' => ⟨?_, fun hx => ?_⟩), (h.ent e he).2⟩, h.tru, h.perm⟩
  · have h1 := h.mem (.inl (hw w hw'))
    exact Int.le_trans h.f0 h1.1
  · exact (List.nodup_append.1 h.nodup).2.2 w.1 (hw w hw') w.1 (bOf_mem he hx) rfl
theorem takeF_mem {n : Nat} {b : Int} (h : b ∈ takeF F n) : b ∈ ksF F := (srt_perm F).mem_iff.1 (List.mem_of_mem_take h)
theorem takeF_nodup (h : Inv fr ct bl L F) (n : Nat) : (takeF F n).Nodup := List.Pairwise.sublist (List.take_sublist _ _) ((srt_perm F).nodup_iff.2 (List.nodup_append.1 h.nodup).1)
theorem takeF_length {n : Nat} (h : needN n ≤ F.length) : (takeF F n).length = needN n := by
  unfold takeF; rw [List.length_take, srtI_length]; omega
theorem Inv.lost (h : Inv fr ct bl L F) (c : List UInt8) (k : Nat) : Inv fr ct (wrL bl ((wsF (takeF F c.length) c).take k)) L F :=
  h.keep (fun w hw => takeF_mem (wsF_take_mem hw))
def putE (F : List (Int × Bool)) (c : List UInt8) : PE := ⟨elt (.int .i64) (takeF F c.length) 0, takeF F c.length, c⟩
theorem Inv.put (h : Inv fr ct bl L F) {c : List UInt8} (hc : c.length ≤ 20000) (hn : needN c.length ≤ F.length) :
    Inv fr ct (wrL bl (wsF (takeF F c.length) c)) (L ++ [putE F c]) (delF F (takeF F c.length)) ∧ updT (tOf L) (elt (.int .i64) (takeF F c.length) 0) (takeF F c.length) = tOf (L ++ [putE F c]) ∧
    elt (.int .i64) (takeF F c.length) 0 ∉ nOf L := by
  have hm : ∀ b ∈ takeF F c.length, 0 ≤ b ∧ b < bl.length := fun b hb => by
    have := h.mem (.inl (takeF_mem hb))
    have := h.f0
    have := h.hb
    omega
  have hk := h.lost c (wsF (takeF F c.length) c).length
  rw [List.take_length] at hk
  have he : EOk (wrL bl (wsF (takeF F c.length) c)) (putE F c) := ⟨Chain.put (takeF_length hn) hc (takeF_nodup h _) hm, rfl⟩
  have hf := hk.fresh he (fun b hb => takeF_mem hb)
  refine ⟨hk.add he (fun b hb => takeF_mem hb), ?_, hf⟩
  rw [updT_new (show elt (.int .i64) (takeF F c.length) 0 ∉ nOf L from hf)]
  simp [tOf, putE]
theorem Inv.drop {A B : List PE} {e : PE} (h : Inv fr ct bl (A ++ e :: B) F) : Inv fr ct bl (A ++ B) (addF F e.bs) ∧ delM (.int .i64) (.sl 8 (.int .i64)) (tOf (A ++ e :: B)) e.n = tOf (A ++ B) ∧ lkT' (tOf (A ++ e :: B)) e.n = some e.bs ∧
    lkT' (tOf (A ++ B)) e.n = none ∧ F.length + e.bs.length ≤ 1000000 := by
  have hb1 : bOf (A ++ e :: B) = bOf A ++ (e.bs ++ bOf B) := by simp [bOf, List.flatMap_append]
  have hb2 : bOf (A ++ B) = bOf A ++ bOf B := by simp [bOf, List.flatMap_append]
  have hnd := h.nodup
  rw [hb1] at hnd
  have hF : (ksF F ++ e.bs).Nodup := by
    obtain ⟨n1, n2, n3⟩ := List.nodup_append.1 hnd
    obtain ⟨m1, m2, m3⟩ := List.nodup_append.1 n2
    obtain ⟨k1, k2, k3⟩ := List.nodup_append.1 m2
    exact List.nodup_append.2 ⟨n1, k1, fun a ha b hb => n3 a ha b (by simp [hb])⟩
  have hn := h.nnodup
  have hnn : e.n ∉ nOf A ∧ e.n ∉ nOf B := by
    have : nOf (A ++ e :: B) = nOf A ++ e.n :: nOf B := by simp [nOf]
    rw [this] at hn
    obtain ⟨n1, n2, n3⟩ := List.nodup_append.1 hn
    exact ⟨fun hx => n3 e.n hx e.n (by simp) rfl, (List.nodup_cons.1 n2).1⟩
  refine ⟨⟨h.f0, h.c1, h.hb, h.sz, fun x hx => h.ent x (by simp at hx ⊢; rcases hx with hx | hx <;> simp [hx]), fun x hx => ?_, ?_⟩, ?_, h.lk (by simp), ?_, ?_⟩
  · rw [addF_new _ _ hF] at hx
    rcases List.mem_append.1 hx with hx | hx
    · exact h.tru x hx
    · obtain ⟨b, _, rfl⟩ := List.mem_map.1 hx
      rfl
  · rw [addF_new _ _ hF]
    have : ksF (F ++ e.bs.map fun b => (b, true)) = ksF F ++ e.bs := by
      unfold ksF at *
      rw [List.map_append, List.map_map]
      congr 1
      exact List.map_id' _
    rw [this, hb2]
    refine List.Perm.trans ?_ h.perm
    rw [hb1, List.append_assoc]
    refine List.Perm.append_left _ ?_
    rw [← List.append_assoc, ← List.append_assoc]
    exact List.Perm.append_right _ List.perm_append_comm
  · rw [delI_eq]
    have hA : ∀ X : List PE, e.n ∉ nOf X → (tOf X).filter (fun x => decide (x.1 ≠ e.n)) = tOf X := by
      intro X hX
      refine List.filter_eq_self.2 fun x hx => decide_eq_true fun hne => hX ?_
      rw [← tOf_keys]
      exact hne ▸ List.mem_map_of_mem hx
    have h1 : tOf (A ++ e :: B) = tOf A ++ (e.n, e.bs) :: tOf B := by simp [tOf]
    rw [h1, List.filter_append, List.filter_cons, hA A hnn.1, hA B hnn.2]
    simp [tOf]
  · exact lk_none (by
      have : nOf (A ++ B) = nOf A ++ nOf B := by simp [nOf]
      rw [this, List.mem_append]
      rintro (q | q)
      · exact hnn.1 q
      · exact hnn.2 q)
  · have h1 := h.total
    have h2 : e.bs.length ≤ (bOf (A ++ e :: B)).length := by rw [hb1]; simp; omega
    omega
end inv
end Go.V
namespace Go.V
open Go.Proofs
set_option maxRecDepth 100000
set_option linter.unusedSimpArgs false
set_option linter.unnecessarySimpa false
set_option linter.unusedVariables false
/-- awake -/
def C9 : Contract := fun args hp K => match args, hp with
  | [], [] => K (.bool true) []
  | _, _ => False
theorem s9 : Sound Try.prog 9 C9 := by
  refine sound_of_okF ok9 (Γ := [(10, C10), (11, C11), (12, C12), (14, C14), (15, C15)]) (.cons s10 (callable_of_okF ok10) (.cons s11 (callable_of_okF ok11) (.cons s12 (callable_of_okF ok12) (.cons s14 (callable_of_okF ok14) (.cons s15 (callable_of_okF ok15) .nil))))) ?_
  intro args hp K h
  unfold C9 at h
  split at h
  · refine ⟨by simp, [], ?_⟩
    have i0 := inv_init (fr := 1) (ct := 3) (bl := List.replicate 4 []) (by omega) (by omega) (by simp) (by simp)
    have hF : (initF 1 3).length = 3 := rfl
    have hFm : ∀ e ∈ initF 1 3, 0 ≤ e.1 ∧ e.1 < ((List.replicate 4 ([] : List UInt8)).length : Int) := by decide
    simp (maxSteps := 2000000) only [a9, r9, C10, C11, C12, C14, C15, dkH, pgH, pgN, go_sem, eq_self, and_self, Int.natCast_pos, Int.le_refl, Nat.le_refl, Int.natCast_nonneg, Int.ofNat_lt, Int.ofNat_le, Int.reduceLT, Int.reduceLE, Int.reduceEq, Int.reduceNe, Int.reduceAdd, Int.reduceSub, Int.reduceMul, Int.reduceToNat, Int.reduceNeg, Nat.reduceEqDiff, Nat.reduceLeDiff, Nat.reduceSub, Nat.reduceMul, Nat.reduceLT, Nat.reduceBEq, Nat.reduceAdd]
    have hn1 : needN 2 = 1 := rfl
    refine ⟨by simp, fun e => absurd ⟨by simp, by simp⟩ e, fun _ => ⟨fun T F hTF => ?_, fun e => by cases e⟩⟩
    have hTF' : T = [] ∧ F = initF 1 3 := by cases hTF; exact ⟨rfl, rfl⟩
    clear hTF
    obtain ⟨rfl, rfl⟩ := hTF'
    have ip := i0.put (c := [UInt8.ofNat 97, UInt8.ofNat 98]) (by simp) (by rw [hF]; decide)
    obtain ⟨i1, hu, _⟩ := ip
    have hlk := i1.lk (e := putE (initF 1 3) [UInt8.ofNat 97, UInt8.ofNat 98]) (by simp)
    have hen := (i1.ent (putE (initF 1 3) [UInt8.ofNat 97, UInt8.ofNat 98]) (by simp)).1
    have hget := hen.get
    have hrd := hen.rd i1.sz
    have htot := i1.total
    have hbl := hen.len
    rw [← hu] at hlk
    generalize hbs : takeF (initF 1 3) 2 = bs at *
    refine And.intro rfl (And.intro ⟨by rw [hF]; omega, by simp, hFm, by simp⟩ (And.intro (fun e => e.elim) (And.intro (fun e => by rw [hF] at e; omega) (fun _ => And.intro (fun _ => ?_) (fun e => e.elim)))))
    have hlk2 : lkT' (updT [] (elt (.int .i64) bs 0) bs) (elt (.int .i64) bs 0) = some bs := by
      subst hbs; exact hlk
    refine And.intro (fun e => by rw [hlk2] at e; cases e) (fun bs2 e => ?_)
    have e2 : bs2 = bs := by rw [hlk2] at e; exact (Option.some.inj e).symm
    subst e2
    have hl1 : bs2.length = 1 := by subst hbs; exact hbl
    refine And.intro ⟨by omega, by subst hbs; exact hrd⟩ ?_
    rintro u rfl
    have hg2 : bs2.flatMap (pl4 (wrL (List.replicate 4 []) (wsF bs2 [UInt8.ofNat 97, UInt8.ofNat 98]))) = [UInt8.ofNat 97, UInt8.ofNat 98] := by subst hbs; exact hget
    rw [hg2]
    have hd2 : (delF (initF 1 3) bs2).length = 2 := by
      have h1 : (delF (initF 1 3) bs2).length + bs2.length = 3 := by
        subst hbs
        have := htot.1
        simp [bOf, putE] at this
        exact this
      omega
    refine swd (fun _ => ?_) (fun e => absurd rfl e)
    rw [srtI_length, hd2]
    refine ⟨by omega, ?_⟩
    rintro _ _ m rfl c hc
    have : c = true := by rw [hc]; decide
    subst this
    exact h
  · exact h.elim
end Go.V
namespace Go.V
open Go.Proofs
set_option maxRecDepth 100000
set_option linter.unusedSimpArgs false
set_option linter.unnecessarySimpa false
set_option linter.unusedVariables false
/-! ### the contracts, as they are used -/
section use
variable {K : SV → List SB → Prop} {fr ct : Int} {bl : List ByT.den} {lg : List LgT.den} {L : List PE} {F : List (Int × Bool)} {p : Bool} {c : List UInt8}
theorem use9 (k : K (.bool true) []) : C9 [] [] K := k
theorem use11 {n : Int} (h : 0 ≤ n ∧ n ≤ 65536) (k : K (.ptr 0 0) (dkH true (List.replicate n.toNat []) [] (-1) false)) : C11 [.int .i64 n] [] K := ⟨h, k⟩
theorem use13 {n : Int} (h : 0 ≤ n ∧ n ≤ 1000000) (k : K (.int .i64 (needN n.toNat)) []) : C13 [.int .i64 n] [] K := ⟨h, k⟩
theorem use10 {f : Int} (h0 : 0 ≤ fr) (h1 : 1 ≤ ct) (h2 : fr + ct ≤ bl.length) (h3 : bl.length ≤ 65536)
    (k : Inv fr ct bl [] (initF fr ct) → K (.tup [.ptr 3 0, .int .i64 0]) (dkH false bl lg f false ++ pgN fr (tOf []) (initF fr ct))) : C10 [.ptr 0 0, .int .i64 fr, .int .i64 ct, .sl p 8 (.int .i64) []] (dkH false bl lg f false) K := by
  refine ⟨bl, lg, f, false, rfl, p, [], rfl, ⟨rfl, h3, Nat.zero_le _⟩, fun e => absurd ⟨h1, h0, by omega, by omega⟩ e, fun _ => ⟨fun T F e => ?_, fun e => by cases e⟩⟩
  cases e
  exact k (inv_init h0 h1 h2 h3)
theorem use10L {f : Int} {ns : List Int} (h : Inv fr ct bl L F) (hn : ns = nOf L) (k : ∀ F', Inv fr ct bl L F' → K (.tup [.ptr 3 0, .int .i64 0]) (dkH false bl lg f false ++ pgN fr (tOf L) F')) :
    C10 [.ptr 0 0, .int .i64 fr, .int .i64 ct, .sl p 8 (.int .i64) ns] (dkH false bl lg f false) K := by
  subst hn
  have ht := h.total
  have hbl := bOf_length (fun e he => (h.ent e he).pos.1)
  have hl : (nOf L).length = L.length := List.length_map ..
  obtain ⟨F', g1, g2⟩ := h.reopen
  have := h.f0
  have := h.hb
  have := h.c1
  refine ⟨bl, lg, f, false, rfl, p, nOf L, rfl, ⟨rfl, h.sz, by omega⟩, fun e => absurd ⟨h.c1, h.f0, by omega, by omega⟩ e, fun _ => ⟨fun T F e => ?_, fun e => (by rw [g1] at e; cases e)⟩⟩
  rw [g1] at e
  cases e
  exact k F' g2
/-- .. an area that is none. -/
theorem use10A {f : Int} {ns : List Int} (h3 : bl.length ≤ 65536) (hns : ns.length ≤ 1000000) (hn : ct < 1) (k : K (.tup [.nilp, .int .i64 1]) (dkH false bl lg f false)) :
    C10 [.ptr 0 0, .int .i64 fr, .int .i64 ct, .sl p 8 (.int .i64) ns] (dkH false bl lg f false) K :=
  ⟨bl, lg, f, false, rfl, p, ns, rfl, ⟨rfl, h3, hns⟩, fun _ => k, fun e => absurd e.1 (by omega)⟩
theorem Inv.fb (h : Inv fr ct bl L F) : ∀ e ∈ F, 0 ≤ e.1 ∧ e.1 < bl.length := fun e he => by
  have := h.mem (.inl (List.mem_map_of_mem he))
  have := h.f0
  have := h.hb
  omega
theorem Inv.small (h : Inv fr ct bl L F) : F.length ≤ 65536 ∧ (tOf L).length ≤ 65536 ∧ L.length ≤ 65536 := by
  have ht := h.total
  have hbl := bOf_length (fun e he => (h.ent e he).pos.1)
  have hl : (tOf L).length = L.length := List.length_map ..
  omega
/-- Put, as pages that are kept take it. -/
theorem use12 (h : Inv fr ct bl L F) {f : Int} (hlg : lg.length ≤ 900000)
    (kl : 20000 < c.length → K (.tup [.int .i64 0, .int .i64 4]) (pgH true fr (tOf L) F bl lg f false))
    (kf : c.length ≤ 20000 → F.length < needN c.length → K (.tup [.int .i64 0, .int .i64 6]) (pgH true fr (tOf L) F bl lg f false))
    (kp : c.length ≤ 20000 → needN c.length ≤ F.length → (f < 0 ∨ (needN c.length : Int) ≤ f) → ∀ F' bl', Inv fr ct bl' (L ++ [putE F c]) F' → bl' = wrL bl (wsF (takeF F c.length) c) → (putE F c).n ∉ nOf L →
      K (.tup [.int .i64 (putE F c).n, .int .i64 0]) (pgH true fr (tOf (L ++ [putE F c])) F' bl' (lg ++ wsF (takeF F c.length) c) (fuA f (needN c.length)) false))
    (kx : c.length ≤ 20000 → needN c.length ≤ F.length → 0 ≤ f → f < (needN c.length : Int) → ∀ bl', Inv fr ct bl' L F →
      K (.tup [.int .i64 0, .int .i64 9]) (pgH true fr (tOf L) F bl' (lg ++ (wsF (takeF F c.length) c).take f.toNat) 0 true)) :
    C12 [.ptr 0 0, .sl p 1 .byte c] (pgH false fr (tOf L) F bl lg f false) K := by
  have hs := h.small
  refine ⟨fr, tOf L, F, bl, lg, f, false, rfl, p, c, rfl, ⟨rfl, by omega, by omega, h.fb, h.sz, hlg⟩, kl, kf, fun h1 h2 => ⟨fun h3 => ?_, fun h3 h4 => kx h1 h2 h3 h4 _ (h.lost c _)⟩⟩
  obtain ⟨i1, i2, i3⟩ := h.put h1 h2
  have := kp h1 h2 h3 _ _ i1 rfl i3
  rw [← i2] at this
  exact this
theorem use15 {T : List (Int × List Int)} {f : Int} {dn : Bool} (hF : F.length ≤ 65536) (k : K (.own 6) (pgH false fr T F bl lg f dn ++ [.row true 8 (.int .i64) (srtI (vt := .bool) F)])) :
    C15 [.ptr 0 0] (pgH false fr T F bl lg f dn) K := ⟨fr, T, F, bl, lg, f, dn, rfl, by omega, k⟩
theorem use18 {A B : List PE} {e : PE} (h : Inv fr ct bl (A ++ e :: B) F) {f : Int} {dn : Bool} {n : Int} (hn : n = e.n) (k : ∀ F', Inv fr ct bl (A ++ B) F' → K (.int .i64 0) (pgH false fr (tOf (A ++ B)) F' bl lg f dn)) :
    C18 [.ptr 0 0, .int .i64 n] (pgH false fr (tOf (A ++ e :: B)) F bl lg f dn) K := by
  subst hn
  obtain ⟨h1, h2, h3, h4, h5⟩ := h.drop
  refine ⟨fr, _, F, bl, lg, f, dn, rfl, And.intro (fun e' => by rw [h3] at e'; cases e') (fun bs e' => ?_)⟩
  rw [h3] at e'
  cases e'
  refine ⟨h5, ?_⟩
  rw [h2]
  exact k _ h1
theorem use18n {f : Int} {dn : Bool} {n : Int} (hn : n ∉ nOf L) (k : K (.int .i64 5) (pgH false fr (tOf L) F bl lg f dn)) :
    C18 [.ptr 0 0, .int .i64 n] (pgH false fr (tOf L) F bl lg f dn) K :=
  ⟨fr, tOf L, F, bl, lg, f, dn, rfl, And.intro (fun _ => k) (fun bs e => by rw [lk_none hn] at e; cases e)⟩
theorem use23 (h : Inv fr ct bl L F) {f : Int} {l : List KpT.den} (hl : l = lOf L) (k : K (.bool true) (pgH false fr (tOf L) F bl lg f false)) :
    C23 [.ptr 0 0, .sl p 24 (.pair (.int .i64) .str) l, .int .i64 fr, .int .i64 ct] (pgH false fr (tOf L) F bl lg f false) K := by
  subst hl
  exact ⟨fr, tOf L, F, bl, lg, f, false, rfl, rfl, h.gd, k⟩
theorem use22 {l : List KpT.den} (k : K (.own 0) [.row true 8 (.int .i64) ((l : List KpT.den).map Prod.fst)]) : C22 [.sl p 24 (.pair (.int .i64) .str) l] [] K := k
theorem use16 {k' n : Int} (k : K (.own 0) [.row true 1 .byte (txF n c)]) : C16 [.agg [.int .i64 k', .int .i64 n, .sl p 1 .byte c]] [] K := ⟨p, c, rfl, k⟩
theorem use20 {f : Int} {dn : Bool} (h : lg.length ≤ 1000000) (k : K (.int .i64 lg.length) (dkH false bl lg f dn)) : C20 [.ptr 0 0] (dkH false bl lg f dn) K := ⟨bl, lg, f, dn, rfl, fun _ => k⟩
theorem use24 {f n : Int} {dn : Bool} (h : 0 ≤ n) (k : K (.tup []) (dkH false bl lg n dn)) : C24 [.ptr 0 0, .int .i64 n] (dkH false bl lg f dn) K := ⟨bl, lg, f, dn, rfl, h, k⟩
theorem use25 {f : Int} {dn : Bool} (k : K (.tup []) (dkH false bl lg (-1) false)) : C25 [.ptr 0 0] (dkH false bl lg f dn) K := ⟨bl, lg, f, dn, rfl, k⟩
end use
end Go.V
namespace Go.V
open Go.Proofs
set_option maxRecDepth 100000
set_option linter.unusedSimpArgs false
set_option linter.unnecessarySimpa false
set_option linter.unusedVariables false
end Go.V
namespace Go.V
open Go.Proofs
set_option maxRecDepth 100000
set_option linter.unusedSimpArgs false
set_option linter.unnecessarySimpa false
set_option linter.unusedVariables false
section use
variable {K : SV → List SB → Prop} {p : Bool} {c : List UInt8} {n : Int}
end use
end Go.V
namespace Go.V
open Go.Proofs
set_option maxRecDepth 100000
set_option linter.unusedSimpArgs false
set_option linter.unnecessarySimpa false
set_option linter.unusedVariables false
end Go.V
namespace Go.V
open Go.Proofs
set_option maxRecDepth 100000
set_option linter.unusedSimpArgs false
set_option linter.unnecessarySimpa false
set_option linter.unusedVariables false
/-! ### names that are none -/
theorem wrapU (n : Int) : 0 ≤ IntKind.u64.wrap n := by
  show 0 ≤ n % _
  exact Int.emod_nonneg _ (by decide)
theorem small_wrap {n : Int} (h : 0 ≤ n ∧ n ≤ 4294967295) : IntKind.u64.wrap n = n ∧ IntKind.i64.wrap n = n := ⟨wrap_in (by simp [inR, IntKind.min, IntKind.max, IntKind.signed, IntKind.bits]; omega), wrap_in (by simp [inR, IntKind.min, IntKind.max, IntKind.signed, IntKind.bits]; omega)⟩
abbrev OpT : Ty := .pair (.int .i64) (.pair (.int .i64) (.sl 1 .byte))
set_option maxHeartbeats 2000000
end Go.V
