/- A part of the proof layer, or functions of the given program in it: contracts and their proofs. -/
import Derived.Test.YthnnbgaphjinnaaMD8
namespace Go.V
set_option maxRecDepth 100000
set_option linter.unusedSimpArgs false
set_option linter.unnecessarySimpa false
set_option linter.unusedVariables false
section inv
variable {fr ct : Int} {bl : List ByT.den} {L : List PE} {F : List (Int × Bool)}
theorem Inv.total (h : Inv fr ct bl L F) : F.length + (bOf L).length = ct.toNat ∧ ct ≤ 65536 := by
  have h1 := h.perm.length_eq
  rw [List.length_append, areaL_length] at h1
  have h2 : (ksF F).length = F.length := List.length_map ..
  have := h.f0
  have := h.hb
  have := h.sz
  exact ⟨by omega, by omega⟩
theorem bOf_length : ∀ {L : List PE}, (∀ e ∈ L, 1 ≤ e.bs.length) → L.length ≤ (bOf L).length
  | [], _ => Nat.zero_le _
  | e :: r, h => by
    have := bOf_length (L := r) (fun x hx => h x (List.mem_cons_of_mem _ hx))
    have h1 := h e (by simp)
    show _ ≤ (e.bs ++ bOf r).length
    rw [List.length_append, List.length_cons]
    omega
theorem EOk.pos {e : PE} (h : EOk bl e) : 1 ≤ e.bs.length ∧ e.bs.length ≤ 85 := by
  have := needN_bound e.c.length
  have h2 := h.1.len
  have h3 := h.1.sz
  omega
theorem srt_lt {vt : Ty} {m : List (Int × vt.den)} (h : (m.map Prod.fst).Nodup) : (srtI m).Pairwise (· < ·) := by
  have tr : ∀ a b c : Int, leI a b = true → leI b c = true → leI a c = true := fun a b c h1 h2 => by simp only [leI, decide_eq_true_eq] at *; exact Int.le_trans h1 h2
  have to : ∀ a b : Int, (leI a b || leI b a) = true := fun a b => by simp only [leI, Bool.or_eq_true, decide_eq_true_eq]; exact Int.le_total a b
  have h1 : (srtI m).Pairwise fun a b => leI a b = true := List.pairwise_mergeSort tr to _
  have h2 : (srtI m).Nodup := (List.mergeSort_perm (keysI m) leI).nodup_iff.2 h
  refine (h1.and h2).imp fun {a b} hab => ?_
  have h3 : a ≤ b := of_decide_eq_true hab.1
  have h4 : a ≠ b := hab.2
  omega
theorem srt_perm (F : List (Int × Bool)) : (srtI (vt := .bool) F).Perm (ksF F) := List.mergeSort_perm _ _
theorem onesL'_flat (l : List Int) : (onesL' l).flatten = l := by
  unfold onesL'
  induction l with
  | nil => rfl
  | cons a r ih => simp only [List.map_cons, List.flatten_cons, ih]; rfl
theorem lsL_flat (h : Inv fr ct bl L F) : (lsL (tOf L) F (lOf L)).flatten = srtI (vt := .bool) F ++ bOf L := by
  have key : ∀ L2 : List PE, (∀ e ∈ L2, e ∈ L) → ((lOf L2).flatMap fun x => onesL' (bkT (tOf L) x.1)).flatten = bOf L2 := by
    intro L2
    induction L2 with
    | nil => intro _; rfl
    | cons e r ih =>
      intro hs
      have h1 : bkT (tOf L) e.n = e.bs := by unfold bkT; rw [h.lk (hs e (by simp))]; rfl
      show ((onesL' (bkT (tOf L) e.n)) ++ ((lOf r).flatMap fun x => onesL' (bkT (tOf L) x.1))).flatten = e.bs ++ bOf r
      rw [List.flatten_append, ih (fun x hx => hs x (List.mem_cons_of_mem _ hx)), h1, onesL'_flat]
  show srtI (vt := .bool) F ++ ((lOf L).flatMap fun x => onesL' (bkT (tOf L) x.1)).flatten = _
  rw [key L (fun e he => he)]
theorem Inv.gd (h : Inv fr ct bl L F) : Gd fr ct bl (tOf L) F (lOf L) := by
  have ht := h.total
  have hbl := bOf_length (fun e he => (h.ent e he).pos.1)
  have hll : (lOf L).length = L.length := List.length_map ..
  have hlt : (tOf L).length = L.length := List.length_map ..
  refine ⟨by rw [hll, hlt], by omega, by omega, srt_lt (vt := .sl 8 (.int .i64)) (by rw [tOf_keys]; exact h.nnodup), fun x hx => ?_, ⟨h.f0, by have := h.c1; omega, by have := h.hb; have := h.sz; omega, ?_, ?_, ?_, ?_⟩⟩
  · obtain ⟨e, he, rfl⟩ := List.mem_map.1 hx
    obtain ⟨h1, h2⟩ := h.ent e he
    have hs : (⟨e.c.toArray⟩ : ByteArray).size = e.c.length := rfl
    exact ⟨e.bs, h.lk he, by show _ = needN (⟨e.c.toArray⟩ : ByteArray).size; rw [hs]; exact h1.len, h2, h1.rd h.sz, h1.get, by show (⟨e.c.toArray⟩ : ByteArray).size ≤ _; rw [hs]; exact h1.sz⟩
  · rw [lsL_flat h]
    exact ((srt_perm F).append_right _).nodup_iff.2 h.nodup
  · intro x hx
    rw [lsL_flat h] at hx
    have := (((srt_perm F).append_right (bOf L)).mem_iff.1 hx)
    exact h.mem (List.mem_append.1 this)
  · intro l hl
    rcases List.mem_cons.1 hl with rfl | hl
    · exact srt_lt (vt := .bool) (List.nodup_append.1 h.nodup).1
    · obtain ⟨x, _, hx⟩ := List.mem_flatMap.1 hl
      obtain ⟨b, _, rfl⟩ := List.mem_map.1 hx
      exact List.pairwise_singleton _ _
  · rw [lsL_flat h, List.length_append, srtI_length]
    have := h.c1
    omega
theorem Inv.keep (h : Inv fr ct bl L F) {ws : List LgT.den} (hw : ∀ w ∈ ws, w.1 ∈ ksF F) : Inv fr ct (wrL bl ws) L F := by
  refine ⟨h.f0, h.c1, by rw [wrL_length]; exact h.hb, by rw [wrL_length]; exact h.sz, fun e he => ⟨(h.ent e he).1.keep (fun w hw' => ⟨?_, fun hx => ?_⟩), (h.ent e he).2⟩, h.tru, h.perm⟩
  · have h1 := h.mem (.inl (hw w hw'))
    exact Int.le_trans h.f0 h1.1
  · exact (List.nodup_append.1 h.nodup).2.2 w.1 (hw w hw') w.1 (bOf_mem he hx) rfl
theorem takeF_mem {n : Nat} {b : Int} (h : b ∈ takeF F n) : b ∈ ksF F := (srt_perm F).mem_iff.1 (List.mem_of_mem_take h)
theorem takeF_nodup (h : Inv fr ct bl L F) (n : Nat) : (takeF F n).Nodup := List.Pairwise.sublist (List.take_sublist _ _) ((srt_perm F).nodup_iff.2 (List.nodup_append.1 h.nodup).1)
theorem takeF_length {n : Nat} (h : needN n ≤ F.length) : (takeF F n).length = needN n := by
  unfold takeF; rw [List.length_take, srtI_length]; omega
theorem Inv.lost (h : Inv fr ct bl L F) (c : List UInt8) (k : Nat) : Inv fr ct (wrL bl ((wsF (takeF F c.length) c).take k)) L F :=
  h.keep (fun w hw => takeF_mem (wsF_take_mem hw))
def putE (F : List (Int × Bool)) (c : List UInt8) : PE := ⟨elt (.int .i64) (takeF F c.length) 0, takeF F c.length, c⟩
theorem Inv.put (h : Inv fr ct bl L F) {c : List UInt8} (hc : c.length ≤ 20000) (hn : needN c.length ≤ F.length) :
    Inv fr ct (wrL bl (wsF (takeF F c.length) c)) (L ++ [putE F c]) (delF F (takeF F c.length)) ∧ updT (tOf L) (elt (.int .i64) (takeF F c.length) 0) (takeF F c.length) = tOf (L ++ [putE F c]) ∧
    elt (.int .i64) (takeF F c.length) 0 ∉ nOf L := by
  have hm : ∀ b ∈ takeF F c.length, 0 ≤ b ∧ b < bl.length := fun b hb => by
    have := h.mem (.inl (takeF_mem hb))
    have := h.f0
    have := h.hb
    omega
  have hk := h.lost c (wsF (takeF F c.length) c).length
  rw [List.take_length] at hk
  have he : EOk (wrL bl (wsF (takeF F c.length) c)) (putE F c) := ⟨Chain.put (takeF_length hn) hc (takeF_nodup h _) hm, rfl⟩
  have hf := hk.fresh he (fun b hb => takeF_mem hb)
  refine ⟨hk.add he (fun b hb => takeF_mem hb), ?_, hf⟩
  rw [updT_new (show elt (.int .i64) (takeF F c.length) 0 ∉ nOf L from hf)]
  simp [tOf, putE]
theorem Inv.drop {A B : List PE} {e : PE} (h : Inv fr ct bl (A ++ e :: B) F) : Inv fr ct bl (A ++ B) (addF F e.bs) ∧ delM (.int .i64) (.sl 8 (.int .i64)) (tOf (A ++ e :: B)) e.n = tOf (A ++ B) ∧ lkT' (tOf (A ++ e :: B)) e.n = some e.bs ∧
    lkT' (tOf (A ++ B)) e.n = none ∧ F.length + e.bs.length ≤ 1000000 := by
  have hb1 : bOf (A ++ e :: B) = bOf A ++ (e.bs ++ bOf B) := by simp [bOf, List.flatMap_append]
  have hb2 : bOf (A ++ B) = bOf A ++ bOf B := by simp [bOf, List.flatMap_append]
  have hnd := h.nodup
  rw [hb1] at hnd
  have hF : (ksF F ++ e.bs).Nodup := by
    obtain ⟨n1, n2, n3⟩ := List.nodup_append.1 hnd
    obtain ⟨m1, m2, m3⟩ := List.nodup_append.1 n2
    obtain ⟨k1, k2, k3⟩ := List.nodup_append.1 m2
    exact List.nodup_append.2 ⟨n1, k1, fun a ha b hb => n3 a ha b (by simp [hb])⟩
  have hn := h.nnodup
  have hnn : e.n ∉ nOf A ∧ e.n ∉ nOf B := by
    have : nOf (A ++ e :: B) = nOf A ++ e.n :: nOf B := by simp [nOf]
    rw [this] at hn
    obtain ⟨n1, n2, n3⟩ := List.nodup_append.1 hn
    exact ⟨fun hx => n3 e.n hx e.n (by simp) rfl, (List.nodup_cons.1 n2).1⟩
  refine ⟨⟨h.f0, h.c1, h.hb, h.sz, fun x hx => h.ent x (by simp at hx ⊢; rcases hx with hx | hx <;> simp [hx]), fun x hx => ?_, ?_⟩, ?_, h.lk (by simp), ?_, ?_⟩
  · rw [addF_new _ _ hF] at hx
    rcases List.mem_append.1 hx with hx | hx
    · exact h.tru x hx
    · obtain ⟨b, _, rfl⟩ := List.mem_map.1 hx
      rfl
  · rw [addF_new _ _ hF]
    have : ksF (F ++ e.bs.map fun b => (b, true)) = ksF F ++ e.bs := by
      unfold ksF at *
      rw [List.map_append, List.map_map]
      congr 1
      exact List.map_id' _
    rw [this, hb2]
    refine List.Perm.trans ?_ h.perm
    rw [hb1, List.append_assoc]
    refine List.Perm.append_left _ ?_
    rw [← List.append_assoc, ← List.append_assoc]
    exact List.Perm.append_right _ List.perm_append_comm
  · rw [delI_eq]
    have hA : ∀ X : List PE, e.n ∉ nOf X → (tOf X).filter (fun x => decide (x.1 ≠ e.n)) = tOf X := by
      intro X hX
      refine List.filter_eq_self.2 fun x hx => decide_eq_true fun hne => hX ?_
      rw [← tOf_keys]
      exact hne ▸ List.mem_map_of_mem hx
    have h1 : tOf (A ++ e :: B) = tOf A ++ (e.n, e.bs) :: tOf B := by simp [tOf]
    rw [h1, List.filter_append, List.filter_cons, hA A hnn.1, hA B hnn.2]
    simp [tOf]
  · exact lk_none (by
      have : nOf (A ++ B) = nOf A ++ nOf B := by simp [nOf]
      rw [this, List.mem_append]
      rintro (q | q)
      · exact hnn.1 q
      · exact hnn.2 q)
  · have h1 := h.total
    have h2 : e.bs.length ≤ (bOf (A ++ e :: B)).length := by rw [hb1]; simp; omega
    omega
end inv
end Go.V
namespace Go.V
open Go.Proofs
set_option maxRecDepth 100000
set_option linter.unusedSimpArgs false
set_option linter.unnecessarySimpa false
set_option linter.unusedVariables false
/-- awake -/
def C9 : Contract := fun args hp K => match args, hp with
  | [], [] => K (.bool true) []
  | _, _ => False
theorem s9 : Sound Try.prog 9 C9 := by
  refine sound_of_okF ok9 (Γ := [(10, C10), (11, C11), (12, C12), (14, C14), (15, C15)]) (.cons s10 (callable_of_okF ok10) (.cons s11 (callable_of_okF ok11) (.cons s12 (callable_of_okF ok12) (.cons s14 (callable_of_okF ok14) (.cons s15 (callable_of_okF ok15) .nil))))) ?_
  intro args hp K h
  unfold C9 at h
  split at h
  · refine ⟨by simp, [], ?_⟩
    have i0 := inv_init (fr := 1) (ct := 3) (bl := List.replicate 4 []) (by omega) (by omega) (by simp) (by simp)
    have hF : (initF 1 3).length = 3 := rfl
    have hFm : ∀ e ∈ initF 1 3, 0 ≤ e.1 ∧ e.1 < ((List.replicate 4 ([] : List UInt8)).length : Int) := by decide
    simp (maxSteps := 2000000) only [a9, r9, C10, C11, C12, C14, C15, dkH, pgH, pgN, go_sem, eq_self, and_self, Int.natCast_pos, Int.le_refl, Nat.le_refl, Int.natCast_nonneg, Int.ofNat_lt, Int.ofNat_le, Int.reduceLT, Int.reduceLE, Int.reduceEq, Int.reduceNe, Int.reduceAdd, Int.reduceSub, Int.reduceMul, Int.reduceToNat, Int.reduceNeg, Nat.reduceEqDiff, Nat.reduceLeDiff, Nat.reduceSub, Nat.reduceMul, Nat.reduceLT, Nat.reduceBEq, Nat.reduceAdd]
    have hn1 : needN 2 = 1 := rfl
    refine ⟨by simp, fun e => absurd ⟨by simp, by simp⟩ e, fun _ => ⟨fun T F hTF => ?_, fun e => by cases e⟩⟩
    have hTF' : T = [] ∧ F = initF 1 3 := by cases hTF; exact ⟨rfl, rfl⟩
    clear hTF
    obtain ⟨rfl, rfl⟩ := hTF'
    have ip := i0.put (c := [UInt8.ofNat 97, UInt8.ofNat 98]) (by simp) (by rw [hF]; decide)
    obtain ⟨i1, hu, _⟩ := ip
    have hlk := i1.lk (e := putE (initF 1 3) [UInt8.ofNat 97, UInt8.ofNat 98]) (by simp)
    have hen := (i1.ent (putE (initF 1 3) [UInt8.ofNat 97, UInt8.ofNat 98]) (by simp)).1
    have hget := hen.get
    have hrd := hen.rd i1.sz
    have htot := i1.total
    have hbl := hen.len
    rw [← hu] at hlk
    generalize hbs : takeF (initF 1 3) 2 = bs at *
    refine And.intro rfl (And.intro ⟨by rw [hF]; omega, by simp, hFm, by simp⟩ (And.intro (fun e => e.elim) (And.intro (fun e => by rw [hF] at e; omega) (fun _ => And.intro (fun _ => ?_) (fun e => e.elim)))))
    have hlk2 : lkT' (updT [] (elt (.int .i64) bs 0) bs) (elt (.int .i64) bs 0) = some bs := by
      subst hbs; exact hlk
    refine And.intro (fun e => by rw [hlk2] at e; cases e) (fun bs2 e => ?_)
    have e2 : bs2 = bs := by rw [hlk2] at e; exact (Option.some.inj e).symm
    subst e2
    have hl1 : bs2.length = 1 := by subst hbs; exact hbl
    refine And.intro ⟨by omega, by subst hbs; exact hrd⟩ ?_
    rintro u rfl
    have hg2 : bs2.flatMap (pl4 (wrL (List.replicate 4 []) (wsF bs2 [UInt8.ofNat 97, UInt8.ofNat 98]))) = [UInt8.ofNat 97, UInt8.ofNat 98] := by subst hbs; exact hget
    rw [hg2]
    have hd2 : (delF (initF 1 3) bs2).length = 2 := by
      have h1 : (delF (initF 1 3) bs2).length + bs2.length = 3 := by
        subst hbs
        have := htot.1
        simp [bOf, putE] at this
        exact this
      omega
    refine swd (fun _ => ?_) (fun e => absurd rfl e)
    rw [srtI_length, hd2]
    refine ⟨by omega, ?_⟩
    rintro _ _ m rfl c hc
    have : c = true := by rw [hc]; decide
    subst this
    exact h
  · exact h.elim
end Go.V
namespace Go.V
open Go.Proofs
set_option maxRecDepth 100000
set_option linter.unusedSimpArgs false
set_option linter.unnecessarySimpa false
set_option linter.unusedVariables false
/-! ### the contracts, as they are used -/
section use
variable {K : SV → List SB → Prop} {fr ct : Int} {bl : List ByT.den} {lg : List LgT.den} {L : List PE} {F : List (Int × Bool)} {p : Bool} {c : List UInt8}
theorem use9 (k : K (.bool true) []) : C9 [] [] K := k
theorem use11 {n : Int} (h : 0 ≤ n ∧ n ≤ 65536) (k : K (.ptr 0 0) (dkH true (List.replicate n.toNat []) [] (-1) false)) : C11 [.int .i64 n] [] K := ⟨h, k⟩
theorem use10 {f : Int} (h0 : 0 ≤ fr) (h1 : 1 ≤ ct) (h2 : fr + ct ≤ bl.length) (h3 : bl.length ≤ 65536)
    (k : Inv fr ct bl [] (initF fr ct) → K (.tup [.ptr 3 0, .int .i64 0]) (dkH false bl lg f false ++ pgN fr (tOf []) (initF fr ct))) : C10 [.ptr 0 0, .int .i64 fr, .int .i64 ct, .sl p 8 (.int .i64) []] (dkH false bl lg f false) K := by
  refine ⟨bl, lg, f, false, rfl, p, [], rfl, ⟨rfl, h3, Nat.zero_le _⟩, fun e => absurd ⟨h1, h0, by omega, by omega⟩ e, fun _ => ⟨fun T F e => ?_, fun e => by cases e⟩⟩
  cases e
  exact k (inv_init h0 h1 h2 h3)
theorem use10L {f : Int} {ns : List Int} (h : Inv fr ct bl L F) (hn : ns = nOf L) (k : ∀ F', Inv fr ct bl L F' → K (.tup [.ptr 3 0, .int .i64 0]) (dkH false bl lg f false ++ pgN fr (tOf L) F')) :
    C10 [.ptr 0 0, .int .i64 fr, .int .i64 ct, .sl p 8 (.int .i64) ns] (dkH false bl lg f false) K := by
  subst hn
  have ht := h.total
  have hbl := bOf_length (fun e he => (h.ent e he).pos.1)
  have hl : (nOf L).length = L.length := List.length_map ..
  obtain ⟨F', g1, g2⟩ := h.reopen
  have := h.f0
  have := h.hb
  have := h.c1
  refine ⟨bl, lg, f, false, rfl, p, nOf L, rfl, ⟨rfl, h.sz, by omega⟩, fun e => absurd ⟨h.c1, h.f0, by omega, by omega⟩ e, fun _ => ⟨fun T F e => ?_, fun e => (by rw [g1] at e; cases e)⟩⟩
  rw [g1] at e
  cases e
  exact k F' g2
/-- .. where one of the names is none. -/
theorem use10N {f : Int} {ns : List Int} (h0 : 0 ≤ fr) (h1 : 1 ≤ ct) (h2 : fr + ct ≤ bl.length) (h3 : bl.length ≤ 65536) (hns : ns.length ≤ 1000000) (hn : openL bl fr ct ns [] (initF fr ct) = none)
    (k : K (.tup [.nilp, .int .i64 2]) (dkH false bl lg f false)) : C10 [.ptr 0 0, .int .i64 fr, .int .i64 ct, .sl p 8 (.int .i64) ns] (dkH false bl lg f false) K :=
  ⟨bl, lg, f, false, rfl, p, ns, rfl, ⟨rfl, h3, hns⟩, fun e => absurd ⟨h1, h0, by omega, by omega⟩ e, fun _ => ⟨fun T F e => (by rw [hn] at e; cases e), fun _ => k⟩⟩
theorem Inv.fb (h : Inv fr ct bl L F) : ∀ e ∈ F, 0 ≤ e.1 ∧ e.1 < bl.length := fun e he => by
  have := h.mem (.inl (List.mem_map_of_mem he))
  have := h.f0
  have := h.hb
  omega
theorem Inv.small (h : Inv fr ct bl L F) : F.length ≤ 65536 ∧ (tOf L).length ≤ 65536 ∧ L.length ≤ 65536 := by
  have ht := h.total
  have hbl := bOf_length (fun e he => (h.ent e he).pos.1)
  have hl : (tOf L).length = L.length := List.length_map ..
  omega
/-- Put, as pages that are kept take it. -/
theorem use12 (h : Inv fr ct bl L F) {f : Int} (hlg : lg.length ≤ 900000)
    (kl : 20000 < c.length → K (.tup [.int .i64 0, .int .i64 4]) (pgH true fr (tOf L) F bl lg f false))
    (kf : c.length ≤ 20000 → F.length < needN c.length → K (.tup [.int .i64 0, .int .i64 6]) (pgH true fr (tOf L) F bl lg f false))
    (kp : c.length ≤ 20000 → needN c.length ≤ F.length → (f < 0 ∨ (needN c.length : Int) ≤ f) → ∀ F' bl', Inv fr ct bl' (L ++ [putE F c]) F' → bl' = wrL bl (wsF (takeF F c.length) c) → (putE F c).n ∉ nOf L →
      K (.tup [.int .i64 (putE F c).n, .int .i64 0]) (pgH true fr (tOf (L ++ [putE F c])) F' bl' (lg ++ wsF (takeF F c.length) c) (fuA f (needN c.length)) false))
    (kx : c.length ≤ 20000 → needN c.length ≤ F.length → 0 ≤ f → f < (needN c.length : Int) → ∀ bl', Inv fr ct bl' L F →
      K (.tup [.int .i64 0, .int .i64 9]) (pgH true fr (tOf L) F bl' (lg ++ (wsF (takeF F c.length) c).take f.toNat) 0 true)) :
    C12 [.ptr 0 0, .sl p 1 .byte c] (pgH false fr (tOf L) F bl lg f false) K := by
  have hs := h.small
  refine ⟨fr, tOf L, F, bl, lg, f, false, rfl, p, c, rfl, ⟨rfl, by omega, by omega, h.fb, h.sz, hlg⟩, kl, kf, fun h1 h2 => ⟨fun h3 => ?_, fun h3 h4 => kx h1 h2 h3 h4 _ (h.lost c _)⟩⟩
  obtain ⟨i1, i2, i3⟩ := h.put h1 h2
  have := kp h1 h2 h3 _ _ i1 rfl i3
  rw [← i2] at this
  exact this
theorem use15 {T : List (Int × List Int)} {f : Int} {dn : Bool} (hF : F.length ≤ 65536) (k : K (.own 6) (pgH false fr T F bl lg f dn ++ [.row true 8 (.int .i64) (srtI (vt := .bool) F)])) :
    C15 [.ptr 0 0] (pgH false fr T F bl lg f dn) K := ⟨fr, T, F, bl, lg, f, dn, rfl, by omega, k⟩
theorem use17 (h : Inv fr ct bl L F) {f : Int} {dn : Bool} {e : PE} (he : e ∈ L) {n : Int} (hn : n = e.n) (k : K (.own 6) (pgH false fr (tOf L) F bl lg f dn ++ [.row true 8 (.int .i64) e.bs])) :
    C17 [.ptr 0 0, .int .i64 n] (pgH false fr (tOf L) F bl lg f dn) K := by
  subst hn
  refine ⟨fr, tOf L, F, bl, lg, f, dn, rfl, ?_⟩
  show K (.own 6) (pgH false fr (tOf L) F bl lg f dn ++ [.row true 8 (.int .i64) ((lkT' (tOf L) e.n).getD [])])
  rw [h.lk he]
  exact k
theorem use23 (h : Inv fr ct bl L F) {f : Int} {l : List KpT.den} (hl : l = lOf L) (k : K (.bool true) (pgH false fr (tOf L) F bl lg f false)) :
    C23 [.ptr 0 0, .sl p 24 (.pair (.int .i64) .str) l, .int .i64 fr, .int .i64 ct] (pgH false fr (tOf L) F bl lg f false) K := by
  subst hl
  exact ⟨fr, tOf L, F, bl, lg, f, false, rfl, rfl, h.gd, k⟩
theorem use22 {l : List KpT.den} (k : K (.own 0) [.row true 8 (.int .i64) ((l : List KpT.den).map Prod.fst)]) : C22 [.sl p 24 (.pair (.int .i64) .str) l] [] K := k
theorem use16 {k' n : Int} (k : K (.own 0) [.row true 1 .byte (txF n c)]) : C16 [.agg [.int .i64 k', .int .i64 n, .sl p 1 .byte c]] [] K := ⟨p, c, rfl, k⟩
theorem use20 {f : Int} {dn : Bool} (h : lg.length ≤ 1000000) (k : K (.int .i64 lg.length) (dkH false bl lg f dn)) : C20 [.ptr 0 0] (dkH false bl lg f dn) K := ⟨bl, lg, f, dn, rfl, fun _ => k⟩
theorem use21 {f n : Int} {dn : Bool} (h : 0 ≤ n ∧ bl.length ≤ 65536 ∧ lg.length ≤ 1000000 ∧ lgOk bl.length lg)
    (k : K (.ptr 3 0) (dkH false bl lg f dn ++ [.struct [.own 4, .own 5, .int .i64 (-1), .bool false], .row true 24 (.sl 1 .byte) (wrL (List.replicate bl.length []) (lg.take n.toNat)), .row true 32 (.pair (.int .i64) (.sl 1 .byte)) (lg.take n.toNat)])) :
    C21 [.ptr 0 0, .int .i64 n] (dkH false bl lg f dn) K := ⟨bl, lg, f, dn, rfl, h, k⟩
end use
end Go.V
namespace Go.V
open Go.Proofs
set_option maxRecDepth 100000
set_option linter.unusedSimpArgs false
set_option linter.unnecessarySimpa false
set_option linter.unusedVariables false
end Go.V
namespace Go.V
open Go.Proofs
set_option maxRecDepth 100000
set_option linter.unusedSimpArgs false
set_option linter.unnecessarySimpa false
set_option linter.unusedVariables false
section use
variable {K : SV → List SB → Prop} {p : Bool} {c : List UInt8} {n : Int}
end use
end Go.V
namespace Go.V
open Go.Proofs
set_option maxRecDepth 100000
set_option linter.unusedSimpArgs false
set_option linter.unnecessarySimpa false
set_option linter.unusedVariables false
end Go.V
namespace Go.V
open Go.Proofs
set_option maxRecDepth 100000
set_option linter.unusedSimpArgs false
set_option linter.unnecessarySimpa false
set_option linter.unusedVariables false
/-! ### names that are none -/
theorem openL_append {bl : List ByT.den} {fr ct : Int} (a b : List Int) : ∀ (T : List (Int × List Int)) (F : List (Int × Bool)), openL bl fr ct (a ++ b) T F = match openL bl fr ct a T F with
    | none => none
    | some (T', F') => openL bl fr ct b T' F' := by
  induction a with
  | nil => intro T F; rfl
  | cons n r ih =>
    intro T F
    show openL bl fr ct (n :: (r ++ b)) T F = _
    rw [openL, openL]
    cases textF bl fr ct n 86 n [] [] with
    | none => rfl
    | some q =>
      obtain ⟨t, bs⟩ := q
      simp only
      cases takeBs bs F with
      | none => rfl
      | some F' => exact ih _ _
theorem openL_none {bl : List ByT.den} {fr ct n : Int} (h : textF bl fr ct n 86 n [] [] = none) (r : List Int) (T : List (Int × List Int)) (F : List (Int × Bool)) : openL bl fr ct (n :: r) T F = none := by
  rw [openL, h]
theorem text_out {bl : List ByT.den} {fr ct n : Int} (h : n < fr ∨ fr + ct ≤ n) : textF bl fr ct n 86 n [] [] = none := by
  rw [textF, if_pos (by rcases h with h | h; exact .inl h; exact .inr (.inl h))]
theorem text_bare {bl : List ByT.den} {fr ct n : Int} (h : elt ByT bl n.toNat = []) : textF bl fr ct n 86 n [] [] = none := by
  rw [textF]
  split
  · rfl
  · have : opB bl n = none := by unfold opB; rw [h, openF_nil]
    rw [this]
theorem text_second {bl : List ByT.den} {fr ct : Int} {bs : List Int} {c : List UInt8} (h : Chain bl bs c) (h1 : 1 < bs.length) : textF bl fr ct (elt (.int .i64) bs 1) 86 (elt (.int .i64) bs 1) [] [] = none := by
  rw [textF]
  split
  · rfl
  · rw [h.op 1 h1]
    simp only
    have e0 : elt .byte (headF bs 1 ++ partF c 1) 0 = 0 := rfl
    rw [e0, if_pos (.inr (fun e => by cases e.2 (by trivial)))]
theorem second_none {fr ct : Int} {bl : List ByT.den} {bs : List Int} {c : List UInt8} (h : Chain bl bs c) (h1 : 1 < bs.length) : openL bl fr ct (List.take 1 (List.drop 1 bs)) [] (initF fr ct) = none := by
  rw [show List.take 1 (List.drop 1 bs) = [elt (.int .i64) bs 1] by
    match bs, h1 with
    | a :: b :: r, _ => rfl]
  exact openL_none (text_second h h1) _ _ _
theorem open_twice {fr ct : Int} {bl : List ByT.den} {L : List PE} {F : List (Int × Bool)} (h : Inv fr ct bl L F) {e : PE} (he : e ∈ L) : openL bl fr ct (nOf L ++ [e.n]) [] (initF fr ct) = none := by
  obtain ⟨F', g1, g2⟩ := h.reopen
  rw [openL_append, g1]
  simp only
  obtain ⟨c1, c2⟩ := h.ent e he
  have htx := c1.text (fr := fr) (ct := ct) h.sz (fun b hb => h.mem (.inr (bOf_mem he hb)))
  rw [c2] at htx
  rw [openL, htx]
  simp only
  have hn := g2.name he
  cases hb : e.bs with
  | nil => rw [hb] at hn; cases hn
  | cons b r =>
    have hbm : b ∈ bOf L := bOf_mem he (by rw [hb]; simp)
    have hnk : b ∉ ksF F' := fun hx => (List.nodup_append.1 g2.nodup).2.2 b hx b hbm rfl
    rw [takeBs, if_neg (by rw [lkB_not hnk]; exact Bool.false_ne_true)]

theorem free_keep {fr ct : Int} {bl bl' : List ByT.den} {L : List PE} {F F' : List (Int × Bool)} {c : List UInt8} (h : Inv fr ct bl L F) (h' : Inv fr ct bl' (L ++ [putE F c]) F') (hb : bl' = wrL bl (wsF (takeF F c.length) c))
    (h0 : ∀ x ∈ ksF F, elt ByT bl x.toNat = []) : ∀ x ∈ ksF F', elt ByT bl' x.toNat = [] := by
  intro x hx
  have hm := h'.mem (.inl hx)
  have hf := h.f0
  have hnb : x ∉ bOf (L ++ [putE F c]) := fun hy => (List.nodup_append.1 h'.nodup).2.2 x hx x hy rfl
  have hnt : x ∉ takeF F c.length := fun hy => hnb (bOf_mem (e := putE F c) (by simp) hy)
  have hnl : x ∉ bOf L := fun hy => hnb (by unfold bOf at hy ⊢; rw [List.flatMap_append]; exact List.mem_append_left _ hy)
  have ha : x ∈ ksF F := by
    have h1 := h'.perm.mem_iff.1 (List.mem_append_left _ hx)
    rcases List.mem_append.1 (h.perm.mem_iff.2 h1) with h2 | h2
    · exact h2
    · exact absurd h2 hnl
  have key : ∀ y : Int, y ∈ takeF F c.length → y.toNat ≠ x.toNat := fun y hy e => by
    have := h.mem (.inl (takeF_mem hy))
    rw [show y = x by omega] at hy
    exact hnt hy
  rw [hb, wrL_other _ _ _ (fun w hw => ?_)]
  · exact h0 x ha
  · exact key w.1 (wsF_take_mem (k := (wsF (takeF F c.length) c).length) (by rw [List.take_length]; exact hw))
theorem elt_nils (x : Nat) (n : Nat) : elt ByT (List.replicate n []) x = [] := by
  unfold elt
  rw [List.getD_eq_getElem?_getD]
  cases h2 : (List.replicate n ([] : List UInt8))[x]? with
  | none => rfl
  | some v =>
    have := List.mem_of_getElem? h2
    rw [List.mem_replicate] at this
    rw [this.2]; rfl

theorem wrapU (n : Int) : 0 ≤ IntKind.u64.wrap n := by
  show 0 ≤ n % _
  exact Int.emod_nonneg _ (by decide)
theorem small_wrap {n : Int} (h : 0 ≤ n ∧ n ≤ 4294967295) : IntKind.u64.wrap n = n ∧ IntKind.i64.wrap n = n := ⟨wrap_in (by simp [inR, IntKind.min, IntKind.max, IntKind.signed, IntKind.bits]; omega), wrap_in (by simp [inR, IntKind.min, IntKind.max, IntKind.signed, IntKind.bits]; omega)⟩
abbrev OpT : Ty := .pair (.int .i64) (.pair (.int .i64) (.sl 1 .byte))
structure G4 where
  i : Nat
  L : List PE
  F : List (Int × Bool)
  bl : List ByT.den
  lg : List LgT.den
def A4 (p : Bool) (ops : List OpT.den) (nm : Int) : LoopAnn := {
  G := G4
  I := fun g => ⟨[(0, .sl p 40 (.pair (.int .i64) (.pair (.int .i64) (.sl 1 .byte))) ops), (1, .int .i64 nm), (5, .ptr 0 0), (6, .ptr 3 0), (8, .own 6), (41, .int .i64 ops.length), (42, .int .i64 g.i)],
    dkH true g.bl g.lg (-1) false ++ pgN 10 (tOf g.L) g.F ++ [.row true 8 (.int .i64) (nOf g.L)]⟩
  R := fun _ g => g.i ≤ ops.length ∧ Inv 10 80 g.bl g.L g.F ∧ (∀ x ∈ ksF g.F, elt ByT g.bl x.toNat = []) ∧ g.lg.length ≤ 100 * g.i
  μ := fun g => ops.length - g.i }
theorem I4 (p ops nm) (g : G4) : (A4 p ops nm).I g = ⟨[(0, .sl p 40 (.pair (.int .i64) (.pair (.int .i64) (.sl 1 .byte))) ops), (1, .int .i64 nm), (5, .ptr 0 0), (6, .ptr 3 0), (8, .own 6), (41, .int .i64 ops.length), (42, .int .i64 g.i)],
    dkH true g.bl g.lg (-1) false ++ pgN 10 (tOf g.L) g.F ++ [.row true 8 (.int .i64) (nOf g.L)]⟩ := rfl
/-- PagesNames -/
def C4 : Contract := fun args hp K => match args, hp with
  | [.sl p 40 (.pair (.int .i64) (.pair (.int .i64) (.sl 1 .byte))) ops, .int .i64 nm], [] => K (.bool true) []
  | _, _ => False
set_option maxHeartbeats 2000000 in
theorem s4 : Sound Try.prog 4 C4 := by
  refine sound_of_okF ok4 (Γ := [(9, C9), (10, C10), (11, C11), (12, C12), (15, C15), (16, C16), (17, C17)]) (.cons s9 (callable_of_okF ok9) (.cons s10 (callable_of_okF ok10) (.cons s11 (callable_of_okF ok11) (.cons s12 (callable_of_okF ok12) (.cons s15 (callable_of_okF ok15) (.cons s16 (callable_of_okF ok16) (.cons s17 (callable_of_okF ok17) .nil))))))) ?_
  intro args hp K h
  unfold C4 at h
  split at h
  · rename_i p ops nm
    refine ⟨by simp, [(1, A4 p ops nm)], ?_⟩
    simp (maxSteps := 2000000) only [a4, r4, go_sem, eq_self, and_self, Int.natCast_pos, Int.le_refl, Nat.le_refl, Int.natCast_nonneg, Int.ofNat_lt, Int.ofNat_le, Int.reduceLT, Int.reduceLE, Int.reduceEq, Int.reduceNe, Int.reduceAdd, Int.reduceSub, Int.reduceMul, Int.reduceToNat, Int.reduceNeg, Nat.reduceEqDiff, Nat.reduceLeDiff, Nat.reduceSub, Nat.reduceMul, Nat.reduceLT, Nat.reduceBEq, Nat.reduceAdd]
    refine use9 ?_
    simp (maxSteps := 2000000) only [go_sem, eq_self, and_self, Int.natCast_pos, Int.le_refl, Nat.le_refl, Int.natCast_nonneg, Int.ofNat_lt, Int.ofNat_le, Int.reduceLT, Int.reduceLE, Int.reduceEq, Int.reduceNe, Int.reduceAdd, Int.reduceSub, Int.reduceMul, Int.reduceToNat, Int.reduceNeg, Nat.reduceEqDiff, Nat.reduceLeDiff, Nat.reduceSub, Nat.reduceMul, Nat.reduceLT, Nat.reduceBEq, Nat.reduceAdd]
    rintro _ _ m rfl
    refine swd (fun _ => use9 ?_) (fun hb => ?_)
    · simp (maxSteps := 2000000) only [go_sem, eq_self, and_self, Int.natCast_pos, Int.le_refl, Nat.le_refl, Int.natCast_nonneg, Int.ofNat_lt, Int.ofNat_le, Int.reduceLT, Int.reduceLE, Int.reduceEq, Int.reduceNe, Int.reduceAdd, Int.reduceSub, Int.reduceMul, Int.reduceToNat, Int.reduceNeg, Nat.reduceEqDiff, Nat.reduceLeDiff, Nat.reduceSub, Nat.reduceMul, Nat.reduceLT, Nat.reduceBEq, Nat.reduceAdd]
      exact h
    refine use11 (by omega) ?_
    simp (maxSteps := 2000000) only [dkH, go_sem, eq_self, and_self, Int.natCast_pos, Int.le_refl, Nat.le_refl, Int.natCast_nonneg, Int.ofNat_lt, Int.ofNat_le, Int.reduceLT, Int.reduceLE, Int.reduceEq, Int.reduceNe, Int.reduceAdd, Int.reduceSub, Int.reduceMul, Int.reduceToNat, Int.reduceNeg, Nat.reduceEqDiff, Nat.reduceLeDiff, Nat.reduceSub, Nat.reduceMul, Nat.reduceLT, Nat.reduceBEq, Nat.reduceAdd]
    refine use10 (by omega) (by omega) (by simp) (by simp) (fun i0 => ?_)
    simp (maxSteps := 2000000) only [dkH, pgN, go_sem, eq_self, and_self, Int.natCast_pos, Int.le_refl, Nat.le_refl, Int.natCast_nonneg, Int.ofNat_lt, Int.ofNat_le, Int.reduceLT, Int.reduceLE, Int.reduceEq, Int.reduceNe, Int.reduceAdd, Int.reduceSub, Int.reduceMul, Int.reduceToNat, Int.reduceNeg, Nat.reduceEqDiff, Nat.reduceLeDiff, Nat.reduceSub, Nat.reduceMul, Nat.reduceLT, Nat.reduceBEq, Nat.reduceAdd]
    rintro _ _ m rfl
    refine loop_intro (A := A4 p ops nm) (⟨0, [], initF 10 80, List.replicate 100 [], []⟩ : G4) ?_ ⟨Nat.zero_le _, i0, ?_, Nat.zero_le _⟩ ?_
    · simp (maxSteps := 2000000) only [I4, dkH, pgN, go_sem, eq_self, and_self, Int.natCast_pos, Int.le_refl, Nat.le_refl, Int.natCast_nonneg, Int.ofNat_lt, Int.ofNat_le, Int.reduceLT, Int.reduceLE, Int.reduceEq, Int.reduceNe, Int.reduceAdd, Int.reduceSub, Int.reduceMul, Int.reduceToNat, Int.reduceNeg, Nat.reduceEqDiff, Nat.reduceLeDiff, Nat.reduceSub, Nat.reduceMul, Nat.reduceLT, Nat.reduceBEq, Nat.reduceAdd]
      rfl
    · intro x hx
      exact elt_nils _ _
    · rintro (g : G4) ⟨g1, g2, g3, g4⟩
      obtain ⟨i, L, F, bl, lg⟩ := g
      simp only at g1 g2 g3 g4
      simp (maxSteps := 2000000) only [I4, dkH, pgN, go_sem, eq_self, and_self, Int.natCast_pos, Int.le_refl, Nat.le_refl, Int.natCast_nonneg, Int.ofNat_lt, Int.ofNat_le, Int.reduceLT, Int.reduceLE, Int.reduceEq, Int.reduceNe, Int.reduceAdd, Int.reduceSub, Int.reduceMul, Int.reduceToNat, Int.reduceNeg, Nat.reduceEqDiff, Nat.reduceLeDiff, Nat.reduceSub, Nat.reduceMul, Nat.reduceLT, Nat.reduceBEq, Nat.reduceAdd]
      refine swd (fun hlt => ?_) (fun hge => ?_)
      · refine nd_intro hlt ?_
        refine use16 ?_
        have htx := txF_length (elt OpT ops i).2.1 (elt OpT ops i).2.2
        simp (maxSteps := 2000000) only [go_sem, eq_self, and_self, Int.natCast_pos, Int.le_refl, Nat.le_refl, Int.natCast_nonneg, Int.ofNat_lt, Int.ofNat_le, Int.reduceLT, Int.reduceLE, Int.reduceEq, Int.reduceNe, Int.reduceAdd, Int.reduceSub, Int.reduceMul, Int.reduceToNat, Int.reduceNeg, Nat.reduceEqDiff, Nat.reduceLeDiff, Nat.reduceSub, Nat.reduceMul, Nat.reduceLT, Nat.reduceBEq, Nat.reduceAdd]
        refine And.intro rfl ?_
        generalize txF _ _ = c at *
        have hnd := needN_bound c.length
        refine use12 g2 (by omega) (fun h1 => absurd h1 (by omega)) (fun _ h2 => ?_) (fun h1 h2 _ F2 bl2 i2 hb2 hnn2 => ?_) (fun _ _ h3 => absurd h3 (by omega))
        · simp (maxSteps := 2000000) only [pgH, go_sem, eq_self, and_self, Int.natCast_pos, Int.le_refl, Nat.le_refl, Int.natCast_nonneg, Int.ofNat_lt, Int.ofNat_le, Int.reduceLT, Int.reduceLE, Int.reduceEq, Int.reduceNe, Int.reduceAdd, Int.reduceSub, Int.reduceMul, Int.reduceToNat, Int.reduceNeg, Nat.reduceEqDiff, Nat.reduceLeDiff, Nat.reduceSub, Nat.reduceMul, Nat.reduceLT, Nat.reduceBEq, Nat.reduceAdd]
          rintro _ _ m hm
          rw [(small_wrap (n := (i : Int) + 1) (by omega)).2] at hm
          subst hm
          refine lpE_intro (A := A4 p ops nm) (⟨i + 1, L, F, bl, lg⟩ : G4) ?_ ⟨hlt, g2, g3, by show lg.length ≤ 100 * (i + 1); omega⟩ (by show ops.length - (i + 1) < ops.length - i; omega)
          simp (maxSteps := 2000000) only [I4, dkH, pgN, go_sem, eq_self, and_self, Int.natCast_pos, Int.le_refl, Nat.le_refl, Int.natCast_nonneg, Int.ofNat_lt, Int.ofNat_le, Int.reduceLT, Int.reduceLE, Int.reduceEq, Int.reduceNe, Int.reduceAdd, Int.reduceSub, Int.reduceMul, Int.reduceToNat, Int.reduceNeg, Nat.reduceEqDiff, Nat.reduceLeDiff, Nat.reduceSub, Nat.reduceMul, Nat.reduceLT, Nat.reduceBEq, Nat.reduceAdd]
          rfl
        · have hlw : (wsF (takeF F c.length) c).length ≤ 90 := by rw [wsF_length, takeF_length h2]; omega
          have hfu2 : fuA (-1) (needN c.length) = -1 := rfl
          have hk := free_keep g2 i2 hb2 g3
          have hs := i2.small
          have hno : nOf (L ++ [putE F c]) = nOf L ++ [(putE F c).n] := by simp [nOf]
          have hnl : (nOf L).length ≤ 65536 := by have : (nOf L).length = L.length := List.length_map ..; rw [this]; simp at hs; omega
          rw [hfu2]
          simp (maxSteps := 2000000) only [pgH, go_sem, eq_self, and_self, Int.natCast_pos, Int.le_refl, Nat.le_refl, Int.natCast_nonneg, Int.ofNat_lt, Int.ofNat_le, Int.reduceLT, Int.reduceLE, Int.reduceEq, Int.reduceNe, Int.reduceAdd, Int.reduceSub, Int.reduceMul, Int.reduceToNat, Int.reduceNeg, Nat.reduceEqDiff, Nat.reduceLeDiff, Nat.reduceSub, Nat.reduceMul, Nat.reduceLT, Nat.reduceBEq, Nat.reduceAdd]
          refine And.intro (by omega) (fun _ => ?_)
          rintro _ _ m hm
          rw [(small_wrap (n := (i : Int) + 1) (by omega)).2] at hm
          subst hm
          refine lpE_intro (A := A4 p ops nm) (⟨i + 1, L ++ [putE F c], F2, bl2, lg ++ wsF (takeF F c.length) c⟩ : G4) ?_ ⟨hlt, i2, hk, by show (lg ++ _).length ≤ 100 * (i + 1); rw [List.length_append]; omega⟩ (by show ops.length - (i + 1) < ops.length - i; omega)
          simp (maxSteps := 2000000) only [I4, dkH, pgN, hno, go_sem, eq_self, and_self, Int.natCast_pos, Int.le_refl, Nat.le_refl, Int.natCast_nonneg, Int.ofNat_lt, Int.ofNat_le, Int.reduceLT, Int.reduceLE, Int.reduceEq, Int.reduceNe, Int.reduceAdd, Int.reduceSub, Int.reduceMul, Int.reduceToNat, Int.reduceNeg, Nat.reduceEqDiff, Nat.reduceLeDiff, Nat.reduceSub, Nat.reduceMul, Nat.reduceLT, Nat.reduceBEq, Nat.reduceAdd]
          rfl
      · have hs := g2.small
        have hlen := srtI_length (vt := .bool) F
        have hnl : (nOf L).length = L.length := List.length_map ..
        have hf0 := g2.f0
        refine use15 (by omega) ?_
        simp (maxSteps := 2000000) only [dkH, pgH, pgN, go_sem, eq_self, and_self, Int.natCast_pos, Int.le_refl, Nat.le_refl, Int.natCast_nonneg, Int.ofNat_lt, Int.ofNat_le, Int.reduceLT, Int.reduceLE, Int.reduceEq, Int.reduceNe, Int.reduceAdd, Int.reduceSub, Int.reduceMul, Int.reduceToNat, Int.reduceNeg, Nat.reduceEqDiff, Nat.reduceLeDiff, Nat.reduceSub, Nat.reduceMul, Nat.reduceLT, Nat.reduceBEq, Nat.reduceAdd]
        rintro _ _ c rfl
        refine swd (fun hpos => ?_) (fun hz => ?_)
        focus
          rintro hnm m hm _ _ m1 rfl hm1 m2 rfl
          have hw := small_wrap (n := (srtI (vt := .bool) F).length) (by omega)
          have hmp : 0 ≤ m := by rw [hm]; exact wrapU _
          rw [hw.1]
          refine And.intro (by omega) ?_
          rintro _ _ _ m3 hm3 _ m4 hm4
          have h30 : 0 ≤ m3 := by rw [hm3]; exact Int.tmod_nonneg _ hmp
          have h31 : m3 < (srtI (vt := .bool) F).length := by rw [hm3]; exact Int.tmod_lt_of_pos _ hpos
          rw [(small_wrap (n := m3) (by omega)).2] at hm4
          subst hm4
          refine nd_intro ⟨h30, h31⟩ ?_
          refine nd_intro (by omega) ?_
          refine And.intro rfl ?_
          have hmem := List.mem_of_getElem? (elt_get (t := .int .i64) (show m4.toNat < (srtI (vt := .bool) F).length by omega))
          refine use10N (by omega) (by omega) g2.hb g2.sz (by simp) (openL_none (text_bare (g3 _ ((srt_perm F).mem_iff.1 hmem))) _ _ _) ?_
          simp (maxSteps := 2000000) only [dkH, go_sem, eq_self, and_self, Int.natCast_pos, Int.le_refl, Nat.le_refl, Int.natCast_nonneg, Int.ofNat_lt, Int.ofNat_le, Int.reduceLT, Int.reduceLE, Int.reduceEq, Int.reduceNe, Int.reduceAdd, Int.reduceSub, Int.reduceMul, Int.reduceToNat, Int.reduceNeg, Nat.reduceEqDiff, Nat.reduceLeDiff, Nat.reduceSub, Nat.reduceMul, Nat.reduceLT, Nat.reduceBEq, Nat.reduceAdd]
        all_goals focus
          rintro _ _ c rfl
          refine swd (fun hp => ?_) (fun hz => ?_)
          focus
            refine nd_intro (by omega) ?_
            replace hp : 0 < (nOf L).length := by omega
            obtain ⟨e0, L', hL⟩ : ∃ e0 L', L = e0 :: L' := by
              cases L with
              | nil => simp [nOf] at hp
              | cons a r => exact ⟨a, r, rfl⟩
            have he0 : e0 ∈ L := by rw [hL]; simp
            have hn0 : elt (.int .i64) (nOf L) 0 = e0.n := by rw [hL]; rfl
            rw [hn0]
            refine And.intro (And.intro hp (And.intro (And.intro (fun h => h) (fun _ => And.intro hp (And.intro (fun _ => by omega) (fun _ => And.intro rfl ?_)))) (And.intro (fun h => h) (fun _ => And.intro hp (And.intro (fun _ => by omega) (fun _ => And.intro rfl ?_)))))) (And.intro hp (And.intro (fun h => h) (fun _ => And.intro hp (And.intro (fun _ => by omega) (fun _ => And.intro rfl ?_)))))
            all_goals
              refine use10N (by omega) (by omega) g2.hb g2.sz (by rw [List.length_append, hnl]; simp; omega) (open_twice g2 he0) ?_
              simp (maxSteps := 2000000) only [dkH, go_sem, eq_self, and_self, Int.natCast_pos, Int.le_refl, Nat.le_refl, Int.natCast_nonneg, Int.ofNat_lt, Int.ofNat_le, Int.reduceLT, Int.reduceLE, Int.reduceEq, Int.reduceNe, Int.reduceAdd, Int.reduceSub, Int.reduceMul, Int.reduceToNat, Int.reduceNeg, Nat.reduceEqDiff, Nat.reduceLeDiff, Nat.reduceSub, Nat.reduceMul, Nat.reduceLT, Nat.reduceBEq, Nat.reduceAdd]
              refine nd_intro hp ?_
              rw [hn0]
              refine use17 g2 he0 rfl ?_
              simp (maxSteps := 2000000) only [dkH, pgH, pgN, go_sem, eq_self, and_self, Int.natCast_pos, Int.le_refl, Nat.le_refl, Int.natCast_nonneg, Int.ofNat_lt, Int.ofNat_le, Int.reduceLT, Int.reduceLE, Int.reduceEq, Int.reduceNe, Int.reduceAdd, Int.reduceSub, Int.reduceMul, Int.reduceToNat, Int.reduceNeg, Nat.reduceEqDiff, Nat.reduceLeDiff, Nat.reduceSub, Nat.reduceMul, Nat.reduceLT, Nat.reduceBEq, Nat.reduceAdd]
              rintro _ _ m rfl
              refine swd (fun h1 => nd_intro (by omega) (And.intro rfl (use10N (by omega) (by omega) g2.hb g2.sz (by rw [List.length_take]; omega) (second_none (g2.ent e0 he0).1 (by omega)) ?_))) (fun _ => ?_)
            all_goals try simp (maxSteps := 2000000) only [dkH, go_sem, eq_self, and_self, Int.natCast_pos, Int.le_refl, Nat.le_refl, Int.natCast_nonneg, Int.ofNat_lt, Int.ofNat_le, Int.reduceLT, Int.reduceLE, Int.reduceEq, Int.reduceNe, Int.reduceAdd, Int.reduceSub, Int.reduceMul, Int.reduceToNat, Int.reduceNeg, Nat.reduceEqDiff, Nat.reduceLeDiff, Nat.reduceSub, Nat.reduceMul, Nat.reduceLT, Nat.reduceBEq, Nat.reduceAdd]
          all_goals focus
            refine And.intro rfl ?_
            have hnone : ∀ x : Int, (x < 10 ∨ 90 ≤ x) → openL bl 10 80 [x] [] (initF 10 80) = none := fun x hx => openL_none (text_out (by omega)) _ _ _
            refine use10N (by omega) (by omega) g2.hb g2.sz (by simp) (hnone _ (by omega)) ?_
            simp (maxSteps := 2000000) only [dkH, go_sem, eq_self, and_self, Int.natCast_pos, Int.le_refl, Nat.le_refl, Int.natCast_nonneg, Int.ofNat_lt, Int.ofNat_le, Int.reduceLT, Int.reduceLE, Int.reduceEq, Int.reduceNe, Int.reduceAdd, Int.reduceSub, Int.reduceMul, Int.reduceToNat, Int.reduceNeg, Nat.reduceEqDiff, Nat.reduceLeDiff, Nat.reduceSub, Nat.reduceMul, Nat.reduceLT, Nat.reduceBEq, Nat.reduceAdd]
            refine And.intro rfl ?_
            refine use10N (by omega) (by omega) g2.hb g2.sz (by simp) (hnone _ (by omega)) ?_
            simp (maxSteps := 2000000) only [dkH, go_sem, eq_self, and_self, Int.natCast_pos, Int.le_refl, Nat.le_refl, Int.natCast_nonneg, Int.ofNat_lt, Int.ofNat_le, Int.reduceLT, Int.reduceLE, Int.reduceEq, Int.reduceNe, Int.reduceAdd, Int.reduceSub, Int.reduceMul, Int.reduceToNat, Int.reduceNeg, Nat.reduceEqDiff, Nat.reduceLeDiff, Nat.reduceSub, Nat.reduceMul, Nat.reduceLT, Nat.reduceBEq, Nat.reduceAdd]
            refine And.intro rfl ?_
            refine use10L g2 rfl (fun F3 i3 => ?_)
            simp (maxSteps := 2000000) only [dkH, pgN, go_sem, eq_self, and_self, Int.natCast_pos, Int.le_refl, Nat.le_refl, Int.natCast_nonneg, Int.ofNat_lt, Int.ofNat_le, Int.reduceLT, Int.reduceLE, Int.reduceEq, Int.reduceNe, Int.reduceAdd, Int.reduceSub, Int.reduceMul, Int.reduceToNat, Int.reduceNeg, Nat.reduceEqDiff, Nat.reduceLeDiff, Nat.reduceSub, Nat.reduceMul, Nat.reduceLT, Nat.reduceBEq, Nat.reduceAdd]
            exact h
  · exact h.elim
end Go.V
