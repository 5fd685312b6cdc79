/- What the reference's Same returns; single changes; a map set at once. -/
import Derived.Test.YtfpllllglpjipaaO
namespace Go.Proofs.Ytfpllllglpjipaa
open Go.RowKit Go.BW

theorem wh3 {w : World} {B n k : Nat} {A : Option Addr} {ps : List Wh} (h : Rd w B 3 A n (fl wc ps)) (hB : B ≤ w.heap.size) (hk : k < n) : ∃ b off x, A = some ⟨b, off, none⟩ ∧ ps[k]? = some x ∧ ∀ w', Nw w w' →
    w'.cell? ⟨b, off + k * 3, none⟩ = some (.int .i64 x.t) ∧ w'.cell? ⟨b, off + k * 3 + 1, none⟩ = some (.int .i64 x.g) ∧ w'.cell? ⟨b, off + k * 3 + 2, none⟩ = some (.int .i64 x.s) := by
  obtain ⟨_, b, off, x, e, _, hx, _⟩ := h.atL wc_len (by omega) hk
  refine ⟨b, off, x, e, hx, fun w' k' => ?_⟩
  obtain ⟨_, b2, off2, x2, e2, _, hx2, hc⟩ := (h.nw k' hB).atL wc_len (by omega) hk
  rw [e] at e2; injection e2 with e2; injection e2 with e3 e4; subst e3; subst e4
  rw [hx] at hx2; injection hx2 with hx2; subst hx2
  exact ⟨hc 0 _ rfl, hc 1 _ rfl, hc 2 _ rfl⟩
def eqL (p q : List Wh) : Bool := decide (p = q)
theorem eqL_self (p : List Wh) : eqL p p = true := by unfold eqL; simp
theorem eqL_ne {p q : List Wh} (h : p ≠ q) : eqL p q = false := by unfold eqL; simp [h]
set_option maxHeartbeats 1000000 in
theorem same_any {w : World} {B n c m d : Nat} {A C : Option Addr} {p q : List Wh} (h1 : Rd w B 3 A n (fl wc p)) (h2 : Rd w B 3 C m (fl wc q)) (hB : B ≤ w.heap.size) (hn : n ≤ 100000) (hm : m ≤ 100000) :
    Calls Try.prog 13 #[.slice A n c, .slice C m d] w (Ret (.bool (eqL p q)) w) := by
  have l1 := h1.lenL wc_len (by omega)
  have l2 := h2.lenL wc_len (by omega)
  by_cases hnm : n = m
  · subst hnm
    have H1 := Lib.hid h1; have H2 := Lib.hid h2; have L1 := Lib.hid l1; have L2 := Lib.hid l2; clear h1 h2 l1 l2
    go_enter Try.func13, Try.ntmps13
    go_wp2_with fail
    go_loopw [5] (fun i wr => ∃ k : Nat, k ≤ n ∧ i = .int .i64 k ∧ p.take k = q.take k ∧ Nw w wr) (fun i _ => n - (intOf i).toNat)
    case atStart => exact ⟨0, Nat.zero_le _, rfl, rfl, Nw.refl w⟩
    case round =>
      obtain ⟨k, hk, rfl, ht, hnw⟩ := hrel
      have HT := Lib.hid ht; have HNW := Lib.hid hnw; clear ht hnw
      by_cases hlt : k < n
      · obtain ⟨b, off, x, rfl, hx, hc⟩ := wh3 (H1.out.nw HNW.out hB) (Nat.le_trans hB HNW.out.size) hlt
        obtain ⟨b', off', y, rfl, hy, hc'⟩ := wh3 (H2.out.nw HNW.out hB) (Nat.le_trans hB HNW.out.size) hlt
        have f0 := fun w' k => (hc w' k).1; have f1 := fun w' k => (hc w' k).2.1; have f2 := fun w' k => (hc w' k).2.2
        have g0 := fun w' k => (hc' w' k).1; have g1 := fun w' k => (hc' w' k).2.1; have g2 := fun w' k => (hc' w' k).2.2
        have HX := Lib.hid hx; have HY := Lib.hid hy; clear hx hy hc hc'
        obtain ⟨r, hr⟩ : ∃ r, eqW x y = r := ⟨_, rfl⟩
        have HR := Lib.hid hr; clear hr
        go_wp2_with fail
        refine wp_region_held (S := (fun w' => Nw wr w')) (by kernel_rfl) ?_
        change wpAnyH _ _ _ _ _ _ _ _ (World.drew wr)
        refine held_seg' (l := [0, 1, 2, 3, 4, 5, 6, 7, 8]) (fuel := 0) rfl (by kernel_rfl) (by kernel_rfl) (by simp only [List.filterMap_cons, List.filterMap_nil, List.getElem?_toArray, List.getElem?_cons_succ, List.getElem?_cons_zero]; rfl) (fun _ _ d _ _ h => by cases d <;> exact h) (gb_drew (Nw.refl wr)) ?_
        iterate 8 (refine wpYield_step rfl (fun K hK => ?_)
                   apply Exists.intro
                   refine ⟨fun w' hw' => ?_, ?_⟩
                   · (go_simp; try with_reducible rfl)
                   go_simp
                   refine hK _ ?_
                   clear hK K)
        refine wpYield_eq_wh rfl true _ _ _ rfl rfl x y rfl rfl (!r) (by rw [← HR.out]; unfold eqW; simp) ?_
        refine wpYield_nil ?_
        refine wpAnyH_done (by kernel_rfl) ?_ _
        have hs1 : p.take (k + 1) = p.take k ++ [x] := by obtain ⟨h, e⟩ := List.getElem?_eq_some_iff.1 HX.out; rw [List.take_succ_eq_append_getElem h, e]
        have hs2 : q.take (k + 1) = q.take k ++ [y] := by obtain ⟨h, e⟩ := List.getElem?_eq_some_iff.1 HY.out; rw [List.take_succ_eq_append_getElem h, e]
        have HS1 := Lib.hid hs1; have HS2 := Lib.hid hs2; clear hs1 hs2
        rcases r with _ | _
        · have hne : eqL p q = false := eqL_ne fun e => by
            have e3 : x = y := by have h1 := HX.out; rw [e, HY.out] at h1; injection h1 with h1; exact h1.symm
            have := HR.out
            rw [e3, eqW_self] at this
            cases this
          go_wp2
          go_ret
          exact ⟨by rw [hne]; rfl, gb_trans HNW.out (gb_drew (Nw.refl wr))⟩
        · go_wp2
          exact ⟨⟨k + 1, hlt, by go_num, by rw [HS1.out, HS2.out, HT.out, eqW_iff.1 HR.out], gb_trans HNW.out (gb_drew (Nw.refl wr))⟩, by simp [intOf]; omega⟩
      · have hk' : k = n := by omega
        have he : eqL p q = true := by
          have := HT.out
          rw [List.take_of_length_le (by have := L1.out; omega), List.take_of_length_le (by have := L2.out; omega)] at this
          rw [this]
          exact eqL_self q
        go_wp2
        go_ret
        exact ⟨by rw [he]; rfl, HNW.out⟩
  · have hne : eqL p q = false := eqL_ne fun e => hnm (by rw [e] at l1; omega)
    rw [hne]
    clear h1 h2 l1 l2 hne
    go_enter Try.func13, Try.ntmps13
    go_wp2
    go_ret
    exact ⟨rfl, Nw.refl w⟩
theorem rd_one4 {w : World} {B n k b off : Nat} {l : List Ch} {x : Ch} (h : Rd w B 4 (some ⟨b, off, none⟩) n (fl cc l)) (hk : k < n) (hx : l[k]? = some x) : Rd w B 4 (some ⟨b, off + k * 4, none⟩) 1 (fl cc [x]) := by
  obtain ⟨_, b', off', x', e, hb, hx', hc⟩ := h.atL cc_len (by omega) hk
  injection e with e; injection e with e1 e2; subst e1; subst e2
  rw [hx] at hx'; injection hx' with hx'; subst hx'
  rw [fl_one]
  exact ⟨rfl, fun _ => ⟨b, _, rfl, hb, hc⟩⟩
/-- all places as changes -/
def chs (ps : List Wh) : Nat → List Ch
  | 0 => []
  | k + 1 => match ps[k]? with | some x => chs ps k ++ [⟨k, x⟩] | none => chs ps k
theorem chs_len (ps : List Wh) : ∀ k, k ≤ ps.length → (chs ps k).length = k
  | 0, _ => rfl
  | k + 1, h => by
    unfold chs
    rw [show ps[k]? = some ps[k] from List.getElem?_eq_getElem (by omega)]
    simp [chs_len ps k (by omega)]
theorem chs_get (ps : List Wh) : ∀ k, k ≤ ps.length → ∀ i x, ps[i]? = some x → i < k → (chs ps k)[i]? = some ⟨i, x⟩
  | 0, _, i, x, _, h => by omega
  | k + 1, h, i, x, hx, hi => by
    have hl := chs_len ps k (by omega)
    unfold chs
    rw [show ps[k]? = some ps[k] from List.getElem?_eq_getElem (by omega)]
    rcases Nat.lt_or_ge i k with h1 | h1
    · rw [List.getElem?_append_left (by omega)]
      exact chs_get ps k (by omega) i x hx h1
    · have : i = k := by omega
      subst this
      rw [List.getElem?_append_right (by omega), hl, Nat.sub_self]
      obtain ⟨_, hx⟩ := List.getElem?_eq_some_iff.1 hx
      simp [hx]
theorem chs_mem (ps : List Wh) : ∀ k, k ≤ ps.length → ∀ c ∈ chs ps k, ∃ i x, ps[i]? = some x ∧ i < k ∧ c = ⟨i, x⟩
  | 0, _, c, hc => by cases hc
  | k + 1, h, c, hc => by
    unfold chs at hc
    rw [show ps[k]? = some ps[k] from List.getElem?_eq_getElem (by omega)] at hc
    rcases List.mem_append.1 hc with h1 | h1
    · obtain ⟨i, x, a1, a2, a3⟩ := chs_mem ps k (by omega) c h1
      exact ⟨i, x, a1, by omega, a3⟩
    · simp at h1
      exact ⟨k, _, List.getElem?_eq_getElem (by omega), by omega, h1⟩
theorem apply_chs (q ps : List Wh) (hq : q.length = ps.length) : ∀ k, k ≤ ps.length → applyN q (chs ps ps.length) k = ps.take k ++ q.drop k
  | 0, _ => by simp [applyN]
  | k + 1, h => by
    have hx : ps[k]? = some ps[k] := List.getElem?_eq_getElem (by omega)
    unfold applyN
    rw [chs_get ps ps.length (Nat.le_refl _) k _ hx (by omega)]
    simp only
    rw [apply_chs q ps hq k (by omega)]
    have hl : (ps.take k).length = k := by simp; omega
    simp only [Int.toNat_natCast]
    rw [List.set_append, if_neg (by omega), hl, Nat.sub_self, List.take_succ_eq_append_getElem (by omega), List.drop_eq_getElem_cons (by omega), List.set_cons_zero, List.append_assoc]
    rfl
theorem set_chs {ps : List Wh} (h : Inv ps) : setF (List.replicate ps.length w0) (chs ps ps.length) = (0, ps) := by
  unfold setF
  rw [List.length_replicate]
  have h1 : allIn ps.length (chs ps ps.length) = true := by
    unfold allIn
    rw [List.all_eq_true]
    intro c hc
    obtain ⟨i, x, _, hi, rfl⟩ := chs_mem ps _ (Nat.le_refl _) c hc
    unfold inB
    simp
    exact hi
  have h2 : (chs ps ps.length).all (fun x => mayB x.to) = true := by
    rw [List.all_eq_true]
    intro c hc
    obtain ⟨i, x, hx, _, rfl⟩ := chs_mem ps _ (Nat.le_refl _) c hc
    exact h.may x (List.mem_of_getElem? hx)
  have h3 : applyN (List.replicate ps.length w0) (chs ps ps.length) (chs ps ps.length).length = ps := by
    rw [chs_len ps _ (Nat.le_refl _), apply_chs _ ps (by simp) _ (Nat.le_refl _)]
    simp
  rw [if_neg (by rw [h1]; decide), if_neg (by rw [h2]; decide), h3, if_neg (by rw [h.dup]; decide)]
theorem VRep.grow {w w' : World} {g n c base size : Nat} {A : Option Addr} {e : TypeId} {xs : List Value} {ps : List Wh} (h : VRep w g ps) (k : w.grownBy w' (Value.slice A n c).ownBlock) (o : Own w base e size A n c xs) (h1 : e ≠ 31) (h2 : e ≠ 56) : VRep w' g ps := by
  obtain ⟨l, b, c', a1, a2, a3, a4⟩ := h
  obtain ⟨cur, ho⟩ := a2.obj
  have key : ∀ r, (Value.slice A n c).ownBlock = some r → r ≠ g ∧ r ≠ l ∧ r ≠ b := by
    intro r hr
    obtain ⟨cu, hc⟩ := o.rowObj r hr
    refine ⟨hc.ne a1 h2, hc.ne ho h1, ?_⟩
    rintro rfl
    obtain ⟨es, cl, h6, _⟩ := a3
    unfold Obj1 at hc
    rw [h6] at hc
    cases hc
  refine ⟨l, b, c', a1.eq (k.block g a1.lt (fun e => (key g e.symm).1 rfl)), a2.eqb (k.block l ho.lt (fun e => (key l e.symm).2.1 rfl)), a3.eq (k.block b a3.lt (fun e => (key b e.symm).2.2 rfl)), a4⟩
end Go.Proofs.Ytfpllllglpjipaa

