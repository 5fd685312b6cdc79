/- The library's symMerge where both rows have more than one: by halves. -/
import Derived.Test.YtobifmndpkjlmaaSM
namespace Go.Proofs.Ytobifmndpkjlmaa
open Go.RowKit Go.BW

/-- symMerge of two rows that lie side by side, together shorter than the number -/
def SymmAt (fuel : Nat) : Prop := ∀ (w : World) (base g y n c N cR a m b : Nat) (AR : Option Addr) (rs : List Int) (U X Y Z : List Nat), Own w base 3 1 (some ⟨g, 0, none⟩) n c ((U ++ (X ++ (Y ++ Z))).map nv) → Cmp w g y AR N cR rs → n ≤ 1000000 →
    (∀ x ∈ X ++ Y, x < N) → X.Pairwise (bef rs) → Y.Pairwise (bef rs) → (∀ x ∈ X, ∀ y ∈ Y, x < y) → a = U.length → m = a + X.length → b = m + Y.length → a < m → m < b → b - a < fuel →
    Calls Try.prog 51 #[.slice (some ⟨g, 0, none⟩) n c, .int .i64 a, .int .i64 m, .int .i64 b, .func (.func 40) #[] #[.pointer (some ⟨y, 0, none⟩)]] w (MergePost g base n c rs U X Y Z w)
/-- the halves that the search finds -/
theorem halves {rs : List Int} {X Y : List Nat} (hX : X.Pairwise (bef rs)) (hY : Y.Pairwise (bef rs)) (hxy : ∀ x ∈ X, ∀ y ∈ Y, x < y) (s e : Nat) (hs : s ≤ X.length) (he : e ≤ Y.length)
    (h1 : 0 < s → e < Y.length → ∃ p q, ∃ hp : p < X.length, ∃ hq : q < Y.length, p + 1 = s ∧ q = e ∧ rs.getD Y[q] 0 ≤ rs.getD X[p] 0)
    (h2 : s < X.length → 0 < e → ∃ p q, ∃ hp : p < X.length, ∃ hq : q < Y.length, p = s ∧ q + 1 = e ∧ rs.getD X[p] 0 < rs.getD Y[q] 0) :
    ∃ A1 A2 B1 B2 : List Nat, X = A1 ++ A2 ∧ Y = B1 ++ B2 ∧ A1.length = s ∧ A2.length = X.length - s ∧ B1.length = e ∧ B2.length = Y.length - e ∧ (∀ a ∈ A1, ∀ b ∈ B2, bef rs a b) ∧ (∀ b ∈ B1, ∀ a ∈ A2, bef rs b a) := by
  refine ⟨X.take s, X.drop s, Y.take e, Y.drop e, (List.take_append_drop s X).symm, (List.take_append_drop e Y).symm, List.length_take_of_le hs, List.length_drop, List.length_take_of_le he, List.length_drop, fun a ha b hb => ?_, fun b hb a ha => ?_⟩
  · obtain ⟨i, hi, rfl⟩ := List.mem_take_iff_getElem.1 ha
    obtain ⟨j, hj, rfl⟩ := List.getElem_of_mem hb
    rw [List.length_drop] at hj
    rw [List.getElem_drop]
    obtain ⟨p, q, hp, hq, e1, e2, e3⟩ := h1 (by omega) (by omega)
    have a1 := fall_at hX (p := i) (q := p) (by omega) hp (by omega)
    have a2 := fall_at hY (p := q) (q := e + j) hq (by omega) (by omega)
    have a3 := hxy _ (List.getElem_mem (l := X) (n := i) (by omega)) _ (List.getElem_mem (l := Y) (n := e + j) (by omega))
    unfold bef; omega
  · obtain ⟨i, hi, rfl⟩ := List.mem_take_iff_getElem.1 hb
    obtain ⟨j, hj, rfl⟩ := List.getElem_of_mem ha
    rw [List.length_drop] at hj
    rw [List.getElem_drop]
    obtain ⟨p, q, hp, hq, e1, e2, e3⟩ := h2 (by omega) (by omega)
    have a1 := fall_at hX (p := p) (q := s + j) hp (by omega) (by omega)
    have a2 := fall_at hY (p := i) (q := q) (by omega) hq (by omega)
    unfold bef; omega

set_option maxRecDepth 100000 in
set_option maxHeartbeats 16000000 in
theorem both_any (fuel : Nat) (ih : SymmAt fuel) (w : World) (base g y n c N cR a m b : Nat) (AR : Option Addr) (rs : List Int) (U X Y Z : List Nat) (ho : Own w base 3 1 (some ⟨g, 0, none⟩) n c ((U ++ (X ++ (Y ++ Z))).map nv)) (hc : Cmp w g y AR N cR rs) (hn : n ≤ 1000000)
    (hN : ∀ x ∈ X ++ Y, x < N) (hX : X.Pairwise (bef rs)) (hY : Y.Pairwise (bef rs)) (hxy : ∀ x ∈ X, ∀ y ∈ Y, x < y) (ha : a = U.length) (hm : m = a + X.length) (hb : b = m + Y.length) (hX1 : 1 < m - a) (hY1 : 1 < b - m) (hfu : b - a < fuel + 1) :
    Calls Try.prog 51 #[.slice (some ⟨g, 0, none⟩) n c, .int .i64 a, .int .i64 m, .int .i64 b, .func (.func 40) #[] #[.pointer (some ⟨y, 0, none⟩)]] w (MergePost g base n c rs U X Y Z w) := by
  have hlen : (U ++ (X ++ (Y ++ Z))).length = n := by have := ho.len; simpa using this
  simp only [List.length_append] at hlen
  have hbn : b ≤ n := by omega
  have ham : a < m := by omega
  have hmb : m < b := by omega
  have HO := Lib.hid ho; have HC := Lib.hid hc; have HN := Lib.hid hN; have HX := Lib.hid hX; have HY := Lib.hid hY; have HXY := Lib.hid hxy; have HA := Lib.hid ha; have HM := Lib.hid hm; have HB := Lib.hid hb
  have IH := Lib.hid ih
  have hglt : g < w.heap.size := by obtain ⟨cur, h⟩ := ho.obj; exact h.lt
  have HG := Lib.hid hglt
  have hz1 : ((m : Int) - (a : Int) == 1) = false := by rw [beq_eq_false_iff_ne]; omega
  have hz2 : ((b : Int) - (m : Int) == 1) = false := by rw [beq_eq_false_iff_ne]; omega
  clear ho hc hN hX hY hxy ha hm hb ih hlen hglt
  obtain ⟨mid, hmid⟩ : ∃ mid, mid = (a + b) / 2 := ⟨_, rfl⟩
  have hmid1 : a < mid ∧ mid < b ∧ 2 * mid ≤ a + b ∧ a + b ≤ 2 * mid + 1 := by omega
  have emid : ((a : Int) + (b : Int)) / 2 = (mid : Int) := by omega
  have HXL := Lib.hid (show X.length = m - a from by have := HM.out; omega)
  have HYL := Lib.hid (show Y.length = b - m from by have := HB.out; omega)
  have HXA := Lib.hid (show ∀ p, (hp : p < X.length) → (U ++ (X ++ (Y ++ Z)))[a + p]? = some X[p] from fun p hp => by
    rw [List.getElem?_append_right (by have := HA.out; omega), List.getElem?_append_left (by have := HA.out; omega)]
    have : a + p - U.length = p := by have := HA.out; omega
    rw [this, List.getElem?_eq_getElem hp])
  have HYA := Lib.hid (show ∀ p, (hp : p < Y.length) → (U ++ (X ++ (Y ++ Z)))[m + p]? = some Y[p] from fun p hp => by
    have h1 := HM.out; have h2 := HA.out
    rw [List.getElem?_append_right (by omega), List.getElem?_append_right (by omega), List.getElem?_append_left (by omega)]
    have : m + p - U.length - X.length = p := by omega
    rw [this, List.getElem?_eq_getElem hp])
  -- the bounds of the search
  obtain ⟨lo, hlo⟩ : ∃ lo, lo = if mid < m then mid + m - b else a := ⟨_, rfl⟩
  obtain ⟨hi, hhi⟩ : ∃ hi, hi = if mid < m then mid else m := ⟨_, rfl⟩
  have hbd : a ≤ lo ∧ lo ≤ hi ∧ hi ≤ m ∧ hi ≤ mid ∧ mid + m ≤ b + lo := by
    by_cases h : mid < m
    · rw [if_pos h] at hlo hhi; omega
    · rw [if_neg h] at hlo hhi; omega
  have HED := Lib.hid (show ∀ s, lo ≤ s → s ≤ hi → (a < s → mid + m - s < b → s ≠ lo) ∧ (s < m → m < mid + m - s → s ≠ hi) from fun s h1 h2 => by
    by_cases h : mid < m
    · rw [if_pos h] at hlo hhi; omega
    · rw [if_neg h] at hlo hhi; omega)
  obtain ⟨pp, hpp⟩ : ∃ pp, pp + 1 = mid + m := ⟨mid + m - 1, by omega⟩
  have HPP := Lib.hid hpp
  have HMID := Lib.hid hmid
  have epp : (mid : Int) + (m : Int) - 1 = (pp : Int) := by omega
  obtain ⟨ha1, ha2, ha3, ha4, ha5⟩ := hbd
  obtain ⟨hb1, hb2, hb3, hb4⟩ := hmid1
  have HLOV := Lib.hid hlo; have HHIV := Lib.hid hhi
  clear hmid hpp hlo hhi hX1 hY1
  go_enter Try.func51, Try.ntmps51
  go_upto_if 140 with fail
  go_cut [20, 21] from 140 to 147 (fun u v wx => u = .int .i64 lo ∧ v = .int .i64 hi ∧ w = wx)
  case first =>
    by_cases h : mid < m
    · have h' : (mid : Int) < (m : Int) := by omega
      have e1 : lo = mid + m - b := by have := HLOV.out; rwa [if_pos h] at this
      have e2 : hi = mid := by have := HHIV.out; rwa [if_pos h] at this
      have E1 := Lib.hid e1; have E2 := Lib.hid e2
      clear e1 e2
      go_wp2_with fail
      go_meet
      exact ⟨by rw [E1.out]; go_num, by rw [E2.out], rfl⟩
    · have h' : ¬ (mid : Int) < (m : Int) := by omega
      have e1 : lo = a := by have := HLOV.out; rwa [if_neg h] at this
      have e2 : hi = m := by have := HHIV.out; rwa [if_neg h] at this
      have E1 := Lib.hid e1; have E2 := Lib.hid e2
      clear e1 e2
      go_wp2_with fail
      go_meet
      exact ⟨by rw [E1.out], by rw [E2.out], rfl⟩
  case rest =>
    obtain ⟨rfl, rfl, rfl⟩ := hcut
    go_wp2_with fail
    go_loopw [20, 21] (fun u v wr => ∃ s r : Nat, u = .int .i64 s ∧ v = .int .i64 r ∧ lo ≤ s ∧ s ≤ r ∧ r ≤ hi ∧
      Hid (s = lo ∨ ∃ p q, ∃ hp : p < X.length, ∃ hq : q < Y.length, a + p + 1 = s ∧ m + q + (a + p) = pp ∧ rs.getD Y[q] 0 ≤ rs.getD X[p] 0) ∧
      Hid (r = hi ∨ ∃ p q, ∃ hp : p < X.length, ∃ hq : q < Y.length, a + p = r ∧ m + q + (a + p) = pp ∧ rs.getD X[p] 0 < rs.getD Y[q] 0) ∧
      Hid (Own wr base 3 1 (some ⟨g, 0, none⟩) n c ((U ++ (X ++ (Y ++ Z))).map nv)) ∧ Hid (Cmp wr g y AR N cR rs) ∧ Hid (w.grownBy wr (some g))) (fun u v _ => (intOf v).toNat - (intOf u).toNat)
    case atStart => exact ⟨lo, hi, rfl, rfl, Nat.le_refl _, ha2, Nat.le_refl _, Lib.hid (.inl rfl), Lib.hid (.inl rfl), HO, HC, Lib.hid (gb_nw (Nw.refl _))⟩
    case round =>
      obtain ⟨s, r, rfl, rfl, hls, hsr, hrh, hl1, hl2, hor, hcr, hgr⟩ := hrel
      by_cases hlt : s < r
      · have hltz : (s : Int) < (r : Int) := by omega
        obtain ⟨h, hh⟩ : ∃ h, h = (s + r) / 2 := ⟨_, rfl⟩
        have hhi1 : s ≤ h ∧ h < r := by omega
        obtain ⟨hh1, hh2⟩ := hhi1
        obtain ⟨p, hp⟩ : ∃ p, h = a + p := ⟨h - a, by omega⟩
        obtain ⟨k, hk⟩ : ∃ k, pp = h + k := ⟨pp - h, by have := HPP.out; omega⟩
        obtain ⟨q, hq⟩ : ∃ q, k = m + q := ⟨k - m, by have := HPP.out; omega⟩
        have hpl : p < X.length := by have := HXL.out; omega
        have hql : q < Y.length := by have := HYL.out; have := HPP.out; omega
        obtain ⟨x, hx⟩ : ∃ x, X[p] = x := ⟨_, rfl⟩
        obtain ⟨z, hz⟩ : ∃ z, Y[q] = z := ⟨_, rfl⟩
        have cz := dcell hor.out (HYA.out q hql)
        rw [hz, ← hq] at cz
        have cx := dcell hor.out (HXA.out p hpl)
        rw [hx, ← hp] at cx
        have hc1 := cz.1; have hc2 := cx.1
        have hkn : k < n := cz.2.2
        have hhn : h < n := cx.2.2
        have hkz : (k : Int) < (n : Int) := by omega
        have hhz : (h : Int) < (n : Int) := by omega
        have ek : (pp : Int) - (h : Int) = (k : Int) := by omega
        have hzN : z < N := HN.out z (by rw [← hz]; exact List.mem_append_right _ (List.getElem_mem _))
        have hxN : x < N := HN.out x (by rw [← hx]; exact List.mem_append_left _ (List.getElem_mem _))
        have HB40 := Lib.hid (cmp_call hcr.out hzN hxN)
        have hneg := cmpf_neg (x := rs.getD x 0) (y := rs.getD z 0)
        obtain ⟨rr, hr⟩ : ∃ rr, cmpf (rs.getD x 0) (rs.getD z 0) = rr := ⟨_, rfl⟩
        rw [hr] at HB40 hneg
        have HZ := Lib.hid hz; have HZX := Lib.hid hx; have HH := Lib.hid hh; have HP := Lib.hid hp; have HQ := Lib.hid hq; have HK := Lib.hid hk
        have eh : ((s : Int) + (r : Int)) / 2 = (h : Int) := by omega
        have HPL := Lib.hid hpl; have HQL := Lib.hid hql
        clear hr hz hx hh hp hq hk cz cx
        by_cases hless : rs.getD x 0 < rs.getD z 0
        · rw [decide_eq_true hless] at hneg
          have HL2 := Lib.hid (show h = hi ∨ ∃ p q, ∃ hp : p < X.length, ∃ hq : q < Y.length, a + p = h ∧ m + q + (a + p) = pp ∧ rs.getD X[p] 0 < rs.getD Y[q] 0 from
            .inr ⟨p, q, HPL.out, HQL.out, by have := HP.out; omega, by have := HP.out; have := HQ.out; have := HK.out; omega, by rw [HZ.out, HZX.out]; exact hless⟩)
          clear hless
          go_wp2_with fail
          go_quiet (exact Calls.quiet_of (HB40.out _))
          go_wp2
          go_roundw
          case rel => exact ⟨s, h, rfl, by go_num, hls, hh1, by omega, hl1, HL2, Lib.hid (hor.out.drewN nq), Lib.hid (hcr.out.drewN nq), Lib.hid (gb_drewN hgr.out nq)⟩
          case measure => simp only [intOf]; omega
        · rw [decide_eq_false hless] at hneg
          have HL2 := Lib.hid (show h + 1 = lo ∨ ∃ p q, ∃ hp : p < X.length, ∃ hq : q < Y.length, a + p + 1 = h + 1 ∧ m + q + (a + p) = pp ∧ rs.getD Y[q] 0 ≤ rs.getD X[p] 0 from
            .inr ⟨p, q, HPL.out, HQL.out, by have := HP.out; omega, by have := HP.out; have := HQ.out; have := HK.out; omega, by rw [HZ.out, HZX.out]; omega⟩)
          clear hless
          go_wp2_with fail
          go_quiet (exact Calls.quiet_of (HB40.out _))
          go_wp2
          go_roundw
          case rel => exact ⟨h + 1, r, by go_num, rfl, by omega, by omega, hrh, HL2, hl2, Lib.hid (hor.out.drewN nq), Lib.hid (hcr.out.drewN nq), Lib.hid (gb_drewN hgr.out nq)⟩
          case measure => simp only [intOf]; omega
      · have hsr2 : r = s := by omega
        have hnz : ¬ (s : Int) < (r : Int) := by omega
        obtain ⟨en, hen⟩ : ∃ en, en + s = mid + m := ⟨mid + m - s, by omega⟩
        have een : (mid : Int) + (m : Int) - (s : Int) = (en : Int) := by omega
        obtain ⟨A1, A2, B1, B2, d1, d2, l1, l2, l3, l4, h12, h21⟩ := halves HX.out HY.out HXY.out (s - a) (mid - s) (by have := HXL.out; omega) (by have := HYL.out; omega)
          (fun hs he => by
            rcases hl1.out with h | ⟨p, q, hp, hq, f1, f2, f3⟩
            · exact absurd h ((HED.out s hls (by omega)).1 (by omega) (by have := HYL.out; omega))
            · exact ⟨p, q, hp, hq, by omega, by have := HPP.out; omega, f3⟩)
          (fun hs he => by
            rcases hl2.out with h | ⟨p, q, hp, hq, f1, f2, f3⟩
            · exact absurd (hsr2 ▸ h) ((HED.out s hls (by omega)).2 (by have := HXL.out; omega) (by omega))
            · exact ⟨p, q, hp, hq, by omega, by have := HPP.out; omega, f3⟩)
        have hen1 : m ≤ en := by omega
        have hen2 : en ≤ b := by omega
        have hsm : s ≤ m := by omega
        have has : a ≤ s := by omega
        have hsd : s ≤ mid := by omega
        have hde : mid ≤ en := by omega
        have D1 := Lib.hid d1; have D2 := Lib.hid d2; have H12 := Lib.hid h12; have H21 := Lib.hid h21
        have L1 := Lib.hid (show s = a + A1.length from by omega)
        have L2 := Lib.hid (show m = s + A2.length from by have := HXL.out; omega)
        have L3 := Lib.hid (show en = m + B1.length from by omega)
        have L4 := Lib.hid (show b = en + B2.length from by have := HYL.out; omega)
        have L5 := Lib.hid (show mid = s + B1.length from by omega)
        have L6 := Lib.hid (show en = mid + A2.length from by have := HXL.out; omega)
        have HOW := Lib.hid (show Own wr base 3 1 (some ⟨g, 0, none⟩) n c (((U ++ A1) ++ (A2 ++ (B1 ++ (B2 ++ Z)))).map nv) from by have := hor.out; rw [d1, d2] at this; simpa using this)
        clear hl1 hl2 d1 d2 l1 l2 l3 l4 h12 h21 hsr2 hen hor
        have E0 := Lib.hid (show U ++ (A1 ++ (A2 ++ (B1 ++ (B2 ++ Z)))) = (U ++ A1) ++ (A2 ++ (B1 ++ (B2 ++ Z))) from by simp)
        clear epp emid
        go_upto_region 39 with fail
        go_cut [185] from 178 to 185 (fun c' wx => ∃ cb : Bool, c' = .bool cb ∧ cb = decide (s < m ∧ m < en) ∧ wr = wx)
        case first =>
          by_cases h1 : (s : Int) < (m : Int)
          · by_cases h2 : (m : Int) < (en : Int)
            · go_wp2_with fail
              go_meet
              exact ⟨_, rfl, (decide_eq_true (by omega)).symm, rfl⟩
            · go_wp2_with fail
              go_meet
              exact ⟨_, rfl, (decide_eq_false (by omega)).symm, rfl⟩
          · go_wp2_with fail
            go_meet
            exact ⟨_, rfl, (decide_eq_false (by omega)).symm, rfl⟩
        case rest =>
        obtain ⟨cb, rfl, hcb, rfl⟩ := hcut
        have HCB := Lib.hid hcb; clear hcb
        go_upto_if 185 with fail
        go_cut [20] from 186 to 192 (fun s' wx => s' = .int .i64 s ∧ Hid (Own wx base 3 1 (some ⟨g, 0, none⟩) n c ((U ++ (A1 ++ (B1 ++ (A2 ++ (B2 ++ Z))))).map nv)) ∧ Hid (Cmp wx g y AR N cR rs) ∧ Hid (w.grownBy wx (some g)))
        case first =>
          cases cb with
          | true =>
            have h1 : s < m ∧ m < en := of_decide_eq_true HCB.out.symm
            have HS := Lib.hid (rotate_any HOW.out hn (.func (.func 40) #[] #[.pointer (some ⟨y, 0, none⟩)]) (a := s) (m := m) (b := en) (by rw [List.length_append, ← HA.out]; exact L1.out) L2.out L3.out (by have := L2.out; omega) (by have := L3.out; omega))
            unfold RotPost at HS
            clear h1 HCB
            go_wp2_with ((with_reducible refine HS.out.mono ?_); rintro e w2 ⟨rfl, o2, g2⟩; have O2 := Lib.hid o2; have G2 := Lib.hid g2; clear o2 g2)
            go_meet
            have hgr2 : g < wr.heap.size := Nat.lt_of_lt_of_le HG.out hgr.out.size
            exact ⟨rfl, Lib.hid (by have := O2.out; simpa using this), Lib.hid (hcr.out.gb G2.out hgr2), Lib.hid (gb_trans hgr.out G2.out)⟩
          | false =>
            have h1 : ¬ (s < m ∧ m < en) := of_decide_eq_false HCB.out.symm
            have HE := Lib.hid (show A2 = [] ∨ B1 = [] from by
              by_cases h4 : s < m
              · exact .inr (List.eq_nil_of_length_eq_zero (by have := L3.out; omega))
              · exact .inl (List.eq_nil_of_length_eq_zero (by have := L2.out; omega)))
            clear h1 HCB
            go_wp2_with fail
            go_meet
            exact ⟨rfl, Lib.hid (by have := HOW.out; rcases HE.out with h | h <;> (rw [h] at this ⊢; simpa using this)), hcr, hgr⟩
        case rest =>
          obtain ⟨rfl, how1, hcr1, hgr1⟩ := hcut
          go_upto_region 41 with fail
          go_cut [199] from 192 to 199 (fun c' wx => ∃ cb : Bool, c' = .bool cb ∧ cb = decide (a < s ∧ s < mid) ∧ wc = wx)
          case first =>
            by_cases h1 : (a : Int) < (s : Int)
            · by_cases h2 : (s : Int) < (mid : Int)
              · go_wp2_with fail
                go_meet
                exact ⟨_, rfl, (decide_eq_true (by omega)).symm, rfl⟩
              · go_wp2_with fail
                go_meet
                exact ⟨_, rfl, (decide_eq_false (by omega)).symm, rfl⟩
            · go_wp2_with fail
              go_meet
              exact ⟨_, rfl, (decide_eq_false (by omega)).symm, rfl⟩
          case rest =>
          obtain ⟨cb, rfl, hcb, rfl⟩ := hcut
          have HCB := Lib.hid hcb; clear hcb
          go_upto_if 199 with fail
          go_cut [20] from 200 to 206 (fun s' wx => s' = .int .i64 s ∧ ∃ M1 : List Nat, Hid (M1.Perm (A1 ++ B1)) ∧ Hid (M1.Pairwise (bef rs)) ∧ Hid (Own wx base 3 1 (some ⟨g, 0, none⟩) n c ((U ++ (M1 ++ (A2 ++ (B2 ++ Z)))).map nv)) ∧ Hid (Cmp wx g y AR N cR rs) ∧ Hid (w.grownBy wx (some g)))
          case first =>
            cases cb with
            | true =>
              have h1 : a < s ∧ s < mid := of_decide_eq_true HCB.out.symm
              have HS := Lib.hid (IH.out _ base g y n c N cR a s mid AR rs U A1 B1 (A2 ++ (B2 ++ Z)) how1.out hcr1.out hn (fun x hx => by rcases List.mem_append.1 hx with hx | hx; exact HN.out x (List.mem_append_left _ (by rw [D1.out]; exact List.mem_append_left _ hx)); exact HN.out x (List.mem_append_right _ (by rw [D2.out]; exact List.mem_append_left _ hx))) (List.pairwise_append.1 (D1.out ▸ HX.out)).1 (List.pairwise_append.1 (D2.out ▸ HY.out)).1 (fun x hx z hz => HXY.out x (by rw [D1.out]; exact List.mem_append_left _ hx) z (by rw [D2.out]; exact List.mem_append_left _ hz)) HA.out L1.out L5.out (by omega) (by omega) (by omega))
              unfold MergePost at HS
              clear h1 HCB
              go_wp2_with ((with_reducible refine HS.out.mono ?_); rintro e w2 ⟨rfl, M1, p1, s1, o2, g2⟩; have P1 := Lib.hid p1; have S1 := Lib.hid s1; have O2 := Lib.hid o2; have G2 := Lib.hid g2; clear p1 s1 o2 g2)
              go_meet
              have hgr2 : g < wc.heap.size := Nat.lt_of_lt_of_le HG.out hgr1.out.size
              exact ⟨rfl, M1, P1, S1, O2, Lib.hid (hcr1.out.gb G2.out hgr2), Lib.hid (gb_trans hgr1.out G2.out)⟩
            | false =>
              have h1 : ¬ (a < s ∧ s < mid) := of_decide_eq_false HCB.out.symm
              have HE := Lib.hid (show A1 = [] ∨ B1 = [] from by
                by_cases h4 : a < s
                · exact .inr (List.eq_nil_of_length_eq_zero (by have := L5.out; omega))
                · exact .inl (List.eq_nil_of_length_eq_zero (by have := L1.out; omega)))
              have S0 := Lib.hid (show A1.Pairwise (bef rs) ∧ B1.Pairwise (bef rs) from ⟨(List.pairwise_append.1 (D1.out ▸ HX.out)).1, (List.pairwise_append.1 (D2.out ▸ HY.out)).1⟩)
              clear h1 HCB
              go_wp2_with fail
              go_meet
              rcases HE.out with h | h
              · exact ⟨rfl, B1, Lib.hid (by rw [h, List.nil_append]), Lib.hid S0.out.2, Lib.hid (by have := how1.out; rw [h] at this; simpa using this), hcr1, hgr1⟩
              · exact ⟨rfl, A1, Lib.hid (by rw [h, List.append_nil]), Lib.hid S0.out.1, Lib.hid (by have := how1.out; rw [h] at this; simpa using this), hcr1, hgr1⟩
          case rest =>
            obtain ⟨rfl, M1, P1, S1, how2, hcr2, hgr2⟩ := hcut
            have LM := Lib.hid (show M1.length = A1.length + B1.length from by rw [P1.out.length_eq, List.length_append])
            by_cases h1 : (mid : Int) < (en : Int)
            · by_cases h2 : (en : Int) < (b : Int)
              · have HS := Lib.hid (IH.out _ base g y n c N cR mid en b AR rs (U ++ M1) A2 B2 Z (by simpa using how2.out) hcr2.out hn (fun x hx => by rcases List.mem_append.1 hx with hx | hx; exact HN.out x (List.mem_append_left _ (by rw [D1.out]; exact List.mem_append_right _ hx)); exact HN.out x (List.mem_append_right _ (by rw [D2.out]; exact List.mem_append_right _ hx))) (List.pairwise_append.1 (D1.out ▸ HX.out)).2.1 (List.pairwise_append.1 (D2.out ▸ HY.out)).2.1 (fun x hx z hz => HXY.out x (by rw [D1.out]; exact List.mem_append_right _ hx) z (by rw [D2.out]; exact List.mem_append_right _ hz)) (by rw [List.length_append, LM.out, ← HA.out]; have := L1.out; have := L5.out; omega) L6.out L4.out (by omega) (by omega) (by omega))
                unfold MergePost at HS
                go_wp2_with ((with_reducible refine HS.out.mono ?_); rintro e w2 ⟨rfl, M2, p1, s1, o2, g2⟩; have P2 := Lib.hid p1; have S2 := Lib.hid s1; have O2 := Lib.hid o2; have G2 := Lib.hid g2; clear p1 s1 o2 g2)
                go_end0
                obtain ⟨j1, j2⟩ := join_halves (D1.out ▸ HX.out) (D2.out ▸ HY.out) H12.out H21.out P1.out P2.out S1.out S2.out
                exact ⟨rfl, M1 ++ M2, by rw [D1.out, D2.out]; exact j2, j1, by have := O2.out; simpa using this, gb_trans hgr2.out G2.out⟩
              · have HE := Lib.hid (show B2 = [] from List.eq_nil_of_length_eq_zero (by have := L4.out; omega))
                go_wp2_with fail
                go_end0
                obtain ⟨j1, j2⟩ := join_halves (D1.out ▸ HX.out) (D2.out ▸ HY.out) H12.out H21.out P1.out (M2 := A2) (by rw [HE.out, List.append_nil]) S1.out (List.pairwise_append.1 (D1.out ▸ HX.out)).2.1
                exact ⟨rfl, M1 ++ A2, by rw [D1.out, D2.out]; exact j2, j1, by have := how2.out; rw [HE.out] at this; simpa using this, hgr2.out⟩
            · have HE := Lib.hid (show A2 = [] from List.eq_nil_of_length_eq_zero (by have := L6.out; omega))
              go_wp2_with fail
              go_end0
              obtain ⟨j1, j2⟩ := join_halves (D1.out ▸ HX.out) (D2.out ▸ HY.out) H12.out H21.out P1.out (M2 := B2) (by rw [HE.out, List.nil_append]) S1.out (List.pairwise_append.1 (D2.out ▸ HY.out)).2.1
              exact ⟨rfl, M1 ++ B2, by rw [D1.out, D2.out]; exact j2, j1, by have := how2.out; rw [HE.out] at this; simpa using this, hgr2.out⟩
end Go.Proofs.Ytobifmndpkjlmaa

