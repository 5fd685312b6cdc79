/- The law GroupPicked, walked: who is picked has most room. -/
import Derived.Test.YtobifmndpkjlmaaJS
import Derived.Test.YtobifmndpkjlmaaJK
import Derived.Test.YtobifmndpkjlmaaJA
import Derived.Test.YtobifmndpkjlmaaJF
import Derived.Test.YtobifmndpkjlmaaJL
set_option linter.unusedVariables false
set_option linter.unusedSimpArgs false
namespace Go.Proofs.Ytobifmndpkjlmaa
open Go.RowKit Go.BW

/-- an array of sixty, as cells -/
def bc (m : Nat → Bool) : List Value := (List.range 60).map fun d => Value.bool (m d)
theorem bc_at (m : Nat → Bool) {d : Nat} (h : d < 60) : (bc m)[d]? = some (.bool (m d)) := by
  unfold bc
  rw [List.getElem?_map, List.getElem?_range h]; rfl
theorem bc_set (m : Nat → Bool) (k : Nat) (b : Bool) : (bc m).set k (.bool b) = bc (fun d => if d = k then b else m d) := by
  refine List.ext_getElem? fun i => ?_
  rw [List.getElem?_set]
  by_cases hi : i < 60
  · rw [bc_at _ hi, bc_at _ hi]
    by_cases hik : k = i
    · subst hik
      rw [if_pos rfl, if_pos rfl, if_pos (by unfold bc; simpa using hi)]
    · rw [if_neg hik, if_neg (fun e => hik e.symm)]
  · have h1 : ∀ m : Nat → Bool, (bc m)[i]? = none := fun m => List.getElem?_eq_none (by unfold bc; simp; omega)
    rw [h1, h1]
    by_cases hik : k = i
    · rw [if_pos hik, if_neg (by unfold bc; simp; omega)]
    · rw [if_neg hik]
theorem z60 : (#[Value.bool false, Value.bool false, Value.bool false, Value.bool false, Value.bool false, Value.bool false, Value.bool false, Value.bool false, Value.bool false, Value.bool false, Value.bool false, Value.bool false, Value.bool false, Value.bool false, Value.bool false, Value.bool false, Value.bool false, Value.bool false, Value.bool false, Value.bool false, Value.bool false, Value.bool false, Value.bool false, Value.bool false, Value.bool false, Value.bool false, Value.bool false, Value.bool false, Value.bool false, Value.bool false, Value.bool false, Value.bool false, Value.bool false, Value.bool false, Value.bool false, Value.bool false, Value.bool false, Value.bool false, Value.bool false, Value.bool false, Value.bool false, Value.bool false, Value.bool false, Value.bool false, Value.bool false, Value.bool false, Value.bool false, Value.bool false, Value.bool false, Value.bool false, Value.bool false, Value.bool false, Value.bool false, Value.bool false, Value.bool false, Value.bool false, Value.bool false, Value.bool false, Value.bool false, Value.bool false] : Array Value) = (bc fun _ => false).toArray := by rfl
/-- may a disk be? -/
def pB (rs ban : List Int) (d : Nat) : Bool := decide (0 < rs.getD d 0) && !ban.any (· == (d : Int))
theorem any_step (ban : List Int) {i : Nat} (hi : i < ban.length) (k : Int) : (ban.take (i + 1)).any (· == k) = ((ban.take i).any (· == k) || (ban[i] == k)) := by
  rw [List.take_succ_eq_append_getElem hi, List.any_append]; simp
theorem pB_iff {rs ban : List Int} {d : Nat} : pB rs ban d = true ↔ 0 < rs.getD d 0 ∧ (d : Int) ∉ ban := by
  unfold pB
  rw [Bool.and_eq_true, decide_eq_true_eq, Bool.not_eq_true', any_not]
theorem pB_count {rs ban : List Int} {l : List Nat} (h : Ranked rs (fun d => (d : Int) ∉ ban) l) : (List.range rs.length).countP (pB rs ban) = l.length := by
  rw [List.countP_eq_length_filter]
  refine (List.Perm.length_eq ((List.perm_ext_iff_of_nodup (List.nodup_range.filter _) h.nodup).2 fun d => ?_))
  rw [List.mem_filter, List.mem_range, pB_iff, h.mem d]
/-- a cell of the array -/
theorem bcell {w : World} {base y k : Nat} {m : Nat → Bool} (h : Own w base 42 1 (some ⟨y, 0, none⟩) 60 60 (bc m)) (hk : k < 60) {b : Bool} (hb : m k = b) : w.cell? ⟨y, k, none⟩ = some (.bool b) ∧ w.frozen? ⟨y, k, none⟩ = false := by
  obtain ⟨u, h1, h2, h3⟩ := h.cellAt hk
  rw [bc_at m hk, hb] at h1
  injection h1 with h1; subst h1
  exact ⟨h2, h3⟩
def PkPost2 (l : List Nat) (kk : Nat) (bb : Bool) (w : World) (e : Ending) (w' : World) : Prop := ∃ A : Option Addr, e = .returned (.tuple #[.slice A kk kk, .bool bb]) ∧ Rd w' w'.heap.size 1 A kk ((l.take kk).map nv) ∧ Nw w w' ∧ (∀ b o, A = some ⟨b, o, none⟩ → w.heap.size ≤ b)
theorem pick_is2 {w : World} {B n c m c2 : Nat} {A A2 : Option Addr} {rs ban : List Int} {l : List Nat} (hl : Ranked rs (fun d => (d : Int) ∉ ban) l) (hr : Rd w B 1 A n (rs.map iv)) (hb : Rd w B 1 A2 m (ban.map iv)) (hB : B ≤ w.heap.size) (hm : n ≤ 1000000) (hs : m ≤ 9223372036854775807)
    (wd : Int) : Calls Try.prog 11 #[.slice A n c, .int .i64 wd, .slice A2 m c2] w (PkPost2 l (kP l wd) (okP l wd) w) := by
  refine (pick_any (c := c) (c2 := c2) stable_any hr hb hB hm hm hs wd).mono fun e w' h => ?_
  obtain ⟨l', hl', n2, ⟨h1, he⟩ | ⟨k, A', rfl, k1, k2, he, h3, h4⟩⟩ := h
  · obtain rfl := hl'.uniq hl
    obtain ⟨e1, e2⟩ := kP_no h1
    rw [e1, e2]
    exact ⟨none, he, by simpa using (Rd.nil : Rd w' w'.heap.size 1 none 0 []), n2, by intro b o h; cases h⟩
  · obtain rfl := hl'.uniq hl
    obtain ⟨e1, e2⟩ := kP_yes k1 k2
    rw [e1, e2]
    exact ⟨A', he, h3, n2, h4⟩
/-- a row that lies in another block -/
theorem rd_apart {w w' : World} {B size n y : Nat} {A : Option Addr} {xs : List Value} (h : Rd w B size A n xs) (k : w.grownBy w' (some y)) (hB : B ≤ w.heap.size) (hne : ∀ b o, A = some ⟨b, o, none⟩ → b ≠ y) : Rd w' B size A n xs :=
  ⟨h.1, fun hn => by
    obtain ⟨b, off, e, hb, hc⟩ := h.2 hn
    exact ⟨b, off, e, hb, fun j u hu => (World.cell?_of_block (k.block b (by omega) (fun e2 => by injection e2 with e2; exact hne b off e e2))).trans (hc j u hu)⟩⟩
theorem nz_at {l : List Nat} {i : Nat} (h : i < l.length) : (nz l).getD i 0 = ((l[i] : Nat) : Int) := by
  unfold nz
  rw [List.getD_eq_getElem?_getD, List.getElem?_map, List.getElem?_eq_getElem h]; rfl
set_option maxRecDepth 100000 in
set_option maxHeartbeats 16000000 in
theorem gpicked_all {w : World} (A0 : Option Addr) (n0 c0 : Nat) (zs : List Int) (h0 : InI w A0 n0 c0 zs) (wd : Int) (_hl : -9223372036854775808 ≤ wd ∧ wd ≤ 9223372036854775807) (A1 : Option Addr) (n1 c1 : Nat) (ban : List Int) (h1 : InI w A1 n1 c1 ban) :
    Calls Try.prog 7 #[.slice A0 n0 c0, .int .i64 wd, .slice A1 n1 c1] w (Ret (.bool true) w) := by
  obtain ⟨hrz, hnc, x1, hlz, x2⟩ := h0
  obtain ⟨hrb, x3, x4, x5, x6⟩ := h1
  have hn1 : n1 ≤ 9223372036854775807 := by unfold maxLen at x4; omega
  obtain ⟨n, hn⟩ : ∃ n, min n0 60 = n := ⟨_, rfl⟩
  have hn60 : n ≤ 60 := by omega
  have hnc0 : n ≤ c0 := by omega
  have hnn0 : n ≤ n0 := by omega
  obtain ⟨rs, hrs⟩ : ∃ rs, zs.take n = rs := ⟨_, rfl⟩
  have HRD := Lib.hid (show Rd w w.heap.size 1 A0 n (rs.map iv) from by
    have := hrz.take hnn0
    rwa [Nat.mul_one, ← List.map_take, hrs] at this)
  have HBD := Lib.hid hrb
  have HBL := Lib.hid (show ban.length = n1 from by have := hrb.1; simpa using this)
  have HRL := Lib.hid (show rs.length = n from by rw [← hrs, List.length_take]; omega)
  have HMIN := Lib.hid (show (if (60 : Int) < (n0 : Int) then (60 : Int) else (n0 : Int)) = (n : Int) from by split <;> omega)
  obtain ⟨l, hl, _⟩ := ranked_exists rs (fun d => decide ((d : Int) ∉ ban))
  have HLK := Lib.hid (show Ranked rs (fun d => (d : Int) ∉ ban) l from ranked_congr hl (fun d => by simp))
  obtain ⟨kk, hkk⟩ : ∃ kk, kP l wd = kk := ⟨_, rfl⟩
  obtain ⟨bb, hbb⟩ : ∃ bb, okP l wd = bb := ⟨_, rfl⟩
  have HKK := Lib.hid hkk; have HBB := Lib.hid hbb
  have SH := Lib.hid (fun w' => shown_any w')
  have PK := Lib.hid (show ∀ w', Nw w w' → Calls Try.prog 11 #[.slice A0 n c0, .int .i64 wd, .slice A1 n1 c1] w' (PkPost2 l kk bb w') from fun w' hw => by
    rw [← hkk, ← hbb]
    exact pick_is2 HLK.out (HRD.out.nw hw (Nat.le_refl _)) (HBD.out.nw hw (Nat.le_refl _)) hw.size (by omega) (by omega) wd)
  unfold Ret at SH
  unfold PkPost2 at PK
  clear x1 x2 x3 x4 x5 x6 hrz hrb hlz hl hkk hbb hrs hn hnc
  go_enter Try.func7, Try.ntmps7
  go_upto_region 4 with (first
    | ((with_reducible refine wpList_min_int _ _ _ (by with_unfolding_all exact rfl) (by with_unfolding_all exact rfl) (n0 : Int) 60 (by with_unfolding_all exact rfl) (by with_unfolding_all exact rfl) HMIN.out ?_))
    | ((with_reducible refine wpList_slice_hi 22 3 Try.underlying22 info3 _ _ (by with_unfolding_all exact rfl) (by with_unfolding_all exact rfl) A0 n0 c0 n (by with_unfolding_all exact rfl) (by with_unfolding_all exact rfl) hnc0 ?_))
    | ((with_reducible refine (SH.out _).mono ?_); rintro e w1 ⟨rfl, n1'⟩))
  rw [z60]
  have O1 := Lib.hid (show Own (w1.alloc (.cells (bc fun _ => false).toArray 42)) w.heap.size 42 1 (some ⟨w1.heap.size, 0, none⟩) 60 60 (bc fun _ => false) from
    (Obj1.new w1 42 (bc fun _ => false).toArray).ownN (by unfold bc; simp) n1'.size (by decide))
  have N1 := Lib.hid (show Nw w (w1.alloc (.cells (bc fun _ => false).toArray 42)) from gb_trans n1' (World.grownBy_alloc w1 _ none))
  obtain ⟨y, hy⟩ : ∃ y, w1.heap.size = y := ⟨_, rfl⟩
  have HY := Lib.hid (show w.heap.size ≤ y from by rw [← hy]; exact n1'.size)
  obtain ⟨w2, hw2⟩ : ∃ w2, w1.alloc (.cells (bc fun _ => false).toArray 42) = w2 := ⟨_, rfl⟩
  rw [hw2, hy] at O1
  rw [hw2] at N1
  rw [hw2, hy]
  clear hw2 hy n1' SH
  go_wp2_with fail
  go_loopw [9, 10] (fun u v wr => ∃ (many k : Nat) (m : Nat → Bool), u = .int .i64 many ∧ v = .int .i64 k ∧ k ≤ n ∧ many ≤ k ∧ Hid (∀ d, m d = (decide (d < k) && pB rs ban d)) ∧ Hid (many = (List.range k).countP (pB rs ban)) ∧
    Hid (Own wr w.heap.size 42 1 (some ⟨y, 0, none⟩) 60 60 (bc m)) ∧ Hid (Nw w wr)) (fun _ v _ => n - (intOf v).toNat)
  case atStart => exact ⟨0, 0, fun _ => false, rfl, rfl, Nat.zero_le _, Nat.le_refl _, Lib.hid (fun d => by simp), Lib.hid rfl, O1, N1⟩
  case round =>
    obtain ⟨many, k, m, rfl, rfl, hkn, hmk, hm, hcnt, ho, hnw⟩ := hrel
    clear O1 N1
    by_cases hlt : k < n
    · have hltz : (k : Int) < (n : Int) := by omega
      have hk60 : (k : Int) < 60 := by omega
      have hkk60 : k < 60 := by omega
      obtain ⟨b, off, hA, hc⟩ := atD (HRD.out.nw hnw.out (Nat.le_refl _)) hlt
      have HA0 := Lib.hid hA
      subst hA
      obtain ⟨x, hx⟩ : ∃ x, rs.getD k 0 = x := ⟨_, rfl⟩
      rw [hx] at hc
      have HX := Lib.hid hx
      clear hx
      obtain ⟨cc, cf⟩ := bcell ho.out hkk60 rfl
      obtain ⟨cb, hcb⟩ : ∃ cb, m k = cb := ⟨_, rfl⟩
      rw [hcb] at cc
      clear hcb
      go_upto_region 9 with fail
      obtain ⟨o3, g3⟩ := ho.out.set k (.bool (decide ((0 : Int) < x)))
      rw [bc_set] at o3
      obtain ⟨b0, hb0⟩ : ∃ b0, decide ((0 : Int) < x) = b0 := ⟨_, rfl⟩
      rw [hb0] at o3 g3 ⊢
      obtain ⟨w3, hw3⟩ : ∃ w3, wr.setCell ⟨y, k, none⟩ (.bool b0) = w3 := ⟨_, rfl⟩
      rw [hw3] at o3 g3 ⊢
      have O3 := Lib.hid o3
      have N3 := Lib.hid (show Nw w w3 from nw_of_gb hnw.out g3 (fun z hz => by injection hz with hz; rw [← hz]; exact HY.out))
      have HB0 := Lib.hid hb0
      clear o3 g3 hb0 hw3 hc cc cf ho hnw
      go_wp2_with fail
      go_loopw [11] (fun v wr => ∃ (i : Nat) (m2 : Nat → Bool), v = .int .i64 i ∧ i ≤ n1 ∧ Hid (∀ d, d ≠ k → m2 d = m d) ∧ Hid (m2 k = (b0 && !(ban.take i).any (· == (k : Int)))) ∧
        Hid (Own wr w.heap.size 42 1 (some ⟨y, 0, none⟩) 60 60 (bc m2)) ∧ Hid (Nw w wr)) (fun v _ => n1 - (intOf v).toNat)
      case atStart => exact ⟨0, _, rfl, Nat.zero_le _, Lib.hid (fun d hd => if_neg hd), Lib.hid (by simp), O3, N3⟩
      case round =>
        obtain ⟨i, m2, rfl, hi, hoth, hat, ho, hnw⟩ := hrel
        clear O3 N3
        by_cases hlt2 : i < n1
        · have hlt2z : (i : Int) < (n1 : Int) := by omega
          obtain ⟨b2, off2, hA2, hz2, hc2⟩ := (HBD.out.nw hnw.out (Nat.le_refl _)).atI hlt2
          have HA2 := Lib.hid hA2
          subst hA2
          obtain ⟨z, hz⟩ : ∃ z, ban[i] = z := ⟨_, rfl⟩
          rw [hz] at hc2
          have HST := Lib.hid (show (ban.take (i + 1)).any (· == (k : Int)) = ((ban.take i).any (· == (k : Int)) || (z == (k : Int))) from by rw [any_step ban hz2, hz])
          obtain ⟨cb, hcb⟩ : ∃ cb, m2 k = cb := ⟨_, rfl⟩
          obtain ⟨cc, cf⟩ := bcell ho.out hkk60 hcb
          have HCB := Lib.hid hcb
          clear hz hcb
          cases cb with
          | false =>
            go_wp2_with fail
            obtain ⟨o4, g4⟩ := ho.out.set k (.bool false)
            rw [bc_set] at o4
            go_roundw
            case rel => exact ⟨i + 1, _, by go_num, by omega, Lib.hid (fun d hd => by rw [if_neg hd]; exact hoth.out d hd), Lib.hid (by
              rw [if_pos rfl, HST.out]
              have := hat.out
              rw [HCB.out] at this
              revert this
              cases b0 <;> cases (ban.take i).any (· == (k : Int)) <;> simp), Lib.hid o4, Lib.hid (nw_of_gb hnw.out g4 (fun z hz => by injection hz with hz; rw [← hz]; exact HY.out))⟩
            case measure => simp only [intOf]; omega
          | true =>
            have HT := Lib.hid (show b0 = true ∧ (ban.take i).any (· == (k : Int)) = false from by
              have := hat.out
              rw [HCB.out] at this
              revert this
              cases b0 <;> cases (ban.take i).any (· == (k : Int)) <;> simp)
            by_cases hzk : z = (k : Int)
            · subst hzk
              have e1 : ((k : Int) != (k : Int)) = false := by simp
              go_wp2_with fail
              obtain ⟨o4, g4⟩ := ho.out.set k (.bool false)
              rw [bc_set] at o4
              go_roundw
              case rel => exact ⟨i + 1, _, by go_num, by omega, Lib.hid (fun d hd => by rw [if_neg hd]; exact hoth.out d hd), Lib.hid (by
                rw [if_pos rfl, HST.out]; simp), Lib.hid o4, Lib.hid (nw_of_gb hnw.out g4 (fun z hz => by injection hz with hz; rw [← hz]; exact HY.out))⟩
              case measure => simp only [intOf]; omega
            · have e1 : (z != (k : Int)) = true := by simpa using hzk
              have e2 : (z == (k : Int)) = false := by simpa using hzk
              have E2 := Lib.hid e2
              go_wp2_with fail
              obtain ⟨o4, g4⟩ := ho.out.set k (.bool true)
              rw [bc_set] at o4
              go_roundw
              case rel => exact ⟨i + 1, _, by go_num, by omega, Lib.hid (fun d hd => by rw [if_neg hd]; exact hoth.out d hd), Lib.hid (by
                rw [if_pos rfl, HST.out, E2.out, HT.out.1, HT.out.2]; rfl), Lib.hid o4, Lib.hid (nw_of_gb hnw.out g4 (fun z hz => by injection hz with hz; rw [← hz]; exact HY.out))⟩
              case measure => simp only [intOf]; omega
        · have hin : i = n1 := by omega
          have HPB := Lib.hid (show m2 k = pB rs ban k from by
            rw [hat.out, ← HB0.out, hin, List.take_of_length_le (by rw [HBL.out]; exact Nat.le_refl _)]
            unfold pB
            rw [HX.out])
          clear hin
          have HM2 := Lib.hid (show ∀ d, m2 d = (decide (d < k + 1) && pB rs ban d) from fun d => by
            by_cases hd : d = k
            · subst hd; rw [HPB.out, decide_eq_true (by omega), Bool.true_and]
            · rw [hoth.out d hd, hm.out d]
              by_cases hdk : d < k
              · rw [decide_eq_true hdk, decide_eq_true (by omega)]
              · rw [decide_eq_false hdk, decide_eq_false (by omega)])
          obtain ⟨cb, hcb⟩ : ∃ cb, m2 k = cb := ⟨_, rfl⟩
          obtain ⟨cc, cf⟩ := bcell ho.out hkk60 hcb
          have HCB := Lib.hid (show pB rs ban k = cb from by rw [← HPB.out, hcb])
          clear hcb cf
          cases cb with
          | false =>
            go_wp2_with fail
            go_roundw
            case rel => exact ⟨many, k + 1, m2, rfl, by go_num, by omega, by omega, HM2, Lib.hid (by rw [List.range_succ, List.countP_append, List.countP_singleton, HCB.out, ← hcnt.out]; rfl), ho, hnw⟩
            case measure => simp only [intOf]; omega
          | true =>
            go_wp2_with fail
            go_roundw
            case rel => exact ⟨many + 1, k + 1, m2, by go_num, by go_num, by omega, by omega, HM2, Lib.hid (by rw [List.range_succ, List.countP_append, List.countP_singleton, HCB.out, ← hcnt.out]; rfl), ho, hnw⟩
            case measure => simp only [intOf]; omega
    · have hkn2 : k = n := by omega
      have HCN := Lib.hid (show many = l.length from by rw [hcnt.out, hkn2, ← HRL.out]; exact pB_count HLK.out)
      have HM := Lib.hid (show ∀ d, d < n → m d = pB rs ban d from fun d hd => by rw [hm.out d, hkn2, decide_eq_true hd, Bool.true_and])
      have hltz : ¬ (k : Int) < (n : Int) := by omega
      clear hkn2 hcnt hm
      cases bb with
      | false =>
        have hk0 : kk = 0 := by
          have h1 := HBB.out
          rw [← HKK.out]; unfold kP; rw [h1]; rfl
        have hno : wd < 1 ∨ (many : Int) < wd := by
          have h1 := HBB.out
          have h2 : ¬ okP l wd = true := by rw [h1]; simp
          rw [okP_iff] at h2
          have := HCN.out
          omega
        subst hk0
        rcases hno with h1 | h1
        · go_wp2_with ((with_reducible refine (PK.out _ hnw.out).mono ?_); rintro e w3 ⟨A3, rfl, r3, n3, f3⟩)
          go_ret
          exact ⟨by first | rfl | simp, gb_trans hnw.out n3⟩
        · by_cases h2 : wd < 1
          · go_wp2_with ((with_reducible refine (PK.out _ hnw.out).mono ?_); rintro e w3 ⟨A3, rfl, r3, n3, f3⟩)
            go_ret
            exact ⟨by first | rfl | simp, gb_trans hnw.out n3⟩
          · have h3 : decide (wd < 1) = false := decide_eq_false h2
            go_wp2_with ((with_reducible refine (PK.out _ hnw.out).mono ?_); rintro e w3 ⟨A3, rfl, r3, n3, f3⟩)
            go_ret
            exact ⟨by first | rfl | simp, gb_trans hnw.out n3⟩
      | true =>
        obtain ⟨hwk, hk1⟩ := kP_wd HBB.out
        rw [HKK.out] at hwk hk1
        subst hwk
        have hkl : kk ≤ l.length := by have := okP_iff.1 HBB.out; omega
        have HKL := Lib.hid hkl
        have hkm : kk ≤ many := by rw [HCN.out]; exact hkl
        have hll : l.length ≤ n := by rw [← HRL.out]; exact ranked_len HLK.out
        have hkn60 : kk ≤ 60 := by omega
        have e1 : ((kk : Int) != (kk : Int)) = false := by simp
        have e2 : decide ((kk : Int) < 1) = false := decide_eq_false (by omega)
        have e2b : ¬ (kk : Int) < 1 := by omega
        have e3 : ¬ (many : Int) < (kk : Int) := by omega
        clear hkl hll
        go_upto_region 20 with ((with_reducible refine (PK.out _ hnw.out).mono ?_); rintro e w3 ⟨A3, rfl, r3, n3, f3⟩)
        have hylt := (World.ownsRow.lt ho.out y rfl).2
        have R3 := Lib.hid (show Rd w3 w3.heap.size 1 A3 kk ((nz (l.take kk)).map iv) from by rw [nz_iv]; exact r3)
        have N3 := Lib.hid (gb_trans hnw.out n3)
        have O3 := Lib.hid (ho.out.nw n3)
        have F3 := Lib.hid (show ∀ b o, A3 = some ⟨b, o, none⟩ → b ≠ y from fun b o h e => by have := f3 b o h; omega)
        clear r3 n3 f3 hnw ho PK hylt
        go_wp2_with fail
        go_loopw [14] (fun v wr => ∃ (i : Nat) (m2 : Nat → Bool), v = .int .i64 i ∧ i ≤ kk ∧ Hid (∀ d, d < n → m2 d = (pB rs ban d && !decide (d ∈ l.take i))) ∧ Hid (w3.heap.size ≤ wr.heap.size) ∧ Hid (Rd wr w3.heap.size 1 A3 kk ((nz (l.take kk)).map iv)) ∧
          Hid (Own wr w.heap.size 42 1 (some ⟨y, 0, none⟩) 60 60 (bc m2)) ∧ Hid (Nw w wr)) (fun v _ => kk - (intOf v).toNat)
        case atStart => exact ⟨0, m, rfl, Nat.zero_le _, Lib.hid (fun d hd => by rw [HM.out d hd]; simp), Lib.hid (Nat.le_refl _), R3, O3, N3⟩
        case round =>
          clear R3 O3 N3
          obtain ⟨i, m2, rfl, hik, hm2, hsz3, hr3, ho, hnw⟩ := hrel
          by_cases hi : i < kk
          · have hiz : (i : Int) < (kk : Int) := by omega
            have hil : i < l.length := by have := HKL.out; omega
            obtain ⟨d, hd⟩ : ∃ d, l[i] = d := ⟨_, rfl⟩
            have hdm := (HLK.out.mem d).1 (by rw [← hd]; exact List.getElem_mem _)
            obtain ⟨b3, o3, hA3, c3⟩ := atD hr3.out hi
            rw [nz_at (by rw [List.length_take]; omega), List.getElem_take, hd] at c3
            have hdn : d < n := by rw [← HRL.out]; exact hdm.1
            have hd60 : d < 60 := by omega
            have hdm2 : m2 d = true := by
              rw [hm2.out d hdn, pB_iff.2 ⟨hdm.2.1, hdm.2.2⟩]
              have : d ∉ l.take i := fun h => by
                obtain ⟨q, hq, e⟩ := List.mem_take_iff_getElem.1 h
                have hnd := HLK.out.nodup
                have h5 := List.pairwise_iff_getElem.1 HLK.out.ord q i (by omega) hil (by omega)
                rw [e, hd] at h5
                exact bef_irrefl h5
              simp [this]
            obtain ⟨cc, cf⟩ := bcell ho.out hd60 hdm2
            have HTK := Lib.hid (show l.take (i + 1) = l.take i ++ [d] from by rw [List.take_succ_eq_append_getElem hil, hd])
            have d0 : ¬ (d : Int) < 0 := by omega
            have d1 : ¬ (n : Int) ≤ (d : Int) := by omega
            have d1b : decide (n ≤ d) = false := decide_eq_false (by omega)
            have d1c : decide ((n : Int) ≤ (d : Int)) = false := decide_eq_false (by omega)
            have d2 : (d : Int) < 60 := by omega
            have d3 : (d : Int) < (n : Int) := by omega
            obtain ⟨b0, o0, hA0, cd⟩ := atD (HRD.out.nw hnw.out (Nat.le_refl _)) hdn
            have HD := Lib.hid hd
            have F4 := F3
            clear hdm hdm2
            have HFIN := Lib.hid (show ∀ w5, Own w5 w.heap.size 42 1 (some ⟨y, 0, none⟩) 60 60 (bc m2) → w3.heap.size ≤ w5.heap.size → Rd w5 w3.heap.size 1 A3 kk ((nz (l.take kk)).map iv) → Nw w w5 →
                (∃ m3 : Nat → Bool, (∀ d, d < n → m3 d = (pB rs ban d && !decide (d ∈ l.take (i + 1)))) ∧ w3.heap.size ≤ (w5.setCell ⟨y, d, none⟩ (.bool false)).heap.size ∧ Rd (w5.setCell ⟨y, d, none⟩ (.bool false)) w3.heap.size 1 A3 kk ((nz (l.take kk)).map iv) ∧
                  Own (w5.setCell ⟨y, d, none⟩ (.bool false)) w.heap.size 42 1 (some ⟨y, 0, none⟩) 60 60 (bc m3) ∧ Nw w (w5.setCell ⟨y, d, none⟩ (.bool false))) from fun w5 ho5 hs5 hr5 hn5 => by
              obtain ⟨o4, g4⟩ := ho5.set d (.bool false)
              rw [bc_set] at o4
              refine ⟨_, fun e he => ?_, Nat.le_trans hs5 g4.size, rd_apart hr5 g4 hs5 F3.out, o4, nw_of_gb hn5 g4 (fun z hz => by injection hz with hz; rw [← hz]; exact HY.out)⟩
              rw [HTK.out]
              by_cases hed : e = d
              · subst hed
                rw [if_pos rfl]; simp
              · rw [if_neg hed, hm2.out e he]
                simp [hed])
            rcases Nat.eq_zero_or_pos i with hi0 | hi0
            · have hi0z : ¬ (0 : Int) < (i : Int) := by omega
              have hi0d : decide (0 < i) = false := decide_eq_false (by omega)
              have hi0e : decide ((0 : Int) < (i : Int)) = false := decide_eq_false (by omega)
              have HI0 := Lib.hid hi0
              subst hA3
              subst hA0
              obtain ⟨xd, hxd⟩ : ∃ xd, rs.getD d 0 = xd := ⟨_, rfl⟩
              rw [hxd] at cd
              clear hd hxd hi0
              go_upto_region 26 with fail
              go_quiet (fail)
              go_wp2
              go_roundw
              case rel =>
                obtain ⟨m3, q1, q2, q3, q4, q5⟩ := HFIN.out (wr.drewN nq) (ho.out.drewN nq) hsz3.out (hr3.out.drewN nq) (gb_drewN hnw.out nq)
                exact ⟨i + 1, m3, by go_num, by omega, Lib.hid q1, Lib.hid q2, Lib.hid q3, Lib.hid q4, Lib.hid q5⟩
              case measure => simp only [intOf]; omega
            · obtain ⟨j, hj⟩ : ∃ j, i = j + 1 := ⟨i - 1, by omega⟩
              have hjk : j < kk := by omega
              have hjl : j < l.length := by omega
              obtain ⟨p, hp⟩ : ∃ p, l[j] = p := ⟨_, rfl⟩
              have hpm := (HLK.out.mem p).1 (by rw [← hp]; exact List.getElem_mem _)
              have hpn : p < n := by rw [← HRL.out]; exact hpm.1
              obtain ⟨b4, o4, hA4, c4⟩ := atD hr3.out hjk
              rw [nz_at (by rw [List.length_take]; omega), List.getElem_take, hp] at c4
              obtain ⟨b5, o5, hA5, cp⟩ := atD (HRD.out.nw hnw.out (Nat.le_refl _)) hpn
              have hbef : bef rs p d := by
                have := List.pairwise_iff_getElem.1 HLK.out.ord j i hjl hil (by omega)
                rwa [hp, hd] at this
              unfold bef at hbef
              subst hA3
              subst hA0
              injection hA4 with hA4; injection hA4 with e4 e5; subst e4; subst e5
              injection hA5 with hA5; injection hA5 with e6 e7; subst e6; subst e7
              obtain ⟨xd, hxd⟩ : ∃ xd, rs.getD d 0 = xd := ⟨_, rfl⟩
              obtain ⟨xp, hxp⟩ : ∃ xp, rs.getD p 0 = xp := ⟨_, rfl⟩
              rw [hxd] at cd
              rw [hxp] at cp
              rw [hxd, hxp] at hbef
              have hi0z : (0 : Int) < (i : Int) := by omega
              have hi0d : decide (0 < i) = true := decide_eq_true (by omega)
              have ei : (i : Int) - 1 = (j : Int) := by omega
              have hjz : (j : Int) < (kk : Int) := by omega
              have hpz : (p : Int) < (n : Int) := by omega
              have f1 : ¬ xp < xd := by omega
              have f1b : decide (xp < xd) = false := decide_eq_false f1
              clear hd hxd hxp hpm hp hj
              by_cases hxx : xp = xd
              · have f2 : (xp == xd) = true := by simp [hxx]
                have f3 : decide (d ≤ p) = false := decide_eq_false (by omega)
                have f3b : ¬ (d : Int) ≤ (p : Int) := by omega
                have f3c : decide ((d : Int) ≤ (p : Int)) = false := decide_eq_false (by omega)
                clear hbef hxx
                go_upto_region 26 with fail
                go_quiet (fail)
                go_wp2
                go_roundw
                case rel =>
                  obtain ⟨m3, q1, q2, q3, q4, q5⟩ := HFIN.out (wr.drewN nq) (ho.out.drewN nq) hsz3.out (hr3.out.drewN nq) (gb_drewN hnw.out nq)
                  exact ⟨i + 1, m3, by go_num, by omega, Lib.hid q1, Lib.hid q2, Lib.hid q3, Lib.hid q4, Lib.hid q5⟩
                case measure => simp only [intOf]; omega
              · have f2 : (xp == xd) = false := by simp [hxx]
                clear hbef hxx
                go_upto_region 26 with fail
                go_quiet (fail)
                go_wp2
                go_roundw
                case rel =>
                  obtain ⟨m3, q1, q2, q3, q4, q5⟩ := HFIN.out (wr.drewN nq) (ho.out.drewN nq) hsz3.out (hr3.out.drewN nq) (gb_drewN hnw.out nq)
                  exact ⟨i + 1, m3, by go_num, by omega, Lib.hid q1, Lib.hid q2, Lib.hid q3, Lib.hid q4, Lib.hid q5⟩
                case measure => simp only [intOf]; omega
          · have hik2 : i = kk := by omega
            have hM3 := Lib.hid (show ∀ d, d < n → m2 d = (pB rs ban d && !decide (d ∈ l.take kk)) from by rw [← hik2]; exact hm2.out)
            have hiz : ¬ (i : Int) < (kk : Int) := by omega
            have hkl : kk ≤ l.length := HKL.out
            obtain ⟨j, hj⟩ : ∃ j, kk = j + 1 := ⟨kk - 1, by omega⟩
            have hjk : j < kk := by omega
            have hjl : j < l.length := by omega
            obtain ⟨p, hp⟩ : ∃ p, l[j] = p := ⟨_, rfl⟩
            have hpm := (HLK.out.mem p).1 (by rw [← hp]; exact List.getElem_mem _)
            have hpn : p < n := by rw [← HRL.out]; exact hpm.1
            obtain ⟨b3, o3, hA3, c3⟩ := atD hr3.out hjk
            rw [nz_at (by rw [List.length_take]; omega), List.getElem_take, hp] at c3
            have HLAST := Lib.hid (show ∀ d, d < n → m2 d = true → bef rs p d from fun d hd hmd => by
              rw [hM3.out d hd, Bool.and_eq_true, pB_iff] at hmd
              have hdl : d ∈ l := (HLK.out.mem d).2 ⟨by rw [HRL.out]; exact hd, hmd.1.1, hmd.1.2⟩
              obtain ⟨q, hq, rfl⟩ := List.getElem_of_mem hdl
              have hqk : kk ≤ q := by
                refine Nat.le_of_not_lt fun hlt => ?_
                have h6 : l[q] ∈ l.take kk := List.mem_take_iff_getElem.2 ⟨q, by omega, rfl⟩
                simp [h6] at hmd
              have := List.pairwise_iff_getElem.1 HLK.out.ord j q hjl hq (by omega)
              rwa [hp] at this)
            have ej : (kk : Int) - 1 = (j : Int) := by omega
            have hjz : (j : Int) < (kk : Int) := by omega
            have hpz : (p : Int) < (n : Int) := by omega
            have HPN := Lib.hid hpn
            subst hA3
            clear hM3 hm2 hik2 hj hp hpm hkl hjl
            go_wp2_with fail
            go_loopw [17] (fun v wx => ∃ d : Nat, v = .int .i64 d ∧ d ≤ n ∧ Hid (Own wx w.heap.size 42 1 (some ⟨y, 0, none⟩) 60 60 (bc m2)) ∧ Hid (Nw w wx)) (fun v _ => n - (intOf v).toNat)
            case atStart => exact ⟨0, rfl, Nat.zero_le _, ho, hnw⟩
            case round =>
              clear hr3 c3 hsz3
              obtain ⟨d, rfl, hdn, ho5, hn5⟩ := hrel
              by_cases hd : d < n
              · have hdz : (d : Int) < (n : Int) := by omega
                have hd60 : d < 60 := by omega
                have hd60z : (d : Int) < 60 := by omega
                obtain ⟨b0, o0, hA0, cd⟩ := atD (HRD.out.nw hn5.out (Nat.le_refl _)) hd
                obtain ⟨b5, o5, hA5, cp⟩ := atD (HRD.out.nw hn5.out (Nat.le_refl _)) HPN.out
                subst hA0
                injection hA5 with hA5; injection hA5 with e6 e7; subst e6; subst e7
                obtain ⟨cb, hcb⟩ : ∃ cb, m2 d = cb := ⟨_, rfl⟩
                obtain ⟨cc, cf⟩ := bcell ho5.out hd60 hcb
                have HBF := Lib.hid (show cb = true → bef rs p d from fun h => HLAST.out d hd (hcb.trans h))
                obtain ⟨xd, hxd⟩ : ∃ xd, rs.getD d 0 = xd := ⟨_, rfl⟩
                obtain ⟨xp, hxp⟩ : ∃ xp, rs.getD p 0 = xp := ⟨_, rfl⟩
                rw [hxd] at cd
                rw [hxp] at cp
                have HXD := Lib.hid hxd; have HXP := Lib.hid hxp
                clear hcb hxd hxp cf
                cases cb with
                | false =>
                  clear HBF
                  go_wp2_with fail
                  go_quiet (fail)
                  go_wp2
                  go_roundw
                  case rel => exact ⟨d + 1, by go_num, by omega, Lib.hid (ho5.out.drewN nq), Lib.hid (gb_drewN hn5.out nq)⟩
                  case measure => simp only [intOf]; omega
                | true =>
                  have hbef := HBF.out rfl
                  unfold bef at hbef
                  rw [HXD.out, HXP.out] at hbef
                  have f1 : ¬ xp < xd := by omega
                  have f1b : decide (xp < xd) = false := decide_eq_false f1
                  by_cases hxx : xd = xp
                  · have f2 : (xd == xp) = true := by simp [hxx]
                    have f3 : decide (d < p) = false := decide_eq_false (by omega)
                    have f3b : ¬ (d : Int) < (p : Int) := by omega
                    have f3c : decide ((d : Int) < (p : Int)) = false := decide_eq_false (by omega)
                    clear hbef hxx HBF
                    go_wp2_with fail
                    go_quiet (fail)
                    go_wp2
                    go_roundw
                    case rel => exact ⟨d + 1, by go_num, by omega, Lib.hid (ho5.out.drewN nq), Lib.hid (gb_drewN hn5.out nq)⟩
                    case measure => simp only [intOf]; omega
                  · have f2 : (xd == xp) = false := by simp [hxx]
                    clear hbef hxx HBF
                    go_wp2_with fail
                    go_quiet (fail)
                    go_wp2
                    go_roundw
                    case rel => exact ⟨d + 1, by go_num, by omega, Lib.hid (ho5.out.drewN nq), Lib.hid (gb_drewN hn5.out nq)⟩
                    case measure => simp only [intOf]; omega
              · have hdz : ¬ (d : Int) < (n : Int) := by omega
                go_wp2_with fail
                go_ret
                exact ⟨by first | rfl | simp, hn5.out⟩
end Go.Proofs.Ytobifmndpkjlmaa

