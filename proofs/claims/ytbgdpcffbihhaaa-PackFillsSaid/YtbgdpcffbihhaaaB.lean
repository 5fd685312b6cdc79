/- What pack.PutRow returns, for every slice of at most a hundred million bytes and ten million numbers. -/
import Derived.Test.YtbgdpcffbihhaaaA
namespace Go.Proofs.Ytbgdpcffbihhaaa
open Go.RowKit Go.BW

def putRowB (zs : List Int) (width : Int) : Bool := decide (zs.length ≤ 65535 ∧ 1 ≤ width ∧ width ≤ 6) && zs.all (mayB · width)
/-- what is written behind k of the numbers -/
def rowAcc (bs : List UInt8) (m : Nat) (zs : List Int) (width : Int) : List UInt8 := zs.foldl (fun a z => putL a z width) (putL bs m 2)
def putRowL (bs : List UInt8) (zs : List Int) (width : Int) : List UInt8 := if putRowB zs width then rowAcc bs zs.length zs width else bs

theorem rowAcc_nil (bs : List UInt8) (m : Nat) (width : Int) : rowAcc bs m [] width = putL bs m 2 := by unfold rowAcc; rw [List.foldl_nil]
theorem rowAcc_snoc (bs : List UInt8) (m : Nat) (zs : List Int) (z width : Int) : rowAcc bs m (zs ++ [z]) width = putL (rowAcc bs m zs width) z width := by
  simp [rowAcc]
theorem rowAcc_take (bs : List UInt8) (m : Nat) (zs : List Int) (width : Int) (k : Nat) (h : k < zs.length) :
    rowAcc bs m (zs.take (k + 1)) width = putL (rowAcc bs m (zs.take k) width) zs[k] width := by
  rw [List.take_succ_eq_append_getElem h, rowAcc_snoc]
theorem rowAcc_len (bs : List UInt8) (m : Nat) (zs : List Int) (width : Int) : (rowAcc bs m zs width).length ≤ bs.length + 6 + 6 * zs.length := by
  have h : ∀ l : List Int, (rowAcc bs m l.reverse width).length ≤ bs.length + 6 + 6 * l.length := by
    intro l
    induction l with
    | nil => rw [List.reverse_nil, rowAcc_nil]; exact Nat.le_trans (putL_len bs m 2) (by omega)
    | cons c l ih =>
      rw [List.reverse_cons, rowAcc_snoc, List.length_cons]
      have := putL_len (rowAcc bs m l.reverse width) c width
      omega
  have := h zs.reverse
  simpa using this
theorem take_may (zs : List Int) (width : Int) (k : Nat) (h : k < zs.length) (ha : ∀ z ∈ zs.take k, mayB z width = true) (hk : mayB zs[k] width = true) :
    ∀ z ∈ zs.take (k + 1), mayB z width = true := by
  rw [List.take_succ_eq_append_getElem h]
  intro z hz
  rcases List.mem_append.1 hz with hz | hz
  · exact ha z hz
  · rw [List.mem_singleton.1 hz]; exact hk
theorem putRowL_no (bs : List UInt8) (zs : List Int) (width : Int) (k : Nat) (h : k < zs.length) (hk : mayB zs[k] width = false) : putRowL bs zs width = bs := by
  have : putRowB zs width = false := by
    unfold putRowB
    rw [Bool.and_eq_false_iff]
    right
    rw [List.all_eq_false]
    exact ⟨zs[k], List.getElem_mem h, by simp [hk]⟩
  simp [putRowL, this]
theorem own_small {w : World} {base n c : Nat} {e : TypeId} {A : Option Addr} {xs : List UInt8} (h : Own w base e 1 A n c (xs.map bv)) : xs.length = n := by
  have := h.len; simpa using this

set_option maxHeartbeats 1000000 in
theorem putRow_any (A L : Option Addr) (n c m d : Nat) (bs : List UInt8) (zs : List Int) (width : Int) (B : Nat) (w : World) (hr : Rd w B 1 A n (bs.map bv)) (hl : Rd w B 1 L m (zs.map iv)) (hB : B ≤ w.heap.size)
    (hn : n ≤ 100000000) (hc : n ≤ c) (hm : m ≤ 10000000) (hz : ∀ z ∈ zs, z ≤ 9223372036854775807) :
    Calls Try.prog 13 #[.slice A n c, .slice L m d, .int .i64 width] w (OwnB (putRowL bs zs width) w) := by
  have hbl : bs.length = n := by have := hr.1; simpa using this
  have hzl : zs.length = m := by have := hl.1; simpa using this
  have Hbl := Lib.hid hbl; clear hbl
  have Hzl := Lib.hid hzl; clear hzl
  have Hz := Lib.hid hz; clear hz
  go_enter Try.func13, Try.ntmps13
  go_wp2_with (first | ((with_reducible refine (put_any _ _ _ _ _ _ _ _ hr hB (by omega) hc (by omega)).mono ?_); rintro e w1 ⟨A1, n1, c1, rfl, h4, h5⟩))
  go_loopw [7, 16] (fun s i wr => ∃ (k p : Nat) (A' : Option Addr) (c' : Nat), k ≤ m ∧ s = .slice A' p c' ∧ i = .int .i64 k ∧ Nw w wr ∧
     Own wr w.heap.size 5 1 A' p c' ((rowAcc bs m (zs.take k) width).map bv) ∧ Hid (∀ z ∈ zs.take k, mayB z width = true)) (fun _ i _ => m - (intOf i).toNat)
  case atStart => exact ⟨0, n1, A1, c1, by omega, rfl, rfl, h5, by rw [List.take_zero, rowAcc_nil]; exact h4, by unfold Hid; simp⟩
  case round =>
    obtain ⟨k, p, A', c', hk, rfl, rfl, hnw, hown, hall⟩ := hrel
    by_cases hlt : k < m
    · obtain ⟨b, off, rfl, hzk, hcell⟩ := (hl.nw hnw hB).atI hlt
      have hle : zs[k] ≤ 9223372036854775807 := Hz.out _ (List.getElem_mem hzk)
      have hp := own_small hown
      have hp2 := rowAcc_len bs m (zs.take k) width
      have hp3 : (zs.take k).length ≤ k := List.length_take_le _ _
      have hp4 : p ≤ 1000000000 := by have := Hbl.out; omega
      clear hp hp2 hp3
      by_cases hmay : mayB zs[k] width = true
      · have Hm := Lib.hid hmay; clear hmay
        go_wp2_with (first | ((with_reducible refine (may_any _ _ _ hle).mono ?_); rw [Hm.out]; rintro e w' ⟨rfl, rfl⟩) | ((with_reducible refine (put_any _ _ _ _ _ _ _ _ hown.rd (Nat.le_refl _) hp4 hown.cap.1 hle).mono ?_); rintro e w2 ⟨A2, n2, c2, rfl, h6, h7⟩))
        go_roundw
        case rel => exact ⟨k + 1, n2, A2, c2, by omega, rfl, by go_num, gb_trans hnw h7, by rw [rowAcc_take _ _ _ _ _ hzk]; exact h6.more hnw.size, take_may zs width k hzk hall.out Hm.out⟩
        case measure => simp [intOf]; omega
      · have Hm := Lib.hid (show mayB zs[k] width = false by simpa using hmay); clear hmay
        go_wp2_with (first | ((with_reducible refine (may_any _ _ _ hle).mono ?_); rw [Hm.out]; rintro e w' ⟨rfl, rfl⟩) | (at_builtin; refine wpList_app_lit T24 _ _ rfl rfl w.heap.size rfl rfl (hr.nw hnw hB) (Nat.le_trans hB hnw.size) (bv_one _) (by unfold maxLen; omega) hnw.size ?_; intro A2 c2 w2 h6 h7))
        go_ret
        exact ⟨A2, _, c2, rfl, by rw [putRowL_no bs zs width k hzk Hm.out]; exact h6, gb_trans hnw h7⟩
    · have hkm : k = m := by omega
      subst hkm
      have hx : zs.take k = zs := List.take_of_length_le (by have := Hzl.out; omega)
      rw [hx] at hown hall
      by_cases h0 : k ≤ 65535 ∧ 1 ≤ width ∧ width ≤ 6
      · obtain ⟨g1, g2, g3⟩ := h0
        have b1 : decide ((65535 : Int) < (k : Int)) = false := by simp; omega
        have b2 : decide (width < 1) = false := by simp; omega
        have b3 : decide (6 < width) = false := by simp; omega
        have hok : putRowL bs zs width = rowAcc bs k zs width := by
          have : putRowB zs width = true := by
            unfold putRowB
            rw [Bool.and_eq_true, List.all_eq_true]
            exact ⟨by simp [Hzl.out, g1, g2, g3], hall.out⟩
          simp only [putRowL, this, if_true, Hzl.out]
        have Hok := Lib.hid hok; clear hok hx
        go_wp2
        go_ret
        exact ⟨A', p, c', rfl, by rw [Hok.out]; exact hown, hnw⟩
      · have hno : putRowL bs zs width = bs := by
          have : putRowB zs width = false := by
            unfold putRowB
            rw [Bool.and_eq_false_iff]
            left
            rw [Hzl.out]
            simpa using h0
          simp [putRowL, this]
        have Hno := Lib.hid hno; clear hno hx
        have Hall := Lib.hid hall; clear hall
        have hcond : (decide ((65535 : Int) < (k : Int)) || decide (width < 1) || decide (6 < width)) = true := by
          simp; omega
        by_cases g1 : k ≤ 65535
        · have b1 : decide ((65535 : Int) < (k : Int)) = false := by simp; omega
          by_cases g2 : 1 ≤ width
          · have b2 : decide (width < 1) = false := by simp; omega
            have b3 : decide (6 < width) = true := by simp; omega
            clear hcond h0
            go_wp2_with (first | (at_builtin; refine wpList_app_lit T24 _ _ rfl rfl w.heap.size rfl rfl (hr.nw hnw hB) (Nat.le_trans hB hnw.size) (bv_one _) (by unfold maxLen; omega) hnw.size ?_; intro A2 c2 w2 h6 h7))
            go_ret
            exact ⟨A2, _, c2, rfl, by rw [Hno.out]; exact h6, gb_trans hnw h7⟩
          · have b2 : decide (width < 1) = true := by simp; omega
            clear hcond h0
            go_wp2_with (first | (at_builtin; refine wpList_app_lit T24 _ _ rfl rfl w.heap.size rfl rfl (hr.nw hnw hB) (Nat.le_trans hB hnw.size) (bv_one _) (by unfold maxLen; omega) hnw.size ?_; intro A2 c2 w2 h6 h7))
            go_ret
            exact ⟨A2, _, c2, rfl, by rw [Hno.out]; exact h6, gb_trans hnw h7⟩
        · have b1 : decide ((65535 : Int) < (k : Int)) = true := by simp; omega
          clear hcond h0
          go_wp2_with (first | (at_builtin; refine wpList_app_lit T24 _ _ rfl rfl w.heap.size rfl rfl (hr.nw hnw hB) (Nat.le_trans hB hnw.size) (bv_one _) (by unfold maxLen; omega) hnw.size ?_; intro A2 c2 w2 h6 h7))
          go_ret
          exact ⟨A2, _, c2, rfl, by rw [Hno.out]; exact h6, gb_trans hnw h7⟩
end Go.Proofs.Ytbgdpcffbihhaaa
