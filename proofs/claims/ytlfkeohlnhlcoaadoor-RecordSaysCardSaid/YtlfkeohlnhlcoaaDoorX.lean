/- Is there a byte other than nought? TagOf's closure, slices.IndexFunc and ContainsFunc with it; for every slice. -/
import Derived.Test.YtlfkeohlnhlcoaaDoorV
namespace Go.Proofs.YtlfkeohlnhlcoaaDoor
open Go.RowKit Go.BW

theorem nz_any (c : UInt8) (w : World) : Calls Tryd.prog 25 #[bv c] w fun e w' => e = .returned (.bool (c != 0)) ∧ w = w' := by
  unfold bv
  by_cases h : c = 0
  · subst h
    go_enter Tryd.func25, Tryd.ntmps25
    go_wp2
    go_ret
    exact ⟨rfl, rfl⟩
  · have hx : (c.toNat : Int) ≠ 0 := by
      intro e; apply h; apply UInt8.toNat_inj.1; simpa using e
    have h1 : ((c.toNat : Int) == 0) = false := by simpa using hx
    have H := Lib.hid (show (c != 0) = true by simpa using h)
    obtain ⟨x, ex⟩ : ∃ x : Int, (c.toNat : Int) = x := ⟨_, rfl⟩
    rw [ex] at h1 hx ⊢
    clear ex h
    have h2 : (x != 0) = true := by simpa using hx
    go_enter Tryd.func25, Tryd.ntmps25
    go_wp2
    go_ret
    rw [H.out]
    exact ⟨rfl, rfl⟩
/-- is there a byte other than nought? -/
def someN (bs : List UInt8) : Bool := bs.any (· != 0)
theorem someN_snoc (bs : List UInt8) (k : Nat) (h : k < bs.length) (hno : someN (bs.take k) = false) : someN (bs.take (k + 1)) = (bs[k] != 0) := by
  unfold someN at hno ⊢
  rw [List.take_succ_eq_append_getElem h, List.any_append, hno]
  simp
theorem someN_take (bs : List UInt8) (k : Nat) (h : someN (bs.take k) = true) : someN bs = true := by
  unfold someN at h ⊢
  rw [← List.take_append_drop k bs, List.any_append, h]
  rfl
def IndexPost (r : Bool) (w : World) (e : Ending) (w' : World) : Prop := ∃ v : Int, e = .returned (.int .i64 v) ∧ decide (0 ≤ v) = r ∧ w = w'
theorem index_any {w : World} {B n d : Nat} {L : Option Addr} {bs : List UInt8} (hr : Rd w B 1 L n (bs.map bv)) (hn : n ≤ 1000000) :
    Calls Tryd.prog 31 #[.slice L n d, .func (.func 25) #[] #[]] w (IndexPost (someN bs) w) := by
  have hlen : bs.length = n := by have := hr.1; simpa using this
  have HL := Lib.hid hlen; clear hlen
  have HT := Lib.hid (fun c => nz_any c w)
  go_enter Tryd.func31, Tryd.ntmps31
  go_wp2_with fail
  go_loopw [8] (fun i wr => ∃ k : Nat, k ≤ n ∧ i = .int .i64 k ∧ Hid (someN (bs.take k) = false) ∧ wr = w) (fun i _ => n - (intOf i).toNat)
  case atStart => exact ⟨0, Nat.zero_le _, rfl, Lib.hid rfl, rfl⟩
  case round =>
    obtain ⟨k, hk, rfl, hno, rfl⟩ := hrel
    by_cases hlt : k < n
    · obtain ⟨b, off, rfl, hz, hcell⟩ := hr.atB hlt
      have hs := someN_snoc bs k hz hno.out
      obtain ⟨x, hx⟩ : ∃ x, bs[k] = x := ⟨_, rfl⟩
      rw [hx] at hs hcell
      clear hx
      obtain ⟨q, hq⟩ : ∃ q, (x != 0) = q := ⟨_, rfl⟩
      rw [hq] at hs
      have HQ := Lib.hid hq; clear hq
      have HS := Lib.hid hs; clear hs
      unfold bv at HT
      rcases q with _ | _
      all_goals
        go_wp2_with ((with_reducible refine (HT.out x).mono ?_); rintro e w2 ⟨rfl, rfl⟩; rw [HQ.out])
      · go_roundw
        case rel => exact ⟨k + 1, by omega, by go_num, HS, trivial⟩
        case measure => simp [intOf]; omega
      · go_ret
        exact ⟨_, rfl, by rw [someN_take _ _ HS.out]; simp, rfl⟩
    · have hk' : k = n := by omega
      have hf : someN bs = false := by
        have := hno.out
        rwa [List.take_of_length_le (by have := HL.out; omega)] at this
      have HF := Lib.hid hf; clear hf
      go_wp2
      go_ret
      exact ⟨_, rfl, by rw [HF.out]; rfl, rfl⟩
theorem contains_any {w : World} {B n d : Nat} {L : Option Addr} {bs : List UInt8} (hr : Rd w B 1 L n (bs.map bv)) (hn : n ≤ 1000000) :
    Calls Tryd.prog 24 #[.slice L n d, .func (.func 25) #[] #[]] w fun e w' => e = .returned (.bool (someN bs)) ∧ w = w' := by
  have HI := Lib.hid (index_any (d := d) hr hn)
  clear hr
  go_enter Tryd.func24, Tryd.ntmps24
  go_wp2_with (refine HI.out.mono ?_; rintro e w2 ⟨v, rfl, hv, rfl⟩; have HV := Lib.hid hv; clear hv)
  go_ret
  exact ⟨by first | rfl | (rw [HV.out]; rfl), rfl⟩
end Go.Proofs.YtlfkeohlnhlcoaaDoor

