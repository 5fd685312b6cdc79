/- The document's in and most. -/
import Derived.Test.YtobifmndpkjlmaaA
import Derived.Test.YtobifmndpkjlmaaS3
namespace Go.Proofs.Ytobifmndpkjlmaa
open Go.RowKit Go.BW

theorem in_any {w : World} {B n c : Nat} {A : Option Addr} {zs : List Int} (hr : Rd w B 1 A n (zs.map iv)) (hs : n ≤ maxLen) (x : Int) : Calls Try.prog 43 #[.slice A n c, .int .i64 x] w (fun e w' => e = .returned (.bool (zs.any (· == x))) ∧ w = w') := by
  have hlen : zs.length = n := by have := hr.1; simpa using this
  have HR := Lib.hid hr
  have hs' : n ≤ 9223372036854775807 := hs
  clear hr hs
  go_enter Try.func43, Try.ntmps43
  go_wp2_with fail
  go_loopw [5] (fun v wr => ∃ k : Nat, k ≤ n ∧ v = .int .i64 k ∧ Hid ((zs.take k).any (· == x) = false) ∧ w = wr) (fun v _ => n - (intOf v).toNat)
  case atStart => exact ⟨0, Nat.zero_le _, rfl, Lib.hid rfl, by first | rfl | trivial⟩
  case round =>
    obtain ⟨j, hj, rfl, hno, rfl⟩ := hrel
    by_cases hlt : j < n
    · obtain ⟨b', off, rfl, hln, hc0⟩ := HR.out.atI hlt
      have hlt' : (j : Int) < (n : Int) := by omega
      have HX := Lib.hid (List.getElem?_eq_getElem hln)
      obtain ⟨z, hz⟩ : ∃ z, zs[j] = z := ⟨_, rfl⟩
      rw [hz] at HX hc0
      obtain ⟨q, hq⟩ : ∃ q, (z == x) = q := ⟨_, rfl⟩
      have HQ := Lib.hid hq
      clear hz
      rcases q with _ | _
      · go_wp2
        go_roundw
        case rel => exact ⟨j + 1, by omega, by go_num, Lib.hid (by rw [any_snoc hno.out HX.out]; exact HQ.out), by first | rfl | trivial⟩
        case measure => simp only [intOf]; omega
      · have HF := Lib.hid (show zs.any (· == x) = true from List.any_eq_true.2 ⟨z, List.mem_of_getElem? HX.out, HQ.out⟩)
        go_wp2
        go_ret
        exact ⟨by rw [HF.out]; rfl, by first | rfl | trivial⟩
    · have hk' : j = n := by omega
      subst hk'
      have hf : zs.any (· == x) = false := by
        have h1 := hno.out
        rwa [List.take_of_length_le (by omega)] at h1
      have H := Lib.hid hf
      clear hf
      go_wp2
      go_ret
      exact ⟨by rw [H.out]; rfl, by first | rfl | trivial⟩
theorem any_mem {zs : List Int} {x : Int} : zs.any (· == x) = true ↔ x ∈ zs := by simp [List.any_eq_true]
theorem any_not {zs : List Int} {x : Int} : zs.any (· == x) = false ↔ x ∉ zs := by rw [← any_mem, Bool.not_eq_true]
def MostPost (rs no : List Int) (w : World) (e : Ending) (w' : World) : Prop := ∃ r, e = .returned (.int .i64 r) ∧ MostOf rs no r ∧ Nw w w'
theorem getD_at {zs : List Int} {k : Nat} (h : k < zs.length) : zs[k] = zs.getD k 0 := by simp [List.getD_eq_getElem?_getD, h]
/-- a cell of a row of ints -/
theorem atD {w : World} {B n k : Nat} {A : Option Addr} {zs : List Int} (h : Rd w B 1 A n (zs.map iv)) (hk : k < n) : ∃ b off, A = some ⟨b, off, none⟩ ∧ w.cell? ⟨b, off + k, none⟩ = some (.int .i64 (zs.getD k 0)) := by
  obtain ⟨b, off, e, hl, hc⟩ := h.atI hk
  exact ⟨b, off, e, by rw [← getD_at hl]; exact hc⟩
set_option maxHeartbeats 1000000 in
theorem most_any {w : World} {B n c m c2 : Nat} {A A2 : Option Addr} {rs no : List Int} (hr : Rd w B 1 A n (rs.map iv)) (hn : Rd w B 1 A2 m (no.map iv)) (hB : B ≤ w.heap.size) (hs : n ≤ maxLen) (hs2 : m ≤ maxLen) :
    Calls Try.prog 29 #[.slice A n c, .slice A2 m c2] w (MostPost rs no w) := by
  have hlen : rs.length = n := by have := hr.1; simpa using this
  have HR := Lib.hid hr; have HN := Lib.hid hn; have HBW := Lib.hid hB
  have hs' : n ≤ 9223372036854775807 := hs
  have HS2 := Lib.hid hs2
  clear hr hn hB hs hs2
  go_enter Try.func29, Try.ntmps29
  go_wp2_with fail
  go_loopw [5, 6] (fun r v wr => ∃ (k : Nat) (z : Int), k ≤ n ∧ v = .int .i64 k ∧ r = .int .i64 z ∧ Hid (MostUp rs no k z) ∧ Nw w wr) (fun _ v _ => n - (intOf v).toNat)
  case atStart => exact ⟨0, -1, Nat.zero_le _, rfl, rfl, Lib.hid (MostUp.zero _ _), Nw.refl _⟩
  case round =>
    obtain ⟨k, z, hk, rfl, rfl, hm, hnw⟩ := hrel
    have HR2 := Lib.hid (HR.out.nw hnw HBW.out)
    have HN2 := Lib.hid (HN.out.nw hnw HBW.out)
    by_cases hlt : k < n
    · have hlt' : (k : Int) < (n : Int) := by omega
      have HI := Lib.hid (in_any (c := c2) HN2.out HS2.out (k : Int))
      obtain ⟨q, hq⟩ : ∃ q, no.any (· == (k : Int)) = q := ⟨_, rfl⟩
      rw [hq] at HI
      have HQ := Lib.hid hq
      obtain ⟨b, off, rfl, hc0⟩ := atD HR2.out hlt
      have hnat := hm.out.nat
      obtain ⟨x, hx⟩ : ∃ x, rs.getD k 0 = x := ⟨_, rfl⟩
      rw [hx] at hc0
      have HX := Lib.hid hx
      clear hq hx
      rcases (show x ≤ 0 ∨ 0 < x by omega) with h0 | h0
      · have H2 := Lib.hid (hm.out.pass (.inl (by rw [HX.out]; omega)))
        have d0 : decide ((0 : Int) < x) = false := decide_eq_false (by omega)
        clear hm hnat
        go_wp2_with ((with_reducible refine HI.out.mono ?_); rintro e w2 ⟨rfl, rfl⟩)
        go_quiet (fail)
        go_wp2
        go_roundw
        case rel => exact ⟨k + 1, z, by omega, by go_num, rfl, H2, by first | exact hnw | exact gb_drewN hnw _ | exact gb_drew hnw | exact gb_drewN (gb_drew hnw) _⟩
        case measure => simp only [intOf]; omega
      · have d0 : decide ((0 : Int) < x) = true := decide_eq_true h0
        rcases q with _ | _
        · have hno : (k : Int) ∉ no := any_not.1 HQ.out
          rcases hnat with hz | ⟨d, hz, hdk⟩
          · have H2 := Lib.hid (hm.out.take (by rw [HX.out]; exact h0) hno (.inl (by omega)))
            clear hm hno
            subst hz
            go_wp2_with ((with_reducible refine HI.out.mono ?_); rintro e w2 ⟨rfl, rfl⟩)
            go_quiet (fail)
            go_wp2
            go_roundw
            case rel => exact ⟨k + 1, k, by omega, by go_num, rfl, H2, by first | exact hnw | exact gb_drewN hnw _ | exact gb_drew hnw | exact gb_drewN (gb_drew hnw) _⟩
            case measure => simp only [intOf]; omega
          · subst hz
            obtain ⟨b2, off2, e2, hc1⟩ := atD HR2.out (show d < n by omega)
            obtain ⟨y, hy⟩ : ∃ y, rs.getD d 0 = y := ⟨_, rfl⟩
            rw [hy] at hc1
            injection e2 with e2
            injection e2 with e2 e3
            subst e2
            subst e3
            have hdn : (d : Int) < (n : Int) := by omega
            have HY := Lib.hid hy
            clear hy
            have d1 : decide ((d : Int) < 0) = false := decide_eq_false (by omega)
            rcases (show y < x ∨ x ≤ y by omega) with h5 | h5
            · have H2 := Lib.hid (hm.out.take (by rw [HX.out]; exact h0) hno (.inr ⟨d, rfl, by rw [HX.out, HY.out]; exact h5⟩))
              have d2 : decide (y < x) = true := decide_eq_true h5
              clear hm hno
              go_wp2_with ((with_reducible refine HI.out.mono ?_); rintro e w2 ⟨rfl, rfl⟩)
              go_quiet (fail)
              go_wp2
              go_roundw
              case rel => exact ⟨k + 1, k, by omega, by go_num, rfl, H2, by first | exact hnw | exact gb_drewN hnw _ | exact gb_drew hnw | exact gb_drewN (gb_drew hnw) _⟩
              case measure => simp only [intOf]; omega
            · have H2 := Lib.hid (hm.out.pass (.inr (.inr ⟨d, rfl, by rw [HX.out, HY.out]; exact h5⟩)))
              have d2 : decide (y < x) = false := decide_eq_false (by omega)
              clear hm hno
              go_wp2_with ((with_reducible refine HI.out.mono ?_); rintro e w2 ⟨rfl, rfl⟩)
              go_quiet (fail)
              go_wp2
              go_roundw
              case rel => exact ⟨k + 1, d, by omega, by go_num, rfl, H2, by first | exact hnw | exact gb_drewN hnw _ | exact gb_drew hnw | exact gb_drewN (gb_drew hnw) _⟩
              case measure => simp only [intOf]; omega
        · have H2 := Lib.hid (hm.out.pass (.inr (.inl (any_mem.1 HQ.out))))
          clear hm hnat
          go_wp2_with ((with_reducible refine HI.out.mono ?_); rintro e w2 ⟨rfl, rfl⟩)
          go_quiet (fail)
          go_wp2
          go_roundw
          case rel => exact ⟨k + 1, z, by omega, by go_num, rfl, H2, by first | exact hnw | exact gb_drewN hnw _ | exact gb_drew hnw | exact gb_drewN (gb_drew hnw) _⟩
          case measure => simp only [intOf]; omega
    · have hkn : k = rs.length := by omega
      have H := Lib.hid (show MostOf rs no z from by rw [hkn] at hm; exact hm.out.all)
      clear hkn hm
      go_wp2
      go_ret
      exact ⟨z, rfl, H.out, hnw⟩
end Go.Proofs.Ytobifmndpkjlmaa

