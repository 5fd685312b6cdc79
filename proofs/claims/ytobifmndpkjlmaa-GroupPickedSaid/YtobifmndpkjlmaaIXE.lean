/- slices.IndexFunc over extents, for the closure that the program hands it; under a premise on the closure. Printed by gen_idx.py. -/
import Derived.Test.YtobifmndpkjlmaaA
namespace Go.Proofs.Ytobifmndpkjlmaa
open Go.RowKit Go.BW

theorem index45_any {w : World} {B n d : Nat} {L : Option Addr} {ms : List Et} (hr : Rd w B 2 L n (fl ec ms)) (hB : B ≤ w.heap.size) (hn : n ≤ 1000000) (c1 : Value) (p : Et → Bool)
    (HF : ∀ m ∈ ms, ∀ w', Nw w w' → Calls Try.prog 45 #[ev m, c1] w' (Ret (.bool (p m)) w')) :
    Calls Try.prog 49 #[.slice L n d, .func (.func 45) #[] #[c1]] w (IdxPost (idxZ p ms) w) := by
  have HF' := Lib.hid HF
  clear HF
  go_enter Try.func49, Try.ntmps49
  go_wp2_with fail
  go_loopw [8] (fun i wr => ∃ k : Nat, k ≤ n ∧ i = .int .i64 k ∧ Hid ((ms.take k).any p = false) ∧ Nw w wr) (fun i _ => n - (intOf i).toNat)
  case atStart => exact ⟨0, Nat.zero_le _, rfl, Lib.hid rfl, Nw.refl _⟩
  case round =>
    obtain ⟨k, hk, rfl, hno, hnw⟩ := hrel
    by_cases hlt : k < n
    · obtain ⟨hln, b', off, x, rfl, _, hx, hc⟩ := (hr.nw hnw hB).atL ec_len (by decide) hlt
      have hlt' : (k : Int) < (n : Int) := by omega
      have HC := Lib.hid hc
      have HX := Lib.hid hx
      have HT := HF'.out x (List.mem_of_getElem? hx) wr hnw
      obtain ⟨q, hq⟩ : ∃ q, p x = q := ⟨_, rfl⟩
      rw [hq] at HT
      have HQ := Lib.hid hq
      have HT' := Lib.hid (show Calls Try.prog 45 #[.agg (ec x).toArray, c1] wr (fun e w' => e = .returned (.bool q) ∧ Nw wr w') from HT)
      clear hc hx hq HT
      rcases q with _ | _
      · go_wp2_with (first | ((with_reducible refine HT'.out.mono ?_); rintro e w2 ⟨rfl, n2⟩) | refine wpList_load_agg 39 _ rfl rfl rfl (ec x) HC.out _ Try.underlying39 rfl (by rw [ec_len]; kernel_rfl) ?_)
        go_roundw
        case rel => exact ⟨k + 1, by omega, by go_num, Lib.hid (by rw [any_snoc hno.out HX.out]; exact HQ.out), gb_trans hnw n2⟩
        case measure => simp only [intOf]; omega
      · go_wp2_with (first | ((with_reducible refine HT'.out.mono ?_); rintro e w2 ⟨rfl, n2⟩) | refine wpList_load_agg 39 _ rfl rfl rfl (ec x) HC.out _ Try.underlying39 rfl (by rw [ec_len]; kernel_rfl) ?_)
        go_ret
        exact ⟨by rw [idxZ_at hno.out HX.out HQ.out]; rfl, gb_trans hnw n2⟩
    · have hk' : k = n := by omega
      subst hk'
      have hf : ms.any p = false := by
        have h1 := hno.out
        rwa [List.take_of_length_le (by have := hr.lenL ec_len (by decide); omega)] at h1
      have H := Lib.hid (idxZ_no hf)
      clear hf
      go_wp2
      go_ret
      exact ⟨by rw [H.out]; rfl, hnw⟩
theorem has45_any {w : World} {B n d : Nat} {L : Option Addr} {ms : List Et} (hr : Rd w B 2 L n (fl ec ms)) (hB : B ≤ w.heap.size) (hn : n ≤ 1000000) (c1 : Value) (p : Et → Bool)
    (HF : ∀ m ∈ ms, ∀ w', Nw w w' → Calls Try.prog 45 #[ev m, c1] w' (Ret (.bool (p m)) w')) :
    Calls Try.prog 44 #[.slice L n d, .func (.func 45) #[] #[c1]] w (Ret (.bool (ms.any p)) w) := by
  have HI := Lib.hid (index45_any (d := d) hr hB hn c1 p HF)
  have hv := idxZ_nn p ms
  unfold IdxPost at HI
  obtain ⟨v, hvv⟩ : ∃ v, idxZ p ms = v := ⟨_, rfl⟩
  rw [hvv] at HI hv
  have HV := Lib.hid hv
  clear hr HF hvv hv
  go_enter Try.func44, Try.ntmps44
  go_wp2_with ((with_reducible refine HI.out.mono ?_); rintro e w2 ⟨rfl, n2⟩)
  go_ret
  exact ⟨by rw [← HV.out]; rfl, n2⟩

end Go.Proofs.Ytobifmndpkjlmaa

