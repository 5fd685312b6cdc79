/- The document's Safe and AllSafe: of each set of disks no more groups hang on it alone than it has room. -/
import Derived.Test.YtobifmndpkjlmaaD
namespace Go.Proofs.Ytobifmndpkjlmaa
open Go.RowKit Go.BW

/-- does a group that has a disk hang on a set of others alone? -/
def hangB (rs : List Int) (lost : Int) (s : Nat) (g : Gp) : Bool := hasD g lost && hangs s.testBit rs (dks g)
def needOf (gs : List Gp) (rs : List Int) (lost : Int) (s : Nat) : Nat := gs.countP (hangB rs lost s)
def hallB (gs : List Gp) (rs : List Int) (lost : Int) : Bool := (List.range (2 ^ rs.length)).all fun s => decide (needOf gs rs lost s ≤ roomS s.testBit rs 0)
theorem hallB_no {gs : List Gp} {rs : List Int} {lost : Int} {s : Nat} (hs : s < 2 ^ rs.length) (h : roomS s.testBit rs 0 < needOf gs rs lost s) : hallB gs rs lost = false := by
  unfold hallB
  rw [← Bool.not_eq_true, List.all_eq_true]
  intro h2
  have := h2 s (List.mem_range.2 hs)
  rw [decide_eq_true_eq] at this
  omega
theorem hallB_yes {gs : List Gp} {rs : List Int} {lost : Int} (h : ∀ s, s < 2 ^ rs.length → needOf gs rs lost s ≤ roomS s.testBit rs 0) : hallB gs rs lost = true := by
  unfold hallB
  rw [List.all_eq_true]
  intro s hs
  rw [decide_eq_true_eq]
  exact h s (List.mem_range.1 hs)
theorem roomS_drop (S : Nat → Bool) (rs : List Int) (d : Nat) (h : d < rs.length) : roomS S (rs.drop d) d = (if S d then (rs.getD d 0).toNat else 0) + roomS S (rs.drop (d + 1)) (d + 1) := by
  rw [List.drop_eq_getElem_cons h, roomS, getD_at h]
theorem roomS_le (S : Nat → Bool) (M : Nat) : ∀ (rs : List Int) (k : Nat), (∀ r ∈ rs, r ≤ (M : Int)) → roomS S rs k ≤ rs.length * M
  | [], _, _ => by simp [roomS]
  | r :: rs, k, h => by
    have ih := roomS_le S M rs (k + 1) fun x hx => h x (List.mem_cons_of_mem _ hx)
    have := h r (by simp)
    rw [roomS, List.length_cons, Nat.succ_mul]
    split <;> omega
theorem countP_drop {α : Type} (p : α → Bool) {l : List α} {i : Nat} {x : α} (h : l[i]? = some x) : (l.drop i).countP p = (if p x then 1 else 0) + (l.drop (i + 1)).countP p := by
  obtain ⟨hi, rfl⟩ := List.getElem?_eq_some_iff.1 h
  rw [List.drop_eq_getElem_cons hi, List.countP_cons, Nat.add_comm]
set_option maxHeartbeats 4000000 in
theorem rsafe_any {w : World} {B n c m c2 : Nat} {A A2 : Option Addr} {rs : List Int} {gs : List Gp} (hg : GsR w B A2 m gs) (hr : Rd w B 1 A n (rs.map iv)) (hB : B ≤ w.heap.size) (h8 : n ≤ 8) (hm : m ≤ 1000000)
    (hM : ∀ r ∈ rs, r ≤ ((1000000 : Nat) : Int)) (lost : Int) :
    Calls Try.prog 21 #[.slice A2 m c2, .slice A n c, .int .i64 lost] w (Ret (.bool (hallB gs rs lost)) w) := by
  have hlen : rs.length = n := by have := hr.1; simpa using this
  have hglen := hg.len
  obtain ⟨R, hR⟩ : ∃ R, hallB gs rs lost = R := ⟨_, rfl⟩
  have HRES := Lib.hid hR
  rw [hR]
  have hp : 2 ^ n ≤ 2 ^ 8 := Nat.pow_le_pow_right (by decide) h8
  obtain ⟨N, hN⟩ : ∃ N, 2 ^ n = N := ⟨_, rfl⟩
  have hN8 : N ≤ 256 := by rw [← hN]; exact hp
  have HN := Lib.hid (show 2 ^ rs.length = N by rw [hlen]; exact hN)
  have hNz : ((2 : Int) ^ n) = (N : Int) := by rw [← hN, Int.natCast_pow]; rfl
  have HG := Lib.hid hg; have HR := Lib.hid hr; have HBW := Lib.hid hB; have HL := Lib.hid hlen; have HGL := Lib.hid hglen; have HMX := Lib.hid hM
  have HCP := Lib.hid (fun s => (List.countP_le_length : gs.countP (hangB rs lost s) ≤ gs.length))
  have HRM := Lib.hid (fun s => roomS_le (Nat.testBit s) 1000000 rs 0 hM)
  clear hR hp hN hg hr hB hlen hglen hM
  go_enter Try.func21, Try.ntmps21
  go_wp2_with fail
  go_loopw [7] (fun v wr => ∃ s : Nat, s ≤ N ∧ v = .int .i64 s ∧ Hid (∀ t, t < s → needOf gs rs lost t ≤ roomS t.testBit rs 0) ∧ Nw w wr) (fun v _ => N - (intOf v).toNat)
  case atStart => exact ⟨0, Nat.zero_le _, rfl, Lib.hid (fun d hd => absurd hd (by omega)), Nw.refl _⟩
  case round =>
    obtain ⟨s, hs, rfl, hu, hnw⟩ := hrel
    obtain ⟨wa, rfl⟩ : ∃ q, q = wr := ⟨_, rfl⟩
    by_cases hlt : s < N
    · have hlt' : (s : Int) < (N : Int) := by omega
      obtain ⟨T, hT⟩ : ∃ T, roomS (Nat.testBit s) rs 0 = T := ⟨_, rfl⟩
      have hT8 : T ≤ 8000000 := by have := HRM.out s; rw [hT, HL.out] at this; omega
      have HT := Lib.hid hT
      clear hT
      go_wp2_with fail
      go_loopw [8, 9] (fun r v wr2 => ∃ (d acc : Nat), d ≤ n ∧ v = .int .i64 d ∧ r = .int .i64 acc ∧ acc ≤ T ∧ Hid (acc + roomS (Nat.testBit s) (rs.drop d) d = T) ∧ Nw wa wr2) (fun _ v _ => n - (intOf v).toNat)
      case atStart => exact ⟨0, 0, Nat.zero_le _, rfl, rfl, Nat.zero_le _, Lib.hid (by rw [List.drop_zero, HT.out, Nat.zero_add]), Nw.refl _⟩
      case round =>
        obtain ⟨d, acc, hd, rfl, rfl, hacc, hsum, hnw2⟩ := hrel
        obtain ⟨wb, rfl⟩ : ∃ q, q = wr := ⟨_, rfl⟩
        by_cases hlt2 : d < n
        · have hlt2' : (d : Int) < (n : Int) := by omega
          obtain ⟨b, off, hA, hcell⟩ := atD ((HR.out.nw hnw HBW.out).nw hnw2 (Nat.le_trans HBW.out hnw.size)) hlt2
          subst hA
          obtain ⟨x, hx⟩ : ∃ x, rs.getD d 0 = x := ⟨_, rfl⟩
          have hstep := hsum.out
          rw [roomS_drop _ _ _ (by rw [HL.out]; exact hlt2), hx] at hstep
          rw [hx] at hcell
          have hbit := bit_odd s d
          obtain ⟨t, ht⟩ : ∃ t, s.testBit d = t := ⟨_, rfl⟩
          rw [ht] at hbit hstep
          clear hx ht hsum
          rcases t with _ | _
          · simp only [Bool.false_eq_true, if_false, Nat.zero_add] at hstep
            have HS := Lib.hid hstep
            clear hstep
            go_wp2
            go_roundw
            case rel => exact ⟨d + 1, acc, by omega, by go_num, rfl, hacc, HS, hnw2⟩
            case measure => simp only [intOf]; omega
          · simp only [if_true] at hstep
            rcases (show x ≤ 0 ∨ 0 < x by omega) with h0 | h0
            · have HS := Lib.hid (show acc + roomS (Nat.testBit s) (rs.drop (d + 1)) (d + 1) = T by omega)
              clear hstep
              go_wp2
              go_roundw
              case rel => exact ⟨d + 1, acc, by omega, by go_num, rfl, hacc, HS, hnw2⟩
              case measure => simp only [intOf]; omega
            · obtain ⟨z, rfl⟩ := Int.eq_ofNat_of_zero_le (Int.le_of_lt h0)
              have HS := Lib.hid (show acc + z + roomS (Nat.testBit s) (rs.drop (d + 1)) (d + 1) = T by simp at hstep; omega)
              have hz : acc + z ≤ T := by have := HS.out; omega
              have h0' : (0 : Int) < (z : Int) := h0
              clear hstep h0
              go_wp2
              go_roundw
              case rel => exact ⟨d + 1, acc + z, by omega, by go_num, by go_num, hz, HS, hnw2⟩
              case measure => simp only [intOf]; omega
        · have hd' : d = n := by omega
          have hT' : acc = T := by
            have := hsum.out
            rw [hd', List.drop_of_length_le (by rw [HL.out]; exact Nat.le_refl _)] at this
            simpa [roomS] using this
          subst hT'
          have hdn : ¬ (d : Int) < (n : Int) := by omega
          clear hsum hd'
          go_wp2_with fail
          go_loopw [10, 11] (fun r v wr3 => ∃ (i ne : Nat), i ≤ m ∧ v = .int .i64 i ∧ r = .int .i64 ne ∧ ne ≤ i ∧ Hid (ne + (gs.drop i).countP (hangB rs lost s) = needOf gs rs lost s) ∧ Nw wb wr3) (fun _ v _ => m - (intOf v).toNat)
          case atStart => exact ⟨0, 0, Nat.zero_le _, rfl, rfl, Nat.zero_le _, Lib.hid (by rw [List.drop_zero, Nat.zero_add]; rfl), Nw.refl _⟩
          case round =>
            obtain ⟨i, ne, hi, rfl, rfl, hne, hsum, hnw3⟩ := hrel
            have NW := Lib.hid (gb_trans (gb_trans hnw hnw2) hnw3)
            by_cases hlt3 : i < m
            · have hlt3' : (i : Int) < (m : Int) := by omega
              have HG3 := Lib.hid (HG.out.nw NW.out HBW.out)
              have HB3 := Lib.hid (Nat.le_trans HBW.out NW.out.size)
              obtain ⟨_, b, off, x, hA, _, hx, _⟩ := HG3.out.rd.atL gc_len (by decide) hlt3
              subst hA
              have HC := Lib.hid (show ∀ w', Nw wr w' → ∀ j u, (gc x)[j]? = some u → w'.cell? ⟨b, off + i * 3 + j, none⟩ = some u from fun w' hw => by
                obtain ⟨_, b2, off2, x2, e, _, hx2, hc2⟩ := (HG3.out.rd.nw hw HB3.out).atL gc_len (by decide) hlt3
                injection e with e; injection e with e1 e2; subst e1; subst e2
                have : x2 = x := by rw [hx] at hx2; injection hx2 with hx2; exact hx2.symm
                subst this; exact hc2)
              have hok := HG3.out.all x (List.mem_of_getElem? hx)
              have HH := Lib.hid (show Calls Try.prog 18 #[.agg (gc x).toArray, .int .i64 lost] wr (Ret (.bool (hasD x lost)) wr) from rhas_any hok HB3.out lost)
              have HO := Lib.hid (fun (w' : World) (hw : Nw wr w') => show Calls Try.prog 37 #[.agg (gc x).toArray, .slice A n c, .int .i64 s] w' (Ret (.bool (hangs s.testBit rs (dks x))) w') from
                only_any (hok.nw hw HB3.out) (HR.out.nw (gb_trans NW.out hw) HBW.out) (Nat.le_trans HB3.out hw.size) h8 (by omega))
              have hstep := hsum.out
              rw [countP_drop _ hx] at hstep
              have hpq : hangB rs lost s x = (hasD x lost && hangs s.testBit rs (dks x)) := rfl
              obtain ⟨q1, h1⟩ : ∃ q, hasD x lost = q := ⟨_, rfl⟩
              obtain ⟨q2, h2⟩ : ∃ q, hangs s.testBit rs (dks x) = q := ⟨_, rfl⟩
              rw [h1, h2] at hpq
              rw [hpq] at hstep
              rw [h1] at HH
              rw [h2] at HO
              unfold Ret at HH HO
              clear h1 h2 hpq hsum hok hx
              rcases q1 with _ | _
              · have HS := Lib.hid (show ne + (gs.drop (i + 1)).countP (hangB rs lost s) = needOf gs rs lost s by simpa using hstep)
                clear hstep
                go_wp2_with (first | ((with_reducible refine (HO.out _ n2).mono ?_); rintro e w3 ⟨rfl, n3⟩) | ((with_reducible refine HH.out.mono ?_); rintro e w2 ⟨rfl, n2⟩; have HC2 := Lib.hid (HC.out w2 n2)) | (refine wpList_load_agg 37 _ rfl rfl rfl (gc x) HC2.out _ Try.underlying37 rfl (by rw [gc_len]; kernel_rfl) ?_) | (refine wpList_load_agg 37 _ rfl rfl rfl (gc x) (HC.out wr (Nw.refl _)) _ Try.underlying37 rfl (by rw [gc_len]; kernel_rfl) ?_))
                go_roundw
                case rel => exact ⟨i + 1, ne, by omega, by go_num, rfl, by omega, HS, gb_trans hnw3 (gb_trans n2 n3)⟩
                case measure => simp only [intOf]; omega
              · rcases q2 with _ | _
                · have HS := Lib.hid (show ne + (gs.drop (i + 1)).countP (hangB rs lost s) = needOf gs rs lost s by simpa using hstep)
                  clear hstep
                  go_wp2_with (first | ((with_reducible refine (HO.out _ n2).mono ?_); rintro e w3 ⟨rfl, n3⟩) | ((with_reducible refine HH.out.mono ?_); rintro e w2 ⟨rfl, n2⟩; have HC2 := Lib.hid (HC.out w2 n2)) | (refine wpList_load_agg 37 _ rfl rfl rfl (gc x) HC2.out _ Try.underlying37 rfl (by rw [gc_len]; kernel_rfl) ?_) | (refine wpList_load_agg 37 _ rfl rfl rfl (gc x) (HC.out wr (Nw.refl _)) _ Try.underlying37 rfl (by rw [gc_len]; kernel_rfl) ?_))
                  go_roundw
                  case rel => exact ⟨i + 1, ne, by omega, by go_num, rfl, by omega, HS, gb_trans hnw3 (gb_trans n2 n3)⟩
                  case measure => simp only [intOf]; omega
                · have HS := Lib.hid (show ne + 1 + (gs.drop (i + 1)).countP (hangB rs lost s) = needOf gs rs lost s by simp at hstep; omega)
                  clear hstep
                  go_wp2_with (first | ((with_reducible refine (HO.out _ n2).mono ?_); rintro e w3 ⟨rfl, n3⟩) | ((with_reducible refine HH.out.mono ?_); rintro e w2 ⟨rfl, n2⟩; have HC2 := Lib.hid (HC.out w2 n2)) | (refine wpList_load_agg 37 _ rfl rfl rfl (gc x) HC2.out _ Try.underlying37 rfl (by rw [gc_len]; kernel_rfl) ?_) | (refine wpList_load_agg 37 _ rfl rfl rfl (gc x) (HC.out wr (Nw.refl _)) _ Try.underlying37 rfl (by rw [gc_len]; kernel_rfl) ?_))
                  go_roundw
                  case rel => exact ⟨i + 1, ne + 1, by omega, by go_num, by go_num, by omega, HS, gb_trans hnw3 (gb_trans n2 n3)⟩
                  case measure => simp only [intOf]; omega
            · have hne' : ne = needOf gs rs lost s := by
                have := hsum.out
                rw [List.drop_of_length_le (by rw [HGL.out]; omega)] at this
                simpa using this
              have HNE := Lib.hid hne'
              clear hne' hsum
              rcases (show ne ≤ acc ∨ acc < ne by omega) with h5 | h5
              · have HU := Lib.hid (show ∀ t, t < s + 1 → needOf gs rs lost t ≤ roomS t.testBit rs 0 from fun t ht => by
                  by_cases hts : t = s
                  · subst hts; rw [← HNE.out, HT.out]; exact h5
                  · exact hu.out t (by omega))
                have h5' : (ne : Int) ≤ (acc : Int) := by omega
                go_wp2
                go_roundw
                case rel => exact ⟨s + 1, by omega, by go_num, HU, NW.out⟩
                case measure => simp only [intOf]; omega
              · have HF := Lib.hid (show R = false by
                  rw [← HRES.out]
                  refine hallB_no (s := s) (by rw [HN.out]; exact hlt) ?_
                  rw [← HNE.out, HT.out]; exact h5)
                have h5' : (acc : Int) < (ne : Int) := by omega
                go_wp2
                go_ret
                exact ⟨by rw [HF.out]; rfl, NW.out⟩
    · have hsn : s = N := by omega
      subst hsn
      have HF := Lib.hid (show R = true by
        rw [← HRES.out]
        refine hallB_yes fun t ht => hu.out t (by rwa [HN.out] at ht))
      clear hu
      go_wp2
      go_ret
      exact ⟨by rw [HF.out]; rfl, hnw⟩
end Go.Proofs.Ytobifmndpkjlmaa

