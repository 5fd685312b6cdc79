/- The document's only: do all disks that a group may get stand in a set? -/
import Derived.Test.YtobifmndpkjlmaaB
import Derived.Test.YtobifmndpkjlmaaC
namespace Go.Proofs.Ytobifmndpkjlmaa
open Go.RowKit Go.BW

theorem shr_cast (W s : Nat) : ((W : Int) / 2 ^ s) = ((W >>> s : Nat) : Int) := by
  rw [Nat.shiftRight_eq_div_pow]
  rw [Int.natCast_ediv, Int.natCast_pow]; rfl
theorem bit_even (s d : Nat) : (((s : Int) / 2 ^ d).tmod 2 == 0) = !s.testBit d := by
  rw [shr_cast, Int.tmod_eq_emod_of_nonneg (Int.natCast_nonneg _), Nat.testBit_eq_decide_div_mod_eq, ← Nat.shiftRight_eq_div_pow]
  have h : ((s >>> d : Nat) : Int) % 2 = ((s >>> d % 2 : Nat) : Int) := by omega
  rw [h]
  rcases Nat.mod_two_eq_zero_or_one (s >>> d) with h0 | h0 <;> rw [h0] <;> simp
theorem bit_odd (s d : Nat) : (((s : Int) / 2 ^ d).tmod 2 == 1) = s.testBit d := by
  rw [shr_cast, Int.tmod_eq_emod_of_nonneg (Int.natCast_nonneg _), Nat.testBit_eq_decide_div_mod_eq, ← Nat.shiftRight_eq_div_pow]
  have h : ((s >>> d : Nat) : Int) % 2 = ((s >>> d % 2 : Nat) : Int) := by omega
  rw [h]
  rcases Nat.mod_two_eq_zero_or_one (s >>> d) with h0 | h0 <;> rw [h0] <;> simp
/-- .. of the first k disks -/
def hangsUp (S : Nat → Bool) (rs g : List Int) (k : Nat) : Prop := ∀ d, d < k → 0 < rs.getD d 0 → (d : Int) ∉ g → S d = true
set_option maxHeartbeats 1000000 in
theorem only_any {w : World} {B n c s : Nat} {A : Option Addr} {rs : List Int} {x : Gp} (h : GOk w B x) (hr : Rd w B 1 A n (rs.map iv)) (hB : B ≤ w.heap.size) (h8 : n ≤ 8) (hs : s < 256) :
    Calls Try.prog 37 #[gv x, .slice A n c, .int .i64 s] w (Ret (.bool (hangs s.testBit rs (dks x))) w) := by
  have hlen : rs.length = n := by have := hr.1; simpa using this
  have HG := Lib.hid (fun (w' : World) (hw : Nw w w') (d : Int) => rhas_any (h.nw hw hB) (Nat.le_trans hB hw.size) d)
  obtain ⟨P, hP⟩ : ∃ P : Bool, hangs s.testBit rs (dks x) = P := ⟨_, rfl⟩
  have HP := Lib.hid hP
  rw [hP]
  clear hP h
  obtain ⟨hh, hhe⟩ : ∃ f : Int → Bool, hasD x = f := ⟨_, rfl⟩
  have HM := Lib.hid (show ∀ d : Nat, (d : Int) ∉ dks x ↔ hh d = false from fun d => by rw [← hhe]; exact (hasD_not x d).symm)
  rw [hhe] at HG
  unfold Ret gv at HG
  unfold gv
  obtain ⟨gi, gk, gA, gn, gcap, ges⟩ := x
  simp only at HG HP HM ⊢
  have hbox := Obj1.new w 37 #[.int .i64 gi, .int .i64 gk, .slice gA gn gcap]
  have hn := World.grownBy_alloc w (.cells #[.int .i64 gi, .int .i64 gk, .slice gA gn gcap] 37) none
  go_enter Try.func37, Try.ntmps37
  go_wp2_with fail
  have HBX := Lib.hid hbox
  have N0 := Lib.hid hn
  obtain ⟨W, hW⟩ : ∃ W, w.alloc (.cells #[.int .i64 gi, .int .i64 gk, .slice gA gn gcap] 37) = W := ⟨_, rfl⟩
  rw [hW] at HBX N0 ⊢
  obtain ⟨y, hy⟩ : ∃ y, w.heap.size = y := ⟨_, rfl⟩
  rw [hy] at HBX ⊢
  have HR := Lib.hid (hr.nw N0.out hB)
  have HBW := Lib.hid (Nat.le_trans hB N0.out.size)
  have HL := Lib.hid hlen
  clear hbox hW hr hy hn hhe hlen hB
  go_loopw [7] (fun v wr => ∃ k : Nat, k ≤ n ∧ v = .int .i64 k ∧ Hid (hangsUp s.testBit rs (dks ⟨gi, gk, gA, gn, gcap, ges⟩) k) ∧ Nw W wr) (fun v _ => n - (intOf v).toNat)
  case atStart => exact ⟨0, Nat.zero_le _, rfl, Lib.hid (fun d hd => absurd hd (by omega)), Nw.refl _⟩
  case round =>
    obtain ⟨k, hk, rfl, hu, hnw⟩ := hrel
    have HC := Lib.hid (HG.out wr (gb_trans N0.out hnw) (k : Int))
    have HX2 := Lib.hid (HBX.out.nw hnw)
    by_cases hlt : k < n
    · have hlt' : (k : Int) < (n : Int) := by omega
      have H1 := Lib.hid (fun (w' : World) (hw : Nw wr w') => atD ((HR.out.nw hnw HBW.out).nw hw (Nat.le_trans HBW.out hnw.size)) hlt)
      obtain ⟨b, off, hA, _⟩ := H1.out wr (Nw.refl _)
      subst hA
      have H2 := Lib.hid (show ∀ w', Nw wr w' → w'.cell? ⟨b, off + k, none⟩ = some (.int .i64 (rs.getD k 0)) from fun w' hw => by
        obtain ⟨b2, off2, e, h2⟩ := H1.out w' hw
        injection e with e; injection e with e1 e2; subst e1; subst e2; exact h2)
      clear H1
      obtain ⟨q, hq⟩ : ∃ q, hh k = q := ⟨_, rfl⟩
      rw [hq] at HC
      have HQ := Lib.hid ((HM.out k).trans (by rw [hq]))
      obtain ⟨x, hx⟩ : ∃ x, rs.getD k 0 = x := ⟨_, rfl⟩
      rw [hx] at H2
      have HX := Lib.hid hx
      have hbit := bit_even s k
      obtain ⟨t, ht⟩ : ∃ t, s.testBit k = t := ⟨_, rfl⟩
      rw [ht] at hbit
      have HT := Lib.hid ht
      clear hq hx ht
      rcases (show x ≤ 0 ∨ 0 < x by omega) with h0 | h0
      · have HU := Lib.hid (show hangsUp s.testBit rs (dks ⟨gi, gk, gA, gn, gcap, ges⟩) (k + 1) from fun d hd h1 h2 => by
          by_cases hdk : d = k
          · subst hdk; rw [HX.out] at h1; omega
          · exact hu.out d (by omega) h1 h2)
        clear hu
        go_wp2_with (first
          | ((with_reducible refine HC.out.mono ?_); rintro e w2 ⟨rfl, n2⟩; have hcell := H2.out w2 n2)
          | (refine wpList_load_obj 37 _ rfl rfl rfl HX2.out _ Try.underlying37 rfl (by kernel_rfl) ?_))
        go_roundw
        case rel => exact ⟨k + 1, by omega, by go_num, HU, gb_trans hnw n2⟩
        case measure => simp only [intOf]; omega
      · rcases q with _ | _
        · have hno : (k : Int) ∉ dks ⟨gi, gk, gA, gn, gcap, ges⟩ := HQ.out.2 rfl
          rcases t with _ | _
          · have HF := Lib.hid (show P = false by
              rw [← HP.out, ← Bool.not_eq_true, hangs_iff]
              intro hall
              have := hall k (by rw [HL.out]; exact hlt) (by rw [HX.out]; exact h0) hno
              rw [HT.out] at this; cases this)
            clear hno
            go_wp2_with (first
              | ((with_reducible refine HC.out.mono ?_); rintro e w2 ⟨rfl, n2⟩; have hcell := H2.out w2 n2)
              | (refine wpList_load_obj 37 _ rfl rfl rfl HX2.out _ Try.underlying37 rfl (by kernel_rfl) ?_))
            go_ret
            exact ⟨by rw [HF.out]; rfl, gb_trans N0.out (gb_trans hnw n2)⟩
          · have HU := Lib.hid (show hangsUp s.testBit rs (dks ⟨gi, gk, gA, gn, gcap, ges⟩) (k + 1) from fun d hd h1 h2 => by
              by_cases hdk : d = k
              · subst hdk; exact HT.out
              · exact hu.out d (by omega) h1 h2)
            clear hu
            clear hno
            go_wp2_with (first
              | ((with_reducible refine HC.out.mono ?_); rintro e w2 ⟨rfl, n2⟩; have hcell := H2.out w2 n2)
              | (refine wpList_load_obj 37 _ rfl rfl rfl HX2.out _ Try.underlying37 rfl (by kernel_rfl) ?_))
            go_roundw
            case rel => exact ⟨k + 1, by omega, by go_num, HU, gb_trans hnw n2⟩
            case measure => simp only [intOf]; omega
        · have HU := Lib.hid (show hangsUp s.testBit rs (dks ⟨gi, gk, gA, gn, gcap, ges⟩) (k + 1) from fun d hd h1 h2 => by
            by_cases hdk : d = k
            · subst hdk; exact absurd (HQ.out.1 h2) (by simp)
            · exact hu.out d (by omega) h1 h2)
          clear hu
          go_wp2_with (first
            | ((with_reducible refine HC.out.mono ?_); rintro e w2 ⟨rfl, n2⟩; have hcell := H2.out w2 n2)
            | (refine wpList_load_obj 37 _ rfl rfl rfl HX2.out _ Try.underlying37 rfl (by kernel_rfl) ?_))
          go_roundw
          case rel => exact ⟨k + 1, by omega, by go_num, HU, gb_trans hnw n2⟩
          case measure => simp only [intOf]; omega
    · have hkn : k = n := by omega
      subst hkn
      have HF := Lib.hid (show P = true by
        rw [← HP.out, hangs_iff, HL.out]
        exact hu.out)
      clear hu
      go_wp2
      go_ret
      exact ⟨by rw [HF.out]; rfl, gb_trans N0.out hnw⟩
end Go.Proofs.Ytobifmndpkjlmaa

