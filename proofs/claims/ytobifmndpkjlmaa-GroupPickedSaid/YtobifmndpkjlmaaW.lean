/- The document's count and Spare. -/
import Derived.Test.YtobifmndpkjlmaaN
namespace Go.Proofs.Ytobifmndpkjlmaa
open Go.RowKit Go.BW

theorem cntE_app (L M : List Et) (d : Int) : cntE (L ++ M) d = cntE L d + cntE M d := by unfold cntE; rw [List.countP_append]
/-- a group's field and its extents' cells -/
theorem gcells {w : World} {B m k : Nat} {A : Option Addr} {gs : List Gp} {x : Gp} (h : GsR w B A m gs) (hx : gs[k]? = some x) : ∃ b off, A = some ⟨b, off, none⟩ ∧ w.cell? ⟨b, off + k * 3 + 2, none⟩ = some (.slice x.A x.n x.c) := by
  have hk : k < m := by have := (List.getElem?_eq_some_iff.1 hx).1; have := h.len; omega
  obtain ⟨_, b, off, x2, hA, _, hx2, hc⟩ := h.rd.atL gc_len (by decide) hk
  have : x2 = x := by rw [hx] at hx2; injection hx2 with hx2; exact hx2.symm
  subst this
  exact ⟨b, off, hA, hc 2 _ rfl⟩
theorem ecells {w : World} {B n j : Nat} {A : Option Addr} {es : List Et} {e : Et} (h : Rd w B 2 A n (fl ec es)) (he : es[j]? = some e) : ∃ b off, A = some ⟨b, off, none⟩ ∧ w.cell? ⟨b, off + j * 2, none⟩ = some (.int .i64 e.dk) ∧ w.cell? ⟨b, off + j * 2 + 1, none⟩ = some (.int .i64 e.pl) := by
  have hk : j < n := by have := (List.getElem?_eq_some_iff.1 he).1; have := h.lenL ec_len (by decide); omega
  obtain ⟨_, b, off, x2, hA, _, hx2, hc⟩ := h.atL ec_len (by decide) hk
  have : x2 = e := by rw [he] at hx2; injection hx2 with hx2; exact hx2.symm
  subst this
  exact ⟨b, off, hA, hc 0 _ rfl, hc 1 _ rfl⟩
set_option maxHeartbeats 4000000 in
theorem count_any {w : World} {B m c2 : Nat} {A2 : Option Addr} {gs : List Gp} (hg : GsR w B A2 m gs) (hm : m ≤ 1000000) (d : Int) : Calls Try.prog 38 #[.slice A2 m c2, .int .i64 d] w (fun e w' => e = .returned (.int .i64 (cntE (allE gs) d : Nat)) ∧ w = w') := by
  have hglen := hg.len
  have HG := Lib.hid hg; have HGL := Lib.hid hglen
  clear hg hglen
  go_enter Try.func38, Try.ntmps38
  go_wp2_with fail
  go_loopw [5, 6] (fun s v wr => ∃ (k z : Nat), v = .int .i64 k ∧ s = .int .i64 z ∧ k ≤ m ∧ Hid (z = cntE (allE (gs.take k)) d) ∧ z ≤ k * 1000000 ∧ w = wr) (fun _ v _ => m - (intOf v).toNat)
  case atStart => exact ⟨0, 0, rfl, rfl, Nat.zero_le _, Lib.hid rfl, Nat.zero_le _, by first | rfl | trivial⟩
  case round =>
    obtain ⟨k, z, rfl, rfl, hk, hz, hzb, rfl⟩ := hrel
    by_cases hlt : k < m
    · have hltz : (k : Int) < (m : Int) := by omega
      obtain ⟨x, hx⟩ : ∃ x, gs[k]? = some x := ⟨_, List.getElem?_eq_getElem (by rw [HGL.out]; exact hlt)⟩
      obtain ⟨b, off, hA, hc⟩ := gcells HG.out hx
      subst hA
      have hok := HG.out.all x (List.mem_of_getElem? hx)
      have HT := Lib.hid (allE_take hx)
      have hxl := hok.len
      have hnm := hok.nm
      have hrd := hok.rd
      obtain ⟨xi, xk, xA, xn, xc, xe⟩ := x
      simp only at HT hxl hnm hrd hc
      have HXL := Lib.hid hxl; have HRD := Lib.hid hrd
      clear hx hok hxl hrd
      go_wp2_with fail
      go_loopw [5, 7] (fun s v wr => ∃ (j z2 : Nat), v = .int .i64 j ∧ s = .int .i64 z2 ∧ j ≤ xn ∧ Hid (z2 = cntE (allE (gs.take k) ++ xe.take j) d) ∧ z2 ≤ k * 1000000 + j ∧ w = wr) (fun _ v _ => xn - (intOf v).toNat)
      case atStart => exact ⟨0, z, rfl, rfl, Nat.zero_le _, Lib.hid (by rw [hz.out]; simp), by simpa using hzb, by first | rfl | trivial⟩
      case round =>
        obtain ⟨j, z2, rfl, rfl, hj, hz2, hzb2, rfl⟩ := hrel
        by_cases hl2 : j < xn
        · have hl2z : (j : Int) < (xn : Int) := by omega
          obtain ⟨e, he⟩ : ∃ e, xe[j]? = some e := ⟨_, List.getElem?_eq_getElem (by rw [HXL.out]; exact hl2)⟩
          obtain ⟨eb, eo, hA, hce, _⟩ := ecells HRD.out he
          subst hA
          have HTE := Lib.hid (show xe.take (j + 1) = xe.take j ++ [e] by
            obtain ⟨hk2, rfl⟩ := List.getElem?_eq_some_iff.1 he
            exact List.take_succ_eq_append_getElem hk2)
          obtain ⟨ed, ep⟩ := e
          simp only at hce
          clear he
          by_cases hed : ed = d
          · have hq : (ed == d) = true := by simpa using hed
            have HZ := Lib.hid (show z2 + 1 = cntE (allE (gs.take k) ++ xe.take (j + 1)) d by rw [HTE.out, ← List.append_assoc, cntE_snoc, if_pos hed, hz2.out])
            clear hed
            go_wp2
            go_roundw
            case rel => exact ⟨j + 1, z2 + 1, by go_num, by go_num, by omega, HZ, by omega, by first | rfl | trivial⟩
            case measure => simp only [intOf]; omega
          · have hq : (ed == d) = false := by rw [beq_eq_false_iff_ne]; exact hed
            have HZ := Lib.hid (show z2 = cntE (allE (gs.take k) ++ xe.take (j + 1)) d by rw [HTE.out, ← List.append_assoc, cntE_snoc, if_neg hed, hz2.out, Nat.add_zero])
            clear hed
            go_wp2
            go_roundw
            case rel => exact ⟨j + 1, z2, by go_num, rfl, by omega, HZ, by omega, by first | rfl | trivial⟩
            case measure => simp only [intOf]; omega
        · have HZ := Lib.hid (show z2 = cntE (allE (gs.take (k + 1))) d by rw [hz2.out, HT.out, List.take_of_length_le (l := xe) (by rw [HXL.out]; omega)])
          go_wp2_with fail
          go_roundw
          case rel => exact ⟨k + 1, z2, by go_num, rfl, by omega, HZ, by omega, by first | rfl | trivial⟩
          case measure => simp only [intOf]; omega
    · have HZ := Lib.hid (show z = cntE (allE gs) d by rw [hz.out, List.take_of_length_le (by rw [HGL.out]; omega)])
      go_wp2
      go_ret
      exact ⟨by rw [← HZ.out]; rfl, by first | rfl | trivial⟩
/-- the best of some extents -/
structure BestUp (F P : List Et) (disks : Int) (v : Nat) : Prop where
  up : ∀ e ∈ P, 0 ≤ e.dk → e.dk < disks → cntE F e.dk ≤ v
  is : v = 0 ∨ ∃ d, 0 ≤ d ∧ d < disks ∧ cntE F d = v
theorem BestUp.all {F : List Et} {disks : Int} {v : Nat} (h : BestUp F F disks v) : SpareIs F disks v :=
  ⟨fun d h0 h1 => by
    rcases Nat.eq_zero_or_pos (cntE F d) with h2 | h2
    · omega
    · unfold cntE at h2
      have h2 := List.countP_pos_iff.1 h2
      obtain ⟨e, he, hd⟩ := h2
      have : e.dk = d := by simpa using hd
      subst this
      exact h.up e he h0 h1, h.is⟩
theorem BestUp.nil {F : List Et} {disks : Int} : BestUp F [] disks 0 := ⟨fun _ h => by simp at h, .inl rfl⟩
theorem BestUp.pass {F P : List Et} {disks : Int} {v : Nat} {e : Et} (h : BestUp F P disks v) (hp : ¬ (0 ≤ e.dk ∧ e.dk < disks) ∨ cntE F e.dk ≤ v) : BestUp F (P ++ [e]) disks v :=
  ⟨fun x hx h0 h1 => by
    rcases List.mem_append.1 hx with hx | hx
    · exact h.up x hx h0 h1
    · rw [List.mem_singleton] at hx; subst hx
      rcases hp with hp | hp
      · exact absurd ⟨h0, h1⟩ hp
      · exact hp, h.is⟩
theorem BestUp.take {F P : List Et} {disks : Int} {v : Nat} {e : Et} (h : BestUp F P disks v) (h0 : 0 ≤ e.dk) (h1 : e.dk < disks) (hv : v < cntE F e.dk) : BestUp F (P ++ [e]) disks (cntE F e.dk) :=
  ⟨fun x hx k0 k1 => by
    rcases List.mem_append.1 hx with hx | hx
    · have := h.up x hx k0 k1; omega
    · rw [List.mem_singleton] at hx; subst hx; exact Nat.le_refl _, .inr ⟨e.dk, h0, h1, rfl⟩⟩
set_option maxHeartbeats 4000000 in
theorem rspare_any {w : World} {B m c2 : Nat} {A2 : Option Addr} {gs : List Gp} (hg : GsR w B A2 m gs) (hm : m ≤ 1000000) (disks : Int) : Calls Try.prog 24 #[.slice A2 m c2, .int .i64 disks] w (fun e w' => ∃ v : Nat, e = .returned (.int .i64 v) ∧ SpareIs (allE gs) disks v ∧ w = w') := by
  have hglen := hg.len
  have HG := Lib.hid hg; have HGL := Lib.hid hglen
  have HCT := Lib.hid (fun d => count_any (c2 := c2) hg hm d)
  clear hg hglen
  go_enter Try.func24, Try.ntmps24
  go_wp2_with fail
  go_loopw [5, 6] (fun s v wr => ∃ (k z : Nat), v = .int .i64 k ∧ s = .int .i64 z ∧ k ≤ m ∧ Hid (BestUp (allE gs) (allE (gs.take k)) disks z) ∧ w = wr) (fun _ v _ => m - (intOf v).toNat)
  case atStart => exact ⟨0, 0, rfl, rfl, Nat.zero_le _, Lib.hid BestUp.nil, by first | rfl | trivial⟩
  case round =>
    obtain ⟨k, z, rfl, rfl, hk, hz, rfl⟩ := hrel
    by_cases hlt : k < m
    · have hltz : (k : Int) < (m : Int) := by omega
      obtain ⟨x, hx⟩ : ∃ x, gs[k]? = some x := ⟨_, List.getElem?_eq_getElem (by rw [HGL.out]; exact hlt)⟩
      obtain ⟨b, off, hA, hc⟩ := gcells HG.out hx
      subst hA
      have hok := HG.out.all x (List.mem_of_getElem? hx)
      have HT := Lib.hid (allE_take hx)
      have hxl := hok.len
      have hnm := hok.nm
      have hrd := hok.rd
      obtain ⟨xi, xk, xA, xn, xc, xe⟩ := x
      simp only at HT hxl hnm hrd hc
      have HXL := Lib.hid hxl; have HRD := Lib.hid hrd
      clear hx hok hxl hrd
      go_wp2_with fail
      go_loopw [5, 7] (fun s v wr => ∃ (j z2 : Nat), v = .int .i64 j ∧ s = .int .i64 z2 ∧ j ≤ xn ∧ Hid (BestUp (allE gs) (allE (gs.take k) ++ xe.take j) disks z2) ∧ w = wr) (fun _ v _ => xn - (intOf v).toNat)
      case atStart => exact ⟨0, z, rfl, rfl, Nat.zero_le _, Lib.hid (by simpa using hz.out), by first | rfl | trivial⟩
      case round =>
        obtain ⟨j, z2, rfl, rfl, hj, hz2, rfl⟩ := hrel
        by_cases hl2 : j < xn
        · have hl2z : (j : Int) < (xn : Int) := by omega
          obtain ⟨e, he⟩ : ∃ e, xe[j]? = some e := ⟨_, List.getElem?_eq_getElem (by rw [HXL.out]; exact hl2)⟩
          obtain ⟨eb, eo, hA, hce, _⟩ := ecells HRD.out he
          subst hA
          have HTE := Lib.hid (show xe.take (j + 1) = xe.take j ++ [e] by
            obtain ⟨hk2, rfl⟩ := List.getElem?_eq_some_iff.1 he
            exact List.take_succ_eq_append_getElem hk2)
          obtain ⟨ed, ep⟩ := e
          simp only at hce
          clear he
          have HCD := Lib.hid (HCT.out ed)
          have HPA := Lib.hid (fun (h : ¬ (0 ≤ ed ∧ ed < disks) ∨ cntE (allE gs) ed ≤ z2) => hz2.out.pass (e := ⟨ed, ep⟩) h)
          have HTA := Lib.hid (fun (h0 : 0 ≤ ed) (h1 : ed < disks) (h2 : z2 < cntE (allE gs) ed) => hz2.out.take (e := ⟨ed, ep⟩) h0 h1 h2)
          simp only at HTA
          obtain ⟨q, hq⟩ : ∃ q, cntE (allE gs) ed = q := ⟨_, rfl⟩
          rw [hq] at HCD HPA HTA
          clear hq
          rcases (show ed < 0 ∨ 0 ≤ ed by omega) with h5 | h5
          · have d1 : decide (0 ≤ ed) = false := decide_eq_false (by omega)
            have HP := Lib.hid (HPA.out (.inl (by omega)))
            go_wp2_with ((with_reducible refine HCD.out.mono ?_); rintro e w2 ⟨rfl, rfl⟩)
            go_roundw
            case rel => exact ⟨j + 1, z2, by go_num, rfl, by omega, Lib.hid (by rw [HTE.out, ← List.append_assoc]; exact HP.out), by first | rfl | trivial⟩
            case measure => simp only [intOf]; omega
          · have d1 : decide (0 ≤ ed) = true := decide_eq_true h5
            rcases (show disks ≤ ed ∨ ed < disks by omega) with h6 | h6
            · have d2 : decide (ed < disks) = false := decide_eq_false (by omega)
              have HP := Lib.hid (HPA.out (.inl (by omega)))
              go_wp2_with ((with_reducible refine HCD.out.mono ?_); rintro e w2 ⟨rfl, rfl⟩)
              go_roundw
              case rel => exact ⟨j + 1, z2, by go_num, rfl, by omega, Lib.hid (by rw [HTE.out, ← List.append_assoc]; exact HP.out), by first | rfl | trivial⟩
              case measure => simp only [intOf]; omega
            · have d2 : decide (ed < disks) = true := decide_eq_true h6
              rcases (show q ≤ z2 ∨ z2 < q by omega) with h7 | h7
              · have d3 : decide (z2 < q) = false := decide_eq_false (by omega)
                have HP := Lib.hid (HPA.out (.inr h7))
                go_wp2_with ((with_reducible refine HCD.out.mono ?_); rintro e w2 ⟨rfl, rfl⟩)
                go_roundw
                case rel => exact ⟨j + 1, z2, by go_num, rfl, by omega, Lib.hid (by rw [HTE.out, ← List.append_assoc]; exact HP.out), by first | rfl | trivial⟩
                case measure => simp only [intOf]; omega
              · have d3 : decide (z2 < q) = true := decide_eq_true h7
                have HP := Lib.hid (HTA.out h5 h6 h7)
                go_wp2_with ((with_reducible refine HCD.out.mono ?_); rintro e w2 ⟨rfl, rfl⟩)
                go_roundw
                case rel => exact ⟨j + 1, q, by go_num, rfl, by omega, Lib.hid (by rw [HTE.out, ← List.append_assoc]; exact HP.out), by first | rfl | trivial⟩
                case measure => simp only [intOf]; omega
        · have HZ := Lib.hid (show BestUp (allE gs) (allE (gs.take (k + 1))) disks z2 by have := hz2.out; rwa [List.take_of_length_le (l := xe) (by rw [HXL.out]; omega), ← HT.out] at this)
          go_wp2_with fail
          go_roundw
          case rel => exact ⟨k + 1, z2, by go_num, rfl, by omega, HZ, by first | rfl | trivial⟩
          case measure => simp only [intOf]; omega
    · have HZ := Lib.hid (show SpareIs (allE gs) disks z by have := hz.out; rw [List.take_of_length_le (by rw [HGL.out]; omega)] at this; exact this.all)
      go_wp2
      go_ret
      exact ⟨z, rfl, HZ.out, by first | rfl | trivial⟩
end Go.Proofs.Ytobifmndpkjlmaa

