/- The document's count and Spare. -/
import Derived.Test.YtobifmndpkjlmaaJG
import Derived.Test.YtobifmndpkjlmaaJD
import Derived.Test.YtobifmndpkjlmaaJJ
import Derived.Test.YtobifmndpkjlmaaJI
set_option linter.unusedVariables false
set_option linter.unusedSimpArgs false
/- The document's count and Spare. -/
namespace Go.Proofs.Ytobifmndpkjlmaa
open Go.RowKit Go.BW

theorem cntE_app (L M : List Et) (d : Int) : cntE (L ++ M) d = cntE L d + cntE M d := by unfold cntE; rw [List.countP_append]
/-- a group's field and its extents' cells -/
theorem gcells {w : World} {B m k : Nat} {A : Option Addr} {gs : List Gp} {x : Gp} (h : GsR w B A m gs) (hx : gs[k]? = some x) : ∃ b off, A = some ⟨b, off, none⟩ ∧ w.cell? ⟨b, off + k * 3 + 2, none⟩ = some (.slice x.A x.n x.c) := by
  have hk : k < m := by have := (List.getElem?_eq_some_iff.1 hx).1; have := h.len; omega
  obtain ⟨_, b, off, x2, hA, _, hx2, hc⟩ := h.rd.atL gc_len (by decide) hk
  have : x2 = x := by rw [hx] at hx2; injection hx2 with hx2; exact hx2.symm
  subst this
  exact ⟨b, off, hA, hc 2 _ rfl⟩
theorem ecells {w : World} {B n j : Nat} {A : Option Addr} {es : List Et} {e : Et} (h : Rd w B 2 A n (fl ec es)) (he : es[j]? = some e) : ∃ b off, A = some ⟨b, off, none⟩ ∧ w.cell? ⟨b, off + j * 2, none⟩ = some (.int .i64 e.dk) ∧ w.cell? ⟨b, off + j * 2 + 1, none⟩ = some (.int .i64 e.pl) := by
  have hk : j < n := by have := (List.getElem?_eq_some_iff.1 he).1; have := h.lenL ec_len (by decide); omega
  obtain ⟨_, b, off, x2, hA, _, hx2, hc⟩ := h.atL ec_len (by decide) hk
  have : x2 = e := by rw [he] at hx2; injection hx2 with hx2; exact hx2.symm
  subst this
  exact ⟨b, off, hA, hc 0 _ rfl, hc 1 _ rfl⟩
set_option maxHeartbeats 4000000 in
theorem count_any {w : World} {B m c2 : Nat} {A2 : Option Addr} {gs : List Gp} (hg : GsR w B A2 m gs) (hm : m ≤ 1000000) (d : Int) : Calls Try.prog 38 #[.slice A2 m c2, .int .i64 d] w (fun e w' => e = .returned (.int .i64 (cntE (allE gs) d : Nat)) ∧ w = w') := by
  have hglen := hg.len
  have HG := Lib.hid hg; have HGL := Lib.hid hglen
  clear hg hglen
  go_enter Try.func38, Try.ntmps38
  go_wp2_with fail
  go_loopw [5, 6] (fun s v wr => ∃ (k z : Nat), v = .int .i64 k ∧ s = .int .i64 z ∧ k ≤ m ∧ Hid (z = cntE (allE (gs.take k)) d) ∧ z ≤ k * 1000000 ∧ w = wr) (fun _ v _ => m - (intOf v).toNat)
  case atStart => exact ⟨0, 0, rfl, rfl, Nat.zero_le _, Lib.hid rfl, Nat.zero_le _, by first | rfl | trivial⟩
  case round =>
    obtain ⟨k, z, rfl, rfl, hk, hz, hzb, rfl⟩ := hrel
    by_cases hlt : k < m
    · have hltz : (k : Int) < (m : Int) := by omega
      obtain ⟨x, hx⟩ : ∃ x, gs[k]? = some x := ⟨_, List.getElem?_eq_getElem (by rw [HGL.out]; exact hlt)⟩
      obtain ⟨b, off, hA, hc⟩ := gcells HG.out hx
      subst hA
      have hok := HG.out.all x (List.mem_of_getElem? hx)
      have HT := Lib.hid (allE_take hx)
      have hxl := hok.len
      have hnm := hok.nm
      have hrd := hok.rd
      obtain ⟨xi, xk, xA, xn, xc, xe⟩ := x
      simp only at HT hxl hnm hrd hc
      have HXL := Lib.hid hxl; have HRD := Lib.hid hrd
      clear hx hok hxl hrd
      go_wp2_with fail
      go_loopw [5, 7] (fun s v wr => ∃ (j z2 : Nat), v = .int .i64 j ∧ s = .int .i64 z2 ∧ j ≤ xn ∧ Hid (z2 = cntE (allE (gs.take k) ++ xe.take j) d) ∧ z2 ≤ k * 1000000 + j ∧ w = wr) (fun _ v _ => xn - (intOf v).toNat)
      case atStart => exact ⟨0, z, rfl, rfl, Nat.zero_le _, Lib.hid (by rw [hz.out]; simp), by simpa using hzb, by first | rfl | trivial⟩
      case round =>
        obtain ⟨j, z2, rfl, rfl, hj, hz2, hzb2, rfl⟩ := hrel
        by_cases hl2 : j < xn
        · have hl2z : (j : Int) < (xn : Int) := by omega
          obtain ⟨e, he⟩ : ∃ e, xe[j]? = some e := ⟨_, List.getElem?_eq_getElem (by rw [HXL.out]; exact hl2)⟩
          obtain ⟨eb, eo, hA, hce, _⟩ := ecells HRD.out he
          subst hA
          have HTE := Lib.hid (show xe.take (j + 1) = xe.take j ++ [e] by
            obtain ⟨hk2, rfl⟩ := List.getElem?_eq_some_iff.1 he
            exact List.take_succ_eq_append_getElem hk2)
          obtain ⟨ed, ep⟩ := e
          simp only at hce
          clear he
          by_cases hed : ed = d
          · have hq : (ed == d) = true := by simpa using hed
            have HZ := Lib.hid (show z2 + 1 = cntE (allE (gs.take k) ++ xe.take (j + 1)) d by rw [HTE.out, ← List.append_assoc, cntE_snoc, if_pos hed, hz2.out])
            clear hed
            go_wp2
            go_roundw
            case rel => exact ⟨j + 1, z2 + 1, by go_num, by go_num, by omega, HZ, by omega, by first | rfl | trivial⟩
            case measure => simp only [intOf]; omega
          · have hq : (ed == d) = false := by rw [beq_eq_false_iff_ne]; exact hed
            have HZ := Lib.hid (show z2 = cntE (allE (gs.take k) ++ xe.take (j + 1)) d by rw [HTE.out, ← List.append_assoc, cntE_snoc, if_neg hed, hz2.out, Nat.add_zero])
            clear hed
            go_wp2
            go_roundw
            case rel => exact ⟨j + 1, z2, by go_num, rfl, by omega, HZ, by omega, by first | rfl | trivial⟩
            case measure => simp only [intOf]; omega
        · have HZ := Lib.hid (show z2 = cntE (allE (gs.take (k + 1))) d by rw [hz2.out, HT.out, List.take_of_length_le (l := xe) (by rw [HXL.out]; omega)])
          go_wp2_with fail
          go_roundw
          case rel => exact ⟨k + 1, z2, by go_num, rfl, by omega, HZ, by omega, by first | rfl | trivial⟩
          case measure => simp only [intOf]; omega
    · have HZ := Lib.hid (show z = cntE (allE gs) d by rw [hz.out, List.take_of_length_le (by rw [HGL.out]; omega)])
      go_wp2
      go_ret
      exact ⟨by rw [← HZ.out]; rfl, by first | rfl | trivial⟩
/-- the best of some extents -/
structure BestUp (F P : List Et) (disks : Int) (v : Nat) : Prop where
  up : ∀ e ∈ P, 0 ≤ e.dk → e.dk < disks → cntE F e.dk ≤ v
  is : v = 0 ∨ ∃ d, 0 ≤ d ∧ d < disks ∧ cntE F d = v
theorem BestUp.all {F : List Et} {disks : Int} {v : Nat} (h : BestUp F F disks v) : SpareIs F disks v :=
  ⟨fun d h0 h1 => by
    rcases Nat.eq_zero_or_pos (cntE F d) with h2 | h2
    · omega
    · unfold cntE at h2
      have h2 := List.countP_pos_iff.1 h2
      obtain ⟨e, he, hd⟩ := h2
      have : e.dk = d := by simpa using hd
      subst this
      exact h.up e he h0 h1, h.is⟩
theorem BestUp.nil {F : List Et} {disks : Int} : BestUp F [] disks 0 := ⟨fun _ h => by simp at h, .inl rfl⟩
theorem BestUp.pass {F P : List Et} {disks : Int} {v : Nat} {e : Et} (h : BestUp F P disks v) (hp : ¬ (0 ≤ e.dk ∧ e.dk < disks) ∨ cntE F e.dk ≤ v) : BestUp F (P ++ [e]) disks v :=
  ⟨fun x hx h0 h1 => by
    rcases List.mem_append.1 hx with hx | hx
    · exact h.up x hx h0 h1
    · rw [List.mem_singleton] at hx; subst hx
      rcases hp with hp | hp
      · exact absurd ⟨h0, h1⟩ hp
      · exact hp, h.is⟩
theorem BestUp.take {F P : List Et} {disks : Int} {v : Nat} {e : Et} (h : BestUp F P disks v) (h0 : 0 ≤ e.dk) (h1 : e.dk < disks) (hv : v < cntE F e.dk) : BestUp F (P ++ [e]) disks (cntE F e.dk) :=
  ⟨fun x hx k0 k1 => by
    rcases List.mem_append.1 hx with hx | hx
    · have := h.up x hx k0 k1; omega
    · rw [List.mem_singleton] at hx; subst hx; exact Nat.le_refl _, .inr ⟨e.dk, h0, h1, rfl⟩⟩
set_option maxHeartbeats 4000000 in
theorem rspare_any {w : World} {B m c2 : Nat} {A2 : Option Addr} {gs : List Gp} (hg : GsR w B A2 m gs) (hm : m ≤ 1000000) (disks : Int) : Calls Try.prog 24 #[.slice A2 m c2, .int .i64 disks] w (fun e w' => ∃ v : Nat, e = .returned (.int .i64 v) ∧ SpareIs (allE gs) disks v ∧ w = w') := by
  have hglen := hg.len
  have HG := Lib.hid hg; have HGL := Lib.hid hglen
  have HCT := Lib.hid (fun d => count_any (c2 := c2) hg hm d)
  clear hg hglen
  go_enter Try.func24, Try.ntmps24
  go_wp2_with fail
  go_loopw [5, 6] (fun s v wr => ∃ (k z : Nat), v = .int .i64 k ∧ s = .int .i64 z ∧ k ≤ m ∧ Hid (BestUp (allE gs) (allE (gs.take k)) disks z) ∧ w = wr) (fun _ v _ => m - (intOf v).toNat)
  case atStart => exact ⟨0, 0, rfl, rfl, Nat.zero_le _, Lib.hid BestUp.nil, by first | rfl | trivial⟩
  case round =>
    obtain ⟨k, z, rfl, rfl, hk, hz, rfl⟩ := hrel
    by_cases hlt : k < m
    · have hltz : (k : Int) < (m : Int) := by omega
      obtain ⟨x, hx⟩ : ∃ x, gs[k]? = some x := ⟨_, List.getElem?_eq_getElem (by rw [HGL.out]; exact hlt)⟩
      obtain ⟨b, off, hA, hc⟩ := gcells HG.out hx
      subst hA
      have hok := HG.out.all x (List.mem_of_getElem? hx)
      have HT := Lib.hid (allE_take hx)
      have hxl := hok.len
      have hnm := hok.nm
      have hrd := hok.rd
      obtain ⟨xi, xk, xA, xn, xc, xe⟩ := x
      simp only at HT hxl hnm hrd hc
      have HXL := Lib.hid hxl; have HRD := Lib.hid hrd
      clear hx hok hxl hrd
      go_wp2_with fail
      go_loopw [5, 7] (fun s v wr => ∃ (j z2 : Nat), v = .int .i64 j ∧ s = .int .i64 z2 ∧ j ≤ xn ∧ Hid (BestUp (allE gs) (allE (gs.take k) ++ xe.take j) disks z2) ∧ w = wr) (fun _ v _ => xn - (intOf v).toNat)
      case atStart => exact ⟨0, z, rfl, rfl, Nat.zero_le _, Lib.hid (by simpa using hz.out), by first | rfl | trivial⟩
      case round =>
        obtain ⟨j, z2, rfl, rfl, hj, hz2, rfl⟩ := hrel
        by_cases hl2 : j < xn
        · have hl2z : (j : Int) < (xn : Int) := by omega
          obtain ⟨e, he⟩ : ∃ e, xe[j]? = some e := ⟨_, List.getElem?_eq_getElem (by rw [HXL.out]; exact hl2)⟩
          obtain ⟨eb, eo, hA, hce, _⟩ := ecells HRD.out he
          subst hA
          have HTE := Lib.hid (show xe.take (j + 1) = xe.take j ++ [e] by
            obtain ⟨hk2, rfl⟩ := List.getElem?_eq_some_iff.1 he
            exact List.take_succ_eq_append_getElem hk2)
          obtain ⟨ed, ep⟩ := e
          simp only at hce
          clear he
          have HCD := Lib.hid (HCT.out ed)
          have HPA := Lib.hid (fun (h : ¬ (0 ≤ ed ∧ ed < disks) ∨ cntE (allE gs) ed ≤ z2) => hz2.out.pass (e := ⟨ed, ep⟩) h)
          have HTA := Lib.hid (fun (h0 : 0 ≤ ed) (h1 : ed < disks) (h2 : z2 < cntE (allE gs) ed) => hz2.out.take (e := ⟨ed, ep⟩) h0 h1 h2)
          simp only at HTA
          obtain ⟨q, hq⟩ : ∃ q, cntE (allE gs) ed = q := ⟨_, rfl⟩
          rw [hq] at HCD HPA HTA
          clear hq
          rcases (show ed < 0 ∨ 0 ≤ ed by omega) with h5 | h5
          · have d1 : decide (0 ≤ ed) = false := decide_eq_false (by omega)
            have HP := Lib.hid (HPA.out (.inl (by omega)))
            go_wp2_with ((with_reducible refine HCD.out.mono ?_); rintro e w2 ⟨rfl, rfl⟩)
            go_roundw
            case rel => exact ⟨j + 1, z2, by go_num, rfl, by omega, Lib.hid (by rw [HTE.out, ← List.append_assoc]; exact HP.out), by first | rfl | trivial⟩
            case measure => simp only [intOf]; omega
          · have d1 : decide (0 ≤ ed) = true := decide_eq_true h5
            rcases (show disks ≤ ed ∨ ed < disks by omega) with h6 | h6
            · have d2 : decide (ed < disks) = false := decide_eq_false (by omega)
              have HP := Lib.hid (HPA.out (.inl (by omega)))
              go_wp2_with ((with_reducible refine HCD.out.mono ?_); rintro e w2 ⟨rfl, rfl⟩)
              go_roundw
              case rel => exact ⟨j + 1, z2, by go_num, rfl, by omega, Lib.hid (by rw [HTE.out, ← List.append_assoc]; exact HP.out), by first | rfl | trivial⟩
              case measure => simp only [intOf]; omega
            · have d2 : decide (ed < disks) = true := decide_eq_true h6
              rcases (show q ≤ z2 ∨ z2 < q by omega) with h7 | h7
              · have d3 : decide (z2 < q) = false := decide_eq_false (by omega)
                have HP := Lib.hid (HPA.out (.inr h7))
                go_wp2_with ((with_reducible refine HCD.out.mono ?_); rintro e w2 ⟨rfl, rfl⟩)
                go_roundw
                case rel => exact ⟨j + 1, z2, by go_num, rfl, by omega, Lib.hid (by rw [HTE.out, ← List.append_assoc]; exact HP.out), by first | rfl | trivial⟩
                case measure => simp only [intOf]; omega
              · have d3 : decide (z2 < q) = true := decide_eq_true h7
                have HP := Lib.hid (HTA.out h5 h6 h7)
                go_wp2_with ((with_reducible refine HCD.out.mono ?_); rintro e w2 ⟨rfl, rfl⟩)
                go_roundw
                case rel => exact ⟨j + 1, q, by go_num, rfl, by omega, Lib.hid (by rw [HTE.out, ← List.append_assoc]; exact HP.out), by first | rfl | trivial⟩
                case measure => simp only [intOf]; omega
        · have HZ := Lib.hid (show BestUp (allE gs) (allE (gs.take (k + 1))) disks z2 by have := hz2.out; rwa [List.take_of_length_le (l := xe) (by rw [HXL.out]; omega), ← HT.out] at this)
          go_wp2_with fail
          go_roundw
          case rel => exact ⟨k + 1, z2, by go_num, rfl, by omega, HZ, by first | rfl | trivial⟩
          case measure => simp only [intOf]; omega
    · have HZ := Lib.hid (show SpareIs (allE gs) disks z by have := hz.out; rw [List.take_of_length_le (by rw [HGL.out]; omega)] at this; exact this.all)
      go_wp2
      go_ret
      exact ⟨z, rfl, HZ.out, by first | rfl | trivial⟩
end Go.Proofs.Ytobifmndpkjlmaa


/- The statements' on: a group on some disks. -/
namespace Go.Proofs.Ytobifmndpkjlmaa
open Go.RowKit Go.BW

def onE (ds : List Int) : List Et := ds.map fun d => ⟨d, 0⟩
def OnPost (ds : List Int) (w : World) (e : Ending) (w' : World) : Prop :=
  ∃ A n c, e = .returned (.agg #[.int .i64 0, .int .i64 0, .slice A n c]) ∧ Own w' w.heap.size 39 2 A n c (fl ec (onE ds)) ∧ n = ds.length ∧ Nw w w'
set_option maxHeartbeats 4000000 in
theorem on_any {w : World} {B n c : Nat} {A : Option Addr} {ds : List Int} (hr : Rd w B 1 A n (ds.map iv)) (hB : B ≤ w.heap.size) (hn : n ≤ 1000000) : Calls Try.prog 25 #[.slice A n c] w (OnPost ds w) := by
  have hlen : ds.length = n := by have := hr.1; simpa using this
  have HR := Lib.hid hr; have HB := Lib.hid hB; have HL := Lib.hid hlen
  have hb1 := obj_fst w 37 #[.int .i64 0, .int .i64 0, .slice none 0 0] (.cells #[.int .i64 0, .int .i64 0, .slice none 0 0] 37)
  have hb2 := obj_snd w (.cells #[.int .i64 0, .int .i64 0, .slice none 0 0] 37) 37 #[.int .i64 0, .int .i64 0, .slice none 0 0]
  have hn2 := gb_trans (World.grownBy_alloc w (.cells #[.int .i64 0, .int .i64 0, .slice none 0 0] 37) none) (World.grownBy_alloc _ (.cells #[.int .i64 0, .int .i64 0, .slice none 0 0] 37) none)
  clear hr hB hlen
  go_enter Try.func25, Try.ntmps25
  go_wp2_with fail
  obtain ⟨W, hW⟩ : ∃ W, (w.alloc (.cells #[.int .i64 0, .int .i64 0, .slice none 0 0] 37)).alloc (.cells #[.int .i64 0, .int .i64 0, .slice none 0 0] 37) = W := ⟨_, rfl⟩
  rw [hW] at hb1 hb2 hn2 ⊢
  obtain ⟨y, hy⟩ : ∃ y, w.heap.size = y := ⟨_, rfl⟩
  rw [hy] at hb1 hb2 ⊢
  have HY := Lib.hid hy
  have HB1 := Lib.hid hb1; have HB2 := Lib.hid hb2; have N2 := Lib.hid hn2
  clear hW hy hb1 hb2 hn2
  go_loopw [4] (fun v wr => ∃ (j : Nat) (A3 : Option Addr) (c3 : Nat), v = .int .i64 j ∧ j ≤ n ∧ Obj1 wr y 37 #[.int .i64 0, .int .i64 0, .slice none 0 0] ∧ Obj1 wr (y + 1) 37 #[.int .i64 0, .int .i64 0, .slice A3 j c3] ∧ Hid (Own wr y 39 2 A3 j c3 (fl ec (onE (ds.take j)))) ∧ Nw w wr) (fun v _ => n - (intOf v).toNat)
  case atStart => exact ⟨0, none, 0, rfl, Nat.zero_le _, HB1.out, HB2.out, Lib.hid Own.nil, N2.out⟩
  case round =>
    obtain ⟨j, A3, c3, rfl, hj, hb1, hb2, how, hnw⟩ := hrel
    have HBa := Lib.hid hb1; have HBb := Lib.hid hb2
    have hyl := hb2.lt
    by_cases hlt : j < n
    · have hltz : (j : Int) < (n : Int) := by omega
      have HC2 := Lib.hid (show ∀ w', Nw w w' → ∃ b off, A = some ⟨b, off, none⟩ ∧ w'.cell? ⟨b, off + j, none⟩ = some (.int .i64 (ds.getD j 0)) from fun w' hw => atD (HR.out.nw hw HB.out) hlt)
      obtain ⟨b, off, hA, _⟩ := HC2.out wr hnw
      subst hA
      have HC3 := Lib.hid (show ∀ w', Nw w w' → w'.cell? ⟨b, off + j, none⟩ = some (.int .i64 (ds.getD j 0)) from fun w' hw => by
        obtain ⟨b2, off2, e, h2⟩ := HC2.out w' hw
        injection e with e; injection e with e1 e2; subst e1; subst e2; exact h2)
      clear HC2
      have HT := Lib.hid (show onE (ds.take (j + 1)) = onE (ds.take j) ++ [⟨ds.getD j 0, 0⟩] by
        unfold onE; rw [List.take_succ_eq_append_getElem (by rw [HL.out]; exact hlt), List.map_append, getD_at]; rfl)
      obtain ⟨u, hu⟩ : ∃ u, ds.getD j 0 = u := ⟨_, rfl⟩
      rw [hu] at HC3 HT
      clear hu hb1 hb2
      go_wp2_with fail
      refine wp_region_U [10] (fun w' => w'.cell? ⟨y + 1, 2, none⟩ = some (.slice A3 j c3) ∧ w'.cell? ⟨b, off + j, none⟩ = some (.int .i64 u)) (by kernel_rfl) ?_
      change wpU _ _ _ _ _ _ _ _ _ (World.drew wr)
      refine U_segL (r := [0, 1, 2, 3, 4, 5, 6]) (fuel := 4) rfl (by kernel_rfl) (by kernel_rfl) (by simp only [List.filterMap_cons, List.filterMap_nil, List.getElem?_toArray, List.getElem?_cons_succ, List.getElem?_cons_zero]; rfl) (fun _ _ d _ _ h => by cases d <;> exact h) (And.intro (HBb.out.cell 2) (HC3.out _ (gb_drew hnw))) ?_
      iterate 7 (refine wpYield_step rfl (fun K hK => ?_)
                 apply Exists.intro
                 refine ⟨fun w' hw' => ?_, ?_⟩
                 · (go_simp; try with_reducible rfl)
                 go_simp
                 refine hK _ ?_
                 clear hK K)
      refine wpYield_nil ?_
      refine U_eff 7 rfl (by kernel_rfl) rfl (fun K hK => ?_)
      go_simp
      refine hK _ _ ⟨until_of (And.intro (cell_alloc (HBb.out.cell 2)) (HC3.out _ (gb_trans hnw (gb_drew_alloc wr _)))), ?_⟩
      clear hK K
      refine U_eff 8 rfl (by kernel_rfl) rfl (fun K hK => ?_)
      refine wp_app_own T35 _ _ rfl rfl rfl (World.ownsRow.alloc (how.out.drew) _) (rd_litN [.int .i64 u, .int .i64 0] 39 2 rfl) (by intro v hv; simp at hv; rcases hv with rfl | rfl <;> rfl) (by unfold maxLen; omega) (Nat.le_trans (by omega) (gb_drew_alloc wr _).size) ?_
      intro A4 c4 w5 h2 h3 h4
      have K1 := Lib.hid (show wr.grownBy w5 (Value.slice A3 j c3).ownBlock from gb_of_drew (gb_trans (World.grownBy_alloc _ _ _) h3))
      have NW5 := Lib.hid (show Nw w w5 from nw_of_gb hnw K1.out (fun z hz => by rw [HY.out]; exact how.out.blk z hz))
      have BX5 := Lib.hid (show Obj1 w5 (y + 1) 37 #[.int .i64 0, .int .i64 0, .slice A3 j c3] from HBb.out.eq (K1.out.block _ HBb.out.lt fun e => by
        obtain ⟨cur, hc⟩ := how.out.rowObj _ e.symm
        exact hc.ne HBb.out (by decide) rfl))
      have BY5 := Lib.hid (show Obj1 w5 y 37 #[.int .i64 0, .int .i64 0, .slice none 0 0] from HBa.out.eq (K1.out.block _ HBa.out.lt fun e => by
        obtain ⟨cur, hc⟩ := how.out.rowObj _ e.symm
        exact hc.ne HBa.out (by decide) rfl))
      have H2 := Lib.hid h2
      clear h2 h3 h4
      refine hK _ _ ⟨until_of (And.intro (BX5.out.cell 2) (HC3.out _ NW5.out)), ?_⟩
      clear hK K
      refine U_segL (r := [9]) (fuel := 1) rfl (by kernel_rfl) (by kernel_rfl) (by simp only [List.filterMap_cons, List.filterMap_nil, List.getElem?_toArray, List.getElem?_cons_succ, List.getElem?_cons_zero]; rfl) (fun _ _ d _ _ h => by cases d <;> exact h) (And.intro (BX5.out.cell 2) (HC3.out _ NW5.out)) ?_
      (refine wpYield_step rfl (fun K hK => ?_)
       apply Exists.intro
       refine ⟨fun w' hw' => ?_, ?_⟩
       · (go_simp; try with_reducible rfl)
       go_simp
       refine hK _ ?_
       clear hK K)
      refine wpYield_nil ?_
      refine U_eff 10 rfl (by kernel_rfl) rfl (fun K hK => ?_)
      have e0 := BX5.out.cell 2; have f0 := BX5.out.frozen 2
      go_simp
      refine hK _ _ ⟨until_past (by kernel_rfl), ?_⟩
      clear hK K
      refine U_done (by kernel_rfl) ?_ _
      have BX6 := BX5.out.set 2 (.slice A4 (j + 1) c4)
      have G6 : w5.grownBy (w5.setCell ⟨y + 1, 2, none⟩ (.slice A4 (j + 1) c4)) (some (y + 1)) := gb_set (gb_nw (Nw.refl w5)) (.inl rfl) _
      have O6 := H2.out.kept G6 (fun r hr e => by
        injection hr with hr; subst hr
        obtain ⟨cur, hc⟩ := H2.out.rowObj _ e
        exact hc.ne BX5.out (by decide) rfl)
      have BY6 := BY5.out.eq (G6.block y BY5.out.lt (by intro e; injection e with e; omega))
      have N6 := nw_of_gb NW5.out G6 (fun z hz => by injection hz with hz; subst hz; have := HY.out; omega)
      obtain ⟨w6, hw6⟩ : ∃ w6, w5.setCell ⟨y + 1, 2, none⟩ (.slice A4 (j + 1) c4) = w6 := ⟨_, rfl⟩
      rw [hw6] at BX6 BY6 O6 N6 ⊢
      clear hw6 G6 e0 f0
      go_wp2_with fail
      go_roundw
      case rel => exact ⟨j + 1, A4, c4, by go_num, by omega, BY6, BX6, Lib.hid (by rw [HT.out, fl_app, fl_one]; exact O6), N6⟩
      case measure => simp only [intOf]; omega
    · have hjn : j = n := by omega
      have HF := Lib.hid (show onE (ds.take j) = onE ds by rw [List.take_of_length_le (by rw [HL.out]; omega)])
      have HJ := Lib.hid hjn
      clear hb1 hb2 hjn
      go_wp2_with (first
        | ((with_reducible refine wpList_store_obj 37 _ _ (by with_unfolding_all exact rfl) (by with_unfolding_all exact rfl) [.int .i64 0, .int .i64 0, .slice A3 j c3] (by with_unfolding_all exact rfl) (by with_unfolding_all exact rfl) (by with_unfolding_all exact rfl) (by kernel_rfl) (gc_one1 _ _ _ _ _) HBa.out (by with_unfolding_all exact rfl) ?_); intro w7 s1 s2)
        | ((with_reducible refine wpList_load_obj 37 _ (by with_unfolding_all exact rfl) (by with_unfolding_all exact rfl) (by with_unfolding_all exact rfl) HBb.out _ Try.underlying37 (by with_unfolding_all exact rfl) (by kernel_rfl) ?_)))
      refine bodyPost_ret (res_cell rfl _ _ _ 37 _ _ rfl s1 Try.underlying37 rfl (by kernel_rfl)) rfl ?_
      refine ⟨A3, j, c3, rfl, ?_, by rw [HL.out]; exact HJ.out, nw_of_gb hnw s2 (fun z hz => by injection hz with hz; subst hz; rw [HY.out]; exact Nat.le_refl _)⟩
      rw [HY.out, ← HF.out]
      exact how.out.kept s2 (fun r hr e => by
        injection hr with hr; subst hr
        obtain ⟨cur, hc⟩ := how.out.rowObj _ e
        exact hc.ne HBa.out (by decide) rfl)
end Go.Proofs.Ytobifmndpkjlmaa


/- What must be in any case: the statements' shown, step by step. -/
namespace Go.Proofs.Ytobifmndpkjlmaa
open Go.RowKit Go.BW

def twoG (A1 A2 : Option Addr) (n1 c1 n2 c2 : Nat) : List Gp := [⟨0, 0, A1, n1, c1, onE [0, 1]⟩, ⟨0, 0, A2, n2, c2, onE [0, 2]⟩]
section
variable (A1 A2 : Option Addr) (n1 c1 n2 c2 : Nat)
theorem two_safe : hallB (twoG A1 A2 n1 c1 n2 c2) [9, 1, 1] 0 = true := by rfl
theorem two_unsafe : hallB (twoG A1 A2 n1 c1 n2 c2) [9, 2, 0] 0 = false := by rfl
theorem two_ok : okM (twoG A1 A2 n1 c1 n2 c2) [9, 1, 1] 0 0 2 = true := by rfl
end
theorem rank1 : Ranked [1, 3, 3, 0, 2] (fun d => (d : Int) ∉ ([2] : List Int)) [1, 4, 0] := by
  refine ⟨?_, fun d => ?_⟩
  · simp [bef]
  · constructor
    · intro h
      simp at h
      rcases h with rfl | rfl | rfl <;> simp
    · rintro ⟨h1, h2, h3⟩
      simp at h1
      have : d = 0 ∨ d = 1 ∨ d = 2 ∨ d = 3 ∨ d = 4 := by omega
      rcases this with rfl | rfl | rfl | rfl | rfl <;> simp at h2 h3 ⊢
theorem rank2 : Ranked [1, 0] (fun d => (d : Int) ∉ ([] : List Int)) [0] := by
  refine ⟨by simp, fun d => ?_⟩
  constructor
  · intro h; simp at h; subst h; simp
  · rintro ⟨h1, h2, _⟩
    simp at h1
    have : d = 0 ∨ d = 1 := by omega
    rcases this with rfl | rfl <;> simp at h2 ⊢
theorem rank3 (x : Gp) (hx : dks x = [0, 1]) : Ranked [9, 1, 1] (fun d => (!hasD x (d : Int)) = true) [2] := by
  have hh : ∀ d : Nat, (!hasD x (d : Int)) = true ↔ (d : Int) ∉ ([0, 1] : List Int) := fun d => by rw [Bool.not_eq_true', hasD_not, hx]
  refine ⟨by simp, fun d => ?_⟩
  rw [hh]
  constructor
  · intro h; simp at h; subst h; simp
  · rintro ⟨h1, h2, h3⟩
    simp at h1
    have : d = 0 ∨ d = 1 ∨ d = 2 := by omega
    rcases this with rfl | rfl | rfl <;> simp at h2 h3 ⊢
theorem two_move (A1 A2 : Option Addr) (n1 c1 n2 c2 : Nat) {r : Option (Nat × Nat)} (h : MoveIs (twoG A1 A2 n1 c1 n2 c2) [9, 1, 1] 0 r) : r = some (0, 2) := by
  cases h with
  | none h => exact absurd h (by simp [twoG, hasD, onE])
  | stuck i x l hx hh hf hl hn =>
    rcases Nat.eq_zero_or_pos i with hi | hi
    · subst hi
      have e : x = ⟨0, 0, A1, n1, c1, onE [0, 1]⟩ := by simpa [twoG] using hx.symm
      have hl2 := hl.uniq (rank3 x (by rw [e]; rfl))
      subst hl2
      have := hn 2 (by simp)
      rw [two_ok] at this; cases this
    · exfalso
      have : (twoG A1 A2 n1 c1 n2 c2).take i = ⟨0, 0, A1, n1, c1, onE [0, 1]⟩ :: ([⟨0, 0, A2, n2, c2, onE [0, 2]⟩] : List Gp).take (i - 1) := by
        obtain ⟨j, rfl⟩ : ∃ j, i = j + 1 := ⟨i - 1, by omega⟩
        simp [twoG]
      rw [this, List.any_cons] at hf
      simp [hasD, onE] at hf
  | goes i x l k d hx hh hf hl hk hd hn =>
    rcases Nat.eq_zero_or_pos i with hi | hi
    · subst hi
      have e : x = ⟨0, 0, A1, n1, c1, onE [0, 1]⟩ := by simpa [twoG] using hx.symm
      have hl2 := hl.uniq (rank3 x (by rw [e]; rfl))
      subst hl2
      rcases k with _ | k
      · simp at hk; rw [← hk]
      · simp at hk
    · exfalso
      have : (twoG A1 A2 n1 c1 n2 c2).take i = ⟨0, 0, A1, n1, c1, onE [0, 1]⟩ :: ([⟨0, 0, A2, n2, c2, onE [0, 2]⟩] : List Gp).take (i - 1) := by
        obtain ⟨j, rfl⟩ : ∃ j, i = j + 1 := ⟨i - 1, by omega⟩
        simp [twoG]
      rw [this, List.any_cons] at hf
      simp [hasD, onE] at hf
theorem two_spare (A1 A2 : Option Addr) (n1 c1 n2 c2 : Nat) {v : Nat} (h : SpareIs (allE (twoG A1 A2 n1 c1 n2 c2)) 3 v) : v = 2 := by
  refine h.uniq (v' := 2) ⟨fun d h0 h1 => ?_, .inr ⟨0, by decide, by decide, rfl⟩⟩
  have : d = 0 ∨ d = 1 ∨ d = 2 := by omega
  rcases this with rfl | rfl | rfl <;> simp [cntE, allE, twoG, onE]
end Go.Proofs.Ytobifmndpkjlmaa


/- What must be in any case: the statements' shown. -/
namespace Go.Proofs.Ytobifmndpkjlmaa
open Go.RowKit Go.BW

theorem rdl (w : World) (zs : List Int) (n : Nat) (h : zs.length = n) : Rd (w.alloc (.cells (zs.map iv).toArray 3)) (w.alloc (.cells (zs.map iv).toArray 3)).heap.size 1 (some ⟨w.heap.size, 0, none⟩) n (zs.map iv) :=
  (rd_lit (zs.map iv) 3 n (by simpa using h)).more (by simp)
def Pick1 (w : World) (e : Ending) (w' : World) : Prop :=
  ∃ b o, e = .returned (.tuple #[.slice (some ⟨b, o, none⟩) 2 2, .bool true]) ∧ w'.cell? ⟨b, o, none⟩ = some (.int .i64 1) ∧ w'.cell? ⟨b, o + 1, none⟩ = some (.int .i64 4) ∧ Nw w w'
theorem pick1 {w : World} {B : Nat} {A A2 : Option Addr} (hr : Rd w B 1 A 5 (([1, 3, 3, 0, 2] : List Int).map iv)) (hb : Rd w B 1 A2 1 (([2] : List Int).map iv)) (hB : B ≤ w.heap.size) : Calls Try.prog 11 #[.slice A 5 5, .int .i64 2, .slice A2 1 1] w (Pick1 w) := by
  refine (pick_any stable_small hr hb hB (by decide) (by decide) (by decide) 2).mono ?_
  rintro e w' ⟨l, hl, hn, h⟩
  have := hl.uniq rank1
  subst this
  rcases h with ⟨h, _⟩ | ⟨k, A', hk, _, _, rfl, hr', _⟩
  · simp at h
  · have : k = 2 := by omega
    subst this
    obtain ⟨b, o, hA, _, hc⟩ := hr'.2 (by decide)
    subst hA
    exact ⟨b, o, rfl, hc 0 _ rfl, hc 1 _ rfl, hn⟩
theorem pick2 {w : World} {B : Nat} {A : Option Addr} (hr : Rd w B 1 A 2 (([1, 0] : List Int).map iv)) (hB : B ≤ w.heap.size) : Calls Try.prog 11 #[.slice A 2 2, .int .i64 2, .slice none 0 0] w (fun e w' => e = .returned (.tuple #[.slice none 0 0, .bool false]) ∧ Nw w w') := by
  refine (pick_any (ban := []) stable_small hr Rd.nil hB (by decide) (by decide) (by decide) 2).mono ?_
  rintro e w' ⟨l, hl, hn, h⟩
  have := hl.uniq rank2
  subst this
  rcases h with ⟨_, rfl⟩ | ⟨k, A', hk, _, h2, _, _⟩
  · exact ⟨rfl, hn⟩
  · simp at h2; omega
theorem on2 (a b : Int) (w : World) : Calls Try.prog 25 #[.slice (some ⟨w.heap.size, 0, none⟩) 2 2] (w.alloc (.cells #[.int .i64 a, .int .i64 b] 3))
    (fun e w' => ∃ A c, e = .returned (.agg #[.int .i64 0, .int .i64 0, .slice A 2 c]) ∧ Own w' w.heap.size 39 2 A 2 c (fl ec (onE [a, b])) ∧ Nw w w') := by
  refine (on_any (rdl w [a, b] 2 rfl) (Nat.le_refl _) (by decide)).mono ?_
  rintro e w' ⟨A, n, c, rfl, ho, rfl, hn⟩
  exact ⟨A, c, rfl, ho.more (by simp), gb_trans (World.grownBy_alloc w _ none) hn⟩
def TwoS (w : World) (b : Nat) (A1 A2 : Option Addr) (c1 c2 : Nat) : Prop := GsR w w.heap.size (some ⟨b, 0, none⟩) 2 (twoG A1 A2 2 c1 2 c2)
theorem two_new {w : World} {B1 B2 : Nat} {A1 A2 : Option Addr} {c1 c2 : Nat} (h1 : Own w B1 39 2 A1 2 c1 (fl ec (onE [0, 1]))) (h2 : Own w B2 39 2 A2 2 c2 (fl ec (onE [0, 2]))) :
    TwoS (w.alloc (.cells #[.int .i64 0, .int .i64 0, .slice A1 2 c1, .int .i64 0, .int .i64 0, .slice A2 2 c2] 37)) w.heap.size A1 A2 c1 c2 := by
  have hn := World.grownBy_alloc w (.cells #[.int .i64 0, .int .i64 0, .slice A1 2 c1, .int .i64 0, .int .i64 0, .slice A2 2 c2] 37) none
  refine ⟨((Obj1.new w 37 #[.int .i64 0, .int .i64 0, .slice A1 2 c1, .int .i64 0, .int .i64 0, .slice A2 2 c2]).ownN (n := 2) (size := 3) (base := 0) rfl (Nat.zero_le _) (by unfold maxLen; decide)).rd, fun g hg => ?_⟩
  simp only [twoG, List.mem_cons, List.not_mem_nil, or_false] at hg
  rcases hg with rfl | rfl
  · exact ⟨(h1.nw hn).rd, h1.cap.1, h1.cap.2, by simp only; decide⟩
  · exact ⟨(h2.nw hn).rd, h2.cap.1, h2.cap.2, by simp only; decide⟩
theorem TwoS.nw {w w' : World} {b : Nat} {A1 A2 : Option Addr} {c1 c2 : Nat} (h : TwoS w b A1 A2 c1 c2) (k : Nw w w') : TwoS w' b A1 A2 c1 c2 := (GsR.nw h k (Nat.le_refl _)).more k.size
section
variable {w : World} {b : Nat} {A1 A2 : Option Addr} {c1 c2 : Nat}
theorem two_mv (h : TwoS w b A1 A2 c1 c2) : Calls Try.prog 16 #[.slice (some ⟨b, 0, none⟩) 2 2, .slice (some ⟨w.heap.size, 0, none⟩) 3 3, .int .i64 0] (w.alloc (.cells #[.int .i64 9, .int .i64 1, .int .i64 1] 3))
    (fun e w' => e = .returned (.tuple #[.int .i64 0, .int .i64 2, .bool true]) ∧ Nw w w') := by
  have hn := World.grownBy_alloc w (.cells #[.int .i64 9, .int .i64 1, .int .i64 1] 3) none
  refine (move_any stable_small (h.nw hn) (by decide) (rdl w [9, 1, 1] 3 rfl) (Nat.le_refl _) (by decide) (by decide) (by decide) (by decide) (by decide) 0).mono ?_
  rintro e w' ⟨r, rfl, hr, hk⟩
  rw [two_move _ _ _ _ _ _ hr]
  exact ⟨rfl, gb_trans hn hk⟩
theorem two_sf (h : TwoS w b A1 A2 c1 c2) : Calls Try.prog 19 #[.slice (some ⟨b, 0, none⟩) 2 2, .slice (some ⟨w.heap.size, 0, none⟩) 3 3, .int .i64 0] (w.alloc (.cells #[.int .i64 9, .int .i64 1, .int .i64 1] 3))
    (fun e w' => e = .returned (.bool true) ∧ Nw w w') := by
  have hn := World.grownBy_alloc w (.cells #[.int .i64 9, .int .i64 1, .int .i64 1] 3) none
  refine (safe_hall (h.nw hn) (rdl w [9, 1, 1] 3 rfl) (Nat.le_refl _) (by decide) (by decide) (by decide) 0).mono ?_
  rintro e w' ⟨rfl, hk⟩
  rw [two_safe]
  exact ⟨rfl, gb_trans hn hk⟩
theorem two_un (h : TwoS w b A1 A2 c1 c2) : Calls Try.prog 19 #[.slice (some ⟨b, 0, none⟩) 2 2, .slice (some ⟨w.heap.size, 0, none⟩) 3 3, .int .i64 0] (w.alloc (.cells #[.int .i64 9, .int .i64 2, .int .i64 0] 3))
    (fun e w' => e = .returned (.bool false) ∧ Nw w w') := by
  have hn := World.grownBy_alloc w (.cells #[.int .i64 9, .int .i64 2, .int .i64 0] 3) none
  refine (safe_hall (h.nw hn) (rdl w [9, 2, 0] 3 rfl) (Nat.le_refl _) (by decide) (by decide) (by decide) 0).mono ?_
  rintro e w' ⟨rfl, hk⟩
  rw [two_unsafe]
  exact ⟨rfl, gb_trans hn hk⟩
theorem two_sp (h : TwoS w b A1 A2 c1 c2) : Calls Try.prog 20 #[.slice (some ⟨b, 0, none⟩) 2 2, .int .i64 3] w (fun e w' => e = .returned (.int .i64 2) ∧ Nw w w') := by
  refine (spare_any h (Nat.le_refl _) (by decide) 3).mono ?_
  rintro e w' ⟨v, rfl, hv, _, hk⟩
  rw [two_spare _ _ _ _ _ _ hv]
  exact ⟨rfl, hk⟩
end
set_option maxHeartbeats 8000000 in
theorem shown_any (w : World) : Calls Try.prog 10 #[] w (Ret (.bool true) w) := by
  have n1 := gb_trans (World.grownBy_alloc w (.cells #[.int .i64 1, .int .i64 3, .int .i64 3, .int .i64 0, .int .i64 2] 3) none) (World.grownBy_alloc (w.alloc (.cells #[.int .i64 1, .int .i64 3, .int .i64 3, .int .i64 0, .int .i64 2] 3)) (.cells #[.int .i64 2] 3) none)
  have P1 := Lib.hid (show Calls Try.prog 11 #[.slice (some ⟨w.heap.size, 0, none⟩) 5 5, .int .i64 2, .slice (some ⟨w.heap.size + 1, 0, none⟩) 1 1] ((w.alloc (.cells #[.int .i64 1, .int .i64 3, .int .i64 3, .int .i64 0, .int .i64 2] 3)).alloc (.cells #[.int .i64 2] 3)) (Pick1 _) from by
    refine pick1 (B := w.heap.size + 2) ((rdl w [1, 3, 3, 0, 2] 5 rfl).nw (World.grownBy_alloc _ (.cells #[.int .i64 2] 3) none) (Nat.le_refl _) |>.more (by simp)) ?_ (by simp)
    have := rdl (w.alloc (.cells #[.int .i64 1, .int .i64 3, .int .i64 3, .int .i64 0, .int .i64 2] 3)) [2] 1 rfl
    have e : (w.alloc (.cells #[.int .i64 1, .int .i64 3, .int .i64 3, .int .i64 0, .int .i64 2] 3)).heap.size = w.heap.size + 1 := by simp
    rw [e] at this
    exact this.more (by simp))
  have P2 := Lib.hid (show ∀ w : World, Calls Try.prog 11 #[.slice (some ⟨w.heap.size, 0, none⟩) 2 2, .int .i64 2, .slice none 0 0] (w.alloc (.cells #[.int .i64 1, .int .i64 0] 3)) (fun e w' => e = .returned (.tuple #[.slice none 0 0, .bool false]) ∧ Nw w w') from fun w =>
    (pick2 (rdl w [1, 0] 2 rfl) (Nat.le_refl _)).mono fun e w' h => ⟨h.1, gb_trans (World.grownBy_alloc w _ none) h.2⟩)
  have P3 := Lib.hid (fun w : World => on2 0 1 w)
  have P4 := Lib.hid (fun w : World => on2 0 2 w)
  have N1 := Lib.hid n1
  unfold Pick1 at P1
  clear n1
  go_enter Try.func10, Try.ntmps10
  go_upto_region 4 with (first
    | ((with_reducible refine (P4.out _).mono ?_); rintro e w5 ⟨A4, c4, rfl, o4, n5⟩)
    | ((with_reducible refine (P3.out _).mono ?_); rintro e w4 ⟨A3, c3, rfl, o3, n4⟩)
    | ((with_reducible refine (P2.out _).mono ?_); rintro e w3 ⟨rfl, n3⟩)
    | ((with_reducible refine P1.out.mono ?_); rintro e w2 ⟨b, o, rfl, k1, k2, n2⟩))
  have hT := two_new (o3.nw n5) o4
  have hn := World.grownBy_alloc w5 (.cells #[.int .i64 0, .int .i64 0, .slice A3 2 c3, .int .i64 0, .int .i64 0, .slice A4 2 c4] 37) none
  have N25 := gb_trans n3 (gb_trans n4 (gb_trans n5 hn))
  have q1 := cell_nw k1 N25
  have q2 := cell_nw k2 N25
  have NW := gb_trans N1.out (gb_trans n2 N25)
  obtain ⟨W, hW⟩ : ∃ W, (w5.alloc (.cells #[.int .i64 0, .int .i64 0, .slice A3 2 c3, .int .i64 0, .int .i64 0, .slice A4 2 c4] 37)) = W := ⟨_, rfl⟩
  obtain ⟨y, hy⟩ : ∃ y, w5.heap.size = y := ⟨_, rfl⟩
  rw [hW] at hT q1 q2 NW ⊢
  rw [hy] at hT ⊢
  have T0 := Lib.hid hT; have NN := Lib.hid NW
  clear hT hn N25 k1 k2 NW hW hy o3 o4 n3 n4 n5 n2 P1 P2 P3 P4
  go_wp2_with (first
    | ((with_reducible refine (two_sp T3.out).mono ?_); rintro e w9 ⟨rfl, n9⟩)
    | ((with_reducible refine (two_un T2.out).mono ?_); rintro e w8 ⟨rfl, n8⟩; have T3 := Lib.hid (T2.out.nw n8))
    | ((with_reducible refine (two_sf T1.out).mono ?_); rintro e w7 ⟨rfl, n7⟩; have T2 := Lib.hid (T1.out.nw n7))
    | ((with_reducible refine (two_mv T0.out).mono ?_); rintro e w6 ⟨rfl, n6⟩; have T1 := Lib.hid (T0.out.nw n6); have q3 := cell_nw q1 n6; have q4 := cell_nw q2 n6))
  go_ret
  exact ⟨rfl, gb_trans NN.out (gb_trans n6 (gb_trans n7 (gb_trans n8 n9)))⟩
end Go.Proofs.Ytobifmndpkjlmaa

