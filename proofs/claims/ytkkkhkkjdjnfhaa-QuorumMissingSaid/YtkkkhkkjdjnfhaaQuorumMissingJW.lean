/- The walk of QuorumMissing. -/
import Derived.Test.YtkkkhkkjdjnfhaaJG
import Derived.Test.YtkkkhkkjdjnfhaaJH
set_option linter.unusedVariables false
set_option linter.unusedSimpArgs false
namespace Go.Proofs.Ytkkkhkkjdjnfhaa
open Go.RowKit Go.BW

set_option maxRecDepth 100000 in
set_option maxHeartbeats 8000000 in
theorem missing_walk {w : World} {B : Nat} {x : Lb} (h : LOk w B x) (hB : B ≤ w.heap.size) (mask : Int) (hmk : -9223372036854775808 ≤ mask ∧ mask ≤ 9223372036854775807) : Calls Try.prog 6 #[lv x, .int .i64 mask] w (Ret (.bool true) w) := by
  have hbx := Obj1.new w 24 #[.int .i64 x.a, .int .i64 x.g, .int .i64 x.m, .int .i64 x.b, .slice x.A x.n x.c]
  have hg0 := World.grownBy_alloc w (.cells #[.int .i64 x.a, .int .i64 x.g, .int .i64 x.m, .int .i64 x.b, .slice x.A x.n x.c] 24) none
  have HS := Lib.hid shown_any
  unfold Ret at HS
  have HC := Lib.hid (fun w' (k : Nw w w') => cut_any (h.nw k hB) (Nat.le_trans hB k.size))
  unfold CutPost at HC
  unfold lv at HC ⊢
  obtain ⟨a, g, m, b, A, n, c, ms0⟩ := x
  simp only at HC hbx hg0 ⊢
  obtain ⟨ms, hms⟩ : ∃ ms, ms0.take 20 = ms := ⟨_, rfl⟩
  have hml : ms.length ≤ 20 := by rw [← hms, List.length_take]; omega
  rw [hms] at HC
  obtain ⟨V, hV⟩ : ∃ V, w.alloc (.cells #[.int .i64 a, .int .i64 g, .int .i64 m, .int .i64 b, .slice A n c] 24) = V := ⟨_, rfl⟩
  obtain ⟨y, hy⟩ : ∃ y, w.heap.size = y := ⟨_, rfl⟩
  rw [hV] at hbx hg0
  rw [hy] at hbx
  have hyw : w.heap.size ≤ y := by omega
  have hyV := hbx.lt
  have OB := Lib.hid hbx; have N0 := Lib.hid hg0
  clear hms h
  go_enter Try.func6, Try.ntmps6
  go_upto_region 3 with (first
    | (refine wpList_store_obj 24 _ _ rfl rfl [.int .i64 a, .int .i64 g, .int .i64 m, .int .i64 b, .slice A2 n2 c2] rfl rfl rfl (by kernel_rfl) (lc_one1 a g m b A2 n2 c2) (OB1.out.nw k2) rfl ?_; intro w3 s1 s2)
    | ((with_reducible refine (HC.out _ N1.out).mono ?_); rintro e w2 ⟨A2, n2, c2, rfl, o2, k2⟩)
    | (refine wpList_load_obj 24 _ rfl rfl rfl OB1.out _ Try.underlying24 rfl (by kernel_rfl) ?_)
    | ((with_reducible refine (HS.out _).mono ?_); rintro e w1 ⟨rfl, k1⟩; have OB1 := Lib.hid (OB.out.nw k1); have N1 := Lib.hid (gb_trans N0.out k1)))
  have o3 := o2.kept s2 (fun r hr e => by injection hr with hr; subst hr; obtain ⟨cur, ho⟩ := o2.rowObj _ e; exact ho.ne (OB1.out.nw k2) (by decide) rfl)
  have n3 := nw_of_gb (gb_trans N1.out k2) s2 (fun r hr => by injection hr with hr; omega)
  have hn2 : n2 = ms.length := (o2.lenL mc_len (by decide)).symm
  have hn20 : n2 ≤ 20 := by omega
  have hbs : w.heap.size ≤ w1.heap.size := N1.out.size
  have O3 := Lib.hid (o3.more hbs); have N3 := Lib.hid n3; have B3 := Lib.hid s1
  have HL := Lib.hid hn2
  clear o2 o3 n3 s1 s2 k1 k2 HC OB OB1 N0 N1 hbs hn2
  go_wp2_with fail
  go_loopw [6] (fun i wr => ∃ (j : Nat), j ≤ n2 ∧ i = .int .i64 j ∧ Own wr w.heap.size 28 3 A2 n2 c2 (fl mc (liveTo ms j)) ∧ Obj1 wr y 24 #[.int .i64 a, .int .i64 g, .int .i64 m, .int .i64 b, .slice A2 n2 c2] ∧ Nw w wr) (fun i _ => n2 - (intOf i).toNat)
  case atStart => exact ⟨0, Nat.zero_le _, rfl, by rw [liveTo_zero]; exact O3.out, B3.out, N3.out⟩
  case round =>
    obtain ⟨j, hj, rfl, hown, hbox, hnw⟩ := hrel
    by_cases hlt : j < n2
    · have hjn : (j : Int) < (n2 : Int) := by omega
      obtain ⟨r, rfl, hr⟩ := hown.some_ (by omega)
      obtain ⟨⟨u, hu, hf⟩, hs, hgb⟩ := live_step hown hlt
      obtain ⟨cur, hro⟩ := hown.obj
      have hne : y ≠ r := hbox.ne hro (by decide)
      have hk4 := hbox.cell 4
      have S := Lib.hid hs; have G := Lib.hid hgb; have BX := Lib.hid hbox; have NR := Lib.hid hnw
      clear hs hgb hown hbox hro hnw
      go_wp2
      go_roundw
      case rel => exact ⟨j + 1, by omega, by go_num, S.out, BX.out.chg (Chg.of_gb (F := [r]) G.out (by intro q hq; injection hq with hq; simp [hq])) (by simpa using hne), nw_of_gb NR.out G.out (fun q hq => by injection hq with hq; omega)⟩
      case measure => simp only [intOf]; omega
    · have hje : j = n2 := by omega
      subst hje
      have hjn : decide ((j : Int) < (j : Int)) = false := by simp
      rw [liveTo_all (by rw [HL.out]; exact Nat.le_refl _)] at hown
      have hk4 := hbox.cell 4
      have S := Lib.hid hown; have BX := Lib.hid hbox; have NR := Lib.hid hnw
      clear hown hbox hnw
      go_upto_region 7 with fail
      have hok : LOk wr wr.heap.size ⟨a, g, m, b, A2, j, c2, ms.map live⟩ := ⟨S.out.rd, S.out.cap.1, S.out.cap.2⟩
      have HR := Lib.hid (right_any hok (Nat.le_refl _) (by simp only; omega))
      unfold lv Ret at HR
      simp only at HR
      obtain ⟨mL, hmL⟩ : ∃ mL, ms.map live = mL := ⟨_, rfl⟩
      have HML := Lib.hid (show mL = ms.map live from hmL.symm)
      rw [hmL] at HR S hok
      obtain ⟨R, hRR⟩ : ∃ R, rightB ⟨a, g, m, b, A2, j, c2, mL⟩ = R := ⟨_, rfl⟩
      rw [hRR] at HR
      have HRR := Lib.hid hRR
      clear hok hRR
      rcases R with _ | _
      · go_wp2_with (first | ((with_reducible refine HR.out.mono ?_); rintro e w4 ⟨rfl, k4⟩; have BX4 := Lib.hid (BX.out.nw k4); have S4 := Lib.hid (S.out.nw k4); have N4 := Lib.hid (gb_trans NR.out k4)) | (refine wpList_load_obj 24 _ rfl rfl rfl BX.out _ Try.underlying24 rfl (by kernel_rfl) ?_))
        go_ret
        exact ⟨rfl, N4.out⟩
      go_upto_region 11 with (first | ((with_reducible refine HR.out.mono ?_); rintro e w4 ⟨rfl, k4⟩; have BX4 := Lib.hid (BX.out.nw k4); have S4 := Lib.hid (S.out.nw k4); have N4 := Lib.hid (gb_trans NR.out k4)) | (refine wpList_load_obj 24 _ rfl rfl rfl BX.out _ Try.underlying24 rfl (by kernel_rfl) ?_))
      clear BX S NR HR k4 hk4
      have hyB := BX4.out.lt
      have hln : mL.length = j := S4.out.lenL mc_len (by decide)
      have HLN := Lib.hid hln
      clear hln
      obtain ⟨lab, hlab⟩ : ∃ lab, withM ⟨a, g, m, b, A2, j, c2, mL⟩ = lab := ⟨_, rfl⟩
      have HLB := Lib.hid (fun q : Mem => show lc (lab q) = [.int .i64 a, .int .i64 g, .int .i64 q.id, .int .i64 b, .slice A2 j c2] by rw [← hlab]; rfl)
      have HLAB := Lib.hid hlab
      clear hlab
      go_wp2_with fail
      go_loopw [7, 8, 9] (fun al ou iv wr => ∃ (i nl cl no co : Nat) (L O : Option Addr), i ≤ j ∧ iv = .int .i64 i ∧ al = .slice L nl cl ∧ ou = .slice O no co ∧ Own wr (y + 1) 24 5 L nl cl (fl lc ((picks (nbt mask) mL i).map lab)) ∧ Own wr w.heap.size 3 1 O no co ((picks (bt mask) mL i).map fun q => Value.int .i64 q.id) ∧ Own wr w.heap.size 28 3 A2 j c2 (fl mc mL) ∧ Obj1 wr y 24 #[.int .i64 a, .int .i64 g, .int .i64 m, .int .i64 b, .slice A2 j c2] ∧ Nw w wr) (fun _ _ i _ => j - (intOf i).toNat)
      case atStart => exact ⟨0, 0, 0, 0, 0, none, none, Nat.zero_le _, rfl, rfl, rfl, by rw [picks_zero]; exact Own.nil, by rw [picks_zero]; exact Own.nil, S4.out, BX4.out, N4.out⟩
      case round =>
        obtain ⟨i, nl, cl, no, co, L, O, hij, rfl, rfl, rfl, hal, hou, hme, hbo, hnw⟩ := hrel
        by_cases hlt : i < j
        · have hij2 : (i : Int) < (j : Int) := by omega
          have hk4 := hbo.cell 4
          obtain ⟨r, rfl, hr⟩ := hme.some_ (by omega)
          obtain ⟨q, hq⟩ : ∃ q, mL[i]? = some q := ⟨_, List.getElem?_eq_getElem (show i < mL.length by rw [HLN.out]; exact hlt)⟩
          have hc0 : wr.cell? ⟨r, i * 3, none⟩ = some (.int .i64 q.id) := hme.atL mc_len (by decide) hq 0 _ rfl
          have hnl : nl ≤ i := by have h1 := hal.lenL lc_len (by decide); have h2 := picks_len (nbt mask) mL i; rw [List.length_map] at h1; omega
          have hno : no ≤ i := by have h1 := hou.len; have h2 := picks_len (bt mask) mL i; rw [List.length_map, Nat.mul_one] at h1; omega
          have P1 := Lib.hid (picks_step (P := bt mask) hq); have P2 := Lib.hid (picks_step (P := nbt mask) hq)
          have hyw2 : y + 1 ≤ wr.heap.size := hbo.lt
          obtain ⟨bb, hbb⟩ : ∃ bb, bt mask i = bb := ⟨_, rfl⟩
          have hbi : (bits BinOp.and IntKind.i64 (mask / 2 ^ i) 1 == 1) = bb := hbb
          have hnb : nbt mask i = !bb := by unfold nbt; rw [hbb]
          rw [hbb] at P1
          rw [hnb] at P2
          have AL := Lib.hid hal; have OU := Lib.hid hou; have ME := Lib.hid hme; have BO := Lib.hid hbo; have NR := Lib.hid hnw
          clear hbb hnb hq hal hou hme hbo hnw S4 BX4 N4
          rcases bb with _ | _
          case true =>
            go_wp2_with (first
              | (at_builtin; refine wpList_app1_own T35 _ _ rfl rfl rfl rfl OU.out rfl (by unfold maxLen; omega) NR.out.size ?_; intro A8 c8 w8 o8 g8 _))
            go_roundw
            case rel =>
              refine ⟨i + 1, nl, cl, no + 1, c8, L, A8, by omega, by go_num, rfl, rfl, ?_, ?_, ?_, ?_, ?_⟩
              · rw [P2.out]; simpa using AL.out.kept g8 (own_apart OU.out AL.out (by decide))
              · rw [P1.out, if_pos rfl, List.map_append]; exact o8
              · exact ME.out.kept g8 (own_apart OU.out ME.out (by decide))
              · exact Obj1.kept' BO.out g8 (own_obj OU.out BO.out (by decide))
              · exact nw_of_gb NR.out g8 OU.out.blk
            case measure => simp only [intOf]; omega
          have XB := Obj1.new wr 24 #[.int .i64 a, .int .i64 g, .int .i64 m, .int .i64 b, .slice (some ⟨r, 0, none⟩) j c2]
          obtain ⟨V2, hV2, X2, nV2⟩ := new_set (w := wr) 24 #[.int .i64 a, .int .i64 g, .int .i64 m, .int .i64 b, .slice (some ⟨r, 0, none⟩) j c2] 2 (.int .i64 q.id)
          have gX := World.grownBy_alloc wr (.cells #[.int .i64 a, .int .i64 g, .int .i64 m, .int .i64 b, .slice (some ⟨r, 0, none⟩) j c2] 24) none
          obtain ⟨V1, hV1⟩ : ∃ V, wr.alloc (.cells #[.int .i64 a, .int .i64 g, .int .i64 m, .int .i64 b, .slice (some ⟨r, 0, none⟩) j c2] 24) = V := ⟨_, rfl⟩
          have kc0 : V1.cell? ⟨r, i * 3, none⟩ = some (.int .i64 q.id) := by rw [← hV1]; exact cell_alloc hc0
          have kk4 : V1.cell? ⟨y, 4, none⟩ = some (.slice (some ⟨r, 0, none⟩) j c2) := by rw [← hV1]; exact cell_alloc hk4
          rw [hV1] at XB hV2
          obtain ⟨xb, hxb⟩ : ∃ xb, wr.heap.size = xb := ⟨_, rfl⟩
          rw [hxb] at XB hV2 X2
          have fx2 := XB.frozen 2
          have cx2 := XB.cell 2
          have X2' := Lib.hid (show Obj1 V2 xb 24 #[.int .i64 a, .int .i64 g, .int .i64 q.id, .int .i64 b, .slice (some ⟨r, 0, none⟩) j c2] from X2); have NV2 := Lib.hid nV2
          clear XB X2 nV2 gX
          go_upto_region 18 with (first | (refine wpList_load_obj 24 _ rfl rfl rfl BO.out _ Try.underlying24 rfl (by kernel_rfl) ?_))
          have ALV := Lib.hid (AL.out.nw NV2.out); have OUV := Lib.hid (OU.out.nw NV2.out); have MEV := Lib.hid (ME.out.nw NV2.out); have BOV := Lib.hid (BO.out.nw NV2.out); have NRV := Lib.hid (gb_trans NR.out NV2.out)
          have hys : y + 1 ≤ V2.heap.size := BOV.out.lt
          have hlr := lc_one1 a g q.id b (some ⟨r, 0, none⟩) j c2
          have hyq := ALV.out.blk
          clear hxb cx2 fx2 kc0 kk4 hV1 hV2 NV2 AL OU ME BO NR hk4 hc0 hyw2
          go_wp2_with (first
            | (at_builtin; refine wpList_appN_own T33 (cs := [Value.int .i64 a, .int .i64 g, .int .i64 q.id, .int .i64 b, .slice (some ⟨r, 0, none⟩) j c2]) _ _ rfl rfl rfl rfl ALV.out rfl hlr (by unfold maxLen; omega) hys ?_; intro A8 c8 w8 o8 g8 _)
            | (refine wpList_load_obj 24 _ rfl rfl rfl X2'.out _ Try.underlying24 rfl (by kernel_rfl) ?_))
          go_roundw
          case rel =>
            refine ⟨i + 1, nl + 1, c8, no, co, A8, O, by omega, by go_num, rfl, rfl, ?_, ?_, ?_, ?_, ?_⟩
            · rw [P2.out, if_pos (by decide), List.map_append, fl_app]; simpa [fl, HLB.out q] using o8
            · rw [P1.out]; simpa using OUV.out.kept g8 (own_apart ALV.out OUV.out (by decide))
            · exact MEV.out.kept g8 (own_apart ALV.out MEV.out (by decide))
            · exact Obj1.kept' BOV.out g8 (fun r hr => by have := hyq r hr; omega)
            · exact nw_of_gb NRV.out g8 (fun r hr => by have := hyq r hr; omega)
          case measure => simp only [intOf]; omega
        · have hie : i = j := by omega
          subst hie
          have hij2 : decide ((i : Int) < (i : Int)) = false := by simp
          have hk4 := hbo.cell 4
          have AL := Lib.hid hal; have OU := Lib.hid hou; have ME := Lib.hid hme; have BO := Lib.hid hbo; have NR := Lib.hid hnw
          clear hal hou hme hbo hnw S4 BX4 N4
          go_upto_region 19 with fail
          have hni : mL.length = i := HLN.out
          have hlive : ∀ q ∈ mL, q.st = 0 := by intro q hq; rw [HML.out, List.mem_map] at hq; obtain ⟨q', _, rfl⟩ := hq; rfl
          obtain ⟨all, hall⟩ : ∃ all, (picks (nbt mask) mL i).map lab = all := ⟨_, rfl⟩
          have hnl : all.length = nl := by rw [← hall]; exact AL.out.lenL lc_len (by decide)
          have hnl2 : nl ≤ i := by rw [← hnl, ← hall, List.length_map]; exact picks_len ..
          have hno : (picks (bt mask) mL i).length = no := by have h1 := OU.out.len; rw [List.length_map, Nat.mul_one] at h1; exact h1
          have hal := AL.out.rd
          rw [hall] at hal
          have hci := OU.out.cap
          have HCH := choose_any (c := cl) hal (by
            intro z hz
            rw [← hall, List.mem_map] at hz
            obtain ⟨q, _, rfl⟩ := hz
            rw [← HLAB.out]
            exact ⟨ME.out.rd, ME.out.cap.1, ME.out.cap.2⟩) (Nat.le_refl _) (by omega) (by
            intro z hz
            rw [← hall, List.mem_map] at hz
            obtain ⟨q, _, rfl⟩ := hz
            rw [← HLAB.out]
            show i ≤ 1000000
            omega)
          have hpn : nl = 0 → all = [] := fun h => List.eq_nil_of_length_eq_zero (by omega)
          have hpp : 0 < nl → all.filter rightB = all ∧ (∃ q, maxOf all = withM ⟨a, g, m, b, A2, i, c2, mL⟩ q) ∧ (∀ q, missL all (withM ⟨a, g, m, b, A2, i, c2, mL⟩ q) = (picks (bt mask) mL i).map (·.id)) ∧ chooseE all = if 1 < no then 5 else 0 := by
            intro h
            have h2 := choose_miss (bt mask) HRR.out hlive (by
              intro e
              have : (picks (nbt mask) mL i).length = nl := by rw [← hnl, ← hall, List.length_map]
              rw [show picks (nbt mask) mL i = [] from by rw [← hni]; exact e] at this
              simp at this; omega)
            simp only [hni, HLAB.out] at h2
            rw [show picks (fun t => !bt mask t) mL i = picks (nbt mask) mL i from rfl, hall, hno] at h2
            rw [HLAB.out]
            exact h2
          unfold ChoosePost l0 lv at HCH
          have HPP := Lib.hid hpp; have HNO := Lib.hid hno
          rcases (show nl = 0 ∨ (0 < nl ∧ 1 < no) ∨ (0 < nl ∧ no ≤ 1) by omega) with h0 | ⟨h0, h1⟩ | ⟨h0, h1⟩
          · have HQ : Calls Try.prog 12 #[.slice L nl cl] wr (fun e w' => e = .returned (.tuple #[.agg #[.int .i64 0, .int .i64 0, .int .i64 0, .int .i64 0, .slice none 0 0], .slice none 0 0, .int .i64 8]) ∧ Nw wr w') := by
              refine HCH.mono ?_
              rw [hpn h0]
              rintro e w' ⟨k, hp⟩
              rcases hp with ⟨_, rfl⟩ | ⟨h, _⟩
              · exact ⟨rfl, k⟩
              · exact absurd h (by decide)
            subst h0
            have HQ' := Lib.hid HQ
            clear HQ HCH hal hpn hpp hnl2 hnl hci
            go_wp2_with ((with_reducible refine HQ'.out.mono ?_); rintro e w5 ⟨rfl, k5⟩; have NF := Lib.hid (gb_trans NR.out k5))
            go_ret
            exact ⟨rfl, nw_alloc NF.out⟩
          · have HQ : Calls Try.prog 12 #[.slice L nl cl] wr (fun e w' => e = .returned (.tuple #[.agg #[.int .i64 0, .int .i64 0, .int .i64 0, .int .i64 0, .slice none 0 0], .slice none 0 0, .int .i64 5]) ∧ Nw wr w') := by
              refine HCH.mono ?_
              obtain ⟨_, _, _, h4⟩ := HPP.out h0
              rw [if_pos h1] at h4
              rw [h4]
              rintro e w' ⟨k, hp⟩
              rcases hp with ⟨_, rfl⟩ | ⟨h, _⟩
              · exact ⟨rfl, k⟩
              · exact absurd h (by decide)
            have hz : ((nl : Int) == 0) = false := by simp; omega
            have hz1 : (1 : Int) < (no : Int) := by omega
            have HQ' := Lib.hid HQ
            clear HQ HCH hal hpn hpp hnl2 hnl hci
            go_wp2_with ((with_reducible refine HQ'.out.mono ?_); rintro e w5 ⟨rfl, k5⟩; have NF := Lib.hid (gb_trans NR.out k5))
            go_ret
            exact ⟨rfl, nw_alloc NF.out⟩
          · have HQ : Calls Try.prog 12 #[.slice L nl cl] wr (fun e w' => Nw wr w' ∧ ∃ A6 n6 c6 M d6 m6, e = .returned (.tuple #[.agg #[.int .i64 a, .int .i64 g, .int .i64 m6, .int .i64 b, .slice A6 n6 c6], .slice M no d6, .int .i64 0]) ∧ Own w' wr.heap.size 3 1 M no d6 ((picks (bt mask) mL i).map fun q => Value.int .i64 q.id)) := by
              refine HCH.mono ?_
              obtain ⟨h1', ⟨q, h2⟩, h3, h4⟩ := HPP.out h0
              rw [if_neg (by omega)] at h4
              rw [h4, h1', h2, h3 q]
              rintro e w' ⟨k, hp⟩
              rcases hp with ⟨h, _⟩ | ⟨_, A6, n6, c6, M, k6, d6, rfl, p1, p2⟩
              · exact absurd rfl h
              have hk : no = k6 := by have := p2.len; rw [List.length_map, List.length_map, HNO.out, Nat.mul_one] at this; exact this
              subst hk
              rw [List.map_map] at p2
              exact ⟨k, A6, n6, c6, M, d6, _, rfl, p2⟩
            have hz : ((nl : Int) == 0) = false := by simp; omega
            have hz1 : decide ((1 : Int) < (no : Int)) = false := by simp; omega
            have hz2 : decide (1 < no) = false := by simp; omega
            have HQ' := Lib.hid HQ
            clear HQ HCH hal hpn hpp hnl2 hnl hci
            go_upto_region 20 with ((with_reducible refine HQ'.out.mono ?_); rintro e w5 ⟨k5, A6, n6, c6, M, d6, m6, rfl, o5⟩)
            have gZ := World.grownBy_alloc w5 (.cells #[.int .i64 a, .int .i64 g, .int .i64 m6, .int .i64 b, .slice A6 n6 c6] 24) none
            have xz := Obj1.new w5 24 #[.int .i64 a, .int .i64 g, .int .i64 m6, .int .i64 b, .slice A6 n6 c6]
            obtain ⟨Z, hZ⟩ : ∃ Z, w5.alloc (.cells #[.int .i64 a, .int .i64 g, .int .i64 m6, .int .i64 b, .slice A6 n6 c6] 24) = Z := ⟨_, rfl⟩
            obtain ⟨z, hz⟩ : ∃ z, w5.heap.size = z := ⟨_, rfl⟩
            rw [hZ] at gZ xz
            rw [hz] at xz ⊢
            rw [hZ]
            have KZ := gb_trans k5 gZ
            have c1 := xz.cell 1
            have c2' := (BO.out.nw KZ).cell 1
            have o6 := o5.nw gZ
            have OUZ := OU.out.nw KZ
            have NZ := Lib.hid (gb_trans NR.out KZ)
            have hno' := HNO.out
            clear hZ hz xz gZ k5 o5 KZ OU AL ME BO NR HPP HNO HLB HRR HML HLAB HQ'
            rcases (show no = 0 ∨ no = 1 by omega) with e0 | e0
            · subst e0
              go_wp2_with fail
              refine wp_region_held (S := (fun w' => Nw Z w')) (by kernel_rfl) ?_
              change wpAnyH _ _ _ _ _ _ _ _ (World.drew Z)
              refine held_seg' (l := [0, 1, 2, 3, 4, 5, 6, 7, 8, 9, 10, 11, 12, 13, 14, 15]) (fuel := 0) rfl (by kernel_rfl) (by kernel_rfl) (by simp only [List.filterMap_cons, List.filterMap_nil, List.getElem?_toArray, List.getElem?_cons_succ, List.getElem?_cons_zero]; rfl) (fun _ _ d _ _ h => by cases d <;> exact h) (gb_drew (Nw.refl Z)) ?_
              iterate 6 (refine wpYield_step rfl (fun K hK => ?_)
                         apply Exists.intro
                         refine ⟨fun w' hw' => ?_, ?_⟩
                         · (go_simp; try with_reducible rfl)
                         go_simp
                         refine hK _ ?_
                         clear hK K)
              iterate 7 (refine wpYield_skipK rfl (fun K hK => ?_); go_simp; refine hK _ ?_; clear hK K)
              iterate 3 (refine wpYield_step rfl (fun K hK => ?_)
                         apply Exists.intro
                         refine ⟨fun w' hw' => ?_, ?_⟩
                         · (go_simp; try with_reducible rfl)
                         go_simp
                         refine hK _ ?_
                         clear hK K)
              refine wpYield_nil ?_
              refine wpAnyH_done (by kernel_rfl) ?_ _
              go_wp2
              go_ret
              exact ⟨rfl, gb_trans NZ.out (gb_drew (Nw.refl Z))⟩
            · subst e0
              obtain ⟨q, hq⟩ := List.length_eq_one_iff.1 hno'
              rw [hq] at o6 OUZ
              obtain ⟨g6, rfl, _⟩ := o6.some_ (by decide)
              obtain ⟨g7, rfl, _⟩ := OUZ.some_ (by decide)
              have k6 : ∀ w', Nw Z w' → w'.cell? ⟨g6, 0, none⟩ = some (.int .i64 q.id) := fun w' k => by
                obtain ⟨u6, hu6, k6, _⟩ := (o6.nw k).cellAt (k := 0) (by decide)
                cases hu6
                exact k6
              have k7 : ∀ w', Nw Z w' → w'.cell? ⟨g7, 0, none⟩ = some (.int .i64 q.id) := fun w' k => by
                obtain ⟨u6, hu6, k6, _⟩ := (OUZ.nw k).cellAt (k := 0) (by decide)
                cases hu6
                exact k6
              clear hq o6 OUZ
              go_wp2_with fail
              refine wp_region_held (S := (fun w' => Nw Z w')) (by kernel_rfl) ?_
              change wpAnyH _ _ _ _ _ _ _ _ (World.drew Z)
              refine held_seg' (l := [0, 1, 2, 3, 4, 5, 6, 7, 8, 9, 10, 11, 12, 13, 14, 15]) (fuel := 0) rfl (by kernel_rfl) (by kernel_rfl) (by simp only [List.filterMap_cons, List.filterMap_nil, List.getElem?_toArray, List.getElem?_cons_succ, List.getElem?_cons_zero]; rfl) (fun _ _ d _ _ h => by cases d <;> exact h) (gb_drew (Nw.refl Z)) ?_
              iterate 16 (refine wpYield_step rfl (fun K hK => ?_)
                          apply Exists.intro
                          refine ⟨fun w' hw' => ?_, ?_⟩
                          · (go_simp; try with_reducible rfl)
                          go_simp
                          refine hK _ ?_
                          clear hK K)
              refine wpYield_nil ?_
              refine wpAnyH_done (by kernel_rfl) ?_ _
              go_wp2
              go_ret
              exact ⟨rfl, gb_trans NZ.out (gb_drew (Nw.refl Z))⟩
theorem missing_all {w : World} (x : Lb) (h : LIn w x) (mask : Int) (hm : -9223372036854775808 ≤ mask ∧ mask ≤ 9223372036854775807) : Calls Try.prog 6 #[lv x, .int .i64 mask] w (Ret (.bool true) w) := missing_walk h (Nat.le_refl _) mask hm
end Go.Proofs.Ytkkkhkkjdjnfhaa

