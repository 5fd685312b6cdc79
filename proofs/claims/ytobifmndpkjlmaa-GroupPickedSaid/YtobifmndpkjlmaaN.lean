/- group.Spare and the document's: the most extents that one disk has. -/
import Derived.Test.YtobifmndpkjlmaaJ
import Derived.Test.YtobifmndpkjlmaaMapI
import Derived.Carry
namespace Go.Proofs.Ytobifmndpkjlmaa
open Go.RowKit Go.BW

def cntE (L : List Et) (d : Int) : Nat := L.countP fun e => e.dk == d
def allE (gs : List Gp) : List Et := gs.flatMap (·.es)
structure SpareIs (L : List Et) (disks : Int) (v : Nat) : Prop where
  up : ∀ d, 0 ≤ d → d < disks → cntE L d ≤ v
  is : v = 0 ∨ ∃ d, 0 ≤ d ∧ d < disks ∧ cntE L d = v
theorem SpareIs.uniq {L : List Et} {disks : Int} {v v' : Nat} (h : SpareIs L disks v) (h' : SpareIs L disks v') : v = v' := by
  rcases h.is with h1 | ⟨d, d0, d1, d2⟩
  · rcases h'.is with h2 | ⟨d', e0, e1, e2⟩
    · omega
    · have := h.up d' e0 e1; omega
  · have h3 := h'.up d d0 d1
    rcases h'.is with h2 | ⟨d', e0, e1, e2⟩
    · omega
    · have := h.up d' e0 e1; omega
theorem cntE_snoc (L : List Et) (e : Et) (d : Int) : cntE (L ++ [e]) d = cntE L d + if e.dk = d then 1 else 0 := by
  unfold cntE
  rw [List.countP_append, List.countP_singleton]
  simp
theorem cntE_le (L : List Et) (d : Int) : cntE L d ≤ L.length := List.countP_le_length
theorem SpareIs.nil (disks : Int) : SpareIs [] disks 0 := ⟨fun d _ _ => by simp [cntE], .inl rfl⟩
theorem SpareIs.out {L : List Et} {disks : Int} {v : Nat} {e : Et} (h : SpareIs L disks v) (he : ¬ (0 ≤ e.dk ∧ e.dk < disks)) : SpareIs (L ++ [e]) disks v := by
  have hc : ∀ d, 0 ≤ d → d < disks → cntE (L ++ [e]) d = cntE L d := fun d h0 h1 => by
    rw [cntE_snoc, if_neg (by rintro rfl; exact he ⟨h0, h1⟩), Nat.add_zero]
  refine ⟨fun d h0 h1 => by rw [hc d h0 h1]; exact h.up d h0 h1, ?_⟩
  rcases h.is with h1 | ⟨d, d0, d1, d2⟩
  · exact .inl h1
  · exact .inr ⟨d, d0, d1, by rw [hc d d0 d1]; exact d2⟩
theorem SpareIs.inn {L : List Et} {disks : Int} {v : Nat} {e : Et} (h : SpareIs L disks v) (h0 : 0 ≤ e.dk) (h1 : e.dk < disks) : SpareIs (L ++ [e]) disks (max v (cntE L e.dk + 1)) := by
  have hs : cntE (L ++ [e]) e.dk = cntE L e.dk + 1 := by rw [cntE_snoc, if_pos rfl]
  refine ⟨fun d d0 d1 => ?_, ?_⟩
  · rw [cntE_snoc]
    have := h.up d d0 d1
    split
    · next hh => subst hh; omega
    · omega
  · rcases Nat.le_total v (cntE L e.dk + 1) with hv | hv
    · exact .inr ⟨e.dk, h0, h1, by rw [hs]; omega⟩
    · rcases h.is with h2 | ⟨d, d0, d1, d2⟩
      · omega
      · by_cases hd : e.dk = d
        · subst hd; omega
        · exact .inr ⟨d, d0, d1, by rw [cntE_snoc, if_neg hd]; omega⟩
/-- what the map holds -/
def cm (L : List Et) (disks : Int) : Int → Option Value := fun x => if 0 ≤ x ∧ x < disks ∧ 0 < cntE L x then some (.int .i64 (cntE L x : Nat)) else none
theorem cm_at {L : List Et} {disks x : Int} (h0 : 0 ≤ x) (h1 : x < disks) : (cm L disks x).getD (.int .i64 0) = .int .i64 (cntE L x : Nat) := by
  unfold cm
  split
  · rfl
  · next h =>
    have : cntE L x = 0 := by
      rcases Nat.eq_zero_or_pos (cntE L x) with h2 | h2
      · exact h2
      · exact absurd ⟨h0, h1, h2⟩ h
    rw [this]; rfl
theorem cm_inn {L : List Et} {disks : Int} {e : Et} (h0 : 0 ≤ e.dk) (h1 : e.dk < disks) : (fun z => if z = e.dk then some (Value.int .i64 ((cntE L e.dk : Int) + 1)) else cm L disks z) = cm (L ++ [e]) disks := by
  funext z
  unfold cm
  rw [cntE_snoc]
  by_cases hz : z = e.dk
  · subst hz
    rw [if_pos rfl, if_pos rfl, if_pos ⟨h0, h1, by omega⟩, Int.natCast_add]
    rfl
  · rw [if_neg hz, if_neg (fun h : e.dk = z => hz h.symm), Nat.add_zero]
theorem cm_out {L : List Et} {disks : Int} {e : Et} (he : ¬ (0 ≤ e.dk ∧ e.dk < disks)) : cm L disks = cm (L ++ [e]) disks := by
  funext z
  unfold cm
  rw [cntE_snoc]
  by_cases hz : e.dk = z
  · subst hz
    rw [if_neg (fun h => he ⟨h.1, h.2.1⟩), if_neg (fun h => he ⟨h.1, h.2.1⟩)]
  · rw [if_neg hz, Nat.add_zero]
theorem cm_nil (disks : Int) : (fun _ => none) = cm [] disks := by funext z; simp [cm, cntE]
theorem MT55 : MapT Try.prog 55 3 3 (.int .i64 0) := ⟨Try.underlying55, Try.underlying3, fun w => by
  have h : (Try.prog.info? 3).map (·.zero) = some (some (.int .i64 0)) := by kernel_rfl
  obtain ⟨i, hi, hz⟩ := Option.map_eq_some_iff.1 h
  simp [zeroValue, typeInfo, hi, hz]⟩
section
variable {P : Program} {ops : Array Oper} {rest : List Oper} {o : Oper} {a : Act} {Q : Exit → Act → World → Prop} {w : World}
theorem wpList_mk' (t : TypeId) (hop : o.op = .makeMap t none) (hw : Region.wanted o (yielded ops a.tmps) = true) (hK : wpList P ops Q rest (a.put o.dst (.map (some w.heap.size))) (w.alloc (.map #[] 0))) : wpList P ops Q (o :: rest) a w := by
  refine wpList_ran hw (v := .map (some w.heap.size)) (w' := w.alloc (.map #[] 0)) ?_ hK
  unfold execOp
  simp [hop, run_makeMap]
end
def SparePost (gs : List Gp) (disks : Int) (w : World) (e : Ending) (w' : World) : Prop := ∃ v : Nat, e = .returned (.int .i64 v) ∧ SpareIs (allE gs) disks v ∧ v ≤ (allE gs).length ∧ Nw w w'
theorem allE_take {gs : List Gp} {k : Nat} {x : Gp} (h : gs[k]? = some x) : allE (gs.take (k + 1)) = allE (gs.take k) ++ x.es := by
  obtain ⟨hk, rfl⟩ := List.getElem?_eq_some_iff.1 h
  unfold allE
  rw [List.take_succ_eq_append_getElem hk, List.flatMap_append]
  simp
set_option maxHeartbeats 8000000 in
theorem spare_any {w : World} {B m c2 : Nat} {A2 : Option Addr} {gs : List Gp} (hg : GsR w B A2 m gs) (hB : B ≤ w.heap.size) (hm : m ≤ 1000000) (disks : Int) : Calls Try.prog 20 #[.slice A2 m c2, .int .i64 disks] w (SparePost gs disks w) := by
  have hglen := hg.len
  have HG := Lib.hid hg; have HB := Lib.hid hB; have HGL := Lib.hid hglen
  have hmp := MapI.new w
  have hn0 := World.grownBy_alloc w (.map #[] 0) none
  have HMP := Lib.hid (show MapI (w.alloc (.map #[] 0)) w.heap.size (cm [] disks) from by rw [← cm_nil]; exact hmp)
  have N0 := Lib.hid hn0
  clear hg hB hglen hmp hn0
  go_enter Try.func20, Try.ntmps20
  go_wp2_with ((with_reducible refine wpList_mk' 55 (by with_unfolding_all exact rfl) (by with_unfolding_all exact rfl) ?_))
  obtain ⟨W, hW⟩ : ∃ W, w.alloc (.map #[] 0) = W := ⟨_, rfl⟩
  obtain ⟨mp, hmp⟩ : ∃ y, w.heap.size = y := ⟨_, rfl⟩
  rw [hW] at HMP N0 ⊢
  rw [hmp] at HMP ⊢
  have HW := Lib.hid hmp
  clear hW hmp
  go_loopw [6, 14] (fun s v wr => ∃ (k z : Nat), v = .int .i64 k ∧ s = .int .i64 z ∧ k ≤ m ∧ Hid (SpareIs (allE (gs.take k)) disks z) ∧ Hid ((allE (gs.take k)).length ≤ k * 1000000 ∧ z ≤ (allE (gs.take k)).length) ∧ Hid (MapI wr mp (cm (allE (gs.take k)) disks)) ∧ Nw w wr) (fun _ v _ => m - (intOf v).toNat)
  case atStart => exact ⟨0, 0, rfl, rfl, Nat.zero_le _, Lib.hid (SpareIs.nil _), Lib.hid (by simp [allE]), HMP, N0.out⟩
  case round =>
    obtain ⟨k, z, rfl, rfl, hk, hsp, hsz, hmi, hnw⟩ := hrel
    obtain ⟨wa, rfl⟩ : ∃ q, q = wr := ⟨_, rfl⟩
    by_cases hlt : k < m
    · have hltz : (k : Int) < (m : Int) := by omega
      have HG3 := Lib.hid (HG.out.nw hnw HB.out)
      have HB3 := Lib.hid (Nat.le_trans HB.out hnw.size)
      obtain ⟨_, b, off, x, hA, _, hx, hc⟩ := HG3.out.rd.atL gc_len (by decide) hlt
      subst hA
      have hok := HG3.out.all x (List.mem_of_getElem? hx)
      have HT := Lib.hid (allE_take hx)
      have HC := Lib.hid hc
      obtain ⟨xi, xk, xA, xn, xc, xe⟩ := x
      change Hid (∀ j u, [Value.int .i64 xi, .int .i64 xk, .slice xA xn xc][j]? = some u → _) at HC
      have hxl := hok.len
      have hnm := hok.nm
      have hrd := (HG.out.all _ (List.mem_of_getElem? hx)).rd
      simp only at HT hxl hnm hrd
      have HXL := Lib.hid hxl
      have HRD := Lib.hid hrd
      have hbx := (Obj1.new wa 37 #[.int .i64 xi, .int .i64 xk, .slice xA xn xc]).cell 2
      clear hx hok hc hxl hrd
      go_wp2_with (first
        | ((with_reducible refine wpList_load_agg 37 _ (by with_unfolding_all exact rfl) (by with_unfolding_all exact rfl) (by with_unfolding_all exact rfl) [Value.int .i64 xi, .int .i64 xk, .slice xA xn xc] HC.out _ Try.underlying37 (by with_unfolding_all exact rfl) (by kernel_rfl) ?_)))
      have HN1 := Lib.hid (World.grownBy_alloc wa (.cells #[.int .i64 xi, .int .i64 xk, .slice xA xn xc] 37) none)
      obtain ⟨wb, hwb⟩ : ∃ wb, wa.alloc (.cells #[.int .i64 xi, .int .i64 xk, .slice xA xn xc] 37) = wb := ⟨_, rfl⟩
      rw [hwb] at HN1 hbx ⊢
      clear hwb hbx
      have HNB := Lib.hid (gb_trans hnw HN1.out)
      have HMB := Lib.hid (hmi.out.nw HN1.out)
      go_loopw [6, 21] (fun s v wr => ∃ (j z : Nat), v = .int .i64 j ∧ s = .int .i64 z ∧ j ≤ xn ∧ Hid (SpareIs (allE (gs.take k) ++ xe.take j) disks z) ∧ z ≤ k * 1000000 + j ∧ Hid ((allE (gs.take k) ++ xe.take j).length = (allE (gs.take k)).length + j ∧ z ≤ (allE (gs.take k) ++ xe.take j).length) ∧ Hid (MapI wr mp (cm (allE (gs.take k) ++ xe.take j) disks)) ∧ Nw w wr) (fun _ v _ => xn - (intOf v).toNat)
      case atStart => exact ⟨0, z, rfl, rfl, Nat.zero_le _, Lib.hid (by simpa using hsp.out), by have := hsz.out; omega, Lib.hid (by simpa using hsz.out.2), Lib.hid (by simpa using HMB.out), HNB.out⟩
      case round =>
        obtain ⟨j, z2, rfl, rfl, hj, hsp2, hzj, hle, hmi2, hnw2⟩ := hrel
        by_cases hl2 : j < xn
        · have hl2z : (j : Int) < (xn : Int) := by omega
          obtain ⟨_, eb, eo, e, hA, _, he, hce⟩ := (HRD.out.nw hnw2 HB.out).atL ec_len (by decide) hl2
          subst hA
          have HCE := Lib.hid hce
          have HTE := Lib.hid (show xe.take (j + 1) = xe.take j ++ [e] by
            obtain ⟨hk2, rfl⟩ := List.getElem?_eq_some_iff.1 he
            exact List.take_succ_eq_append_getElem hk2)
          obtain ⟨ed, ep⟩ := e
          change Hid (∀ j u, [Value.int .i64 ed, .int .i64 ep][j]? = some u → _) at HCE
          have hbe := Obj1.new wr 39 #[.int .i64 ed, .int .i64 ep]
          have hne := World.grownBy_alloc wr (.cells #[.int .i64 ed, .int .i64 ep] 39) none
          have HBE := Lib.hid hbe; have HNE := Lib.hid hne
          have HLE := Lib.hid (show (allE (gs.take k) ++ xe.take (j + 1)).length = (allE (gs.take k)).length + (j + 1) by rw [HTE.out, ← List.append_assoc, List.length_append, hle.out.1]; simp; omega)
          clear hce he hbe hne
          by_cases hin : 0 ≤ ed ∧ ed < disks
          · have hi1 := hin.1
            have hi2 := hin.2
            have d1 : decide (0 ≤ ed) = true := decide_eq_true hi1
            have HS2 := Lib.hid (hsp2.out.inn (e := ⟨ed, ep⟩) hi1 hi2)
            have HM2 := Lib.hid (show MapI (wr.alloc (.cells #[.int .i64 ed, .int .i64 ep] 39)) mp (cm (allE (gs.take k) ++ xe.take j) disks) from hmi2.out.nw HNE.out)
            have hcl := cntE_le (allE (gs.take k) ++ xe.take j) ed
            have hca := cm_at (L := allE (gs.take k) ++ xe.take j) hi1 hi2
            have hci := cm_inn (L := allE (gs.take k) ++ xe.take j) (e := ⟨ed, ep⟩) hi1 hi2
            simp only at HS2 hci
            obtain ⟨q, hq⟩ : ∃ q, cntE (allE (gs.take k) ++ xe.take j) ed = q := ⟨_, rfl⟩
            rw [hq] at HS2 hcl hca hci
            have HCA := Lib.hid hca; have HCI := Lib.hid hci
            have hql : q ≤ k * 1000000 + j := by have h1 := hle.out.1; have h2 := hsz.out.1; omega
            have hqb : q ≤ 2000000000000 := by omega
            have HQL := Lib.hid hcl
            have hca2 : ((fun z => if z = ed then some (Value.int .i64 ((q : Int) + 1)) else cm (allE (gs.take k) ++ xe.take j) disks z) ed).getD (.int .i64 0) = .int .i64 ((q : Int) + 1) := by simp
            have HCB := Lib.hid hca2
            have HMX := Lib.hid (show (if (z2 : Int) < (q : Int) + 1 then (q : Int) + 1 else (z2 : Int)) = ((max z2 (q + 1) : Nat) : Int) by split <;> omega)
            obtain ⟨mx, hmx⟩ : ∃ mx, max z2 (q + 1) = mx := ⟨_, rfl⟩
            have hmx' : mx ≤ k * 1000000 + (j + 1) := by omega
            have HML := Lib.hid (show mx ≤ (allE (gs.take k) ++ xe.take (j + 1)).length from by rw [HLE.out]; have h1 := hle.out; omega)
            rw [hmx] at HMX HS2
            clear hca hci hca2 hq hcl hin hmx
            go_wp2_with (first
              | ((with_reducible refine wpList_max_int _ _ _ (by with_unfolding_all exact rfl) (by with_unfolding_all exact rfl) (z2 : Int) ((q : Int) + 1) (by with_unfolding_all exact rfl) (by with_unfolding_all exact rfl) HMX.out ?_))
              | ((with_reducible refine wpList_lookI MT55 _ _ (by with_unfolding_all exact rfl) (by with_unfolding_all exact rfl) (by with_unfolding_all exact rfl) ed (by with_unfolding_all exact rfl) M3.out HCB.out ?_))
              | ((with_reducible refine wpList_updI MT55 _ _ _ (by with_unfolding_all exact rfl) (by with_unfolding_all exact rfl) (by with_unfolding_all exact rfl) ed (by with_unfolding_all exact rfl) (.int .i64 ((q : Int) + 1)) (by with_unfolding_all exact rfl) HM2.out ?_); intro w3 m3 g3; have M3 := Lib.hid m3; have G3 := Lib.hid g3; have ce := (HBE.out.eq (g3.block _ HBE.out.lt (fun e => by injection e with e; exact HM2.out.ne HBE.out e.symm))).cell 0; clear m3 g3)
              | ((with_reducible refine wpList_lookI MT55 _ _ (by with_unfolding_all exact rfl) (by with_unfolding_all exact rfl) (by with_unfolding_all exact rfl) ed (by with_unfolding_all exact rfl) HM2.out HCA.out ?_))
              | ((with_reducible refine wpList_load_agg 39 _ (by with_unfolding_all exact rfl) (by with_unfolding_all exact rfl) (by with_unfolding_all exact rfl) [Value.int .i64 ed, .int .i64 ep] HCE.out _ Try.underlying39 (by with_unfolding_all exact rfl) (by kernel_rfl) ?_)))
            go_roundw
            case rel => exact ⟨j + 1, mx, by go_num, rfl, by omega, Lib.hid (by rw [HTE.out, ← List.append_assoc]; exact HS2.out), hmx', Lib.hid ⟨HLE.out, HML.out⟩, Lib.hid (by rw [HTE.out, ← List.append_assoc, ← HCI.out]; exact M3.out), nw_of_gb (gb_trans hnw2 HNE.out) G3.out (fun y hy => by injection hy with hy; subst hy; rw [HW.out]; exact Nat.le_refl _)⟩
            case measure => simp only [intOf]; omega
          · have HS2 := Lib.hid (hsp2.out.out (e := ⟨ed, ep⟩) hin)
            have HCO := Lib.hid (cm_out (L := allE (gs.take k) ++ xe.take j) (e := ⟨ed, ep⟩) hin)
            have HZL := Lib.hid (show z2 ≤ (allE (gs.take k) ++ xe.take (j + 1)).length from by rw [HLE.out]; have h1 := hle.out; omega)
            rcases (show ed < 0 ∨ 0 ≤ ed by omega) with h5 | h5
            · have d1 : decide (0 ≤ ed) = false := decide_eq_false (by omega)
              clear hin
              go_wp2_with (first
                | ((with_reducible refine wpList_load_agg 39 _ (by with_unfolding_all exact rfl) (by with_unfolding_all exact rfl) (by with_unfolding_all exact rfl) [Value.int .i64 ed, .int .i64 ep] HCE.out _ Try.underlying39 (by with_unfolding_all exact rfl) (by kernel_rfl) ?_)))
              go_roundw
              case rel => exact ⟨j + 1, z2, by go_num, rfl, by omega, Lib.hid (by rw [HTE.out, ← List.append_assoc]; exact HS2.out), by omega, Lib.hid ⟨HLE.out, HZL.out⟩, Lib.hid (by rw [HTE.out, ← List.append_assoc, ← HCO.out]; exact hmi2.out.nw HNE.out), gb_trans hnw2 HNE.out⟩
              case measure => simp only [intOf]; omega
            · have d1 : decide (0 ≤ ed) = true := decide_eq_true h5
              have h7 : ¬ ed < disks := fun h => hin ⟨h5, h⟩
              clear hin
              go_wp2_with (first
                | ((with_reducible refine wpList_load_agg 39 _ (by with_unfolding_all exact rfl) (by with_unfolding_all exact rfl) (by with_unfolding_all exact rfl) [Value.int .i64 ed, .int .i64 ep] HCE.out _ Try.underlying39 (by with_unfolding_all exact rfl) (by kernel_rfl) ?_)))
              go_roundw
              case rel => exact ⟨j + 1, z2, by go_num, rfl, by omega, Lib.hid (by rw [HTE.out, ← List.append_assoc]; exact HS2.out), by omega, Lib.hid ⟨HLE.out, HZL.out⟩, Lib.hid (by rw [HTE.out, ← List.append_assoc, ← HCO.out]; exact hmi2.out.nw HNE.out), gb_trans hnw2 HNE.out⟩
              case measure => simp only [intOf]; omega
        · have hjn : j = xn := by omega
          have HE := Lib.hid (show allE (gs.take k) ++ xe.take j = allE (gs.take (k + 1)) by rw [HT.out, List.take_of_length_le (l := xe) (by rw [HXL.out]; omega)])
          have hsp3 := hsp2.out; have hle3 := hle.out; have hmi3 := hmi2.out
          rw [HE.out] at hsp3 hle3 hmi3
          have S3 := Lib.hid hsp3; have M3 := Lib.hid hmi3
          have L3 := Lib.hid (show (allE (gs.take (k + 1))).length ≤ (k + 1) * 1000000 ∧ z2 ≤ (allE (gs.take (k + 1))).length from ⟨by have := hsz.out.1; omega, hle3.2⟩)
          have hjn' : ¬ j < xn := by omega
          clear hsp3 hle3 hmi3 hjn
          go_wp2_with fail
          go_roundw
          case rel => exact ⟨k + 1, z2, by go_num, rfl, by omega, S3, L3, M3, hnw2⟩
          case measure => simp only [intOf]; omega
    · have hkm : k = m := by omega
      have HF := Lib.hid (show gs.take k = gs from List.take_of_length_le (by rw [HGL.out]; omega))
      clear hkm
      go_wp2
      go_ret
      exact ⟨z, rfl, by have := hsp.out; rwa [HF.out] at this, by have := hsz.out.2; rwa [HF.out] at this, hnw⟩
end Go.Proofs.Ytobifmndpkjlmaa

