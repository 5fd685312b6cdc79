/- What the law's length returns, for all acts; and the reference's Same of two equal scripts. -/
import Derived.Test.YtmcgfnfhpcddlaaL
namespace Go.Proofs.Ytmcgfnfhpcddlaa
open Go.RowKit Go.BW

set_option maxHeartbeats 4000000 in
theorem length_any {a : Act} (ho : a.s.length = 64) (w : World) : Calls Try.prog 23 #[.agg (actC a).toArray] w (Ret (.int .i64 (lenA a)) w) := by
  have hbx : ActO (w.alloc (.cells (actC a).toArray 44)) w.heap.size a := Obj1.new w 44 (actC a).toArray
  have hg0 := World.grownBy_alloc w (.cells (actC a).toArray 44) none
  obtain ⟨W, hW⟩ : ∃ V, w.alloc (.cells (actC a).toArray 44) = V := ⟨_, rfl⟩
  obtain ⟨y, hy⟩ : ∃ y, w.heap.size = y := ⟨_, rfl⟩
  rw [hW] at hbx hg0
  rw [hy] at hbx
  have BX := Lib.hid hbx; have N0 := Lib.hid hg0
  have hkk := hbx.k
  obtain ⟨k, hk⟩ : ∃ k, a.k = k := ⟨_, rfl⟩
  rw [hk] at hkk
  obtain ⟨L, hL⟩ : ∃ L, lenA a = L := ⟨_, rfl⟩
  rw [hL]
  have HL := hL
  unfold lenA at HL
  simp only [hk] at HL
  have hle := fillN_le a.s
  have hss : ∀ (ww : World), Nw W ww → ∀ j c, a.s[j]? = some c → ww.cell? ⟨y, 2 + j, none⟩ = some (.int .u8 (c.toNat : Int)) := fun ww k j c hc => by
    have := (BX.out.nw k).s
    rw [p64_of ho] at this
    exact this j _ (by rw [List.getElem?_map, hc]; rfl)
  have HSS := Lib.hid hss
  have HLL := Lib.hid HL
  clear hbx hg0 hss HL hL hk
  by_cases e1 : k = 1
  · subst e1
    have HF := Lib.hid (show 3 + fillN a.s = L from HLL.out)
    clear HLL
    go_enter Try.func23, Try.ntmps23
    go_wp2
    go_loopw [3] (fun i wr => ∃ n : Nat, i = .int .i64 (n : Int) ∧ n ≤ 64 ∧ fillN a.s ≤ n ∧ Nw W wr) (fun i _ => (intOf i).toNat)
    case atStart => exact ⟨64, rfl, Nat.le_refl _, by omega, Nw.refl _⟩
    case round =>
      obtain ⟨n, rfl, hn, hfl, hnw⟩ := hrel
      rcases n with _ | n
      · have hz : fillN a.s = 0 := by omega
        have HZ := Lib.hid hz
        clear hfl hz hle
        go_wp2
        go_ret
        exact ⟨by rw [← HF.out, HZ.out]; rfl, gb_trans N0.out hnw⟩
      · have hc : a.s[n]? = some a.s[n] := List.getElem?_eq_getElem (by omega)
        obtain ⟨c, hcc⟩ : ∃ c, a.s[n] = c := ⟨_, rfl⟩
        rw [hcc] at hc
        have hf := fill_step a.s hfl hc
        have hcell := HSS.out wr hnw n c hc
        have hlt : (0 : Int) < ((n + 1 : Nat) : Int) := by omega
        have hcast : ((n + 1 : Nat) : Int) - 1 = (n : Int) := by omega
        rcases Decidable.em (c = 0) with h0 | h0
        · have hh := Lib.hid (hf.1 h0)
          have hq : ((c.toNat : Int) == 0) = true := by rw [h0]; rfl
          clear hf hc hcc hfl h0 hle
          go_wp2
          go_roundw
          case rel => exact ⟨n, by go_num, by omega, hh.out, hnw⟩
          case measure => simp only [intOf]; omega
        · have hh := Lib.hid (hf.2 h0)
          have hq : ((c.toNat : Int) == 0) = false := by
            rw [beq_eq_false_iff_ne]
            intro e
            exact h0 (UInt8.toNat_inj.1 (by simpa using (show c.toNat = 0 by omega)))
          clear hf hc hcc hfl h0 hle
          go_wp2
          go_ret
          exact ⟨by rw [← HF.out, hh.out]; first | rfl | (congr 2; done) | (congr 2; omega), gb_trans N0.out hnw⟩
  have t1 : (k == 1) = false := by simpa using e1
  have HM := Lib.hid (show (if k = 2 ∨ k = 4 ∨ k = 6 then 2 else if k = 5 ∨ k = 9 then 3 else if k = 7 then 10 else if k = 8 then 11 else 1) = L from by have := HLL.out; rwa [if_neg e1] at this)
  clear HLL
  rcases (show k = 2 ∨ k = 4 ∨ k = 6 ∨ k = 5 ∨ k = 9 ∨ k = 7 ∨ k = 8 ∨ (k ≠ 2 ∧ k ≠ 4 ∧ k ≠ 6 ∧ k ≠ 5 ∧ k ≠ 9 ∧ k ≠ 7 ∧ k ≠ 8) by omega) with e | e | e | e | e | e | e | ⟨e2, e4, e6, e5, e9, e7, e8⟩
  iterate 7
    · subst e
      have HQ := Lib.hid HM.out
      clear HM t1
      go_enter Try.func23, Try.ntmps23
      go_wp2
      go_ret
      exact ⟨by rw [← HQ.out]; rfl, N0.out⟩
  · have HQ := Lib.hid (show 1 = L from by have := HM.out; rwa [if_neg (by omega), if_neg (by omega), if_neg (by omega), if_neg (by omega)] at this)
    have t2 : (k == 2) = false := by simpa using e2
    have t4 : (k == 4) = false := by simpa using e4
    have t6 : (k == 6) = false := by simpa using e6
    have t5 : (k == 5) = false := by simpa using e5
    have t9 : (k == 9) = false := by simpa using e9
    have t7 : (k == 7) = false := by simpa using e7
    have t8 : (k == 8) = false := by simpa using e8
    clear HM e1 e2 e4 e6 e5 e9 e7 e8
    go_enter Try.func23, Try.ntmps23
    go_wp2
    go_ret
    exact ⟨by rw [← HQ.out]; rfl, N0.out⟩
/-- '!=' of two acts in a region that draws -/
theorem wpYield_neq_act {ops : Array Oper} {S : World → Prop} {R : Go.Act → Prop} {rest : List Oper} {o : Oper} {a : Go.Act} (x y : Operand) (hop : o.op = .binOp .neq 44 x y 44) (hw : Region.wanted o (yielded ops a.tmps) = true) {b c : Act} (hb : b.s.length = 64) (hc : c.s.length = 64)
    (hx : a.eval x = .agg (actC b).toArray) (hy : a.eval y = .agg (actC c).toArray) {r : Bool} (hr : (!decide (b = c)) = r) (hK : wpYield Try.prog ops S R rest (a.put o.dst (.bool r))) : wpYield Try.prog ops S R (o :: rest) a := by
  refine wpYield_val hw (v := .bool r) (fun w _ => ?_) hK
  have hg : (eqGuard .neq 44 x y (.agg (actC b).toArray) (.agg (actC c).toArray)).run Try.prog w = .ok () w := Go.BW.run_eqGuard_agg x y _ _ (by kernel_rfl)
  have he := run_equal_act (w := w) hb hc
  unfold execOp
  simp only [hop, hx, hy, Sem.run_bind, hg, Result.andThen_ok]
  have hq : (binOp .neq 44 (.agg (actC b).toArray) (.agg (actC c).toArray)).run Try.prog w = .ok (.bool (!decide (b = c))) w := by
    simp only [binOp]
    rw [Sem.run_bind, he]
    simp
  rw [hq, hr]
  simp
set_option maxRecDepth 100000 in
set_option maxHeartbeats 4000000 in
theorem same_any {w : World} {B B' : Nat} {x y : Sc} (hx : SOk w B x) (hy : SOk w B' y) (hB : B ≤ w.heap.size) (hB' : B' ≤ w.heap.size) (he : scr x = scr y) (hm : x.n ≤ 1000000 ∧ x.m ≤ 1000000) : Calls Try.prog 19 #[sv x, sv y] w (Ret (.bool true) w) := by
  have zl := hx.zl; have al := hx.al; have zl' := hy.zl; have al' := hy.al
  obtain ⟨num, A, n, c, sz, bl, D, m, d, acts⟩ := x
  obtain ⟨num', A', n', c', sz', bl', D', m', d', acts'⟩ := y
  simp only [scr, Scr.mk.injEq] at he
  obtain ⟨rfl, rfl, rfl, rfl⟩ := he
  simp only at zl al zl' al' hm
  subst zl'; subst al'
  obtain rfl : sz.length = n := zl
  obtain rfl : acts.length = m := al
  unfold sv
  simp only
  have b1 := obj_fst w 25 #[.int .i64 num, .slice A sz.length c, .int .i64 bl, .slice D acts.length d] (.cells #[.int .i64 num, .slice A' sz.length c', .int .i64 bl, .slice D' acts.length d'] 25)
  have b2 := obj_snd w (.cells #[.int .i64 num, .slice A sz.length c, .int .i64 bl, .slice D acts.length d] 25) 25 #[.int .i64 num, .slice A' sz.length c', .int .i64 bl, .slice D' acts.length d']
  have g2 := gb_trans (World.grownBy_alloc w (.cells #[.int .i64 num, .slice A sz.length c, .int .i64 bl, .slice D acts.length d] 25) none) (World.grownBy_alloc _ (.cells #[.int .i64 num, .slice A' sz.length c', .int .i64 bl, .slice D' acts.length d'] 25) none)
  obtain ⟨n, hn⟩ : ∃ n, sz.length = n := ⟨_, rfl⟩
  obtain ⟨m, hm'⟩ : ∃ m, acts.length = m := ⟨_, rfl⟩
  rw [hn, hm'] at b1 b2 g2 hm hx hy ⊢
  have HN := Lib.hid hn; have HM := Lib.hid hm'
  clear hn hm'
  go_enter Try.func19, Try.ntmps19
  go_upto_region 1 with fail
  obtain ⟨V, hV⟩ : ∃ V, (w.alloc (.cells #[.int .i64 num, .slice A n c, .int .i64 bl, .slice D m d] 25)).alloc (.cells #[.int .i64 num, .slice A' n c', .int .i64 bl, .slice D' m d'] 25) = V := ⟨_, rfl⟩
  rw [hV] at b1 b2 g2
  rw [hV]
  obtain ⟨y, hy1⟩ : ∃ y, w.heap.size = y := ⟨_, rfl⟩
  rw [hy1] at b1 b2 ⊢
  obtain ⟨z, hz1⟩ : ∃ z, y + 1 = z := ⟨_, rfl⟩
  rw [hz1] at b2
  rw [hz1]
  have B1 := Lib.hid b1; have B2 := Lib.hid b2; have N2 := Lib.hid g2
  have X := Lib.hid (hx.nw N2.out hB); have Y := Lib.hid (hy.nw N2.out hB')
  have hBV := Nat.le_trans hB N2.out.size; have hBV' := Nat.le_trans hB' N2.out.size
  have p0 := b1.cell 0; have p1 := b1.cell 1; have p2 := b1.cell 2; have p3 := b1.cell 3
  have q0 := b2.cell 0; have q1 := b2.cell 1; have q2 := b2.cell 2; have q3 := b2.cell 3
  have e0 : (num != num) = false := by simp
  have e1 : (bl != bl) = false := by simp
  have e2 : ((n : Int) != (n : Int)) = false := by simp
  have e3 : ((m : Int) != (m : Int)) = false := by simp
  clear b1 b2 g2 hV hy1 hz1 hx hy
  go_upto_region 3 with fail
  clear e0 e1 e2 e3 p0 p1 p2 p3 q0 q1 q2 q3
  go_wp2_with fail
  go_loopw [5] (fun i wr => ∃ j : Nat, j ≤ n ∧ i = .int .i64 j ∧ Nw V wr) (fun i _ => n - (intOf i).toNat)
  case atStart => exact ⟨0, Nat.zero_le _, rfl, Nw.refl _⟩
  case round =>
    obtain ⟨j, hj, rfl, hnw⟩ := hrel
    have p1 := (B1.out.nw hnw).cell 1
    rcases (show j < n ∨ j = n by omega) with hlt | rfl
    · have d1 : (j : Int) < (n : Int) := by omega
      obtain ⟨b, off, rfl, hz, hc⟩ := (X.out.z.nw hnw hBV).atI hlt
      obtain ⟨b', off', rfl, hz', hc'⟩ := (Y.out.z.nw hnw hBV').atI hlt
      obtain ⟨v, hv⟩ : ∃ v, sz[j] = v := ⟨_, rfl⟩
      simp only [hv] at hc hc'
      have f1 : ∀ w', Nw wr w' → w'.cell? ⟨y, 1, none⟩ = some (.slice (some ⟨b, off, none⟩) n c) := fun w' k => (B1.out.nw (gb_trans hnw k)).cell 1
      have f2 : ∀ w', Nw wr w' → w'.cell? ⟨z, 1, none⟩ = some (.slice (some ⟨b', off', none⟩) n c') := fun w' k => (B2.out.nw (gb_trans hnw k)).cell 1
      have f3 : ∀ w', Nw wr w' → w'.cell? ⟨b, off + j, none⟩ = some (.int .i64 v) := fun w' k => (World.cell?_of_block (k.block b (World.block_lt_of_cell? _ _ hc) (by simp))).trans hc
      have f4 : ∀ w', Nw wr w' → w'.cell? ⟨b', off' + j, none⟩ = some (.int .i64 v) := fun w' k => (World.cell?_of_block (k.block b' (World.block_lt_of_cell? _ _ hc') (by simp))).trans hc'
      have ev : (v != v) = false := by simp
      clear hc hc' hv hz hz'
      go_upto_region 6 with fail
      refine wp_region_held (S := (fun w' => Nw wr w')) (by kernel_rfl) ?_
      change wpAnyH _ _ _ _ _ _ _ _ (World.drew wr)
      refine held_seg' (l := [0, 1, 2, 3, 4, 5, 6, 7, 8, 9, 10]) (fuel := 0) rfl (by kernel_rfl) (by kernel_rfl) (by simp only [List.filterMap_cons, List.filterMap_nil, List.getElem?_toArray, List.getElem?_cons_succ, List.getElem?_cons_zero]; rfl) (fun _ _ d _ _ h => by cases d <;> exact h) (gb_drew (Nw.refl wr)) ?_
      iterate 11 (refine wpYield_step rfl (fun K hK => ?_)
                  apply Exists.intro
                  refine ⟨fun w' hw' => ?_, ?_⟩
                  · (go_simp; try with_reducible rfl)
                  go_simp
                  refine hK _ ?_
                  clear hK K)
      refine wpYield_nil ?_
      refine wpAnyH_done (by kernel_rfl) ?_ _
      go_wp2
      go_roundw
      case rel => exact ⟨j + 1, by omega, by go_num, gb_trans hnw (gb_drew (Nw.refl wr))⟩
      case measure => simp only [intOf]; omega
    · have d1 : decide ((j : Int) < (j : Int)) = false := by simp
      go_wp2_with fail
      go_loopw [6] (fun i wr => ∃ t : Nat, t ≤ m ∧ i = .int .i64 t ∧ Nw V wr) (fun i _ => m - (intOf i).toNat)
      case atStart => exact ⟨0, Nat.zero_le _, rfl, hnw⟩
      case round =>
        obtain ⟨t, ht, rfl, hnw⟩ := hrel
        have p3 := (B1.out.nw hnw).cell 3
        rcases (show t < m ∨ t = m by omega) with hlt | rfl
        · have d2 : (t : Int) < (m : Int) := by omega
          obtain ⟨_, b, off, v, rfl, hb, hv, hc⟩ := (X.out.a.nw hnw hBV).atL actC_len (by decide) hlt
          obtain ⟨_, b', off', v', rfl, hb', hv', hc'⟩ := (Y.out.a.nw hnw hBV').atL actC_len (by decide) hlt
          rw [hv] at hv'
          injection hv' with hv'
          subst hv'
          have hvo := (X.out.ok v (List.mem_of_getElem? hv)).s
          have f1 : ∀ w', Nw wr w' → w'.cell? ⟨y, 3, none⟩ = some (.slice (some ⟨b, off, none⟩) m d) := fun w' k => (B1.out.nw (gb_trans hnw k)).cell 3
          have f2 : ∀ w', Nw wr w' → w'.cell? ⟨z, 3, none⟩ = some (.slice (some ⟨b', off', none⟩) m d') := fun w' k => (B2.out.nw (gb_trans hnw k)).cell 3
          have F3 := Lib.hid (fun w' (k : Nw wr w') => show ∀ i u, (actC v)[i]? = some u → w'.cell? ⟨b, off + t * 69 + i, none⟩ = some u from fun i u hu => (World.cell?_of_block (k.block b (by have := hnw.size; omega) (by simp))).trans (hc i u hu))
          have F4 := Lib.hid (fun w' (k : Nw wr w') => show ∀ i u, (actC v)[i]? = some u → w'.cell? ⟨b', off' + t * 69 + i, none⟩ = some u from fun i u hu => (World.cell?_of_block (k.block b' (by have := hnw.size; omega) (by simp))).trans (hc' i u hu))
          have ev : (!decide (v = v)) = false := by simp
          clear hc hc' hv
          go_upto_region 11 with fail
          refine wp_region_held (S := (fun w' => Nw wr w')) (by kernel_rfl) ?_
          change wpAnyH _ _ _ _ _ _ _ _ (World.drew wr)
          refine held_seg' (l := [0, 1, 2, 3, 4, 5, 6, 7, 8, 9, 10]) (fuel := 0) rfl (by kernel_rfl) (by kernel_rfl) (by simp only [List.filterMap_cons, List.filterMap_nil, List.getElem?_toArray, List.getElem?_cons_succ, List.getElem?_cons_zero]; rfl) (fun _ _ d _ _ h => by cases d <;> exact h) (gb_drew (Nw.refl wr)) ?_
          iterate 4 (refine wpYield_step rfl (fun K hK => ?_)
                     apply Exists.intro
                     refine ⟨fun w' hw' => ?_, ?_⟩
                     · (go_simp; try with_reducible rfl)
                     go_simp
                     refine hK _ ?_
                     clear hK K)
          refine wpYield_load_agg 44 _ rfl rfl rfl (actC v) (fun w' hw' => F3.out w' hw') _ Try.underlying44 rfl (i44' v) ?_
          iterate 4 (refine wpYield_step rfl (fun K hK => ?_)
                     apply Exists.intro
                     refine ⟨fun w' hw' => ?_, ?_⟩
                     · (go_simp; try with_reducible rfl)
                     go_simp
                     refine hK _ ?_
                     clear hK K)
          refine wpYield_load_agg 44 _ rfl rfl rfl (actC v) (fun w' hw' => F4.out w' hw') _ Try.underlying44 rfl (i44' v) ?_
          refine wpYield_neq_act _ _ rfl rfl hvo hvo rfl rfl ev ?_
          refine wpYield_nil ?_
          refine wpAnyH_done (by kernel_rfl) ?_ _
          go_wp2
          go_roundw
          case rel => exact ⟨t + 1, by omega, by go_num, gb_trans hnw (gb_drew (Nw.refl wr))⟩
          case measure => simp only [intOf]; omega
        · have d2 : decide ((t : Int) < (t : Int)) = false := by simp
          go_wp2
          go_ret
          exact ⟨rfl, gb_trans N2.out hnw⟩
end Go.Proofs.Ytmcgfnfhpcddlaa

