/- What the law's length returns, for all acts; and the reference's Same of two equal scripts. -/
import Derived.Test.YtmcgfnfhpcddlaaJJ
import Derived.Test.YtmcgfnfhpcddlaaJF
import Derived.Test.YtmcgfnfhpcddlaaJB
set_option linter.unusedVariables false
set_option linter.unusedSimpArgs false
/- What the law's length returns, for all acts; and the reference's Same of two equal scripts. -/
namespace Go.Proofs.Ytmcgfnfhpcddlaa
open Go.RowKit Go.BW

set_option maxHeartbeats 4000000 in
theorem length_any {a : Act} (ho : a.s.length = 64) (w : World) : Calls Try.prog 23 #[.agg (actC a).toArray] w (Ret (.int .i64 (lenA a)) w) := by
  have hbx : ActO (w.alloc (.cells (actC a).toArray 44)) w.heap.size a := Obj1.new w 44 (actC a).toArray
  have hg0 := World.grownBy_alloc w (.cells (actC a).toArray 44) none
  obtain ⟨W, hW⟩ : ∃ V, w.alloc (.cells (actC a).toArray 44) = V := ⟨_, rfl⟩
  obtain ⟨y, hy⟩ : ∃ y, w.heap.size = y := ⟨_, rfl⟩
  rw [hW] at hbx hg0
  rw [hy] at hbx
  have BX := Lib.hid hbx; have N0 := Lib.hid hg0
  have hkk := hbx.k
  obtain ⟨k, hk⟩ : ∃ k, a.k = k := ⟨_, rfl⟩
  rw [hk] at hkk
  obtain ⟨L, hL⟩ : ∃ L, lenA a = L := ⟨_, rfl⟩
  rw [hL]
  have HL := hL
  unfold lenA at HL
  simp only [hk] at HL
  have hle := fillN_le a.s
  have hss : ∀ (ww : World), Nw W ww → ∀ j c, a.s[j]? = some c → ww.cell? ⟨y, 2 + j, none⟩ = some (.int .u8 (c.toNat : Int)) := fun ww k j c hc => by
    have := (BX.out.nw k).s
    rw [p64_of ho] at this
    exact this j _ (by rw [List.getElem?_map, hc]; rfl)
  have HSS := Lib.hid hss
  have HLL := Lib.hid HL
  clear hbx hg0 hss HL hL hk
  by_cases e1 : k = 1
  · subst e1
    have HF := Lib.hid (show 3 + fillN a.s = L from HLL.out)
    clear HLL
    go_enter Try.func23, Try.ntmps23
    go_wp2
    go_loopw [3] (fun i wr => ∃ n : Nat, i = .int .i64 (n : Int) ∧ n ≤ 64 ∧ fillN a.s ≤ n ∧ Nw W wr) (fun i _ => (intOf i).toNat)
    case atStart => exact ⟨64, rfl, Nat.le_refl _, by omega, Nw.refl _⟩
    case round =>
      obtain ⟨n, rfl, hn, hfl, hnw⟩ := hrel
      rcases n with _ | n
      · have hz : fillN a.s = 0 := by omega
        have HZ := Lib.hid hz
        clear hfl hz hle
        go_wp2
        go_ret
        exact ⟨by rw [← HF.out, HZ.out]; rfl, gb_trans N0.out hnw⟩
      · have hc : a.s[n]? = some a.s[n] := List.getElem?_eq_getElem (by omega)
        obtain ⟨c, hcc⟩ : ∃ c, a.s[n] = c := ⟨_, rfl⟩
        rw [hcc] at hc
        have hf := fill_step a.s hfl hc
        have hcell := HSS.out wr hnw n c hc
        have hlt : (0 : Int) < ((n + 1 : Nat) : Int) := by omega
        have hcast : ((n + 1 : Nat) : Int) - 1 = (n : Int) := by omega
        rcases Decidable.em (c = 0) with h0 | h0
        · have hh := Lib.hid (hf.1 h0)
          have hq : ((c.toNat : Int) == 0) = true := by rw [h0]; rfl
          clear hf hc hcc hfl h0 hle
          go_wp2
          go_roundw
          case rel => exact ⟨n, by go_num, by omega, hh.out, hnw⟩
          case measure => simp only [intOf]; omega
        · have hh := Lib.hid (hf.2 h0)
          have hq : ((c.toNat : Int) == 0) = false := by
            rw [beq_eq_false_iff_ne]
            intro e
            exact h0 (UInt8.toNat_inj.1 (by simpa using (show c.toNat = 0 by omega)))
          clear hf hc hcc hfl h0 hle
          go_wp2
          go_ret
          exact ⟨by rw [← HF.out, hh.out]; first | rfl | (congr 2; done) | (congr 2; omega), gb_trans N0.out hnw⟩
  have t1 : (k == 1) = false := by simpa using e1
  have HM := Lib.hid (show (if k = 2 ∨ k = 4 ∨ k = 6 then 2 else if k = 5 ∨ k = 9 then 3 else if k = 7 then 10 else if k = 8 then 11 else 1) = L from by have := HLL.out; rwa [if_neg e1] at this)
  clear HLL
  rcases (show k = 2 ∨ k = 4 ∨ k = 6 ∨ k = 5 ∨ k = 9 ∨ k = 7 ∨ k = 8 ∨ (k ≠ 2 ∧ k ≠ 4 ∧ k ≠ 6 ∧ k ≠ 5 ∧ k ≠ 9 ∧ k ≠ 7 ∧ k ≠ 8) by omega) with e | e | e | e | e | e | e | ⟨e2, e4, e6, e5, e9, e7, e8⟩
  iterate 7
    · subst e
      have HQ := Lib.hid HM.out
      clear HM t1
      go_enter Try.func23, Try.ntmps23
      go_wp2
      go_ret
      exact ⟨by rw [← HQ.out]; rfl, N0.out⟩
  · have HQ := Lib.hid (show 1 = L from by have := HM.out; rwa [if_neg (by omega), if_neg (by omega), if_neg (by omega), if_neg (by omega)] at this)
    have t2 : (k == 2) = false := by simpa using e2
    have t4 : (k == 4) = false := by simpa using e4
    have t6 : (k == 6) = false := by simpa using e6
    have t5 : (k == 5) = false := by simpa using e5
    have t9 : (k == 9) = false := by simpa using e9
    have t7 : (k == 7) = false := by simpa using e7
    have t8 : (k == 8) = false := by simpa using e8
    clear HM e1 e2 e4 e6 e5 e9 e7 e8
    go_enter Try.func23, Try.ntmps23
    go_wp2
    go_ret
    exact ⟨by rw [← HQ.out]; rfl, N0.out⟩
/-- '!=' of two acts in a region that draws -/
theorem wpYield_neq_act {ops : Array Oper} {S : World → Prop} {R : Go.Act → Prop} {rest : List Oper} {o : Oper} {a : Go.Act} (x y : Operand) (hop : o.op = .binOp .neq 44 x y 44) (hw : Region.wanted o (yielded ops a.tmps) = true) {b c : Act} (hb : b.s.length = 64) (hc : c.s.length = 64)
    (hx : a.eval x = .agg (actC b).toArray) (hy : a.eval y = .agg (actC c).toArray) {r : Bool} (hr : (!decide (b = c)) = r) (hK : wpYield Try.prog ops S R rest (a.put o.dst (.bool r))) : wpYield Try.prog ops S R (o :: rest) a := by
  refine wpYield_val hw (v := .bool r) (fun w _ => ?_) hK
  have hg : (eqGuard .neq 44 x y (.agg (actC b).toArray) (.agg (actC c).toArray)).run Try.prog w = .ok () w := Go.BW.run_eqGuard_agg x y _ _ (by kernel_rfl)
  have he := run_equal_act (w := w) hb hc
  unfold execOp
  simp only [hop, hx, hy, Sem.run_bind, hg, Result.andThen_ok]
  have hq : (binOp .neq 44 (.agg (actC b).toArray) (.agg (actC c).toArray)).run Try.prog w = .ok (.bool (!decide (b = c))) w := by
    simp only [binOp]
    rw [Sem.run_bind, he]
    simp
  rw [hq, hr]
  simp
set_option maxRecDepth 100000 in
set_option maxHeartbeats 4000000 in
theorem same_any {w : World} {B B' : Nat} {x y : Sc} (hx : SOk w B x) (hy : SOk w B' y) (hB : B ≤ w.heap.size) (hB' : B' ≤ w.heap.size) (he : scr x = scr y) (hm : x.n ≤ 1000000 ∧ x.m ≤ 1000000) : Calls Try.prog 19 #[sv x, sv y] w (Ret (.bool true) w) := by
  have zl := hx.zl; have al := hx.al; have zl' := hy.zl; have al' := hy.al
  obtain ⟨num, A, n, c, sz, bl, D, m, d, acts⟩ := x
  obtain ⟨num', A', n', c', sz', bl', D', m', d', acts'⟩ := y
  simp only [scr, Scr.mk.injEq] at he
  obtain ⟨rfl, rfl, rfl, rfl⟩ := he
  simp only at zl al zl' al' hm
  subst zl'; subst al'
  obtain rfl : sz.length = n := zl
  obtain rfl : acts.length = m := al
  unfold sv
  simp only
  have b1 := obj_fst w 25 #[.int .i64 num, .slice A sz.length c, .int .i64 bl, .slice D acts.length d] (.cells #[.int .i64 num, .slice A' sz.length c', .int .i64 bl, .slice D' acts.length d'] 25)
  have b2 := obj_snd w (.cells #[.int .i64 num, .slice A sz.length c, .int .i64 bl, .slice D acts.length d] 25) 25 #[.int .i64 num, .slice A' sz.length c', .int .i64 bl, .slice D' acts.length d']
  have g2 := gb_trans (World.grownBy_alloc w (.cells #[.int .i64 num, .slice A sz.length c, .int .i64 bl, .slice D acts.length d] 25) none) (World.grownBy_alloc _ (.cells #[.int .i64 num, .slice A' sz.length c', .int .i64 bl, .slice D' acts.length d'] 25) none)
  obtain ⟨n, hn⟩ : ∃ n, sz.length = n := ⟨_, rfl⟩
  obtain ⟨m, hm'⟩ : ∃ m, acts.length = m := ⟨_, rfl⟩
  rw [hn, hm'] at b1 b2 g2 hm hx hy ⊢
  have HN := Lib.hid hn; have HM := Lib.hid hm'
  clear hn hm'
  go_enter Try.func19, Try.ntmps19
  go_upto_region 1 with fail
  obtain ⟨V, hV⟩ : ∃ V, (w.alloc (.cells #[.int .i64 num, .slice A n c, .int .i64 bl, .slice D m d] 25)).alloc (.cells #[.int .i64 num, .slice A' n c', .int .i64 bl, .slice D' m d'] 25) = V := ⟨_, rfl⟩
  rw [hV] at b1 b2 g2
  rw [hV]
  obtain ⟨y, hy1⟩ : ∃ y, w.heap.size = y := ⟨_, rfl⟩
  rw [hy1] at b1 b2 ⊢
  obtain ⟨z, hz1⟩ : ∃ z, y + 1 = z := ⟨_, rfl⟩
  rw [hz1] at b2
  rw [hz1]
  have B1 := Lib.hid b1; have B2 := Lib.hid b2; have N2 := Lib.hid g2
  have X := Lib.hid (hx.nw N2.out hB); have Y := Lib.hid (hy.nw N2.out hB')
  have hBV := Nat.le_trans hB N2.out.size; have hBV' := Nat.le_trans hB' N2.out.size
  have p0 := b1.cell 0; have p1 := b1.cell 1; have p2 := b1.cell 2; have p3 := b1.cell 3
  have q0 := b2.cell 0; have q1 := b2.cell 1; have q2 := b2.cell 2; have q3 := b2.cell 3
  have e0 : (num != num) = false := by simp
  have e1 : (bl != bl) = false := by simp
  have e2 : ((n : Int) != (n : Int)) = false := by simp
  have e3 : ((m : Int) != (m : Int)) = false := by simp
  clear b1 b2 g2 hV hy1 hz1 hx hy
  go_upto_region 3 with fail
  clear e0 e1 e2 e3 p0 p1 p2 p3 q0 q1 q2 q3
  go_wp2_with fail
  go_loopw [5] (fun i wr => ∃ j : Nat, j ≤ n ∧ i = .int .i64 j ∧ Nw V wr) (fun i _ => n - (intOf i).toNat)
  case atStart => exact ⟨0, Nat.zero_le _, rfl, Nw.refl _⟩
  case round =>
    obtain ⟨j, hj, rfl, hnw⟩ := hrel
    have p1 := (B1.out.nw hnw).cell 1
    rcases (show j < n ∨ j = n by omega) with hlt | rfl
    · have d1 : (j : Int) < (n : Int) := by omega
      obtain ⟨b, off, rfl, hz, hc⟩ := (X.out.z.nw hnw hBV).atI hlt
      obtain ⟨b', off', rfl, hz', hc'⟩ := (Y.out.z.nw hnw hBV').atI hlt
      obtain ⟨v, hv⟩ : ∃ v, sz[j] = v := ⟨_, rfl⟩
      simp only [hv] at hc hc'
      have f1 : ∀ w', Nw wr w' → w'.cell? ⟨y, 1, none⟩ = some (.slice (some ⟨b, off, none⟩) n c) := fun w' k => (B1.out.nw (gb_trans hnw k)).cell 1
      have f2 : ∀ w', Nw wr w' → w'.cell? ⟨z, 1, none⟩ = some (.slice (some ⟨b', off', none⟩) n c') := fun w' k => (B2.out.nw (gb_trans hnw k)).cell 1
      have f3 : ∀ w', Nw wr w' → w'.cell? ⟨b, off + j, none⟩ = some (.int .i64 v) := fun w' k => (World.cell?_of_block (k.block b (World.block_lt_of_cell? _ _ hc) (by simp))).trans hc
      have f4 : ∀ w', Nw wr w' → w'.cell? ⟨b', off' + j, none⟩ = some (.int .i64 v) := fun w' k => (World.cell?_of_block (k.block b' (World.block_lt_of_cell? _ _ hc') (by simp))).trans hc'
      have ev : (v != v) = false := by simp
      clear hc hc' hv hz hz'
      go_upto_region 6 with fail
      refine wp_region_held (S := (fun w' => Nw wr w')) (by kernel_rfl) ?_
      change wpAnyH _ _ _ _ _ _ _ _ (World.drew wr)
      refine held_seg' (l := [0, 1, 2, 3, 4, 5, 6, 7, 8, 9, 10]) (fuel := 0) rfl (by kernel_rfl) (by kernel_rfl) (by simp only [List.filterMap_cons, List.filterMap_nil, List.getElem?_toArray, List.getElem?_cons_succ, List.getElem?_cons_zero]; rfl) (fun _ _ d _ _ h => by cases d <;> exact h) (gb_drew (Nw.refl wr)) ?_
      iterate 11 (refine wpYield_step rfl (fun K hK => ?_)
                  apply Exists.intro
                  refine ⟨fun w' hw' => ?_, ?_⟩
                  · (go_simp; try with_reducible rfl)
                  go_simp
                  refine hK _ ?_
                  clear hK K)
      refine wpYield_nil ?_
      refine wpAnyH_done (by kernel_rfl) ?_ _
      go_wp2
      go_roundw
      case rel => exact ⟨j + 1, by omega, by go_num, gb_trans hnw (gb_drew (Nw.refl wr))⟩
      case measure => simp only [intOf]; omega
    · have d1 : decide ((j : Int) < (j : Int)) = false := by simp
      go_wp2_with fail
      go_loopw [6] (fun i wr => ∃ t : Nat, t ≤ m ∧ i = .int .i64 t ∧ Nw V wr) (fun i _ => m - (intOf i).toNat)
      case atStart => exact ⟨0, Nat.zero_le _, rfl, hnw⟩
      case round =>
        obtain ⟨t, ht, rfl, hnw⟩ := hrel
        have p3 := (B1.out.nw hnw).cell 3
        rcases (show t < m ∨ t = m by omega) with hlt | rfl
        · have d2 : (t : Int) < (m : Int) := by omega
          obtain ⟨_, b, off, v, rfl, hb, hv, hc⟩ := (X.out.a.nw hnw hBV).atL actC_len (by decide) hlt
          obtain ⟨_, b', off', v', rfl, hb', hv', hc'⟩ := (Y.out.a.nw hnw hBV').atL actC_len (by decide) hlt
          rw [hv] at hv'
          injection hv' with hv'
          subst hv'
          have hvo := (X.out.ok v (List.mem_of_getElem? hv)).s
          have f1 : ∀ w', Nw wr w' → w'.cell? ⟨y, 3, none⟩ = some (.slice (some ⟨b, off, none⟩) m d) := fun w' k => (B1.out.nw (gb_trans hnw k)).cell 3
          have f2 : ∀ w', Nw wr w' → w'.cell? ⟨z, 3, none⟩ = some (.slice (some ⟨b', off', none⟩) m d') := fun w' k => (B2.out.nw (gb_trans hnw k)).cell 3
          have F3 := Lib.hid (fun w' (k : Nw wr w') => show ∀ i u, (actC v)[i]? = some u → w'.cell? ⟨b, off + t * 69 + i, none⟩ = some u from fun i u hu => (World.cell?_of_block (k.block b (by have := hnw.size; omega) (by simp))).trans (hc i u hu))
          have F4 := Lib.hid (fun w' (k : Nw wr w') => show ∀ i u, (actC v)[i]? = some u → w'.cell? ⟨b', off' + t * 69 + i, none⟩ = some u from fun i u hu => (World.cell?_of_block (k.block b' (by have := hnw.size; omega) (by simp))).trans (hc' i u hu))
          have ev : (!decide (v = v)) = false := by simp
          clear hc hc' hv
          go_upto_region 11 with fail
          refine wp_region_held (S := (fun w' => Nw wr w')) (by kernel_rfl) ?_
          change wpAnyH _ _ _ _ _ _ _ _ (World.drew wr)
          refine held_seg' (l := [0, 1, 2, 3, 4, 5, 6, 7, 8, 9, 10]) (fuel := 0) rfl (by kernel_rfl) (by kernel_rfl) (by simp only [List.filterMap_cons, List.filterMap_nil, List.getElem?_toArray, List.getElem?_cons_succ, List.getElem?_cons_zero]; rfl) (fun _ _ d _ _ h => by cases d <;> exact h) (gb_drew (Nw.refl wr)) ?_
          iterate 4 (refine wpYield_step rfl (fun K hK => ?_)
                     apply Exists.intro
                     refine ⟨fun w' hw' => ?_, ?_⟩
                     · (go_simp; try with_reducible rfl)
                     go_simp
                     refine hK _ ?_
                     clear hK K)
          refine wpYield_load_agg 44 _ rfl rfl rfl (actC v) (fun w' hw' => F3.out w' hw') _ Try.underlying44 rfl (i44' v) ?_
          iterate 4 (refine wpYield_step rfl (fun K hK => ?_)
                     apply Exists.intro
                     refine ⟨fun w' hw' => ?_, ?_⟩
                     · (go_simp; try with_reducible rfl)
                     go_simp
                     refine hK _ ?_
                     clear hK K)
          refine wpYield_load_agg 44 _ rfl rfl rfl (actC v) (fun w' hw' => F4.out w' hw') _ Try.underlying44 rfl (i44' v) ?_
          refine wpYield_neq_act _ _ rfl rfl hvo hvo rfl rfl ev ?_
          refine wpYield_nil ?_
          refine wpAnyH_done (by kernel_rfl) ?_ _
          go_wp2
          go_roundw
          case rel => exact ⟨t + 1, by omega, by go_num, gb_trans hnw (gb_drew (Nw.refl wr))⟩
          case measure => simp only [intOf]; omega
        · have d2 : decide ((t : Int) < (t : Int)) = false := by simp
          go_wp2
          go_ret
          exact ⟨rfl, gb_trans N2.out hnw⟩
end Go.Proofs.Ytmcgfnfhpcddlaa


/- The law's shown returns true, in every world. -/
namespace Go.Proofs.Ytmcgfnfhpcddlaa
open Go.RowKit Go.BW

def scF : Scr := ⟨1, [160, 160, 160], 2, [a0 3]⟩
theorem rightF : rightS scF = true := by decide
theorem bytesF : bytesS scF = firstB := by decide
theorem sokF {w : World} {b b' : Nat} {Lz La : Option Addr} {cz ca : Nat} (hz : Own w b 3 1 Lz 3 cz ([160, 160, 160].map iv)) (ha : Own w b' 44 69 La 1 ca (fl actC [a0 3])) : SOk w w.heap.size ⟨1, Lz, 3, cz, [160, 160, 160], 2, La, 1, ca, [a0 3]⟩ :=
  ⟨hz.rd, hz.cap.1, hz.cap.2, ha.rd, ha.cap.1, ha.cap.2, by intro a h; rw [List.mem_singleton] at h; subst h; exact ⟨by simp [a0, z64], by simp [a0]⟩⟩
theorem sok0 {w : World} : SOk w w.heap.size ⟨0, Option.none, 0, 0, [], 0, Option.none, 0, 0, []⟩ := ⟨Rd.nil, Nat.le_refl _, Nat.zero_le _, Rd.nil, Nat.le_refl _, Nat.zero_le _, by simp⟩
set_option maxRecDepth 100000 in
set_option maxHeartbeats 8000000 in
theorem shown_any (w : World) : Calls Try.prog 12 #[] w (Ret (.bool true) w) := by
  have HF := Lib.hid (fun w' => first_any w')
  unfold FirstS at HF
  go_enter Try.func12, Try.ntmps12
  go_upto_region 2 with (first | ((with_reducible refine (HF.out _).mono ?_); rintro e w1 ⟨Lz, cz, La, ca, rfl, o1, p1, n1⟩))
  have gX := World.grownBy_alloc w1 (.cells #[.int .i64 1, .slice Lz 3 cz, .int .i64 2, .slice La 1 ca] 25) none
  have xX := Obj1.new w1 25 #[.int .i64 1, .slice Lz 3 cz, .int .i64 2, .slice La 1 ca]
  obtain ⟨V, hV⟩ : ∃ V, w1.alloc (.cells #[.int .i64 1, .slice Lz 3 cz, .int .i64 2, .slice La 1 ca] 25) = V := ⟨_, rfl⟩
  obtain ⟨y, hy⟩ : ∃ y, w1.heap.size = y := ⟨_, rfl⟩
  rw [hV] at gX xX
  rw [hy] at xX ⊢
  rw [hV]
  have X := Lib.hid xX; have N1 := Lib.hid (gb_trans n1 gX); have Z1 := Lib.hid (o1.nw gX); have A1 := Lib.hid (p1.nw gX)
  clear gX xX hV hy o1 p1 n1
  have HBY := Lib.hid (sbytes_any (sokF Z1.out A1.out) (Nat.le_refl _))
  unfold BytesPost sv at HBY
  rw [show scr ⟨1, Lz, 3, cz, [160, 160, 160], 2, La, 1, ca, [a0 3]⟩ = scF from rfl, show bytesE scF = 0 from by unfold bytesE; rw [rightF]; rfl, show bytesO scF = firstB from by unfold bytesO; rw [rightF, if_pos rfl, bytesF]] at HBY
  go_upto_region 3 with (first | ((with_reducible refine HBY.out.mono ?_); rintro e w2 ⟨A2, n2, c2, rfl, o2, k2⟩) | ((with_reducible refine wpList_load_obj 25 _ (by with_unfolding_all exact rfl) (by with_unfolding_all exact rfl) (by with_unfolding_all exact rfl) X.out _ Try.underlying25 (by with_unfolding_all exact rfl) (by kernel_rfl) ?_)))
  have hn2 : n2 = 16 := by have h := o2.len; simp [firstB] at h; omega
  subst hn2
  have X2 := Lib.hid (X.out.nw k2); have Z2 := Lib.hid (Z1.out.nw k2); have A2' := Lib.hid (A1.out.nw k2); have O2 := Lib.hid o2; have N2 := Lib.hid (gb_trans N1.out k2)
  have HPA := Lib.hid (parse_first o2.rd (Nat.le_refl _) o2.cap.1 o2.cap.2)
  unfold FirstPost at HPA
  clear o2 k2 X N1 Z1 A1 HBY
  go_upto_region 4 with (first | ((with_reducible refine HPA.out.mono ?_); rintro e w3 ⟨Lz3, cz3, La3, ca3, rfl, o3, p3, k3⟩))
  have gY := World.grownBy_alloc w3 (.cells #[.int .i64 1, .slice Lz3 3 cz3, .int .i64 2, .slice La3 1 ca3] 25) none
  have xY := Obj1.new w3 25 #[.int .i64 1, .slice Lz3 3 cz3, .int .i64 2, .slice La3 1 ca3]
  obtain ⟨Y, hY⟩ : ∃ V, w3.alloc (.cells #[.int .i64 1, .slice Lz3 3 cz3, .int .i64 2, .slice La3 1 ca3] 25) = V := ⟨_, rfl⟩
  obtain ⟨z, hz⟩ : ∃ y, w3.heap.size = y := ⟨_, rfl⟩
  rw [hY] at gY xY
  rw [hz] at xY ⊢
  rw [hY]
  have gk := gb_trans k3 gY
  have XY := Lib.hid (X2.out.nw gk); have ZY := Lib.hid (Z2.out.nw gk); have AY := Lib.hid (A2'.out.nw gk); have OY := Lib.hid (O2.out.nw gk); have NY := Lib.hid (gb_trans N2.out gk); have XT := Lib.hid xY
  have HSM := Lib.hid (same_any (sokF ZY.out AY.out) (sokF (o3.nw gY) (p3.nw gY)) (Nat.le_refl _) (Nat.le_refl _) rfl ⟨by simp only; omega, by simp only; omega⟩)
  unfold Ret sv at HSM
  have HPN := Lib.hid (fun w' => parse_nil w')
  have HB0 := Lib.hid (fun w' => sbytes_any (w := w') sok0 (Nat.le_refl _))
  unfold BytesPost sv at HB0
  rw [show scr ⟨0, Option.none, 0, 0, [], 0, Option.none, 0, 0, []⟩ = ⟨0, [], 0, []⟩ from rfl, show bytesE ⟨0, [], 0, []⟩ = 1 from by decide] at HB0
  have HR0 := Lib.hid (fun w' => right_any (w := w') sok0 (Nat.le_refl _))
  unfold Ret sv at HR0
  rw [show rightS (scr ⟨0, Option.none, 0, 0, [], 0, Option.none, 0, 0, []⟩) = false from by decide] at HR0
  clear gY xY hY hz gk o3 p3 k3 X2 Z2 A2' O2 N2 HPA
  go_upto_region 5 with (first
    | ((with_reducible refine HSM.out.mono ?_); rintro e w4 ⟨rfl, k4⟩)
    | ((with_reducible refine wpList_load_obj 25 _ (by with_unfolding_all exact rfl) (by with_unfolding_all exact rfl) (by with_unfolding_all exact rfl) XT.out _ Try.underlying25 (by with_unfolding_all exact rfl) (by kernel_rfl) ?_))
    | ((with_reducible refine wpList_load_obj 25 _ (by with_unfolding_all exact rfl) (by with_unfolding_all exact rfl) (by with_unfolding_all exact rfl) XY.out _ Try.underlying25 (by with_unfolding_all exact rfl) (by kernel_rfl) ?_)))
  have X4 := Lib.hid (XY.out.nw k4); have Z4 := Lib.hid (ZY.out.nw k4); have A4 := Lib.hid (AY.out.nw k4); have O4 := Lib.hid (OY.out.nw k4); have N4 := Lib.hid (gb_trans NY.out k4)
  clear XY ZY AY OY NY XT HSM k4
  go_upto_region 6 with (first | ((with_reducible refine (HPN.out _).mono ?_); rintro e w5 ⟨rfl, k5⟩))
  have gP := World.grownBy_alloc w5 (.cells #[.int .i64 0, .slice Option.none 0 0, .int .i64 0, .slice Option.none 0 0] 25) none
  obtain ⟨P, hP⟩ : ∃ V, w5.alloc (.cells #[.int .i64 0, .slice Option.none 0 0, .int .i64 0, .slice Option.none 0 0] 25) = V := ⟨_, rfl⟩
  rw [hP] at gP
  rw [hP]
  have gk := gb_trans k5 gP
  have X5 := Lib.hid (X4.out.nw gk); have Z5 := Lib.hid (Z4.out.nw gk); have A5 := Lib.hid (A4.out.nw gk); have O5 := Lib.hid (O4.out.nw gk); have N5 := Lib.hid (gb_trans N4.out gk)
  clear gP hP gk k5 X4 Z4 A4 O4 N4
  go_upto_region 7 with (first | ((with_reducible refine (HB0.out _).mono ?_); rintro e w6 ⟨A6, n6, c6, rfl, o6, k6⟩))
  have X6 := Lib.hid (X5.out.nw k6); have Z6 := Lib.hid (Z5.out.nw k6); have A6' := Lib.hid (A5.out.nw k6); have O6 := Lib.hid (O5.out.nw k6); have N6 := Lib.hid (gb_trans N5.out k6)
  have HRI := Lib.hid (right_any (sokF Z6.out A6'.out) (Nat.le_refl _))
  rw [show rightS (scr ⟨1, Lz, 3, cz, [160, 160, 160], 2, La, 1, ca, [a0 3]⟩) = true from rightF] at HRI
  unfold Ret sv at HRI
  clear X5 Z5 A5 O5 N5 o6 k6
  have hfb : firstB.toArray = #[66, 87, 0, 0, 0, 1, 3, 0, 160, 0, 160, 0, 160, 2, 1, 3] := rfl
  go_wp2_with (first
    | (refine wpList_bytes_str 46 9 5 Try.underlying46 Try.underlying5 Try.underlying9 _ rfl rfl rfl O8.out ?_; rw [hfb])
    | (go_at_call 15; (with_reducible refine (HR0.out _).mono ?_); rintro e w8 ⟨rfl, k8⟩; have O8 := Lib.hid ((O7.out.nw k8).rd); have N8 := Lib.hid (gb_trans N7.out k8))
    | (go_at_call 15; (with_reducible refine HRI.out.mono ?_); rintro e w7 ⟨rfl, k7⟩; have O7 := Lib.hid (O6.out.nw k7); have N7 := Lib.hid (gb_trans N6.out k7))
    | ((with_reducible refine wpList_load_obj 25 _ (by with_unfolding_all exact rfl) (by with_unfolding_all exact rfl) (by with_unfolding_all exact rfl) X6.out _ Try.underlying25 (by with_unfolding_all exact rfl) (by kernel_rfl) ?_)))
  go_ret
  exact ⟨rfl, N8.out⟩
end Go.Proofs.Ytmcgfnfhpcddlaa


/- Scripts that came in. -/
namespace Go.Proofs.Ytmcgfnfhpcddlaa
open Go.RowKit Go.BW Go.ChangeShapes Go.WideShapes Go.Deep
section
variable {H : Type} {enc : TypeId × Value → H} {w : World} {base : Nat} {spare : Nat → Bool} {held : Bool} {x : DataW H × List MemPlace} {cs : List Value} {n : Nat}
theorem uint_open {t : TypeId} (ht : Try.prog.underlying t = some (.int .u64)) (h : DataW.trod enc Try.prog w base spare held n t cs = some x) : ∃ z : Nat, cs = [uv z] ∧ z < 18446744073709551616 := by
  obtain ⟨z, hz, _, hw⟩ := DataW.trod_int ht h
  have hb := bounds_u64 hw
  refine ⟨z.toNat, ?_, by omega⟩
  rw [hz]
  unfold uv
  rw [Int.toNat_of_nonneg hb.1]
theorem cut_act {l : List Value} {a b d e f : Value} {s : List Value} (hl : l.length = 69) (hs : s.length = 64) (h0 : (l.drop 0).take 1 = [a]) (h1 : (l.drop 1).take 1 = [b]) (h2 : (l.drop 2).take 64 = s) (h3 : (l.drop 66).take 1 = [d]) (h4 : (l.drop 67).take 1 = [e]) (h5 : (l.drop 68).take 1 = [f]) : l = [a, b] ++ (s ++ [d, e, f]) := by
  have e1 : l = l.take 2 ++ l.drop 2 := (List.take_append_drop 2 l).symm
  have e2 : l.drop 2 = (l.drop 2).take 64 ++ (l.drop 2).drop 64 := (List.take_append_drop 64 _).symm
  rw [List.drop_drop] at e2
  have t2 : l.take 2 = [a, b] := by
    match l, hl with
    | x :: y :: r, _ => simp at h0 h1; simp [h0, h1]
  obtain ⟨r, hr⟩ : ∃ r, l.drop 66 = r := ⟨_, rfl⟩
  have hrl : r.length = 3 := by rw [← hr, List.length_drop, hl]
  rw [show l.drop 67 = r.drop 1 from by rw [← hr, List.drop_drop]] at h4
  rw [show l.drop 68 = r.drop 2 from by rw [← hr, List.drop_drop]] at h5
  rw [hr] at h3
  have hr3 : r = [d, e, f] := by
    match r, hrl with
    | [x, y, z], _ => simp at h3 h4 h5; simp [h3, h4, h5]
  rw [e1, t2, e2, h2, hr, hr3]
set_option maxRecDepth 100000 in
theorem act_open (h : DataW.trod enc Try.prog w base spare held n 44 cs = some x) : ∃ o : Act, ActOk o ∧ cs = actC o := by
  have hl : cs.length = 69 := (struct_len Try.underlying44 h).trans (by kernel_rfl)
  obtain ⟨_, _, h0⟩ := field_open Try.underlying44 h 0 _ rfl
  obtain ⟨_, _, h1⟩ := field_open Try.underlying44 h 1 _ rfl
  obtain ⟨_, _, h2⟩ := field_open Try.underlying44 h 2 _ rfl
  obtain ⟨_, _, h3⟩ := field_open Try.underlying44 h 3 _ rfl
  obtain ⟨_, _, h4⟩ := field_open Try.underlying44 h 4 _ rfl
  obtain ⟨_, _, h5⟩ := field_open Try.underlying44 h 5 _ rfl
  obtain ⟨k, e0, _⟩ := int_open Try.underlying3 h0
  obtain ⟨b, e1, _⟩ := int_open Try.underlying3 h1
  obtain ⟨s, hs, e2⟩ := bytes_open (N := 64) Try.underlying33 Try.underlying5 (by kernel_rfl) (by kernel_rfl) h2
  obtain ⟨nn, e3, _⟩ := int_open Try.underlying3 h3
  obtain ⟨t, e4, _⟩ := int_open Try.underlying3 h4
  obtain ⟨m, e5, hm⟩ := uint_open Try.underlying31 h5
  refine ⟨⟨k, b, s, nn, t, m⟩, ⟨hs, hm⟩, ?_⟩
  unfold actC
  simp only
  rw [p64_of hs]
  exact cut_act hl (by simpa using hs) e0 e1 e2 e3 e4 e5
set_option maxRecDepth 100000 in
theorem acts_open (h : DataW.trod enc Try.prog w base spare held n 23 cs = some x) : ∃ A n c, cs = [.slice A n c] ∧ ∃ ms, InL w actC 69 ActOk A n c ms := by
  rcases open_slice Try.underlying23 h with ⟨hcs, _⟩ | ⟨ad, len', cap', m, n, D, Pl, hcs, _⟩
  · subst hcs
    exact ⟨_, _, _, rfl, inL_open Try.underlying23 (by kernel_rfl) (by omega) (fun _ _ _ h => act_open h) h⟩
  · subst hcs
    exact ⟨_, _, _, rfl, inL_open Try.underlying23 (by kernel_rfl) (by omega) (fun _ _ _ h => act_open h) h⟩
set_option maxRecDepth 100000 in
theorem sizes_open (h : DataW.trod enc Try.prog w base spare held n 22 cs = some x) : ∃ A n c, cs = [.slice A n c] ∧ ∃ ms, InL w (fun z : Int => [iv z]) 1 (fun _ => True) A n c ms := by
  rcases open_slice Try.underlying22 h with ⟨hcs, _⟩ | ⟨ad, len', cap', m, n, D, Pl, hcs, _⟩
  · subst hcs
    exact ⟨_, _, _, rfl, inL_open Try.underlying22 (by kernel_rfl) (by omega) (fun _ _ _ h => by obtain ⟨z, hz, _⟩ := int_open Try.underlying3 h; exact ⟨z, trivial, hz⟩) h⟩
  · subst hcs
    exact ⟨_, _, _, rfl, inL_open Try.underlying22 (by kernel_rfl) (by omega) (fun _ _ _ h => by obtain ⟨z, hz, _⟩ := int_open Try.underlying3 h; exact ⟨z, trivial, hz⟩) h⟩
theorem cut4 {l : List Value} {a b c d : Value} (hl : l.length = 4) (h0 : (l.drop 0).take 1 = [a]) (h1 : (l.drop 1).take 1 = [b]) (h2 : (l.drop 2).take 1 = [c]) (h3 : (l.drop 3).take 1 = [d]) : l = [a, b, c, d] := by
  match l, hl with
  | [x, y, z, u], _ => simp at h0 h1 h2 h3; simp [h0, h1, h2, h3]
def SIn (w : World) (x : Sc) : Prop := SOk w w.heap.size x
set_option maxRecDepth 100000 in
theorem script_open (h : DataW.trod enc Try.prog w base spare held n 25 cs = some x) : ∃ o : Sc, SIn w o ∧ cs = sc o := by
  have hl : cs.length = 4 := (struct_len Try.underlying25 h).trans (by kernel_rfl)
  obtain ⟨_, _, h0⟩ := field_open Try.underlying25 h 0 _ rfl
  obtain ⟨_, _, h1⟩ := field_open Try.underlying25 h 1 _ rfl
  obtain ⟨_, _, h2⟩ := field_open Try.underlying25 h 2 _ rfl
  obtain ⟨_, _, h3⟩ := field_open Try.underlying25 h 3 _ rfl
  obtain ⟨num, e0, _⟩ := int_open Try.underlying3 h0
  obtain ⟨A, nn, c, e1, sz, hr, hnc, hcm, _, _⟩ := sizes_open h1
  obtain ⟨bl, e2, _⟩ := int_open Try.underlying3 h2
  obtain ⟨D, m, d, e3, acts, ha, hac, ham, _, hok⟩ := acts_open h3
  rw [flat1] at hr
  exact ⟨⟨num, A, nn, c, sz, bl, D, m, d, acts⟩, ⟨hr, hnc, hcm, ha, hac, ham, hok⟩, cut4 hl e0 e1 e2 e3⟩
theorem sv_of (x : Sc) (cs : Array Value) (h : cs.toList = sc x) : Value.agg cs = sv x := by
  obtain ⟨l⟩ := cs
  simp at h
  subst h
  rfl
end
end Go.Proofs.Ytmcgfnfhpcddlaa

