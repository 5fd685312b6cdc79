/- The power fails: what a bank's Crash does, by its shape. -/
import Derived.Test.YtmcgfnfhpcddlaaJN
import Derived.Test.YtmcgfnfhpcddlaaJA
set_option linter.unusedVariables false
set_option linter.unusedSimpArgs false
/- The power fails: what a bank's Crash does, by its shape. -/
namespace Go.Proofs.Ytmcgfnfhpcddlaa
open Go.RowKit Go.BW

theorem AllS.nw {w w' : World} {ga p : Nat} (h : AllS w ga p) (k : Nw w w') : AllS w' ga p := by
  rcases h with h | ⟨r, c, h1, h2⟩
  · exact .inl (h.nw k)
  · exact .inr ⟨r, c, h1.nw k, h2.nw k⟩
theorem nw_chg {w w2 w' : World} {F : List Nat} (h : Nw w w2) (k : Chg w2 w' F) (hF : ∀ x ∈ F, w.heap.size ≤ x) : Nw w w' :=
  Chg.nw (F := F) ((Chg.of_nw h).trans k (fun _ h => .inl h)) hF
theorem crash_end {w w5 : World} {b c : Nat} {ar : Int} {A : Option Addr} {ms : List Mem} (s : BStep b A c ms false ar w w5) : BStep b A c ms true 0 w ((w5.setCell ⟨b, 1, none⟩ (.bool true)).setCell ⟨b, 4, none⟩ (.int .i64 0)) := by
  obtain ⟨ck, wr, mk, ho⟩ := s.obj
  have o1 := ho.set 1 (.bool true)
  have o2 := o1.set 4 (.int .i64 0)
  exact ⟨(s.chg.trans (Chg.set _ (fpB_b b ms) _) (fun _ h => .inl h)).trans (Chg.set _ (fpB_b b ms) _) (fun _ h => .inl h),
    (s.shp.trans (Shp.other (gb_set _ b 1 _) ho (by decide) (by decide) (by decide))).trans (Shp.other (gb_set _ b 4 _) o1 (by decide) (by decide) (by decide)), ck, wr, mk, o2⟩
theorem BStep.of_nw {w w' : World} {b c : Nat} {dn : Bool} {ar : Int} {A : Option Addr} {ms : List Mem} (h : BankI w b dn ar A c ms) (k : Nw w w') : BStep b A c ms dn ar w w' := ⟨Chg.of_nw k, Shp.nw k, (h.nw k).obj⟩
theorem set_step {w w' : World} {b c : Nat} {ar : Int} {A : Option Addr} {m0 : Mem} {ms : List Mem} (h : BankI w b false ar A c (m0 :: ms)) (k : Chg w w' [m0.r1, m0.r2, m0.r3]) (s : Shp m0.r3 w w') : BStep b A c (m0 :: ms) false ar w w' :=
  fq_step h (List.mem_cons_self ..) ⟨k, s, s.c3 true _ _ (h.mem 0 m0 rfl).c.top (fun e => by cases e)⟩
theorem crash_dn {w : World} {b c : Nat} {ar : Int} {A : Option Addr} {ms : List Mem} (h : BankI w b true ar A c ms) (mask : Value) : Calls Try.prog 55 #[pv b, mask] w (Still (.tuple #[]) w) := by
  obtain ⟨ck, wr, mk, ho⟩ := h.obj
  have c1 : w.cell? ⟨b, 1, none⟩ = some (.bool true) := ho.cell 1
  unfold pv
  clear h ho
  go_enter Try.func55, Try.ntmps55
  go_wp2
  refine bodyPost_ret (results_none rfl _ _ _) rfl ?_
  exact ⟨rfl, rfl⟩
theorem BankI.drewB {w : World} {b c : Nat} {dn : Bool} {ar : Int} {A : Option Addr} {ms : List Mem} (h : BankI w b dn ar A c ms) : BankI w.drew b dn ar A c ms := ⟨h.obj, h.row, fun i m hm => have q := h.mem i m hm; ⟨q.mo, q.a, q.b, q.c, q.small⟩, h.sep⟩
def CrR (w : World) (p0 K k : Nat) (wr : World) : Prop := k ≤ K ∧ Nw w wr ∧ AllS wr w.heap.size p0 ∧ (k = 0 → Obj1 wr w.heap.size 130 #[.slice none 0 0])
/-- what a round's going through leaves -/
def CrQ (w : World) (p0 r3 n : Nat) (w' : World) : Prop := Nw w w' ∧ AllS w' w.heap.size p0 ∧ C3 w' true r3 n
theorem crash_round {w wr w2 : World} {p0 k gm : Nat} {f dd : Bool} {fa : Int} {m : Mem} (hm : MemI w f m) (hmo : Obj1 w m.p 114 (memC m dd fa)) (hf : f = true → k = 0 ∧ m.p = p0) (nr : Nw w wr) (ha : AllS wr w.heap.size p0) (h0 : k = 0 → Obj1 wr w.heap.size 130 #[.slice none 0 0])
    (n2 : Nw wr w2) (hv : Obj1 w2 gm 115 #[pv m.p]) : Calls Try.prog 67 #[pv m.p, .func (.func 68) #[] #[pv w.heap.size, pv gm]] w2 (LooseQ (CrQ w p0 m.r3 m.n)) := by
  obtain ⟨p, r1, r2, r3, n⟩ := m
  have n02 := gb_trans nr n2
  refine loose_any (caps := #[pv w.heap.size, pv gm]) (hmo.nw n02) (hm.c.eq (n02.block _ hm.c.lt (by simp))) enters68 hm.small ⟨n02, ha.nw n2, (hm.c.eq (n02.block _ hm.c.lt (by simp))).top⟩ (fun e => ?_) (fun w' hq => hq.2.2)
  obtain ⟨hk, hp⟩ := hf e
  refine (crash1_any ((h0 hk).nw n2) hv).mono fun e w' he => ⟨he.1, ?_⟩
  have n3 : Nw w w' := nw_chg n02 he.2.2 (fun x hx => by simp at hx; omega)
  refine ⟨n3, .inr ?_, (hm.c.eq (n3.block _ hm.c.lt (by simp))).top⟩
  have := he.2.1
  rw [hp] at this
  exact this
def fstP : List Mem → Nat | m :: _ => m.p | [] => 0
set_option maxHeartbeats 2000000 in
set_option maxRecDepth 100000 in
theorem crash_up {w : World} {b c : Nat} {ar : Int} {A : Option Addr} {ms : List Mem} (h : BankI w b false ar A c ms) (hl : ms.length ≤ 30) (mask : Nat) : Calls Try.prog 55 #[pv b, .int .u64 (mask : Int)] w (BPost (.tuple #[]) b A c ms true 0 w) := by
  obtain ⟨ck, wt, mk, ho⟩ := h.obj
  have HB := Lib.hid h
  have HO := Lib.hid ho
  obtain ⟨K, hK⟩ : ∃ K, ms.length = K := ⟨_, rfl⟩
  have HKK := Lib.hid hK
  rw [hK] at ho hl
  have c1 : w.cell? ⟨b, 1, none⟩ = some (.bool false) := ho.cell 1
  have n1 : Nw w (w.alloc (.cells #[.slice none 0 0] 130)) := World.grownBy_alloc w _ none
  have c0 : (w.alloc (.cells #[.slice none 0 0] 130)).cell? ⟨b, 0, none⟩ = some (.slice A K c) := (ho.nw n1).cell 0
  unfold pv
  clear h ho hK n1
  go_enter Try.func55, Try.ntmps55
  go_wp2_with fail
  obtain ⟨w1, hw1⟩ : ∃ w1, w1 = w.alloc (.cells #[.slice none 0 0] 130) := ⟨_, rfl⟩
  rw [← hw1]
  have N1 := Lib.hid (show Nw w w1 from by rw [hw1]; exact World.grownBy_alloc w _ none)
  have A1 := Lib.hid (show Obj1 w1 w.heap.size 130 #[.slice none 0 0] from by rw [hw1]; exact Obj1.new w _ _)
  clear hw1 c0 c1
  obtain ⟨p0, hp0⟩ : ∃ p0, fstP ms = p0 := ⟨_, rfl⟩
  have HP0 := Lib.hid hp0; clear hp0
  go_loopw [18] (fun i wr => ∃ k : Nat, i = .int .i64 k ∧ CrR w p0 K k wr) (fun i _ => K - (intOf i).toNat)
  case atStart => exact ⟨0, rfl, Nat.zero_le _, N1.out, .inl A1.out, fun _ => A1.out⟩
  case round =>
    clear N1 A1
    obtain ⟨k, rfl, hkK, hnw, hal, h0⟩ := hrel
    have NR := Lib.hid hnw; have AL := Lib.hid hal; have H0 := Lib.hid h0
    clear hnw hal h0
    by_cases hlt : k < K
    · obtain ⟨i', g, m, hii, hi', hmi, hm, rfl, cp, hmem⟩ := (HB.out.nw NR.out).at (d := (k : Int)) (decide_eq_true (by have := HKK.out; omega))
      have : i' = k := by omega
      subst this
      have hm0 := Lib.hid (HB.out.mem i' m hmi)
      obtain ⟨dd, fa, hmo⟩ := hm0.out.mo
      have hf : decide (i' = 0) = true → i' = 0 ∧ m.p = p0 := fun e => by
        have e := of_decide_eq_true e
        refine ⟨e, ?_⟩
        rw [← HP0.out]
        subst e
        cases ms with
        | nil => simp at hmi
        | cons m0 ms => simp at hmi; subst hmi; rfl
      have n2 : Nw wr (wr.alloc (.cells #[pv m.p] 115)) := World.grownBy_alloc wr _ none
      have HC := crash_round hm0.out hmo hf NR.out AL.out H0.out n2 (Obj1.new wr 115 #[pv m.p])
      have cv : (wr.alloc (.cells #[pv m.p] 115)).cell? ⟨wr.heap.size, 0, none⟩ = some (pv m.p) := (Obj1.new wr 115 #[pv m.p]).cell 0
      unfold pv LooseQ at HC
      unfold pv at cp cv
      have HC' := Lib.hid HC
      clear HC hmo hf n2 hmem hmi hm hi' hii
      go_wp2_with (go_at_call 67; (with_reducible refine HC'.out.mono ?_); rintro e w3 ⟨rfl, q1⟩; have Q1 := Lib.hid q1; clear q1)
      exact ⟨⟨i' + 1, rfl, hlt, Q1.out.1, Q1.out.2.1, fun e => by omega⟩, by simp [intOf]; omega⟩
    · have hk' : k = K := by omega
      subst hk'
      have bo := HO.out.nw NR.out
      have b1 : wr.cell? ⟨b, 1, none⟩ = some (.bool false) := bo.cell 1
      have b1f := bo.frozen 1
      have bo2 := bo.set 1 (.bool true)
      have b4 : (wr.setCell ⟨b, 1, none⟩ (.bool true)).cell? ⟨b, 4, none⟩ = some (.int .i64 ar) := bo2.cell 4
      have b4f := bo2.frozen 4
      rcases AL.out with hn | ⟨r, cc, ho1, hw1⟩
      · have ca : wr.cell? ⟨w.heap.size, 0, none⟩ = some (.slice none 0 0) := hn.cell 0
        have HS := sort1_any 0 0 (by omega) none (.func (.func 70) #[] #[]) wr
        unfold Still at HS
        have HS' := Lib.hid HS
        clear HS bo bo2 hn
        go_wp2_with (go_at_call 69; (with_reducible refine HS'.out.mono ?_); rintro e w3 ⟨rfl, rfl⟩)
        refine wp_loop_rounds 1 ?_
        rw [rounds_succ]
        go_wp2
        go_end0
        exact ⟨rfl, crash_end (BStep.of_nw HB.out NR.out)⟩
      · clear b1 b1f b4 b4f bo2 bo
        have ca : wr.cell? ⟨w.heap.size, 0, none⟩ = some (.slice (some ⟨r, 0, none⟩) 1 cc) := ho1.cell 0
        have HS := sort1_any 1 cc (by omega) (some ⟨r, 0, none⟩) (.func (.func 70) #[] #[]) wr
        unfold Still at HS
        have HS' := Lib.hid HS
        have LD := Lib.hid (show ∀ j u, [Value.pointer (some ⟨p0, 0, none⟩), .int .i64 0][j]? = some u → wr.cell? ⟨r, 0 + j, none⟩ = some u from fun j u hu => by
          have hj := (List.getElem?_eq_some_iff.1 hu).1
          obtain ⟨u2, g1, g2, _⟩ := hw1.cellN (k := j) (by simpa using hj)
          unfold pv at g1
          rw [hu] at g1; injection g1 with g1; subst g1
          rw [Nat.zero_add]; exact g2)
        have HW := Lib.hid hw1
        have HO1 := Lib.hid ho1
        clear HS hw1 ho1
        go_wp2_with (go_at_call 69; (with_reducible refine HS'.out.mono ?_); rintro e w3 ⟨rfl, rfl⟩)
        refine wp_loop_rounds 2 ?_
        rw [rounds_succ]
        go_upto_region 11 with (refine wpList_load_agg 133 _ rfl rfl rfl [Value.pointer (some ⟨p0, 0, none⟩), .int .i64 0] (fun j u hu => LD.out j u hu) _ Try.underlying133 rfl (by kernel_rfl) ?_)
        obtain ⟨w4, hw4⟩ : ∃ w4, w4 = wr.alloc (.cells #[.pointer (some ⟨p0, 0, none⟩), .int .i64 0] 133) := ⟨_, rfl⟩
        rw [← hw4]
        have n4 : Nw wr w4 := by rw [hw4]; exact World.grownBy_alloc wr _ none
        have x4 : Obj1 w4 wr.heap.size 133 #[.pointer (some ⟨p0, 0, none⟩), .int .i64 0] := by rw [hw4]; exact Obj1.new wr _ _
        have cx0 : ∀ w', Nw w4 w' → w'.cell? ⟨wr.heap.size, 0, none⟩ = some (.pointer (some ⟨p0, 0, none⟩)) := fun w' h2 => (x4.nw h2).cell 0
        have cx1 : ∀ w', Nw w4 w' → w'.cell? ⟨wr.heap.size, 1, none⟩ = some (.int .i64 0) := fun w' h2 => (x4.nw h2).cell 1
        have N4 := Lib.hid (gb_trans NR.out n4)
        clear hw4 n4 x4 ca
        cases ms with
        | nil => exfalso; have h1 := HKK.out; have h2 := H0.out (by simpa using h1.symm); have h3 := Option.some.inj (h2.symm.trans HO1.out); injection h3 with h3; simp at h3
        | cons m0 ms =>
          have HM0 := Lib.hid ((HB.out.nw N4.out).drewB.mem 0 m0 rfl)
          have HSM := Lib.hid (fun keep => settle_any HM0.out keep)
          have hp0 : m0.p = p0 := HP0.out
          rw [hp0] at HSM
          clear HS' LD HW HO1 H0 AL NR hp0
          have ND := Lib.hid (gb_drew N4.out)
          unfold pv SetPost at HSM
          refine wp_region_U [2, 3, 12] (fun w' => Nw w4 w') (by kernel_rfl) ?_
          change wpU _ _ _ _ _ _ _ _ _ (World.drew w4)
          refine U_segP (r := [0, 4, 6, 7, 8]) (fuel := 8) rfl (by kernel_rfl) (by kernel_rfl) (by simp only [List.filterMap_cons, List.filterMap_nil, List.getElem?_toArray, List.getElem?_cons_succ, List.getElem?_cons_zero]; rfl) (fun _ _ d _ _ h => by cases d <;> exact h) (until_of (gb_drew (Nw.refl w4))) ?_
          iterate 5 (refine wpYield_step rfl (fun K hK => ?_)
                     apply Exists.intro
                     refine ⟨fun w' hw' => ?_, ?_⟩
                     · (go_simp; try with_reducible rfl)
                     go_simp
                     refine hK _ ?_
                     clear hK K)
          refine wpYield_nil ?_
          refine U_segL (r := [1, 5, 2, 3]) (fuel := 4) rfl (by kernel_rfl) (by kernel_rfl) (by simp only [List.filterMap_cons, List.filterMap_nil, List.getElem?_toArray, List.getElem?_cons_succ, List.getElem?_cons_zero]; rfl) (fun _ _ d _ _ h => by cases d <;> exact h) (gb_drew (Nw.refl w4)) ?_
          iterate 4 (refine wpYield_step rfl (fun K hK => ?_)
                     apply Exists.intro
                     refine ⟨fun w' hw' => ?_, ?_⟩
                     · (go_simp; try with_reducible rfl)
                     go_simp
                     refine hK _ ?_
                     clear hK K)
          refine wpYield_nil ?_
          refine U_segP (r := [9, 10, 11]) (fuel := 1) rfl (by kernel_rfl) (by kernel_rfl) (by simp only [List.filterMap_cons, List.filterMap_nil, List.getElem?_toArray, List.getElem?_cons_succ, List.getElem?_cons_zero]; rfl) (fun _ _ d _ _ h => by cases d <;> exact h) (until_of (gb_drew (Nw.refl w4))) ?_
          iterate 3 (refine wpYield_step rfl (fun K hK => ?_)
                     apply Exists.intro
                     refine ⟨fun w' hw' => ?_, ?_⟩
                     · (go_simp; try with_reducible rfl)
                     go_simp
                     refine hK _ ?_
                     clear hK K)
          refine wpYield_nil ?_
          clear cx0 cx1
          refine U_eff 12 rfl (by kernel_rfl) rfl (fun K hK => ?_)
          go_simp
          refine (HSM.out _).mono ?_
          rintro e w5 ⟨rfl, k1, s1⟩
          refine hK _ _ ⟨until_past (by kernel_rfl), ?_⟩
          clear hK K
          refine U_done (by kernel_rfl) ?_ _
          have ST := Lib.hid ((BStep.of_nw HB.out ND.out).trans (set_step (HB.out.nw ND.out) k1 s1))
          clear k1 s1 HSM HM0
          obtain ⟨ck5, wt5, mk5, bo⟩ := ST.out.obj
          have b1 : w5.cell? ⟨b, 1, none⟩ = some (.bool false) := bo.cell 1
          have b1f := bo.frozen 1
          have bo2 := bo.set 1 (.bool true)
          have b4 : (w5.setCell ⟨b, 1, none⟩ (.bool true)).cell? ⟨b, 4, none⟩ = some (.int .i64 ar) := bo2.cell 4
          have b4f := bo2.frozen 4
          clear bo bo2
          go_wp2
          rw [rounds_succ]
          go_wp2
          go_end0
          exact ⟨rfl, crash_end ST.out⟩
end Go.Proofs.Ytmcgfnfhpcddlaa


/- A write that a bank counts: whether the power fails with it. -/
namespace Go.Proofs.Ytmcgfnfhpcddlaa
open Go.RowKit Go.BW

theorem set_fail {w : World} {b c : Nat} {dn dd : Bool} {ar fa : Int} {A : Option Addr} {ms : List Mem} {m : Mem} (h : BankI w b dn ar A c ms) (hm : m ∈ ms) (hmo : Obj1 w m.p 114 (memC m dd fa)) (v : Int) :
    BStep b A c ms dn ar w (w.setCell ⟨m.p, 4, none⟩ (.int .i64 v)) := by
  obtain ⟨ck, wr, mk, ho⟩ := h.obj
  exact ⟨Chg.set w (fpB_m hm m.p (by simp)) _, Shp.of114 (gb_set w m.p 4 _) hmo (hmo.set 4 (.int .i64 v)), ck, wr, mk, ho.eq ((gb_set w m.p 4 _).block b ho.lt (fun e => by injection e with e; exact (ho.ne hmo (by decide)) e))⟩
theorem set_bank {w : World} {b c i : Nat} {dn' : Bool} {ar' : Int} {A : Option Addr} {ms : List Mem} {cs : Array Value} (ho : Obj1 w b 109 cs) (v : Value) (hv : ∃ ck wr mk, cs.setIfInBounds i v = bankC A ms.length c dn' ck wr ar' mk) :
    BStep b A c ms dn' ar' w (w.setCell ⟨b, i, none⟩ v) := by
  obtain ⟨ck, wr, mk, e⟩ := hv
  refine ⟨Chg.set w (fpB_b b ms) _, Shp.other (gb_set w b i _) ho (by decide) (by decide) (by decide), ck, wr, mk, ?_⟩
  rw [← e]; exact ho.set i v
set_option maxHeartbeats 2000000 in
set_option maxRecDepth 100000 in
theorem counts_any {w : World} {b c ar : Nat} {A : Option Addr} {ms : List Mem} (h : BankI w b false (ar : Int) A c ms) (hl : ms.length ≤ 30) (ha : ar ≤ 1000) :
    Calls Try.prog 123 #[pv b] w (BPost (.bool (!decide (ar = 1))) b A c ms (decide (ar = 1)) ((ar - 1 : Nat) : Int) w) := by
  obtain ⟨ck, wt, mk, ho⟩ := h.obj
  have HB := Lib.hid h
  obtain ⟨K, hK⟩ : ∃ K, ms.length = K := ⟨_, rfl⟩
  have HKK := Lib.hid hK
  rw [hK] at ho hl
  have c1 : w.cell? ⟨b, 1, none⟩ = some (.bool false) := ho.cell 1
  have c3 : w.cell? ⟨b, 3, none⟩ = some (.int .i64 wt) := ho.cell 3
  have f3 := ho.frozen 3
  obtain ⟨wt', hwt⟩ : ∃ x, IntKind.i64.wrap (wt + 1) = x := ⟨_, rfl⟩
  have HW := Lib.hid hwt
  have o1 := ho.set 3 (.int .i64 wt')
  have c0 : (w.setCell ⟨b, 3, none⟩ (.int .i64 wt')).cell? ⟨b, 0, none⟩ = some (.slice A K c) := o1.cell 0
  have S1 := Lib.hid (set_bank (i := 3) (A := A) (c := c) (ms := ms) (dn' := false) (ar' := (ar : Int)) ho (.int .i64 wt') ⟨ck, wt', mk, by rw [hK]; rfl⟩)
  have HA := Lib.hid ha
  unfold pv
  clear h ho hK o1 ha
  go_enter Try.func123, Try.ntmps123
  go_wp2_with fail
  obtain ⟨w1, hw1⟩ : ∃ w1, w1 = w.setCell ⟨b, 3, none⟩ (.int .i64 wt') := ⟨_, rfl⟩
  rw [← hw1] at S1 ⊢
  clear hw1 c0 c1 c3 f3 hwt
  go_loopw [21] (fun i wr => ∃ k : Nat, k ≤ K ∧ i = .int .i64 k ∧ BStep b A c ms false (ar : Int) w wr) (fun i _ => K - (intOf i).toNat)
  case atStart => exact ⟨0, Nat.zero_le _, rfl, S1.out⟩
  case round =>
    clear S1
    obtain ⟨k, hk, rfl, hs⟩ := hrel
    have ST := Lib.hid hs; clear hs
    by_cases hlt : k < K
    · obtain ⟨i', g, m, hii, hi', hmi, hm, rfl, cp, hmem⟩ := (ST.out.bank HB.out).at (d := (k : Int)) (decide_eq_true (by have := HKK.out; omega))
      have : i' = k := by omega
      subst this
      have hki : i' < ms.length := by have := HKK.out; omega
      obtain ⟨dd, fa, hmo⟩ := hmem.mo
      have c4 : wr.cell? ⟨m.p, 4, none⟩ = some (.int .i64 fa) := hmo.cell 4
      have f4 := hmo.frozen 4
      obtain ⟨v, hv⟩ : ∃ v, IntKind.i64.wrap (fa - 1) = v := ⟨_, rfl⟩
      have S2 := Lib.hid (set_fail (ST.out.bank HB.out) hm hmo v)
      have HF := fail_any (S2.out.bank (ST.out.bank HB.out)) i' hki (by have := HKK.out; omega)
      unfold pv at HF cp
      unfold FailPost at HF
      have HF' := Lib.hid HF
      clear HF hmem hmo hmi hm hi' hii hki
      by_cases hp : 0 < fa
      · have e1 : decide (0 < fa) = true := decide_eq_true hp
        by_cases hz : v = 0
        · have e2 : (v == 0) = true := by simp [hz]
          rw [hz] at HF' S2 e2 hv
          clear hz
          go_wp2_with (go_at_call 65; (with_reducible refine HF'.out.mono ?_); rintro e w3 ⟨⟨x, rfl⟩, q1⟩; have Q1 := Lib.hid q1; clear q1)
          exact ⟨⟨i' + 1, hlt, rfl, (ST.out.trans S2.out).trans Q1.out⟩, by simp [intOf]; omega⟩
        · have e2 : (v == 0) = false := by simp [hz]
          have e3 : ¬ v = 0 := hz
          clear hz HF'
          go_wp2_with fail
          exact ⟨⟨i' + 1, hlt, rfl, ST.out.trans S2.out⟩, by simp [intOf]; omega⟩
      · have e1 : decide (0 < fa) = false := decide_eq_false hp
        clear HF' S2 hv
        go_wp2_with fail
        exact ⟨⟨i' + 1, hlt, rfl, ST.out⟩, by simp [intOf]; omega⟩
    · have hk' : k = K := by omega
      subst hk'
      obtain ⟨ck, wt, mk, bo⟩ := ST.out.obj
      have b4 : wr.cell? ⟨b, 4, none⟩ = some (.int .i64 ar) := bo.cell 4
      have b4f := bo.frozen 4
      rcases (show ar = 0 ∨ ar = 1 ∨ 2 ≤ ar by omega) with rfl | rfl | h2
      · go_wp2_with fail
        go_ret
        exact ⟨rfl, ST.out⟩
      · have o2 := bo.set 4 (.int .i64 0)
        have b5 : (wr.setCell ⟨b, 4, none⟩ (.int .i64 0)).cell? ⟨b, 5, none⟩ = some (.int .u64 (mk : Int)) := o2.cell 5
        have S3 := Lib.hid (set_bank (i := 4) (A := A) (c := c) (ms := ms) (dn' := false) (ar' := 0) bo (.int .i64 0) ⟨ck, wt, mk, rfl⟩)
        have HC := crash_up (S3.out.bank (ST.out.bank HB.out)) (by have := HKK.out; omega) mk
        unfold pv BPost at HC
        have HC' := Lib.hid HC
        clear HC o2 bo
        go_wp2_with (go_at_call 55; (with_reducible refine HC'.out.mono ?_); rintro e w3 ⟨rfl, q1⟩; have Q1 := Lib.hid q1; clear q1)
        go_ret
        exact ⟨rfl, (ST.out.trans S3.out).trans Q1.out⟩
      · have e0 : decide ((0 : Int) < (ar : Int)) = true := decide_eq_true (by omega)
        have e1 : ((ar : Int) - 1 == 0) = false := by simp; omega
        have e2 : ¬ ((ar : Int) - 1 = 0) := by omega
        have e4 : IntKind.i64.wrap ((ar : Int) - 1) = (ar : Int) - 1 := by rw [IntKind.wrap_i64]; have := HA.out; omega
        have S3 := Lib.hid (set_bank (i := 4) (A := A) (c := c) (ms := ms) (dn' := false) (ar' := (ar : Int) - 1) bo (.int .i64 ((ar : Int) - 1)) ⟨ck, wt, mk, rfl⟩)
        clear bo
        go_wp2_with fail
        go_ret
        have hd : decide (ar = 1) = false := decide_eq_false (by omega)
        have hs := ST.out.trans S3.out
        rw [show (ar : Int) - 1 = ((ar - 1 : Nat) : Int) by omega] at hs ⊢
        unfold BPost
        rw [hd]
        exact ⟨rfl, hs⟩
end Go.Proofs.Ytmcgfnfhpcddlaa


/- A bank's Write of noughts to the first disk's first sector: the bank keeps its shape. -/
namespace Go.Proofs.Ytmcgfnfhpcddlaa
open Go.RowKit Go.BW

theorem in_any {w : World} {p r1 r2 r3 n : Nat} {dd : Bool} {fa : Int} (hmo : Obj1 w p 114 (memC ⟨p, r1, r2, r3, n⟩ dd fa)) (hn : 1 ≤ n) : Calls Try.prog 125 #[pv p, .int .i64 0] w (Still (.bool true) w) := by
  have c1 : w.cell? ⟨p, 1, none⟩ = some (.slice (some ⟨r2, 0, none⟩) n n) := hmo.cell 1
  have hnz : 0 < n := hn
  unfold pv
  clear hmo
  go_enter Try.func125, Try.ntmps125
  go_wp2
  go_ret
  exact ⟨rfl, rfl⟩
theorem ready_any {w : World} {b c : Nat} {ar fa : Int} {A : Option Addr} {m0 : Mem} {ms : List Mem} {dd : Bool} (h : BankI w b false ar A c (m0 :: ms)) (hmo : Obj1 w m0.p 114 (memC m0 dd fa)) :
    Calls Try.prog 124 #[pv b, .int .i64 0] w (Still (if dd then .tuple #[.pointer none, .int .i64 7] else .tuple #[pv m0.p, .int .i64 0]) w) := by
  have hq : isB (m0 :: ms).length 0 = true := decide_eq_true (by simp)
  have HI := Lib.hid (is_any h 0)
  rw [hq] at HI
  obtain ⟨i, g, m, hi0, hi, hmi, hm, rfl, cp, hmem⟩ := h.at hq
  have : i = 0 := by omega
  subst this
  simp at hmi; subst hmi
  obtain ⟨ck, wr, mk, ho⟩ := h.obj
  obtain ⟨k, hk⟩ : ∃ k, (m0 :: ms).length = k := ⟨_, rfl⟩
  have hkz : 0 < k := by rw [← hk]; simp
  rw [hk] at ho
  have c0 : w.cell? ⟨b, 0, none⟩ = some (.slice (some ⟨g, 0, none⟩) k c) := ho.cell 0
  have c1 : w.cell? ⟨b, 1, none⟩ = some (.bool false) := ho.cell 1
  have c3 : w.cell? ⟨m0.p, 3, none⟩ = some (.bool dd) := hmo.cell 3
  unfold pv at HI cp ⊢
  clear h hq hmo hmem ho hm hi hi0 hk
  rcases dd with _ | _
  · go_enter Try.func124, Try.ntmps124
    go_wp2_with ((with_reducible refine HI.out.mono ?_); rintro e w' ⟨rfl, rfl⟩)
    go_ret2
    exact ⟨rfl, rfl⟩
  · go_enter Try.func124, Try.ntmps124
    go_wp2_with ((with_reducible refine HI.out.mono ?_); rintro e w' ⟨rfl, rfl⟩)
    go_ret2
    exact ⟨rfl, rfl⟩
def WrPost (b : Nat) (A : Option Addr) (c : Nat) (ms : List Mem) (ar : Nat) (w : World) (e : Ending) (w' : World) : Prop := (∃ v : Int, e = .returned (.int .i64 v)) ∧ BStep b A c ms (decide (ar = 1)) ((ar - 1 : Nat) : Int) w w'
/-- the arguments in variables of their own, behind any call of the bank's -/
theorem out_new {w w1 w2 : World} {b c x : Nat} {dn dn' : Bool} {ar ar' : Int} {A : Option Addr} {ms : List Mem} {t : TypeId} {cs : Array Value} (h : BankI w b dn ar A c ms) (s : BStep b A c ms dn' ar' w1 w2) (hx : w.heap.size ≤ x) (ho : Obj1 w1 x t cs) : Obj1 w2 x t cs :=
  ho.chg s.chg (fun hm => by have := h.lt x hm; omega)
set_option maxHeartbeats 2000000 in
set_option maxRecDepth 100000 in
theorem bwrite_any {w : World} {b c ar : Nat} {A : Option Addr} {ms : List Mem} (h : BankI w b false (ar : Int) A c ms) (hne : ms ≠ []) (hl : ms.length ≤ 30) (ha : ar ≤ 1000) (s : List UInt8) (hs : s.length = 64) :
    Calls Try.prog 122 #[pv b, .agg #[.int .i64 0, .int .i64 0], .agg (s.map bv).toArray] w (WrPost b A c ms ar w) := by
  have HB := Lib.hid h
  have HS := Lib.hid hs
  obtain ⟨W0, hW0⟩ : ∃ W0, W0 = (w.alloc (.cells #[.int .i64 0, .int .i64 0] 180)).alloc (.cells (s.map bv).toArray 33) := ⟨_, rfl⟩
  obtain ⟨X, hX⟩ : ∃ X, X = w.heap.size := ⟨_, rfl⟩
  obtain ⟨Y, hY⟩ : ∃ Y, Y = w.heap.size + 1 := ⟨_, rfl⟩
  have n1 : Nw w (w.alloc (.cells #[.int .i64 0, .int .i64 0] 180)) := World.grownBy_alloc w _ none
  have n2 : Nw (w.alloc (.cells #[.int .i64 0, .int .i64 0] 180)) W0 := by rw [hW0]; exact World.grownBy_alloc _ _ none
  have N0 := Lib.hid (gb_trans n1 n2)
  have OX := Lib.hid (show Obj1 W0 X 180 #[.int .i64 0, .int .i64 0] from by rw [hX]; exact (Obj1.new w _ _).nw n2)
  have OY := Lib.hid (show Obj1 W0 Y 33 (s.map bv).toArray from by
    have hz : (w.alloc (.cells #[.int .i64 0, .int .i64 0] 180)).heap.size = w.heap.size + 1 := by show (w.heap.push _).size = _; rw [Array.size_push]
    rw [hW0, hY, ← hz]; exact Obj1.new _ _ _)
  have XY := Lib.hid (show w.heap.size ≤ X ∧ w.heap.size ≤ Y from ⟨by omega, by omega⟩)
  have HCN := counts_any (h.nw N0.out) hl ha
  unfold pv BPost at HCN
  have HCN' := Lib.hid HCN
  unfold pv
  clear h hs HCN n1 n2
  rcases (show ar = 1 ∨ ar ≠ 1 by omega) with rfl | h1
  · have e1 : (!decide (1 = 1)) = false := rfl
    go_enter Try.func122, Try.ntmps122
    go_upto_region 1 with fail
    rw [← hW0]
    clear hW0 hX hY
    go_wp2_with (go_at_call 123; (with_reducible refine HCN'.out.mono ?_); rintro e w3 ⟨rfl, q1⟩; have Q1 := Lib.hid q1; clear q1)
    go_ret
    exact ⟨⟨_, rfl⟩, (BStep.of_nw HB.out N0.out).trans Q1.out⟩
  · have hd : decide (ar = 1) = false := decide_eq_false h1
    rw [hd] at HCN'
    obtain ⟨m0, rest, rfl⟩ : ∃ m0 rest, ms = m0 :: rest := by cases ms with
      | nil => exact absurd rfl hne
      | cons m r => exact ⟨m, r, rfl⟩
    obtain ⟨p, r1, r2, r3, n⟩ := m0
    go_enter Try.func122, Try.ntmps122
    go_upto_region 1 with fail
    rw [← hW0, ← hY, ← hX]
    clear hW0 hX hY
    go_upto_region 3 with (go_at_call 123; (with_reducible refine HCN'.out.mono ?_); rintro e w3 ⟨rfl, q1⟩; have Q1 := Lib.hid q1; clear q1)
    have HB3 := Lib.hid (Q1.out.bank (HB.out.nw N0.out))
    have X3 := Lib.hid (out_new HB.out Q1.out XY.out.1 OX.out)
    have Y3 := Lib.hid (out_new HB.out Q1.out XY.out.2 OY.out)
    have hm0 := HB3.out.mem 0 _ rfl
    obtain ⟨dd, fa, hmo⟩ := hm0.mo
    have HRD := ready_any HB3.out hmo
    have HM0 := Lib.hid hm0; have HMO := Lib.hid hmo
    have ST := Lib.hid ((BStep.of_nw HB.out N0.out).trans Q1.out)
    have x0 : w3.cell? ⟨X, 0, none⟩ = some (.int .i64 0) := X3.out.cell 0
    clear hm0 hmo HCN' Q1 HB OX OY N0
    unfold pv Still at HRD
    rcases dd with _ | _
    · have HRD' := Lib.hid HRD; clear HRD
      simp only [Bool.false_eq_true, if_false] at HRD'
      go_upto_region 6 with (go_at_call 124; (with_reducible refine HRD'.out.mono ?_); rintro e w4 ⟨rfl, rfl⟩)
      clear HRD' x0
      have hn := HM0.out.c.1
      have hn4 := HM0.out.small
      have HN := Lib.hid (show 1 ≤ n ∧ n ≤ 4096 from ⟨hn, hn4⟩)
      have HIN := Lib.hid (in_any (w := w3.drew) (HMO.out) hn)
      unfold pv Still at HIN
      have x1 : ∀ w', Nw w3 w' → w'.cell? ⟨X, 1, none⟩ = some (.int .i64 0) := fun w' k => (X3.out.nw k).cell 1
      refine wp_region_held (S := (fun w' => Nw w3 w')) (by kernel_rfl) ?_
      change wpAnyH _ _ _ _ _ _ _ _ (World.drew w3)
      refine held_seg' (l := [0, 1, 2, 3, 4]) (fuel := 2) rfl (by kernel_rfl) (by kernel_rfl) (by simp only [List.filterMap_cons, List.filterMap_nil, List.getElem?_toArray, List.getElem?_cons_succ, List.getElem?_cons_zero]; rfl) (fun _ _ d _ _ h => by cases d <;> exact h) (gb_drew (Nw.refl w3)) ?_
      iterate 5 (refine wpYield_step rfl (fun K hK => ?_)
                 apply Exists.intro
                 refine ⟨fun w' hw' => ?_, ?_⟩
                 · (go_simp; try with_reducible rfl)
                 go_simp
                 refine hK _ ?_
                 clear hK K)
      refine wpYield_nil ?_
      refine held_eff 5 rfl (by kernel_rfl) rfl (fun K hK => ?_)
      go_simp
      refine HIN.out.mono ?_
      rintro e w5 ⟨rfl, rfl⟩
      refine hK _ _ ⟨gb_drew (Nw.refl w3), ?_⟩
      clear hK K
      refine held_seg' (l := [6]) (fuel := 0) rfl (by kernel_rfl) (by kernel_rfl) (by simp only [List.filterMap_cons, List.filterMap_nil, List.getElem?_toArray, List.getElem?_cons_succ, List.getElem?_cons_zero]; rfl) (fun _ _ d _ _ h => by cases d <;> exact h) (gb_drew (Nw.refl w3)) ?_
      (refine wpYield_step rfl (fun K hK => ?_)
       apply Exists.intro
       refine ⟨fun w' hw' => ?_, ?_⟩
       · (go_simp; try with_reducible rfl)
       go_simp
       refine hK _ ?_
       clear hK K)
      refine wpYield_nil ?_
      refine wpAnyH_done (by kernel_rfl) ?_ _
      have HB4 := Lib.hid HB3.out.drewB
      have X4 := Lib.hid (show Obj1 w3.drew X 180 #[.int .i64 0, .int .i64 0] from X3.out)
      have Y4 := Lib.hid (show Obj1 w3.drew Y 33 (s.map bv).toArray from Y3.out)
      have ST4 := Lib.hid (ST.out.trans (BStep.of_nw HB3.out (gb_drew (Nw.refl w3))))
      have HM4 := Lib.hid (show Obj1 w3.drew p 114 (memC ⟨p, r1, r2, r3, n⟩ false fa) from HMO.out)
      clear HIN x1 HB3 X3 Y3 ST HM0 HMO
      generalize w3.drew = w4 at HB4 X4 Y4 ST4 HM4 ⊢
      go_upto_region 8 with fail
      have hm4 := HB4.out.mem 0 _ rfl
      obtain ⟨ys, hy, oy⟩ := C33.own hm4.b hn4
      obtain ⟨_, z, hz, o3⟩ := hm4.c
      have OY := Lib.hid oy; have HY := Lib.hid hy; have O3 := Lib.hid o3
      have x1 : ∀ w', Nw w4 w' → w'.cell? ⟨X, 1, none⟩ = some (.int .i64 0) := fun w' k => (X4.out.nw k).cell 1
      have p1 : ∀ w', Nw w4 w' → w'.cell? ⟨p, 1, none⟩ = some (.slice (some ⟨r2, 0, none⟩) n n) := fun w' k => (HM4.out.nw k).cell 1
      have L1 := Lib.hid (show ∀ w', Nw w4 w' → ∀ j u, (s.map bv)[j]? = some u → w'.cell? ⟨Y, 0 + j, none⟩ = some u from fun w' k j u hu => by rw [Nat.zero_add, (Y4.out.nw k).cell j]; simpa using hu)
      have hnz : 0 < n := hn
      clear hm4 oy hy hz o3 hn hn4
      refine wp_region_U [9] (fun w' => Nw w4 w') (by kernel_rfl) ?_
      change wpU _ _ _ _ _ _ _ _ _ (World.drew w4)
      refine U_segL (r := [0, 1, 2, 3, 4, 5, 6, 7, 8]) (fuel := 1) rfl (by kernel_rfl) (by kernel_rfl) (by simp only [List.filterMap_cons, List.filterMap_nil, List.getElem?_toArray, List.getElem?_cons_succ, List.getElem?_cons_zero]; rfl) (fun _ _ d _ _ h => by cases d <;> exact h) (gb_drew (Nw.refl w4)) ?_
      iterate 7 (refine wpYield_step rfl (fun K hK => ?_)
                 apply Exists.intro
                 refine ⟨fun w' hw' => ?_, ?_⟩
                 · (go_simp; try with_reducible rfl)
                 go_simp
                 refine hK _ ?_
                 clear hK K)
      refine wpYield_load_agg 33 _ rfl rfl rfl (s.map bv) (fun w' hw' => L1.out w' hw') _ Try.underlying33 rfl (i33' HS.out) ?_
      (refine wpYield_step rfl (fun K hK => ?_)
       apply Exists.intro
       refine ⟨fun w' hw' => ?_, ?_⟩
       · (go_simp; try with_reducible rfl)
       go_simp
       refine hK _ ?_
       clear hK K)
      refine wpYield_nil ?_
      refine U_eff 9 rfl (by kernel_rfl) rfl (fun K hK => ?_)
      refine wp_store_own (size := 64) (cs := s.map bv) (off := 0) 33 _ _ rfl rfl (v := .agg (s.map bv).toArray) rfl rfl (i33' HS.out) (sec_one _) (OY.out.drew) (by rw [List.length_map, HS.out]; have := HN.out; omega) (fun w5 s5 g5 => ?_)
      refine hK _ _ ⟨until_past (by kernel_rfl), ?_⟩
      clear hK K x1 p1
      refine U_done (by kernel_rfl) ?_ _
      rw [set_bv] at s5
      have g5' : w4.grownBy w5 (some r2) := gb_of_drew g5
      have S5 := Lib.hid (set_step HB4.out (Chg.of_gb (F := [r1, r2, r3]) g5' (by intro q e; injection e with e; subst e; simp)) (Shp.of33 g5' (own_full OY.out (by omega)) (own_full s5 (by omega)) (setP_len HY.out HS.out HN.out.1)))
      have X5 := Lib.hid (show Obj1 w5 X 180 #[.int .i64 0, .int .i64 0] from X4.out.eq (g5'.block _ X4.out.lt (fun e => by injection e with e; obtain ⟨cur, hc⟩ := OY.out.obj; exact (X4.out.ne hc (by decide)) e)))
      have HM5 := Lib.hid (show Obj1 w5 p 114 (memC ⟨p, r1, r2, r3, n⟩ false fa) from HM4.out.eq (g5'.block _ HM4.out.lt (fun e => by injection e with e; obtain ⟨cur, hc⟩ := OY.out.obj; exact (HM4.out.ne hc (by decide)) e)))
      have O5 := Lib.hid (show Obj1 w5 r3 3 ((z :: List.replicate (n - 1) (0 : Int)).map iv).toArray from O3.out.eq (g5'.block _ O3.out.lt (fun e => by injection e with e; obtain ⟨cur, hc⟩ := OY.out.obj; exact (O3.out.ne hc (by decide)) e)))
      have ST5 := Lib.hid (ST4.out.trans S5.out)
      have HB5 := Lib.hid (S5.out.bank HB4.out)
      clear s5 g5 g5' X4 Y4 HM4 O3 OY HY L1 S5 ST4 HB4
      go_upto_region 9 with fail
      have x1 : ∀ w', Nw w5 w' → w'.cell? ⟨X, 1, none⟩ = some (.int .i64 0) := fun w' k => (X5.out.nw k).cell 1
      have p1 : ∀ w', Nw w5 w' → w'.cell? ⟨p, 2, none⟩ = some (.slice (some ⟨r3, 0, none⟩) n n) := fun w' k => (HM5.out.nw k).cell 2
      have z1 : ∀ w', Nw w5 w' → w'.cell? ⟨r3, 0, none⟩ = some (.int .i64 z) := fun w' k => (O5.out.nw k).cell 0
      refine wp_region_held (S := (fun w' => Nw w5 w')) (by kernel_rfl) ?_
      change wpAnyH _ _ _ _ _ _ _ _ (World.drew w5)
      refine held_seg' (l := [0, 1, 2, 3, 4, 5, 6, 7, 8, 9]) (fuel := 0) rfl (by kernel_rfl) (by kernel_rfl) (by simp only [List.filterMap_cons, List.filterMap_nil, List.getElem?_toArray, List.getElem?_cons_succ, List.getElem?_cons_zero]; rfl) (fun _ _ d _ _ h => by cases d <;> exact h) (gb_drew (Nw.refl w5)) ?_
      iterate 10 (refine wpYield_step rfl (fun K hK => ?_)
                  apply Exists.intro
                  refine ⟨fun w' hw' => ?_, ?_⟩
                  · (go_simp; try with_reducible rfl)
                  go_simp
                  refine hK _ ?_
                  clear hK K)
      refine wpYield_nil ?_
      refine wpAnyH_done (by kernel_rfl) ?_ _
      clear x1 p1 z1
      have HB6 := Lib.hid HB5.out.drewB
      have X6 := Lib.hid (show Obj1 w5.drew X 180 #[.int .i64 0, .int .i64 0] from X5.out)
      have ST6 := Lib.hid (ST5.out.trans (BStep.of_nw HB5.out (gb_drew (Nw.refl w5))))
      have HM6 := Lib.hid (show Obj1 w5.drew p 114 (memC ⟨p, r1, r2, r3, n⟩ false fa) from HM5.out)
      have O6 := Lib.hid (show Obj1 w5.drew r3 3 ((z :: List.replicate (n - 1) (0 : Int)).map iv).toArray from O5.out)
      clear HB5 X5 ST5 HM5 O5
      generalize w5.drew = w6 at HB6 X6 ST6 HM6 O6 ⊢
      by_cases hz : z = 0
      · have e1 : (z == 0) = true := by simp [hz]
        obtain ⟨ck, wt, mk, bo⟩ := HB6.out.obj
        have b2 : w6.cell? ⟨b, 2, none⟩ = some (.int .i64 ck) := bo.cell 2
        have b2f := bo.frozen 2
        obtain ⟨ck', hck⟩ : ∃ x, IntKind.i64.wrap (ck + 1) = x := ⟨_, rfl⟩
        have HCK := Lib.hid hck
        have S7 := Lib.hid (set_bank (i := 2) (A := A) (c := c) (ms := ⟨p, r1, r2, r3, n⟩ :: rest) (dn' := false) (ar' := ((ar - 1 : Nat) : Int)) bo (.int .i64 ck') ⟨ck', wt, mk, rfl⟩)
        have BO7 := Lib.hid (bo.set 2 (.int .i64 ck'))
        have g7 := gb_set w6 b 2 (.int .i64 ck')
        have X7 := Lib.hid (show Obj1 (w6.setCell ⟨b, 2, none⟩ (.int .i64 ck')) X 180 #[.int .i64 0, .int .i64 0] from X6.out.eq (g7.block _ X6.out.lt (fun e => by injection e with e; exact (X6.out.ne bo (by decide)) e)))
        have HM7 := Lib.hid (show Obj1 (w6.setCell ⟨b, 2, none⟩ (.int .i64 ck')) p 114 (memC ⟨p, r1, r2, r3, n⟩ false fa) from HM6.out.eq (g7.block _ HM6.out.lt (fun e => by injection e with e; exact (HM6.out.ne bo (by decide)) e)))
        have O7 := Lib.hid (show Obj1 (w6.setCell ⟨b, 2, none⟩ (.int .i64 ck')) r3 3 ((z :: List.replicate (n - 1) (0 : Int)).map iv).toArray from O6.out.eq (g7.block _ O6.out.lt (fun e => by injection e with e; exact (O6.out.ne bo (by decide)) e)))
        have HB7 := Lib.hid (S7.out.bank HB6.out)
        have ST7 := Lib.hid (ST6.out.trans S7.out)
        obtain ⟨w7, hw7⟩ : ∃ w7, w6.setCell ⟨b, 2, none⟩ (.int .i64 ck') = w7 := ⟨_, rfl⟩
        rw [hw7] at BO7 X7 HM7 O7 HB7 ST7
        clear g7 bo S7 X6 HM6 O6 HB6 ST6 hz
        go_upto_region 11 with fail
        clear hw7 b2 b2f hck
        have x1 : ∀ w', Nw w7 w' → w'.cell? ⟨X, 1, none⟩ = some (.int .i64 0) := fun w' k => (X7.out.nw k).cell 1
        have p1 : ∀ w', Nw w7 w' → w'.cell? ⟨p, 2, none⟩ = some (.slice (some ⟨r3, 0, none⟩) n n) := fun w' k => (HM7.out.nw k).cell 2
        have b1 : ∀ w', Nw w7 w' → w'.cell? ⟨b, 2, none⟩ = some (.int .i64 ck') := fun w' k => (BO7.out.nw k).cell 2
        have z1 : w7.drew.cell? ⟨r3, 0, none⟩ = some (.int .i64 z) := O7.out.cell 0
        have z2 : w7.drew.frozen? ⟨r3, 0, none⟩ = false := O7.out.frozen 0
        refine wp_region_U [12] (fun w' => Nw w7 w') (by kernel_rfl) ?_
        change wpU _ _ _ _ _ _ _ _ _ (World.drew w7)
        refine U_segL (r := [0, 1, 2, 3, 4, 5, 6, 7, 8, 9, 10, 11]) (fuel := 1) rfl (by kernel_rfl) (by kernel_rfl) (by simp only [List.filterMap_cons, List.filterMap_nil, List.getElem?_toArray, List.getElem?_cons_succ, List.getElem?_cons_zero]; rfl) (fun _ _ d _ _ h => by cases d <;> exact h) (gb_drew (Nw.refl w7)) ?_
        iterate 12 (refine wpYield_step rfl (fun K hK => ?_)
                    apply Exists.intro
                    refine ⟨fun w' hw' => ?_, ?_⟩
                    · (go_simp; try with_reducible rfl)
                    go_simp
                    refine hK _ ?_
                    clear hK K)
        refine wpYield_nil ?_
        clear x1 p1 b1
        refine U_eff 12 rfl (by kernel_rfl) rfl (fun K hK => ?_)
        go_simp
        refine hK _ _ ⟨until_past (by kernel_rfl), ?_⟩
        clear hK K
        refine U_done (by kernel_rfl) ?_ _
        have s8 : Shp r3 w7.drew (w7.drew.setCell ⟨r3, 0, none⟩ (.int .i64 ck')) := Shp.of3 (z := z) (z' := ck') (gb_set _ r3 0 _) O7.out (O7.out.set 0 (.int .i64 ck')) HN.out.1
        have S8 := Lib.hid ((BStep.of_nw HB7.out (gb_drew (Nw.refl w7))).trans (set_step HB7.out.drewB (Chg.set _ (F := [r1, r2, r3]) (by simp) _) s8))
        clear z1 z2 s8
        go_wp2
        go_ret
        have := ST7.out.trans S8.out
        exact ⟨⟨_, rfl⟩, by rw [hd]; exact this⟩
      · have e1 : (z == 0) = false := by simp [hz]
        have e2 : ¬ z = 0 := hz
        clear X6 HM6 O6 HB6
        go_wp2
        go_ret
        have := ST6.out
        exact ⟨⟨_, rfl⟩, by rw [hd]; exact this⟩
    · have HRD' := Lib.hid HRD; clear HRD
      simp only [if_true] at HRD'
      go_wp2_with (go_at_call 124; (with_reducible refine HRD'.out.mono ?_); rintro e w4 ⟨rfl, rfl⟩)
      go_ret
      have := ST.out
      exact ⟨⟨_, rfl⟩, by rw [hd]; exact this⟩
end Go.Proofs.Ytmcgfnfhpcddlaa

