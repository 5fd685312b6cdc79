/- A disk's inner calls: settling its first sector, going through the loose ones; for a disk of which the first sector alone may be loose. -/
import Derived.Test.YtmcgfnfhpcddlaaJM
import Derived.Test.YtmcgfnfhpcddlaaJE
import Derived.Test.YtmcgfnfhpcddlaaJA
import Derived.Shelf.Abstract
set_option linter.unusedVariables false
set_option linter.unusedSimpArgs false
/- A disk's inner calls: settling its first sector, going through the loose ones; for a disk of which the first sector alone may be loose. -/
namespace Go.Proofs.Ytmcgfnfhpcddlaa
open Go.RowKit Go.BW

theorem C33.own {w : World} {r n : Nat} (h : C33 w r n) (hn : n ≤ 4096) : ∃ xs : List UInt8, xs.length = 64 * n ∧ Own w 0 33 64 (some ⟨r, 0, none⟩) n n (xs.map bv) := by
  obtain ⟨xs, h1, h2⟩ := h
  have hs : (xs.map bv).toArray.size = n * 64 := by simp; omega
  refine ⟨xs, h1, by simp; omega, .inr ⟨r, n, (xs.map bv).toArray, rfl, Nat.zero_le _, h2, Nat.le_refl _, by unfold maxLen; omega, hs, ?_⟩⟩
  rw [List.take_of_length_le]; simp; omega
def SetPost (m : Mem) (w : World) (e : Ending) (w' : World) : Prop := e = .returned (.tuple #[]) ∧ Chg w w' [m.r1, m.r2, m.r3] ∧ Shp m.r3 w w'
theorem iv_one1 (l : List Int) : ∀ u ∈ l.map iv, u.oneCell' = true := by intro u hu; obtain ⟨x, _, rfl⟩ := List.mem_map.1 hu; rfl
theorem set_bv (l s : List UInt8) : splice (l.map bv) 0 (s.map bv) = (splice l 0 s).map bv := by unfold splice; simp
theorem setP_len {l s : List UInt8} {n : Nat} (h : l.length = 64 * n) (hs : s.length = 64) (hn : 1 ≤ n) : (splice l 0 s).length = l.length := by unfold splice; simp; omega
theorem set_end {w w9 : World} {p r1 r2 r3 n r : Nat} {z : Int} (g9 : w.grownBy w9 (some r)) (hr : r ∈ [r1, r2, r3]) (s1 : Shp r3 w w9) (o9 : Obj1 w9 r3 3 ((z :: List.replicate (n - 1) (0 : Int)).map iv).toArray) (hn : 1 ≤ n) :
    SetPost ⟨p, r1, r2, r3, n⟩ w (.returned (.tuple #[])) (w9.setCell ⟨r3, 0, none⟩ (.int .i64 0)) := by
  refine ⟨rfl, (Chg.of_gb (F := [r1, r2, r3]) g9 (by intro q e; injection e with e; subst e; exact hr)).trans (Chg.set w9 (F := [r1, r2, r3]) (by simp) _) (fun x hx => .inl hx), s1.trans (Shp.of3 (gb_set w9 r3 0 _) o9 (z' := 0) ?_ hn)⟩
  have := o9.set 0 (.int .i64 0)
  exact this
set_option maxHeartbeats 1000000 in
set_option maxRecDepth 100000 in
theorem settle_any {w : World} {f : Bool} {m : Mem} (h : MemI w f m) (keep : Bool) : Calls Try.prog 72 #[pv m.p, .int .i64 0, .bool keep] w (SetPost m w) := by
  obtain ⟨p, r1, r2, r3, n⟩ := m
  obtain ⟨dd, fa, hmo⟩ := h.mo
  have hn : 1 ≤ n := h.c.1
  have h4 : n ≤ 4096 := h.small
  obtain ⟨xs, hx, ox⟩ := C33.own h.a h4
  obtain ⟨ys, hy, oy⟩ := C33.own h.b h4
  obtain ⟨_, z, hz, o3⟩ := h.c
  have c0 : ∀ w', Nw w w' → w'.cell? ⟨p, 0, none⟩ = some (.slice (some ⟨r1, 0, none⟩) n n) := fun w' k => (hmo.nw k).cell 0
  have c1 : ∀ w', Nw w w' → w'.cell? ⟨p, 1, none⟩ = some (.slice (some ⟨r2, 0, none⟩) n n) := fun w' k => (hmo.nw k).cell 1
  have l1 : ∀ w', Nw w w' → ∀ j u, ((xs.take 64).map bv)[j]? = some u → w'.cell? ⟨r1, j, none⟩ = some u := fun w' k j u hu => by
    have hj : j < 64 := by have := (List.getElem?_eq_some_iff.1 hu).1; simp at this; omega
    obtain ⟨u2, g1, g2, _⟩ := (ox.nw k).cellN (k := j) (by omega)
    rw [List.getElem?_map, List.getElem?_take_of_lt hj, ← List.getElem?_map, g1] at hu
    injection hu with hu; rw [← hu]; exact g2
  have l2 : ∀ w', Nw w w' → ∀ j u, ((ys.take 64).map bv)[j]? = some u → w'.cell? ⟨r2, j, none⟩ = some u := fun w' k j u hu => by
    have hj : j < 64 := by have := (List.getElem?_eq_some_iff.1 hu).1; simp at this; omega
    obtain ⟨u2, g1, g2, _⟩ := (oy.nw k).cellN (k := j) (by omega)
    rw [List.getElem?_map, List.getElem?_take_of_lt hj, ← List.getElem?_map, g1] at hu
    injection hu with hu; rw [← hu]; exact g2
  have L1 := Lib.hid l1; have L2 := Lib.hid l2
  have OX := Lib.hid ox; have OY := Lib.hid oy; have O3 := Lib.hid o3; have HM := Lib.hid hmo
  have HX := Lib.hid hx; have HY := Lib.hid hy; have HN := Lib.hid (show 1 ≤ n ∧ n ≤ 4096 from ⟨hn, h4⟩)
  have hxl : (xs.take 64).length = 64 := by simp; omega
  have hyl : (ys.take 64).length = 64 := by simp; omega
  have HXL := Lib.hid hxl; have HYL := Lib.hid hyl
  have hnz : 0 < n := by omega
  obtain ⟨x64, hx64⟩ : ∃ l, xs.take 64 = l := ⟨_, rfl⟩
  obtain ⟨y64, hy64⟩ : ∃ l, ys.take 64 = l := ⟨_, rfl⟩
  rw [hx64] at L1 HXL; rw [hy64] at L2 HYL
  unfold pv
  clear h l1 l2 ox oy o3 hmo hz hx hy hxl hyl h4 hn hx64 hy64
  rcases keep with _ | _
  all_goals go_enter Try.func72, Try.ntmps72
  · go_upto_region 2 with fail
    refine wp_region_U [13] (fun w' => Nw w w') (by kernel_rfl) ?_
    change wpU _ _ _ _ _ _ _ _ _ (World.drew w)
    refine U_segL (r := [0, 1, 2, 3, 4, 5, 6, 7, 8, 9, 10, 11, 12]) (fuel := 1) rfl (by kernel_rfl) (by kernel_rfl) (by simp only [List.filterMap_cons, List.filterMap_nil, List.getElem?_toArray, List.getElem?_cons_succ, List.getElem?_cons_zero]; rfl) (fun _ _ d _ _ h => by cases d <;> exact h) (gb_drew (Nw.refl w)) ?_
    iterate 11 (refine wpYield_step rfl (fun K hK => ?_)
                apply Exists.intro
                refine ⟨fun w' hw' => ?_, ?_⟩
                · (go_simp; try with_reducible rfl)
                go_simp
                refine hK _ ?_
                clear hK K)
    refine wpYield_load_agg 33 _ rfl rfl rfl (x64.map bv) (fun w' hw' j u hu => by rw [Nat.zero_add]; exact L1.out w' hw' j u hu) _ Try.underlying33 rfl (i33' HXL.out) ?_
    (refine wpYield_step rfl (fun K hK => ?_)
     apply Exists.intro
     refine ⟨fun w' hw' => ?_, ?_⟩
     · (go_simp; try with_reducible rfl)
     go_simp
     refine hK _ ?_
     clear hK K)
    refine wpYield_nil ?_
    refine U_eff 13 rfl (by kernel_rfl) rfl (fun K hK => ?_)
    refine wp_store_own (size := 64) (cs := x64.map bv) (off := 0) 33 _ _ rfl rfl (v := .agg (x64.map bv).toArray) rfl rfl (i33' HXL.out) (sec_one _) (OY.out.drew) (by rw [List.length_map, HXL.out]; have := HN.out; omega) (fun w9 s9 g9 => ?_)
    refine hK _ _ ⟨until_past (by kernel_rfl), ?_⟩
    clear hK K
    refine U_done (by kernel_rfl) ?_ _
    rw [set_bv] at s9
    have g9' : w.grownBy w9 (some r2) := gb_of_drew g9
    have m9 : Obj1 w9 p 114 (memC ⟨p, r1, r2, r3, n⟩ dd fa) := HM.out.eq (g9'.block _ HM.out.lt (fun e => by injection e with e; obtain ⟨cur, hc⟩ := OY.out.obj; exact (HM.out.ne hc (by decide)) e))
    have o9 : Obj1 w9 r3 3 ((z :: List.replicate (n - 1) (0 : Int)).map iv).toArray := O3.out.eq (g9'.block _ O3.out.lt (fun e => by injection e with e; obtain ⟨cur, hc⟩ := OY.out.obj; exact (O3.out.ne hc (by decide)) e))
    have s1 : Shp r3 w w9 := Shp.of33 g9' (own_full OY.out (by omega)) (own_full s9 (by omega)) (setP_len HY.out HXL.out HN.out.1)
    have k2 : w9.cell? ⟨p, 2, none⟩ = some (.slice (some ⟨r3, 0, none⟩) n n) := m9.cell 2
    have k3 : w9.cell? ⟨r3, 0, none⟩ = some (.int .i64 z) := o9.cell 0
    have k4 := o9.frozen 0
    have S1 := Lib.hid s1; have O9 := Lib.hid o9; have G9 := Lib.hid g9'
    clear s9 g9 m9 o9 s1 g9'
    go_wp2
    go_end0
    exact set_end G9.out (by simp) S1.out O9.out HN.out.1
  · go_upto_region 2 with fail
    refine wp_region_U [13] (fun w' => Nw w w') (by kernel_rfl) ?_
    change wpU _ _ _ _ _ _ _ _ _ (World.drew w)
    refine U_segL (r := [0, 1, 2, 3, 4, 5, 6, 7, 8, 9, 10, 11, 12]) (fuel := 1) rfl (by kernel_rfl) (by kernel_rfl) (by simp only [List.filterMap_cons, List.filterMap_nil, List.getElem?_toArray, List.getElem?_cons_succ, List.getElem?_cons_zero]; rfl) (fun _ _ d _ _ h => by cases d <;> exact h) (gb_drew (Nw.refl w)) ?_
    iterate 11 (refine wpYield_step rfl (fun K hK => ?_)
                apply Exists.intro
                refine ⟨fun w' hw' => ?_, ?_⟩
                · (go_simp; try with_reducible rfl)
                go_simp
                refine hK _ ?_
                clear hK K)
    refine wpYield_load_agg 33 _ rfl rfl rfl (y64.map bv) (fun w' hw' j u hu => by rw [Nat.zero_add]; exact L2.out w' hw' j u hu) _ Try.underlying33 rfl (i33' HYL.out) ?_
    (refine wpYield_step rfl (fun K hK => ?_)
     apply Exists.intro
     refine ⟨fun w' hw' => ?_, ?_⟩
     · (go_simp; try with_reducible rfl)
     go_simp
     refine hK _ ?_
     clear hK K)
    refine wpYield_nil ?_
    refine U_eff 13 rfl (by kernel_rfl) rfl (fun K hK => ?_)
    refine wp_store_own (size := 64) (cs := y64.map bv) (off := 0) 33 _ _ rfl rfl (v := .agg (y64.map bv).toArray) rfl rfl (i33' HYL.out) (sec_one _) (OX.out.drew) (by rw [List.length_map, HYL.out]; have := HN.out; omega) (fun w9 s9 g9 => ?_)
    refine hK _ _ ⟨until_past (by kernel_rfl), ?_⟩
    clear hK K
    refine U_done (by kernel_rfl) ?_ _
    rw [set_bv] at s9
    have g9' : w.grownBy w9 (some r1) := gb_of_drew g9
    have m9 : Obj1 w9 p 114 (memC ⟨p, r1, r2, r3, n⟩ dd fa) := HM.out.eq (g9'.block _ HM.out.lt (fun e => by injection e with e; obtain ⟨cur, hc⟩ := OX.out.obj; exact (HM.out.ne hc (by decide)) e))
    have o9 : Obj1 w9 r3 3 ((z :: List.replicate (n - 1) (0 : Int)).map iv).toArray := O3.out.eq (g9'.block _ O3.out.lt (fun e => by injection e with e; obtain ⟨cur, hc⟩ := OX.out.obj; exact (O3.out.ne hc (by decide)) e))
    have s1 : Shp r3 w w9 := Shp.of33 g9' (own_full OX.out (by omega)) (own_full s9 (by omega)) (setP_len HX.out HYL.out HN.out.1)
    have k2 : w9.cell? ⟨p, 2, none⟩ = some (.slice (some ⟨r3, 0, none⟩) n n) := m9.cell 2
    have k3 : w9.cell? ⟨r3, 0, none⟩ = some (.int .i64 z) := o9.cell 0
    have k4 := o9.frozen 0
    have S1 := Lib.hid s1; have O9 := Lib.hid o9; have G9 := Lib.hid g9'
    clear s9 g9 m9 o9 s1 g9'
    go_wp2
    go_end0
    exact set_end G9.out (by simp) S1.out O9.out HN.out.1
end Go.Proofs.Ytmcgfnfhpcddlaa


/- Going through a disk's loose sectors, of which there is the first one at most; for whatever is done there. -/
namespace Go.Proofs.Ytmcgfnfhpcddlaa
open Go.RowKit Go.BW

theorem C3.cell0 {w : World} {f : Bool} {r n : Nat} (h : C3 w f r n) : ∃ z : Int, (f = false → z = 0) ∧ w.cell? ⟨r, 0, none⟩ = some (.int .i64 z) := by
  obtain ⟨_, z, hz, h⟩ := h; exact ⟨z, hz, h.cell 0⟩
theorem C3.cellk {w : World} {f : Bool} {r n k : Nat} (h : C3 w f r n) (h1 : 1 ≤ k) (h2 : k < n) : w.cell? ⟨r, k, none⟩ = some (.int .i64 0) := by
  obtain ⟨_, z, hz, h⟩ := h
  rw [h.cell k]
  obtain ⟨j, rfl⟩ : ∃ j, k = j + 1 := ⟨k - 1, by omega⟩
  rw [List.getElem?_toArray, List.map_cons, List.getElem?_cons_succ, List.getElem?_map, List.getElem?_replicate, if_pos (by omega)]
  rfl
def LooseQ (Q : World → Prop) (e : Ending) (w' : World) : Prop := e = .returned (.tuple #[]) ∧ Q w'
def LooseR (w : World) (Q : World → Prop) (k n : Nat) (wr : World) : Prop := k ≤ n ∧ ((k = 0 ∧ wr = w) ∨ (1 ≤ k ∧ Q wr))
set_option maxHeartbeats 1000000 in
set_option maxRecDepth 100000 in
theorem loose_any {w : World} {f dd : Bool} {fa : Int} {p r1 r2 r3 n fn : Nat} {caps : Array Value} {Q : World → Prop} (hmo : Obj1 w p 114 (memC ⟨p, r1, r2, r3, n⟩ dd fa)) (h3 : C3 w f r3 n)
    (eg : ∀ args w, (callFunc fn args).run Try.prog w = .ok (.enter fn args) w) (hn : n ≤ 4096)
    (hq : Q w) (hdo : f = true → Calls Try.prog fn (#[.int .i64 0] ++ caps) w (LooseQ Q)) (hk : ∀ w', Q w' → C3 w' true r3 n) :
    Calls Try.prog 67 #[pv p, .func (.func fn) #[] caps] w (LooseQ Q) := by
  have c2 : w.cell? ⟨p, 2, none⟩ = some (.slice (some ⟨r3, 0, none⟩) n n) := hmo.cell 2
  have hn1 : 1 ≤ n := h3.1
  obtain ⟨z, hz, cz⟩ := h3.cell0
  have HK := Lib.hid hk; have HD := Lib.hid hdo; have HQ := Lib.hid hq; have HZ := Lib.hid hz; have CZ := Lib.hid cz
  unfold pv
  clear hmo h3 hk hdo hq hz cz
  go_enter Try.func67, Try.ntmps67
  go_wp2
  clear c2
  go_loopw [11] (fun i wr => ∃ k : Nat, i = .int .i64 k ∧ LooseR w Q k n wr) (fun i _ => n - (intOf i).toNat)
  case atStart => exact ⟨0, rfl, Nat.zero_le _, .inl ⟨rfl, rfl⟩⟩
  case round =>
    obtain ⟨k, rfl, hkn, hw⟩ := hrel
    by_cases hlt : k < n
    · rcases hw with ⟨rfl, rfl⟩ | ⟨h1, hQ⟩
      · have cz := CZ.out
        by_cases hzp : 0 < z
        · have hf : f = true := by cases f with
            | true => rfl
            | false => have := HZ.out rfl; omega
          have hc := Lib.hid (HD.out hf)
          have e1 : decide (0 < z) = true := decide_eq_true hzp
          have hnz : 0 < n := hlt
          clear hf hzp
          unfold LooseQ at hc
          go_wp2_with fail
          refine hc.out.mono ?_; rintro e w1 ⟨rfl, q1⟩; have Q1 := Lib.hid q1; clear q1 eg
          go_wp2
          exact ⟨⟨0 + 1, rfl, hlt, .inr ⟨Nat.le_refl _, Q1.out⟩⟩, by simp [intOf]; omega⟩
        · have e1 : decide (0 < z) = false := decide_eq_false hzp
          have hnz : 0 < n := hlt
          clear hzp
          go_wp2
          exact ⟨⟨0 + 1, rfl, hlt, .inr ⟨Nat.le_refl _, HQ.out⟩⟩, by simp [intOf]; omega⟩
      · have ck : wr.cell? ⟨r3, k, none⟩ = some (.int .i64 0) := (HK.out wr hQ).cellk h1 hlt
        have QH := Lib.hid hQ; clear hQ eg
        go_wp2
        exact ⟨⟨k + 1, rfl, hlt, .inr ⟨by omega, QH.out⟩⟩, by simp [intOf]; omega⟩
    · have hk' : k = n := by omega
      subst hk'
      go_wp2
      go_end0
      rcases hw with ⟨h0, _⟩ | ⟨_, hQ⟩
      · omega
      · exact ⟨rfl, hQ⟩
end Go.Proofs.Ytmcgfnfhpcddlaa


/- A disk that fails: the bank keeps its shape. -/
namespace Go.Proofs.Ytmcgfnfhpcddlaa
open Go.RowKit Go.BW

theorem enters75 : ∀ (args : Array Value) (w : World), (callFunc 75 args).run Try.prog w = .ok (.enter 75 args) w := enters_of Try.func75 (by kernel_rfl) rfl
theorem enters68 : ∀ (args : Array Value) (w : World), (callFunc 68 args).run Try.prog w = .ok (.enter 68 args) w := enters_of Try.func68 (by kernel_rfl) rfl
set_option maxHeartbeats 1000000 in
theorem fail1_any {w : World} {f : Bool} {m : Mem} {g : Nat} (h : MemI w f m) (hg : Obj1 w g 115 #[pv m.p]) : Calls Try.prog 75 #[.int .i64 0, pv g] w (SetPost m w) := by
  have HS := Lib.hid (settle_any h false)
  have c0 : w.cell? ⟨g, 0, none⟩ = some (pv m.p) := hg.cell 0
  unfold pv SetPost at HS
  unfold pv at c0 ⊢
  unfold SetPost
  clear h hg
  go_enter Try.func75, Try.ntmps75
  go_wp2_with ((with_reducible refine HS.out.mono ?_); rintro e w1 ⟨rfl, k1, k2⟩)
  go_end0
  exact ⟨rfl, k1, k2⟩
def FailPost (b : Nat) (A : Option Addr) (c : Nat) (ms : List Mem) (ar : Int) (w : World) (e : Ending) (w' : World) : Prop := (∃ v : Int, e = .returned (.int .i64 v)) ∧ BStep b A c ms false ar w w'
/-- what going through a disk leaves -/
def FQ (w2 : World) (m : Mem) (x : Nat) (w' : World) : Prop := Chg w2 w' [m.r1, m.r2, m.r3] ∧ Shp x w2 w' ∧ C3 w' true m.r3 m.n
theorem MemI.rows {w w2 : World} {f : Bool} {m : Mem} (h : MemI w f m) (e1 : w2.heap[m.r1]? = w.heap[m.r1]?) (e2 : w2.heap[m.r2]? = w.heap[m.r2]?) (e3 : w2.heap[m.r3]? = w.heap[m.r3]?) (ho : MO w2 m) : MemI w2 f m :=
  ⟨ho, h.a.eq e1, h.b.eq e2, h.c.eq e3, h.small⟩
theorem C3.top {w : World} {f : Bool} {r n : Nat} (h : C3 w f r n) : C3 w true r n := by obtain ⟨h0, z, _, h2⟩ := h; exact ⟨h0, z, (fun e => by cases e), h2⟩
theorem fq_step {w w' : World} {b c : Nat} {ar : Int} {A : Option Addr} {ms : List Mem} {m : Mem} (h : BankI w b false ar A c ms) (hm : m ∈ ms) (q : FQ w m (fst3 ms) w') : BStep b A c ms false ar w w' := by
  have hx := fpB_m (b := b) hm
  refine ⟨q.1.wide (fun x hm => hx x (by simp at hm ⊢; rcases hm with h | h | h <;> simp [h])), q.2.1, ?_⟩
  obtain ⟨ck, wr, mk, ho⟩ := h.obj
  obtain ⟨i, hi⟩ := List.getElem?_of_mem hm
  have hmi := h.mem i m hi
  refine ⟨ck, wr, mk, ho.chg q.1 (fun hb => ?_)⟩
  obtain ⟨_, _, y1⟩ := hmi.a; obtain ⟨_, _, y2⟩ := hmi.b; obtain ⟨_, y3⟩ := hmi.c.obj
  simp at hb
  rcases hb with h | h | h
  · exact (ho.ne y1 (by decide)) h
  · exact (ho.ne y2 (by decide)) h
  · exact (ho.ne y3 (by decide)) h
structure FailMid (w w2 : World) (b c : Nat) (ar : Int) (A : Option Addr) (ms : List Mem) (i : Nat) (m : Mem) : Prop where
  step : BStep b A c ms false ar w w2
  mem : MemI w2 (decide (i = 0)) m
  var : Obj1 w2 w.heap.size 115 #[pv m.p]
  fst : i = 0 → m.r3 = fst3 ms
theorem fail_mid {w w2 : World} {b c i : Nat} {ar : Int} {A : Option Addr} {ms : List Mem} {m : Mem} {dd : Bool} {fa : Int} (h : BankI w b false ar A c ms) (hi : ms[i]? = some m) (hmo : Obj1 w m.p 114 (memC m dd fa)) (hm : MemI w (decide (i = 0)) m)
    (hw : w2 = (w.alloc (.cells #[.pointer (some ⟨m.p, 0, none⟩)] 115)).setCell ⟨m.p, 3, none⟩ (.bool true)) : FailMid w w2 b c ar A ms i m := by
  have n1 : Nw w (w.alloc (.cells #[pv m.p] 115)) := World.grownBy_alloc w _ none
  have om := hmo.nw n1
  have o2 : Obj1 w2 m.p 114 (memC m true fa) := by rw [hw]; exact om.set 3 (.bool true)
  have g2 : (w.alloc (.cells #[pv m.p] 115)).grownBy w2 (some m.p) := by rw [hw]; exact gb_set _ _ _ _
  have ov : Obj1 (w.alloc (.cells #[pv m.p] 115)) w.heap.size 115 #[pv m.p] := Obj1.new w _ _
  have hmm := List.mem_of_getElem? hi
  have sh : Shp (fst3 ms) w w2 := (Shp.nw n1).trans (Shp.of114 g2 om o2)
  have hb := h.nw n1
  obtain ⟨ck, wr, mk, hb⟩ := hb.obj
  refine ⟨⟨(Chg.of_nw n1).trans (Chg.of_gb g2 (F := fpB b ms) (by intro q e; injection e with e; subst e; exact fpB_m hmm _ (by simp))) (fun x hx => .inl hx), sh, ck, wr, mk, hb.eq (g2.block _ hb.lt (fun e => by injection e with e; exact (hb.ne om (by decide)) e))⟩, ?_, ov.eq (g2.block _ ov.lt (fun e => by injection e with e; exact (ov.ne om (by decide)) e)), ?_⟩
  · refine hm.shp sh (fun hf => ?_)
    cases i with
    | zero => exact absurd hf (by decide)
    | succ i => exact h.sep i m hi
  · intro e; subst e
    cases ms with
    | nil => simp at hi
    | cons m0 ms => simp at hi; subst hi; rfl
set_option maxHeartbeats 1000000 in
set_option maxRecDepth 100000 in
theorem fail_any {w : World} {b c : Nat} {ar : Int} {A : Option Addr} {ms : List Mem} (h : BankI w b false ar A c ms) (i : Nat) (hi : i < ms.length) (hl : ms.length ≤ 30) : Calls Try.prog 65 #[pv b, .int .i64 i] w (FailPost b A c ms ar w) := by
  have hq : isB ms.length (i : Int) = true := decide_eq_true (by omega)
  have HI := Lib.hid (is_any h i)
  rw [hq] at HI
  obtain ⟨i', g, m, hii, hi', hmi, hm, rfl, cp, hmem⟩ := h.at hq
  have : i' = i := by omega
  subst this
  obtain ⟨p, r1, r2, r3, n⟩ := m
  obtain ⟨dd, fa, hmo⟩ := hmem.mo
  obtain ⟨ck, wr, mk, ho⟩ := h.obj
  have HO := Lib.hid ho; have HB := Lib.hid h; have HM := Lib.hid hm; have HMO := Lib.hid hmo; have HME := Lib.hid hmem; have HMI := Lib.hid hmi
  obtain ⟨k, hk⟩ : ∃ k, ms.length = k := ⟨_, rfl⟩
  have HK := Lib.hid hk
  rw [hk] at ho hi hl
  have c0 : w.cell? ⟨b, 0, none⟩ = some (.slice (some ⟨g, 0, none⟩) k c) := ho.cell 0
  have hiz : (i' : Int) < (k : Int) := by omega
  have n1 : Nw w (w.alloc (.cells #[pv p] 115)) := World.grownBy_alloc w _ none
  have d3 : (w.alloc (.cells #[pv p] 115)).cell? ⟨p, 3, none⟩ = some (.bool dd) := (hmo.nw n1).cell 3
  have e3 : (w.alloc (.cells #[pv p] 115)).frozen? ⟨p, 3, none⟩ = false := (hmo.nw n1).frozen 3
  have N1 := Lib.hid n1
  unfold pv at HI cp N1 d3 e3 ⊢
  clear h hq hk hmo hmem ho hm hi' hii hmi n1
  go_enter Try.func65, Try.ntmps65
  go_upto_region 5 with ((with_reducible refine HI.out.mono ?_); rintro e w' ⟨rfl, rfl⟩)
  obtain ⟨w2, hw2⟩ : ∃ w2, w2 = (w.alloc (.cells #[.pointer (some ⟨p, 0, none⟩)] 115)).setCell ⟨p, 3, none⟩ (.bool true) := ⟨_, rfl⟩
  rw [← hw2]
  have ST := Lib.hid (fail_mid HB.out HMI.out HMO.out HME.out hw2)
  obtain ⟨x, hx⟩ : ∃ x, fst3 ms = x := ⟨_, rfl⟩
  have hgc : w2.cell? ⟨w.heap.size, 0, none⟩ = some (.pointer (some ⟨p, 0, none⟩)) := ST.out.var.cell 0
  obtain ⟨dd2, fa2, hmo2⟩ := ST.out.mem.mo
  have H1 := fail1_any ST.out.mem ST.out.var
  have HL := loose_any (caps := #[pv w.heap.size]) (Q := FQ w2 ⟨p, r1, r2, r3, n⟩ x) hmo2 ST.out.mem.c enters75 ST.out.mem.small
    ⟨Chg.refl _ _, Shp.refl _ _, ST.out.mem.c.top⟩
    (fun hf => H1.mono fun e w' he => ⟨he.1, he.2.1, by
      have hx2 : r3 = x := by rw [← hx]; exact ST.out.fst (of_decide_eq_true hf)
      rw [← hx2]; exact he.2.2, he.2.2.c3 true _ _ ST.out.mem.c.top (fun e => by cases e)⟩)
    (fun w' hq => hq.2.2)
  unfold pv LooseQ at HL
  have HL' := Lib.hid HL
  have HX := Lib.hid hx
  clear hw2 HL H1 hmo2 hx c0 cp d3 e3 hl
  go_wp2_with (go_at_call 67; (with_reducible refine HL'.out.mono ?_); rintro e w3 ⟨rfl, q1⟩)
  go_ret
  refine ⟨⟨_, rfl⟩, ST.out.step.trans (fq_step (ST.out.step.bank HB.out) HM.out ?_)⟩
  rw [HX.out]; exact q1
end Go.Proofs.Ytmcgfnfhpcddlaa


/- slices.SortFunc on at most one element: nothing is done. -/
namespace Go.Proofs.Ytmcgfnfhpcddlaa
open Go.RowKit Go.BW

def Still (v : Value) (w : World) (e : Ending) (w' : World) : Prop := e = .returned v ∧ w = w'
theorem ins1_any (n : Nat) (hn : n ≤ 1) (s f : Value) (w : World) : Calls Try.prog 80 #[s, .int .i64 0, .int .i64 n, f] w (Still (.tuple #[]) w) := by
  have e1 : decide ((1 : Int) < (n : Int)) = false := decide_eq_false (by omega)
  have e2 : ¬ ((1 : Int) < (n : Int)) := by omega
  go_enter Try.func80, Try.ntmps80
  go_wp2_with fail
  refine wp_loop_rounds 1 ?_
  rw [rounds_succ]
  go_wp2
  go_end0
  exact ⟨rfl, rfl⟩
set_option maxRecDepth 100000 in
theorem len64_any (n : Nat) (hn : n ≤ 1) (w : World) : Calls Try.prog 89 #[.int .u64 n] w fun e w' => (∃ l : Int, e = .returned (.int .i64 l)) ∧ w = w' := by
  rcases (show n = 0 ∨ n = 1 by omega) with rfl | rfl
  · go_enter Try.func89, Try.ntmps89
    go_wp2
    go_ret
    exact ⟨⟨_, rfl⟩, rfl⟩
  · go_enter Try.func89, Try.ntmps89
    go_wp2
    go_ret
    exact ⟨⟨_, rfl⟩, rfl⟩
theorem len_any (n : Nat) (hn : n ≤ 1) (w : World) : Calls Try.prog 77 #[.int .u64 n] w fun e w' => (∃ l : Int, e = .returned (.int .i64 l)) ∧ w = w' := by
  have H := Lib.hid (len64_any n hn w)
  go_enter Try.func77, Try.ntmps77
  go_wp2_with ((with_reducible refine H.out.mono ?_); rintro e w1 ⟨⟨l, rfl⟩, rfl⟩)
  go_ret
  exact ⟨⟨_, rfl⟩, rfl⟩
set_option maxHeartbeats 1000000 in
theorem pdq_any (n : Nat) (hn : n ≤ 1) (s f : Value) (l : Int) (w : World) : Calls Try.prog 76 #[s, .int .i64 0, .int .i64 n, .int .i64 l, f] w (Still (.tuple #[]) w) := by
  have H := Lib.hid (ins1_any n hn s f w)
  unfold Still at H ⊢
  have e1 : decide ((n : Int) ≤ 12) = true := decide_eq_true (by omega)
  have e2 : (n : Int) ≤ 12 := by omega
  go_enter Try.func76, Try.ntmps76
  go_wp2_with fail
  refine wp_loop_rounds 1 ?_
  rw [rounds_succ]
  go_wp2_with ((with_reducible refine H.out.mono ?_); rintro e w1 ⟨rfl, rfl⟩)
  refine bodyPost_ret (results_none rfl _ _ _) rfl ?_
  exact ⟨rfl, rfl⟩
theorem sort1_any (n c : Nat) (hn : n ≤ 1) (A : Option Addr) (f : Value) (w : World) : Calls Try.prog 69 #[.slice A n c, f] w (Still (.tuple #[]) w) := by
  have H1 := Lib.hid (len_any n hn w)
  have H2 := Lib.hid (fun l => pdq_any n hn (.slice A n c) f l w)
  unfold Still at H2 ⊢
  have e1 : IntKind.u64.wrap (n : Int) = n := by rcases (show n = 0 ∨ n = 1 by omega) with rfl | rfl <;> rfl
  go_enter Try.func69, Try.ntmps69
  go_wp2_with (first | (go_at_call 76; refine (H2.out _).mono ?_; rintro e w1 ⟨rfl, rfl⟩) | (go_at_call 77; refine H1.out.mono ?_; rintro e w1 ⟨⟨l, rfl⟩, rfl⟩))
  go_end0
  exact ⟨rfl, rfl⟩
end Go.Proofs.Ytmcgfnfhpcddlaa


/- The power fails: the bank keeps its shape, and is down. -/
namespace Go.Proofs.Ytmcgfnfhpcddlaa
open Go.RowKit Go.BW

theorem T130 : El Try.prog 130 133 (.agg #[.pointer none, .int .i64 0]) 2 16 := El.mk' Try.underlying130 (by kernel_rfl) (by kernel_rfl) (by decide)
/-- the sectors that are loose: none, or the first one of a disk -/
def One (w : World) (ga p : Nat) : Prop := ∃ r c, Obj1 w ga 130 #[.slice (some ⟨r, 0, none⟩) 1 c] ∧ Own w 0 133 2 (some ⟨r, 0, none⟩) 1 c [pv p, .int .i64 0]
def AllS (w : World) (ga p : Nat) : Prop := Obj1 w ga 130 #[.slice none 0 0] ∨ One w ga p
def CrashQ (w : World) (ga p : Nat) (w' : World) : Prop := One w' ga p ∧ Chg w w' [ga]
set_option maxHeartbeats 1000000 in
set_option maxRecDepth 100000 in
theorem crash1_any {w : World} {ga gm p : Nat} (hga : Obj1 w ga 130 #[.slice none 0 0]) (hgm : Obj1 w gm 115 #[pv p]) : Calls Try.prog 68 #[.int .i64 0, pv ga, pv gm] w (LooseQ (CrashQ w ga p)) := by
  have c0 : w.cell? ⟨ga, 0, none⟩ = some (.slice none 0 0) := hga.cell 0
  have c1 : w.cell? ⟨gm, 0, none⟩ = some (pv p) := hgm.cell 0
  have OA : Own w 0 133 2 none 0 0 [] := Own.nil
  have OAh := Lib.hid OA
  have GA := Lib.hid hga
  unfold pv at c1 ⊢
  clear hga hgm OA
  go_enter Try.func68, Try.ntmps68
  go_wp2_with (first
    | (at_builtin; refine wpList_appN_own T130 (cs := [.pointer (some ⟨p, 0, none⟩), .int .i64 0]) _ _ rfl rfl rfl rfl OAh.out rfl (by intro u hu; simp at hu; rcases hu with rfl | rfl <;> rfl) (by unfold maxLen; omega) (Nat.zero_le _) ?_; intro A8 c8 w8 o8 g8 b8; have G8 := Lib.hid (Obj1.eq GA.out (g8.block _ GA.out.lt (by simp [Value.ownBlock]))); have O8 := Lib.hid o8; have K8 := Lib.hid g8; have d8 : w8.cell? ⟨ga, 0, none⟩ = some (.slice none 0 0) := G8.out.cell 0; have e8 := G8.out.frozen 0; clear o8 g8 b8))
  go_end0
  obtain ⟨w9, hw9⟩ : ∃ w9, w9 = w8.setCell ⟨ga, 0, none⟩ (.slice A8 1 c8) := ⟨_, rfl⟩
  rw [← hw9]
  have S9 := Lib.hid (show Obj1 w9 ga 130 #[.slice A8 1 c8] from by rw [hw9]; exact G8.out.set 0 (.slice A8 1 c8))
  have G9 := Lib.hid (show w8.grownBy w9 (some ga) from by rw [hw9]; exact gb_set _ _ _ _)
  refine ⟨rfl, ?_, ?_⟩
  · obtain ⟨r, rfl, hr⟩ := O8.out.some_ (by omega)
    refine ⟨r, c8, S9.out, ?_⟩
    have := O8.out.kept G9.out (fun g hg e => ?_)
    · exact this
    · injection hg with hg; subst hg
      obtain ⟨cur, hc⟩ := O8.out.rowObj _ e
      exact (hc.ne G8.out (by decide)) rfl
  · exact (Chg.of_gb (F := [ga]) K8.out (by intro q e; simp [Value.ownBlock] at e)).trans (Chg.of_gb (F := [ga]) G9.out (by intro q e; injection e with e; simp [e])) (fun x hx => .inl hx)
end Go.Proofs.Ytmcgfnfhpcddlaa

