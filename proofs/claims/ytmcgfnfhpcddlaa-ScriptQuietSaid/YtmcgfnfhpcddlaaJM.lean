/- A new bank, and a disk more in one; for all numbers of sectors. -/
import Derived.Test.YtmcgfnfhpcddlaaJL
import Derived.Test.YtmcgfnfhpcddlaaJD
set_option linter.unusedVariables false
set_option linter.unusedSimpArgs false
namespace Go.Proofs.Ytmcgfnfhpcddlaa
open Go.RowKit Go.BW
open Md (run_exec_mk run_exec_buildSlice1)

theorem own_full {w : World} {base size g n : Nat} {e : TypeId} {xs : List Value} (h : Own w base e size (some ⟨g, 0, none⟩) n n xs) (hn : 0 < n) : Obj1 w g e xs.toArray := by
  rcases h.2 with ⟨h', _⟩ | ⟨g', cap, cur, hv, hb, hg, hnc, hcm, hcs, htake⟩
  · omega
  · simp only [Value.slice.injEq, Option.some.injEq, Addr.mk.injEq, and_true, true_and] at hv
    obtain ⟨rfl, rfl⟩ := hv
    have : cur.toList = xs := by rw [← htake, List.take_of_length_le (by rw [Array.length_toList, hcs]; omega)]
    unfold Obj1
    rw [← this]
    exact hg
theorem made_z (n : Nat) : (madeCells Md.z64.cells n).toList = (List.replicate n (0 : UInt8)).map bv := by
  have hz : Md.z64.cells = Array.replicate 64 (.int .u8 0) := by kernel_rfl
  rw [hz]
  unfold madeCells
  apply List.ext_getElem
  · simp
  · intro i h1 h2
    have : i % 64 < 64 := Nat.mod_lt _ (by decide)
    simp [this]
    rfl
theorem made_i (n : Nat) : (madeCells (Value.int .i64 0).cells n).toList = (List.replicate n (0 : Int)).map iv := by
  have hz : (Value.int .i64 0).cells = #[.int .i64 0] := by kernel_rfl
  rw [hz]
  unfold madeCells
  apply List.ext_getElem
  · simp
  · intro i h1 h2
    have : i % 1 = 0 := Nat.mod_one i
    simp [this]
    rfl
theorem make33 (n : Nat) (hn : 1 ≤ n ∧ n ≤ 4096) (w : World) : ∃ w', (Instr.makeSlice 30 (.int .i64 n) (.int .i64 n)).run Try.prog w = .ok (.slice (some ⟨w.heap.size, 0, none⟩) n n) w' ∧ Own w' w.heap.size 33 64 (some ⟨w.heap.size, 0, none⟩) n n ((List.replicate (n * 64) (0 : UInt8)).map bv) ∧ Nw w w' := by
  obtain ⟨i, hi, hz, hsize, hby⟩ := Md.T22.info
  obtain ⟨w', hrun, h2, h3⟩ := run_make_full (P := Try.prog) w w.heap.size 30 33 i Md.z64 64 Md.T22.und hi hz hsize .i64 .i64 n (by rw [hby]; omega) (by unfold maxLen; omega) (Nat.le_refl _)
  rw [made_z] at h2
  exact ⟨w', hrun, h2, h3⟩
theorem make3 (n : Nat) (hn : 1 ≤ n ∧ n ≤ 4096) (w : World) : ∃ w', (Instr.makeSlice 22 (.int .i64 n) (.int .i64 n)).run Try.prog w = .ok (.slice (some ⟨w.heap.size, 0, none⟩) n n) w' ∧ Own w' w.heap.size 3 1 (some ⟨w.heap.size, 0, none⟩) n n ((List.replicate (n * 1) (0 : Int)).map iv) ∧ Nw w w' := by
  obtain ⟨i, hi, hz, hsize, hby⟩ := T22.info
  obtain ⟨w', hrun, h2, h3⟩ := run_make_full (P := Try.prog) w w.heap.size 22 3 i (.int .i64 0) 1 T22.und hi hz hsize .i64 .i64 n (by rw [hby]; omega) (by unfold maxLen; omega) (Nat.le_refl _)
  rw [made_i] at h2
  exact ⟨w', hrun, h2, h3⟩
theorem mk33 (n : Nat) (hn : 1 ≤ n ∧ n ≤ 4096) (w : World) : ∃ w', (Instr.makeSlice 30 (.int .i64 n) (.int .i64 n)).run Try.prog w = .ok (.slice (some ⟨w.heap.size, 0, none⟩) n n) w' ∧ C33 w' w.heap.size n ∧ Nw w w' := by
  obtain ⟨w', h1, h2, h3⟩ := make33 n hn w
  exact ⟨w', h1, ⟨_, by simp; omega, own_full h2 (by omega)⟩, h3⟩
theorem mk3 (n : Nat) (hn : 1 ≤ n ∧ n ≤ 4096) (w : World) : ∃ w', (Instr.makeSlice 22 (.int .i64 n) (.int .i64 n)).run Try.prog w = .ok (.slice (some ⟨w.heap.size, 0, none⟩) n n) w' ∧ C3 w' false w.heap.size n ∧ Nw w w' := by
  obtain ⟨w', h1, h2, h3⟩ := make3 n hn w
  refine ⟨w', h1, ⟨hn.1, 0, fun _ => rfl, ?_⟩, h3⟩
  have := own_full h2 (by omega)
  rw [Nat.mul_one, show n = (n - 1) + 1 by omega, List.replicate_succ] at this
  exact this
theorem newBank_any (w : World) : Calls Try.prog 46 #[] w fun e w' => e = .returned (pv w.heap.size) ∧ BankI w' w.heap.size false 0 none 0 [] ∧ Nw w w' := by
  unfold pv
  go_enter Try.func46, Try.ntmps46
  go_wp2
  go_ret
  exact ⟨rfl, ⟨⟨0, 0, 0, Obj1.new w 109 #[.slice none 0 0, .bool false, .int .i64 0, .int .i64 0, .int .i64 0, .int .u64 0]⟩, ⟨rfl, .inl ⟨rfl, rfl⟩⟩, fun i m hm => by simp at hm, fun i m hm => by simp at hm⟩, World.grownBy_alloc w _ none⟩
theorem U_pick {P : Program} {ops : Array Oper} {Q : Exit → Go.Act → World → Prop} {i : Nat} {o : Oper} {K : Go.Act → World → Prop} {a : Go.Act} {w : World} (hi : ops[i]? = some o) (hw : Region.wanted o (yielded ops a.tmps) = true)
    (h : ∀ K' : Go.Act → World → Prop, (∀ a w, K a w → K' a w) → o.wp P a w K' Q) : wpOp P ops Q i K a w := by
  unfold wpOp
  simp only [hi, hw, if_true]
  exact .inl (h _ fun _ _ hh => hh)
theorem T107 : El Try.prog 107 115 (.pointer none) 1 8 := El.mk' Try.underlying107 (by kernel_rfl) rfl (by decide)
def rowB (A : Option Addr) (n c : Nat) : List Nat := match (Value.slice A n c).ownBlock with | some r => [r] | none => []
/-- a disk more: its blocks are new -/
def AddPost (b : Nat) (ar : Int) (A : Option Addr) (c : Nat) (ms : List Mem) (n : Nat) (w : World) (e : Ending) (w' : World) : Prop :=
  e = .returned (.tuple #[.int .i64 (ms.length : Int), .int .i64 0]) ∧ ∃ (A' : Option Addr) (c' : Nat) (m : Mem), m.n = n ∧ BankI w' b false ar A' c' (ms ++ [m]) ∧ (∀ x ∈ [m.p, m.r1, m.r2, m.r3], w.heap.size ≤ x) ∧
    Chg w w' (b :: rowB A ms.length c) ∧ (∀ r ∈ rowB A' (ms.length + 1) c', r ∈ rowB A ms.length c ∨ w.heap.size ≤ r)
theorem rowB_mem {A : Option Addr} {n c r : Nat} : r ∈ rowB A n c ↔ (Value.slice A n c).ownBlock = some r := by
  unfold rowB
  rcases (Value.slice A n c).ownBlock with _ | x
  · simp
  · simp; exact eq_comm
theorem add_bad {w : World} {b c : Nat} {ar : Int} {A : Option Addr} {ms : List Mem} (h : BankI w b false ar A c ms) (n : Int) (hn : n < 1 ∨ 4096 < n) :
    Calls Try.prog 48 #[pv b, .int .i64 n] w fun e w' => e = .returned (.tuple #[.int .i64 0, .int .i64 1]) ∧ w = w' := by
  unfold pv
  clear h
  rcases hn with h1 | h1
  · have e1 : decide (n < 1) = true := decide_eq_true h1
    go_enter Try.func48, Try.ntmps48
    go_wp2
    go_ret2
    exact ⟨rfl, rfl⟩
  · have e1 : decide (n < 1) = false := decide_eq_false (by omega)
    have e2 : decide (4096 < n) = true := decide_eq_true h1
    go_enter Try.func48, Try.ntmps48
    go_wp2
    go_ret2
    exact ⟨rfl, rfl⟩
/-- what the three makes leave, whatever their order -/
structure Made (w w3 : World) (r1 r2 r3 n : Nat) : Prop where
  nw : Nw w w3
  a : C33 w3 r1 n
  b : C33 w3 r2 n
  c : C3 w3 false r3 n
  ge : ∀ x ∈ [r1, r2, r3], w.heap.size ≤ x
/-- behind the append -/
structure AddFin (w v3 w4 w5 w6 : World) (q1 q2 q3 n : Nat) (A : Option Addr) (k c : Nat) (A' : Option Addr) (c' : Nat) (ms : List Mem) : Prop where
  md : Made w v3 q1 q2 q3 n
  om : MO w4 ⟨v3.heap.size, q1, q2, q3, n⟩
  lv : v3.heap.size < w4.heap.size
  n34 : Nw v3 w4
  n45 : Nw w4 w5
  row : Own w5 0 115 1 A k c (ms.map fun m => pv m.p)
  o6 : Own w6 0 115 1 A' (k + 1) c' ((ms.map fun m => pv m.p) ++ [pv v3.heap.size])
  g6 : w5.grownBy w6 (Value.slice A k c).ownBlock
  e6 : (Value.slice A' (k + 1) c').ownBlock = (Value.slice A k c).ownBlock ∨ (Value.slice A' (k + 1) c').ownBlock = some w5.heap.size
theorem fin_bank {w w5 w6 : World} {b n c : Nat} {A : Option Addr} {xs : List Value} {cs : Array Value} (ho : Obj1 w b 109 cs) (n5 : Nw w w5) (hrow : Own w5 0 115 1 A n c xs) (g6 : w5.grownBy w6 (Value.slice A n c).ownBlock) : Obj1 w6 b 109 cs :=
  (ho.nw n5).eq (g6.block _ (ho.nw n5).lt (fun e => by obtain ⟨cur, hc⟩ := hrow.rowObj _ e.symm; exact ((ho.nw n5).ne hc (by decide)) rfl))
theorem fin_add {w v3 w4 w5 w6 : World} {b c c' k n q1 q2 q3 : Nat} {ck wr ar : Int} {mk : Nat} {A A' : Option Addr} {ms : List Mem} (h : BankI w b false ar A c ms) (hk : ms.length = k) (hn : 1 ≤ n ∧ n ≤ 4096) (n5 : Nw w w5)
    (f : AddFin w v3 w4 w5 w6 q1 q2 q3 n A k c A' c' ms) (hb6 : Obj1 w6 b 109 (bankC A k c false ck wr ar mk)) :
    AddPost b ar A c ms n w (.returned (.tuple #[.int .i64 (k : Int), .int .i64 0])) (w6.setCell ⟨b, 0, none⟩ (.slice A' (k + 1 : Nat) c')) := by
  subst hk
  have hrowne : ∀ {g : Nat} {t : TypeId} {cs : Array Value}, Obj1 w5 g t cs → t ≠ 115 → some g ≠ (Value.slice A ms.length c).ownBlock := fun ho ht e => by
    obtain ⟨cur, hc⟩ := f.row.rowObj _ e.symm; exact (hc.ne ho (fun e => ht e.symm)) rfl
  have keep : ∀ {g : Nat} {t : TypeId} {cs : Array Value}, Obj1 w5 g t cs → t ≠ 115 → t ≠ 109 → Obj1 (w6.setCell ⟨b, 0, none⟩ (.slice A' (ms.length + 1 : Nat) c')) g t cs := fun ho h1 h2 => by
    have o6 := ho.eq (f.g6.block _ ho.lt (hrowne ho h1))
    exact o6.eq ((gb_set w6 b 0 _).block _ o6.lt (fun e => by injection e with e; exact (o6.ne hb6 h2) e))
  have k33 : ∀ {r n : Nat}, C33 w5 r n → C33 (w6.setCell ⟨b, 0, none⟩ (.slice A' (ms.length + 1 : Nat) c')) r n := fun ⟨xs, h1, h2⟩ => ⟨xs, h1, keep h2 (by decide) (by decide)⟩
  have k3 : ∀ {f : Bool} {r n : Nat}, C3 w5 f r n → C3 (w6.setCell ⟨b, 0, none⟩ (.slice A' (ms.length + 1 : Nat) c')) f r n := fun ⟨h0, xs, h1, h2⟩ => ⟨h0, xs, h1, keep h2 (by decide) (by decide)⟩
  have kmo : ∀ {m : Mem}, MO w5 m → MO (w6.setCell ⟨b, 0, none⟩ (.slice A' (ms.length + 1 : Nat) c')) m := fun ⟨d, fa, h2⟩ => ⟨d, fa, keep h2 (by decide) (by decide)⟩
  have n35 := gb_trans f.n34 f.n45
  have chg6 : Chg w (w6.setCell ⟨b, 0, none⟩ (.slice A' (ms.length + 1 : Nat) c')) (b :: rowB A ms.length c) := by
    have c1 : Chg w5 w6 (b :: rowB A ms.length c) := Chg.of_gb f.g6 (fun r hr => List.mem_cons_of_mem _ (rowB_mem.2 hr))
    exact ((Chg.of_nw n5).trans c1 (fun _ h => .inl h)).trans (Chg.set _ (List.mem_cons_self ..) _) (fun _ h => .inl h)
  refine ⟨rfl, A', c', ⟨v3.heap.size, q1, q2, q3, n⟩, rfl, ⟨?_, ?_, ?_, ?_⟩, ?_, chg6, ?_⟩
  · refine ⟨ck, wr, mk, ?_⟩
    have := hb6.set 0 (.slice A' (ms.length + 1 : Nat) c')
    rw [List.length_append]; exact this
  · have := f.o6
    rw [List.map_append, List.length_append]
    refine this.kept (gb_set w6 b 0 _) (fun g hg e => ?_)
    injection hg with hg; subst hg
    obtain ⟨cur, hc⟩ := f.o6.rowObj _ e
    exact (hc.ne hb6 (by decide)) rfl
  · intro i m hm
    have s5 := Shp.nw (x := 0) n5
    by_cases hi : i < ms.length
    · rw [List.getElem?_append_left hi] at hm
      have hi := h.mem i m hm
      exact ⟨kmo (s5.mo m hi.mo), k33 (s5.c33 _ _ hi.a), k33 (s5.c33 _ _ hi.b), k3 (hi.c.eq (n5.block _ hi.c.lt (by simp))), hi.small⟩
    · have hm' : m = ⟨v3.heap.size, q1, q2, q3, n⟩ := by
        rw [List.getElem?_append_right (by omega)] at hm
        have := List.mem_of_getElem? hm
        exact List.mem_singleton.1 this
      subst hm'
      have s35 := Shp.nw (x := 0) n35
      exact ⟨kmo ((Shp.nw (x := 0) f.n45).mo _ f.om), k33 (s35.c33 _ _ f.md.a), k33 (s35.c33 _ _ f.md.b), k3 ((f.md.c.eq (n35.block _ f.md.c.lt (by simp))).any _), hn.2⟩
  · intro i m hm
    cases ms with
    | nil => simp at hm
    | cons m0 ms =>
      show m.r3 ≠ m0.r3
      by_cases hi : i + 1 < (m0 :: ms).length
      · rw [List.getElem?_append_left hi] at hm
        exact h.sep i m hm
      · have hm' : m = ⟨v3.heap.size, q1, q2, q3, n⟩ := by
          rw [List.getElem?_append_right (by omega)] at hm
          have := List.mem_of_getElem? hm
          exact List.mem_singleton.1 this
        subst hm'
        have h1 := f.md.ge q3 (by simp)
        have h2 := (h.mem 0 m0 rfl).c.lt
        show q3 ≠ m0.r3
        omega
  · intro x hx
    have z := f.md.nw.size
    simp only [List.mem_cons, List.not_mem_nil, or_false] at hx
    rcases hx with rfl | hx
    · exact z
    · exact f.md.ge x (by simpa using hx)
  · intro r hr
    rw [rowB_mem] at hr
    rcases f.e6 with e | e
    · rw [hr] at e; exact .inl (rowB_mem.2 e.symm)
    · rw [hr] at e; injection e with e; subst e; exact .inr (by have := n5.size; omega)
set_option maxHeartbeats 4000000 in
set_option maxRecDepth 100000 in
theorem add_any {w : World} {b c : Nat} {ar : Int} {A : Option Addr} {ms : List Mem} (h : BankI w b false ar A c ms) (n : Nat) (hn : 1 ≤ n ∧ n ≤ 4096) (hl : ms.length ≤ 30) :
    Calls Try.prog 48 #[pv b, .int .i64 n] w (AddPost b ar A c ms n w) := by
  have HB := Lib.hid h
  have HN := Lib.hid hn
  obtain ⟨ck, wr, mk, ho⟩ := h.obj
  have HO := Lib.hid ho
  obtain ⟨k, hk⟩ : ∃ k, ms.length = k := ⟨_, rfl⟩
  have HK := Lib.hid hk
  rw [hk] at ho hl
  have c0 : ∀ w', Nw w w' → w'.cell? ⟨b, 0, none⟩ = some (.slice A k c) := fun w' h2 => (ho.nw h2).cell 0
  have c00 := c0 w (Nw.refl w)
  have e1 : decide ((n : Int) < 1) = false := decide_eq_false (by omega)
  have e2 : decide ((4096 : Int) < (n : Int)) = false := decide_eq_false (by omega)
  have e3 : decide ((32 : Int) ≤ (k : Int)) = false := decide_eq_false (by omega)
  have HL := Lib.hid hl
  have MA := Lib.hid (mk33 n hn); have MC := Lib.hid (mk3 n hn)
  unfold pv
  clear h ho hk hn hl
  go_enter Try.func48, Try.ntmps48
  go_wp2_with fail
  refine wp_region_U [18] (fun w' => w'.cell? ⟨b, 0, none⟩ = some (.slice A k c)) (by kernel_rfl) ?_
  change wpU _ _ _ _ _ _ _ _ _ (World.drew w)
  refine U_segP (r := [0, 1, 2, 3, 5, 7, 9]) (fuel := 12) rfl (by kernel_rfl) (by kernel_rfl) (by simp only [List.filterMap_cons, List.filterMap_nil, List.getElem?_toArray, List.getElem?_cons_succ, List.getElem?_cons_zero]; rfl) (fun _ _ d _ _ h => by cases d <;> exact h) (until_of (c0 _ (gb_drew (Nw.refl w)))) ?_
  iterate 7 (refine wpYield_step rfl (fun K hK => ?_)
             apply Exists.intro
             refine ⟨fun w' hw' => ?_, ?_⟩
             · (go_simp; try with_reducible rfl)
             go_simp
             refine hK _ ?_
             clear hK K)
  refine wpYield_nil ?_
  refine U_segL (r := [4]) (fuel := 11) rfl (by kernel_rfl) (by kernel_rfl) (by simp only [List.filterMap_cons, List.filterMap_nil, List.getElem?_toArray, List.getElem?_cons_succ, List.getElem?_cons_zero]; rfl) (fun _ _ d _ _ h => by cases d <;> exact h) (c0 _ (gb_drew (Nw.refl w))) ?_
  (refine wpYield_step rfl (fun K hK => ?_)
   apply Exists.intro
   refine ⟨fun w' hw' => ?_, ?_⟩
   · (go_simp; try with_reducible rfl)
   go_simp
   refine hK _ ?_
   clear hK K)
  refine wpYield_nil ?_
  refine U_all (rs := [6, 8, 10]) (by kernel_rfl) (by simp) fun j hj => ?_
  simp only [List.mem_cons, List.not_mem_nil, or_false] at hj
  rcases hj with rfl | rfl | rfl
  · refine U_pick rfl rfl (fun K hK => ?_)
    obtain ⟨v1, hrun, c6, m1⟩ := MA.out w.drew
    refine wp_ran (run_exec_mk _ _ rfl rfl rfl hrun) ?_
    have n1 : Nw w v1 := gb_of_drew m1
    refine hK _ _ ⟨until_of (c0 _ n1), ?_⟩
    clear hK K hrun
    refine U_all (rs := [8, 10]) (by kernel_rfl) (by simp) fun j hj => ?_
    simp only [List.mem_cons, List.not_mem_nil, or_false] at hj
    rcases hj with rfl | rfl
    · refine U_pick rfl rfl (fun K hK => ?_)
      obtain ⟨v2, hrun, c8, m2⟩ := MA.out v1
      refine wp_ran (run_exec_mk _ _ rfl rfl rfl hrun) ?_
      have n2 : Nw w v2 := gb_trans n1 m2
      refine hK _ _ ⟨until_of (c0 _ n2), ?_⟩
      clear hK K hrun
      refine U_eff 10 rfl (by kernel_rfl) rfl (fun K hK => ?_)
      obtain ⟨v3, hrun, c10, m3⟩ := MC.out v2
      refine wp_ran (run_exec_mk _ _ rfl rfl rfl hrun) ?_
      have n3 : Nw w v3 := gb_trans n2 m3
      refine hK _ _ ⟨until_of (c0 _ n3), ?_⟩
      clear hK K hrun
      have md : Made w v3 w.drew.heap.size v1.heap.size v2.heap.size n := ⟨n3, ((c6).eq (m2.block _ (c6).lt (by simp))).eq (m3.block _ ((c6).eq (m2.block _ (c6).lt (by simp))).lt (by simp)), (c8).eq (m3.block _ (c8).lt (by simp)), c10, fun x hx => by
          simp only [List.mem_cons, List.not_mem_nil, or_false] at hx
          have z1 := n1.size; have z2 := n2.size; have z3 : w.drew.heap.size = w.heap.size := rfl
          rcases hx with rfl | rfl | rfl <;> omega⟩
      have MD := Lib.hid md; clear md n1 n2 m1 m2 m3 c6 c8 c10
      have N3 := Lib.hid n3; clear n3
      obtain ⟨q1, hq1⟩ : ∃ q1, q1 = w.drew.heap.size := ⟨_, rfl⟩
      obtain ⟨q2, hq2⟩ : ∃ q2, q2 = v1.heap.size := ⟨_, rfl⟩
      obtain ⟨q3, hq3⟩ : ∃ q3, q3 = v2.heap.size := ⟨_, rfl⟩
      rw [← hq1, ← hq2, ← hq3] at MD
      rw [← hq1, ← hq2, ← hq3]
      clear hq1 hq2 hq3
      refine U_segP (r := [11, 12]) (fuel := 6) rfl (by kernel_rfl) (by kernel_rfl) (by simp only [List.filterMap_cons, List.filterMap_nil, List.getElem?_toArray, List.getElem?_cons_succ, List.getElem?_cons_zero]; rfl) (fun _ _ d _ _ h => by cases d <;> exact h) (until_of (c0 _ N3.out)) ?_
      iterate 2 (refine wpYield_step rfl (fun K hK => ?_)
                 apply Exists.intro
                 refine ⟨fun w' hw' => ?_, ?_⟩
                 · (go_simp; try with_reducible rfl)
                 go_simp
                 refine hK _ ?_
                 clear hK K)
      refine wpYield_nil ?_
      refine U_eff 13 rfl (by kernel_rfl) rfl (fun K hK => ?_)
      go_simp
      obtain ⟨w4, hw4⟩ : ∃ w4, w4 = v3.alloc (.cells #[.slice (some ⟨q1, 0, none⟩) n n, .slice (some ⟨q2, 0, none⟩) n n, .slice (some ⟨q3, 0, none⟩) n n, .bool false, .int .i64 0] 114) := ⟨_, rfl⟩
      rw [← hw4]
      have n34 : Nw v3 w4 := by rw [hw4]; exact World.grownBy_alloc v3 _ none
      have om : MO w4 ⟨v3.heap.size, q1, q2, q3, n⟩ := ⟨false, 0, by rw [hw4]; exact Obj1.new v3 _ _⟩
      have lv : v3.heap.size < w4.heap.size := om.lt
      clear hw4
      have N4 := Lib.hid (gb_trans N3.out n34)
      refine hK _ _ ⟨until_of (c0 _ N4.out), ?_⟩
      clear hK K
      refine U_eff 14 rfl (by kernel_rfl) rfl (fun K hK => ?_)
      refine wp_ran (run_exec_buildSlice1 T107 _ rfl (v := pv v3.heap.size) rfl rfl (by omega)) ?_
      obtain ⟨w5, hw5⟩ : ∃ w5, w5 = w4.alloc (.cells (pv v3.heap.size).cells 115) := ⟨_, rfl⟩
      rw [← hw5]
      have n45 : Nw w4 w5 := by rw [hw5]; exact World.grownBy_alloc w4 _ none
      have r5 : Own w5 w4.heap.size 115 1 (some ⟨w4.heap.size, 0, none⟩) 1 1 [pv v3.heap.size] := by rw [hw5]; exact World.ownsRow_lit (e := 115) (size := 1) w4 #[pv v3.heap.size] 1 (Nat.le_refl _) (by unfold maxLen; omega) rfl
      clear hw5
      have N5 := Lib.hid (gb_trans N4.out n45)
      refine hK _ _ ⟨until_of (c0 _ N5.out), ?_⟩
      clear hK K
      refine U_eff 15 rfl (by kernel_rfl) rfl (fun K hK => ?_)
      have HLL := HL.out
      have hrow : Own w5 0 115 1 A k c (ms.map fun m => pv m.p) := by rw [← HK.out]; exact HB.out.row.nw N5.out
      obtain ⟨A', c', w6, hrun, o6, g6, e6⟩ := run_app_own T107 107 (d := 1) hrow r5.rd (by intro u hu; simp at hu; subst hu; rfl) (by omega) (by unfold maxLen; omega) (Nat.zero_le _)
      refine wp_ran (run_exec_append rfl hrun) ?_
      have FIN := Lib.hid (AddFin.mk MD.out om lv n34 n45 hrow o6 g6 e6)
      clear om lv n34 n45 r5 o6 e6 hrun MD N3 N4
      have hb6 : Obj1 w6 b 109 (bankC A k c false ck wr ar mk) := by have HOO := HO.out; rw [HK.out] at HOO; exact fin_bank HOO N5.out hrow g6
      have c6 := hb6.cell 0
      have f6 := hb6.frozen 0
      rw [show (bankC A k c false ck wr ar mk)[0]? = some (.slice A k c) from rfl] at c6
      refine hK _ _ ⟨until_of c6, ?_⟩
      clear hK K
      refine U_segP (r := [16, 17]) (fuel := 1) rfl (by kernel_rfl) (by kernel_rfl) (by simp only [List.filterMap_cons, List.filterMap_nil, List.getElem?_toArray, List.getElem?_cons_succ, List.getElem?_cons_zero]; rfl) (fun _ _ d _ _ h => by cases d <;> exact h) (until_of c6) ?_
      iterate 2 (refine wpYield_step rfl (fun K hK => ?_)
                 apply Exists.intro
                 refine ⟨fun w' hw' => ?_, ?_⟩
                 · (go_simp; try with_reducible rfl)
                 go_simp
                 refine hK _ ?_
                 clear hK K)
      refine wpYield_nil ?_
      refine U_eff 18 rfl (by kernel_rfl) rfl (fun K hK => ?_)
      go_simp
      refine hK _ _ ⟨until_past (by kernel_rfl), ?_⟩
      clear hK K
      refine U_done (by kernel_rfl) ?_ _
      have HB6 := Lib.hid hb6; clear hb6
      go_wp2
      go_ret2
      exact fin_add HB.out HK.out HN.out N5.out FIN.out HB6.out
    · refine U_pick rfl rfl (fun K hK => ?_)
      obtain ⟨v2, hrun, c10, m2⟩ := MC.out v1
      refine wp_ran (run_exec_mk _ _ rfl rfl rfl hrun) ?_
      have n2 : Nw w v2 := gb_trans n1 m2
      refine hK _ _ ⟨until_of (c0 _ n2), ?_⟩
      clear hK K hrun
      refine U_eff 8 rfl (by kernel_rfl) rfl (fun K hK => ?_)
      obtain ⟨v3, hrun, c8, m3⟩ := MA.out v2
      refine wp_ran (run_exec_mk _ _ rfl rfl rfl hrun) ?_
      have n3 : Nw w v3 := gb_trans n2 m3
      refine hK _ _ ⟨until_of (c0 _ n3), ?_⟩
      clear hK K hrun
      have md : Made w v3 w.drew.heap.size v2.heap.size v1.heap.size n := ⟨n3, ((c6).eq (m2.block _ (c6).lt (by simp))).eq (m3.block _ ((c6).eq (m2.block _ (c6).lt (by simp))).lt (by simp)), c8, (c10).eq (m3.block _ (c10).lt (by simp)), fun x hx => by
          simp only [List.mem_cons, List.not_mem_nil, or_false] at hx
          have z1 := n1.size; have z2 := n2.size; have z3 : w.drew.heap.size = w.heap.size := rfl
          rcases hx with rfl | rfl | rfl <;> omega⟩
      have MD := Lib.hid md; clear md n1 n2 m1 m2 m3 c6 c8 c10
      have N3 := Lib.hid n3; clear n3
      obtain ⟨q1, hq1⟩ : ∃ q1, q1 = w.drew.heap.size := ⟨_, rfl⟩
      obtain ⟨q2, hq2⟩ : ∃ q2, q2 = v2.heap.size := ⟨_, rfl⟩
      obtain ⟨q3, hq3⟩ : ∃ q3, q3 = v1.heap.size := ⟨_, rfl⟩
      rw [← hq1, ← hq2, ← hq3] at MD
      rw [← hq1, ← hq2, ← hq3]
      clear hq1 hq2 hq3
      refine U_segP (r := [11, 12]) (fuel := 6) rfl (by kernel_rfl) (by kernel_rfl) (by simp only [List.filterMap_cons, List.filterMap_nil, List.getElem?_toArray, List.getElem?_cons_succ, List.getElem?_cons_zero]; rfl) (fun _ _ d _ _ h => by cases d <;> exact h) (until_of (c0 _ N3.out)) ?_
      iterate 2 (refine wpYield_step rfl (fun K hK => ?_)
                 apply Exists.intro
                 refine ⟨fun w' hw' => ?_, ?_⟩
                 · (go_simp; try with_reducible rfl)
                 go_simp
                 refine hK _ ?_
                 clear hK K)
      refine wpYield_nil ?_
      refine U_eff 13 rfl (by kernel_rfl) rfl (fun K hK => ?_)
      go_simp
      obtain ⟨w4, hw4⟩ : ∃ w4, w4 = v3.alloc (.cells #[.slice (some ⟨q1, 0, none⟩) n n, .slice (some ⟨q2, 0, none⟩) n n, .slice (some ⟨q3, 0, none⟩) n n, .bool false, .int .i64 0] 114) := ⟨_, rfl⟩
      rw [← hw4]
      have n34 : Nw v3 w4 := by rw [hw4]; exact World.grownBy_alloc v3 _ none
      have om : MO w4 ⟨v3.heap.size, q1, q2, q3, n⟩ := ⟨false, 0, by rw [hw4]; exact Obj1.new v3 _ _⟩
      have lv : v3.heap.size < w4.heap.size := om.lt
      clear hw4
      have N4 := Lib.hid (gb_trans N3.out n34)
      refine hK _ _ ⟨until_of (c0 _ N4.out), ?_⟩
      clear hK K
      refine U_eff 14 rfl (by kernel_rfl) rfl (fun K hK => ?_)
      refine wp_ran (run_exec_buildSlice1 T107 _ rfl (v := pv v3.heap.size) rfl rfl (by omega)) ?_
      obtain ⟨w5, hw5⟩ : ∃ w5, w5 = w4.alloc (.cells (pv v3.heap.size).cells 115) := ⟨_, rfl⟩
      rw [← hw5]
      have n45 : Nw w4 w5 := by rw [hw5]; exact World.grownBy_alloc w4 _ none
      have r5 : Own w5 w4.heap.size 115 1 (some ⟨w4.heap.size, 0, none⟩) 1 1 [pv v3.heap.size] := by rw [hw5]; exact World.ownsRow_lit (e := 115) (size := 1) w4 #[pv v3.heap.size] 1 (Nat.le_refl _) (by unfold maxLen; omega) rfl
      clear hw5
      have N5 := Lib.hid (gb_trans N4.out n45)
      refine hK _ _ ⟨until_of (c0 _ N5.out), ?_⟩
      clear hK K
      refine U_eff 15 rfl (by kernel_rfl) rfl (fun K hK => ?_)
      have HLL := HL.out
      have hrow : Own w5 0 115 1 A k c (ms.map fun m => pv m.p) := by rw [← HK.out]; exact HB.out.row.nw N5.out
      obtain ⟨A', c', w6, hrun, o6, g6, e6⟩ := run_app_own T107 107 (d := 1) hrow r5.rd (by intro u hu; simp at hu; subst hu; rfl) (by omega) (by unfold maxLen; omega) (Nat.zero_le _)
      refine wp_ran (run_exec_append rfl hrun) ?_
      have FIN := Lib.hid (AddFin.mk MD.out om lv n34 n45 hrow o6 g6 e6)
      clear om lv n34 n45 r5 o6 e6 hrun MD N3 N4
      have hb6 : Obj1 w6 b 109 (bankC A k c false ck wr ar mk) := by have HOO := HO.out; rw [HK.out] at HOO; exact fin_bank HOO N5.out hrow g6
      have c6 := hb6.cell 0
      have f6 := hb6.frozen 0
      rw [show (bankC A k c false ck wr ar mk)[0]? = some (.slice A k c) from rfl] at c6
      refine hK _ _ ⟨until_of c6, ?_⟩
      clear hK K
      refine U_segP (r := [16, 17]) (fuel := 1) rfl (by kernel_rfl) (by kernel_rfl) (by simp only [List.filterMap_cons, List.filterMap_nil, List.getElem?_toArray, List.getElem?_cons_succ, List.getElem?_cons_zero]; rfl) (fun _ _ d _ _ h => by cases d <;> exact h) (until_of c6) ?_
      iterate 2 (refine wpYield_step rfl (fun K hK => ?_)
                 apply Exists.intro
                 refine ⟨fun w' hw' => ?_, ?_⟩
                 · (go_simp; try with_reducible rfl)
                 go_simp
                 refine hK _ ?_
                 clear hK K)
      refine wpYield_nil ?_
      refine U_eff 18 rfl (by kernel_rfl) rfl (fun K hK => ?_)
      go_simp
      refine hK _ _ ⟨until_past (by kernel_rfl), ?_⟩
      clear hK K
      refine U_done (by kernel_rfl) ?_ _
      have HB6 := Lib.hid hb6; clear hb6
      go_wp2
      go_ret2
      exact fin_add HB.out HK.out HN.out N5.out FIN.out HB6.out
  · refine U_pick rfl rfl (fun K hK => ?_)
    obtain ⟨v1, hrun, c8, m1⟩ := MA.out w.drew
    refine wp_ran (run_exec_mk _ _ rfl rfl rfl hrun) ?_
    have n1 : Nw w v1 := gb_of_drew m1
    refine hK _ _ ⟨until_of (c0 _ n1), ?_⟩
    clear hK K hrun
    refine U_all (rs := [6, 10]) (by kernel_rfl) (by simp) fun j hj => ?_
    simp only [List.mem_cons, List.not_mem_nil, or_false] at hj
    rcases hj with rfl | rfl
    · refine U_pick rfl rfl (fun K hK => ?_)
      obtain ⟨v2, hrun, c6, m2⟩ := MA.out v1
      refine wp_ran (run_exec_mk _ _ rfl rfl rfl hrun) ?_
      have n2 : Nw w v2 := gb_trans n1 m2
      refine hK _ _ ⟨until_of (c0 _ n2), ?_⟩
      clear hK K hrun
      refine U_eff 10 rfl (by kernel_rfl) rfl (fun K hK => ?_)
      obtain ⟨v3, hrun, c10, m3⟩ := MC.out v2
      refine wp_ran (run_exec_mk _ _ rfl rfl rfl hrun) ?_
      have n3 : Nw w v3 := gb_trans n2 m3
      refine hK _ _ ⟨until_of (c0 _ n3), ?_⟩
      clear hK K hrun
      have md : Made w v3 v1.heap.size w.drew.heap.size v2.heap.size n := ⟨n3, (c6).eq (m3.block _ (c6).lt (by simp)), ((c8).eq (m2.block _ (c8).lt (by simp))).eq (m3.block _ ((c8).eq (m2.block _ (c8).lt (by simp))).lt (by simp)), c10, fun x hx => by
          simp only [List.mem_cons, List.not_mem_nil, or_false] at hx
          have z1 := n1.size; have z2 := n2.size; have z3 : w.drew.heap.size = w.heap.size := rfl
          rcases hx with rfl | rfl | rfl <;> omega⟩
      have MD := Lib.hid md; clear md n1 n2 m1 m2 m3 c6 c8 c10
      have N3 := Lib.hid n3; clear n3
      obtain ⟨q1, hq1⟩ : ∃ q1, q1 = v1.heap.size := ⟨_, rfl⟩
      obtain ⟨q2, hq2⟩ : ∃ q2, q2 = w.drew.heap.size := ⟨_, rfl⟩
      obtain ⟨q3, hq3⟩ : ∃ q3, q3 = v2.heap.size := ⟨_, rfl⟩
      rw [← hq1, ← hq2, ← hq3] at MD
      rw [← hq1, ← hq2, ← hq3]
      clear hq1 hq2 hq3
      refine U_segP (r := [11, 12]) (fuel := 6) rfl (by kernel_rfl) (by kernel_rfl) (by simp only [List.filterMap_cons, List.filterMap_nil, List.getElem?_toArray, List.getElem?_cons_succ, List.getElem?_cons_zero]; rfl) (fun _ _ d _ _ h => by cases d <;> exact h) (until_of (c0 _ N3.out)) ?_
      iterate 2 (refine wpYield_step rfl (fun K hK => ?_)
                 apply Exists.intro
                 refine ⟨fun w' hw' => ?_, ?_⟩
                 · (go_simp; try with_reducible rfl)
                 go_simp
                 refine hK _ ?_
                 clear hK K)
      refine wpYield_nil ?_
      refine U_eff 13 rfl (by kernel_rfl) rfl (fun K hK => ?_)
      go_simp
      obtain ⟨w4, hw4⟩ : ∃ w4, w4 = v3.alloc (.cells #[.slice (some ⟨q1, 0, none⟩) n n, .slice (some ⟨q2, 0, none⟩) n n, .slice (some ⟨q3, 0, none⟩) n n, .bool false, .int .i64 0] 114) := ⟨_, rfl⟩
      rw [← hw4]
      have n34 : Nw v3 w4 := by rw [hw4]; exact World.grownBy_alloc v3 _ none
      have om : MO w4 ⟨v3.heap.size, q1, q2, q3, n⟩ := ⟨false, 0, by rw [hw4]; exact Obj1.new v3 _ _⟩
      have lv : v3.heap.size < w4.heap.size := om.lt
      clear hw4
      have N4 := Lib.hid (gb_trans N3.out n34)
      refine hK _ _ ⟨until_of (c0 _ N4.out), ?_⟩
      clear hK K
      refine U_eff 14 rfl (by kernel_rfl) rfl (fun K hK => ?_)
      refine wp_ran (run_exec_buildSlice1 T107 _ rfl (v := pv v3.heap.size) rfl rfl (by omega)) ?_
      obtain ⟨w5, hw5⟩ : ∃ w5, w5 = w4.alloc (.cells (pv v3.heap.size).cells 115) := ⟨_, rfl⟩
      rw [← hw5]
      have n45 : Nw w4 w5 := by rw [hw5]; exact World.grownBy_alloc w4 _ none
      have r5 : Own w5 w4.heap.size 115 1 (some ⟨w4.heap.size, 0, none⟩) 1 1 [pv v3.heap.size] := by rw [hw5]; exact World.ownsRow_lit (e := 115) (size := 1) w4 #[pv v3.heap.size] 1 (Nat.le_refl _) (by unfold maxLen; omega) rfl
      clear hw5
      have N5 := Lib.hid (gb_trans N4.out n45)
      refine hK _ _ ⟨until_of (c0 _ N5.out), ?_⟩
      clear hK K
      refine U_eff 15 rfl (by kernel_rfl) rfl (fun K hK => ?_)
      have HLL := HL.out
      have hrow : Own w5 0 115 1 A k c (ms.map fun m => pv m.p) := by rw [← HK.out]; exact HB.out.row.nw N5.out
      obtain ⟨A', c', w6, hrun, o6, g6, e6⟩ := run_app_own T107 107 (d := 1) hrow r5.rd (by intro u hu; simp at hu; subst hu; rfl) (by omega) (by unfold maxLen; omega) (Nat.zero_le _)
      refine wp_ran (run_exec_append rfl hrun) ?_
      have FIN := Lib.hid (AddFin.mk MD.out om lv n34 n45 hrow o6 g6 e6)
      clear om lv n34 n45 r5 o6 e6 hrun MD N3 N4
      have hb6 : Obj1 w6 b 109 (bankC A k c false ck wr ar mk) := by have HOO := HO.out; rw [HK.out] at HOO; exact fin_bank HOO N5.out hrow g6
      have c6 := hb6.cell 0
      have f6 := hb6.frozen 0
      rw [show (bankC A k c false ck wr ar mk)[0]? = some (.slice A k c) from rfl] at c6
      refine hK _ _ ⟨until_of c6, ?_⟩
      clear hK K
      refine U_segP (r := [16, 17]) (fuel := 1) rfl (by kernel_rfl) (by kernel_rfl) (by simp only [List.filterMap_cons, List.filterMap_nil, List.getElem?_toArray, List.getElem?_cons_succ, List.getElem?_cons_zero]; rfl) (fun _ _ d _ _ h => by cases d <;> exact h) (until_of c6) ?_
      iterate 2 (refine wpYield_step rfl (fun K hK => ?_)
                 apply Exists.intro
                 refine ⟨fun w' hw' => ?_, ?_⟩
                 · (go_simp; try with_reducible rfl)
                 go_simp
                 refine hK _ ?_
                 clear hK K)
      refine wpYield_nil ?_
      refine U_eff 18 rfl (by kernel_rfl) rfl (fun K hK => ?_)
      go_simp
      refine hK _ _ ⟨until_past (by kernel_rfl), ?_⟩
      clear hK K
      refine U_done (by kernel_rfl) ?_ _
      have HB6 := Lib.hid hb6; clear hb6
      go_wp2
      go_ret2
      exact fin_add HB.out HK.out HN.out N5.out FIN.out HB6.out
    · refine U_pick rfl rfl (fun K hK => ?_)
      obtain ⟨v2, hrun, c10, m2⟩ := MC.out v1
      refine wp_ran (run_exec_mk _ _ rfl rfl rfl hrun) ?_
      have n2 : Nw w v2 := gb_trans n1 m2
      refine hK _ _ ⟨until_of (c0 _ n2), ?_⟩
      clear hK K hrun
      refine U_eff 6 rfl (by kernel_rfl) rfl (fun K hK => ?_)
      obtain ⟨v3, hrun, c6, m3⟩ := MA.out v2
      refine wp_ran (run_exec_mk _ _ rfl rfl rfl hrun) ?_
      have n3 : Nw w v3 := gb_trans n2 m3
      refine hK _ _ ⟨until_of (c0 _ n3), ?_⟩
      clear hK K hrun
      have md : Made w v3 v2.heap.size w.drew.heap.size v1.heap.size n := ⟨n3, c6, ((c8).eq (m2.block _ (c8).lt (by simp))).eq (m3.block _ ((c8).eq (m2.block _ (c8).lt (by simp))).lt (by simp)), (c10).eq (m3.block _ (c10).lt (by simp)), fun x hx => by
          simp only [List.mem_cons, List.not_mem_nil, or_false] at hx
          have z1 := n1.size; have z2 := n2.size; have z3 : w.drew.heap.size = w.heap.size := rfl
          rcases hx with rfl | rfl | rfl <;> omega⟩
      have MD := Lib.hid md; clear md n1 n2 m1 m2 m3 c6 c8 c10
      have N3 := Lib.hid n3; clear n3
      obtain ⟨q1, hq1⟩ : ∃ q1, q1 = v2.heap.size := ⟨_, rfl⟩
      obtain ⟨q2, hq2⟩ : ∃ q2, q2 = w.drew.heap.size := ⟨_, rfl⟩
      obtain ⟨q3, hq3⟩ : ∃ q3, q3 = v1.heap.size := ⟨_, rfl⟩
      rw [← hq1, ← hq2, ← hq3] at MD
      rw [← hq1, ← hq2, ← hq3]
      clear hq1 hq2 hq3
      refine U_segP (r := [11, 12]) (fuel := 6) rfl (by kernel_rfl) (by kernel_rfl) (by simp only [List.filterMap_cons, List.filterMap_nil, List.getElem?_toArray, List.getElem?_cons_succ, List.getElem?_cons_zero]; rfl) (fun _ _ d _ _ h => by cases d <;> exact h) (until_of (c0 _ N3.out)) ?_
      iterate 2 (refine wpYield_step rfl (fun K hK => ?_)
                 apply Exists.intro
                 refine ⟨fun w' hw' => ?_, ?_⟩
                 · (go_simp; try with_reducible rfl)
                 go_simp
                 refine hK _ ?_
                 clear hK K)
      refine wpYield_nil ?_
      refine U_eff 13 rfl (by kernel_rfl) rfl (fun K hK => ?_)
      go_simp
      obtain ⟨w4, hw4⟩ : ∃ w4, w4 = v3.alloc (.cells #[.slice (some ⟨q1, 0, none⟩) n n, .slice (some ⟨q2, 0, none⟩) n n, .slice (some ⟨q3, 0, none⟩) n n, .bool false, .int .i64 0] 114) := ⟨_, rfl⟩
      rw [← hw4]
      have n34 : Nw v3 w4 := by rw [hw4]; exact World.grownBy_alloc v3 _ none
      have om : MO w4 ⟨v3.heap.size, q1, q2, q3, n⟩ := ⟨false, 0, by rw [hw4]; exact Obj1.new v3 _ _⟩
      have lv : v3.heap.size < w4.heap.size := om.lt
      clear hw4
      have N4 := Lib.hid (gb_trans N3.out n34)
      refine hK _ _ ⟨until_of (c0 _ N4.out), ?_⟩
      clear hK K
      refine U_eff 14 rfl (by kernel_rfl) rfl (fun K hK => ?_)
      refine wp_ran (run_exec_buildSlice1 T107 _ rfl (v := pv v3.heap.size) rfl rfl (by omega)) ?_
      obtain ⟨w5, hw5⟩ : ∃ w5, w5 = w4.alloc (.cells (pv v3.heap.size).cells 115) := ⟨_, rfl⟩
      rw [← hw5]
      have n45 : Nw w4 w5 := by rw [hw5]; exact World.grownBy_alloc w4 _ none
      have r5 : Own w5 w4.heap.size 115 1 (some ⟨w4.heap.size, 0, none⟩) 1 1 [pv v3.heap.size] := by rw [hw5]; exact World.ownsRow_lit (e := 115) (size := 1) w4 #[pv v3.heap.size] 1 (Nat.le_refl _) (by unfold maxLen; omega) rfl
      clear hw5
      have N5 := Lib.hid (gb_trans N4.out n45)
      refine hK _ _ ⟨until_of (c0 _ N5.out), ?_⟩
      clear hK K
      refine U_eff 15 rfl (by kernel_rfl) rfl (fun K hK => ?_)
      have HLL := HL.out
      have hrow : Own w5 0 115 1 A k c (ms.map fun m => pv m.p) := by rw [← HK.out]; exact HB.out.row.nw N5.out
      obtain ⟨A', c', w6, hrun, o6, g6, e6⟩ := run_app_own T107 107 (d := 1) hrow r5.rd (by intro u hu; simp at hu; subst hu; rfl) (by omega) (by unfold maxLen; omega) (Nat.zero_le _)
      refine wp_ran (run_exec_append rfl hrun) ?_
      have FIN := Lib.hid (AddFin.mk MD.out om lv n34 n45 hrow o6 g6 e6)
      clear om lv n34 n45 r5 o6 e6 hrun MD N3 N4
      have hb6 : Obj1 w6 b 109 (bankC A k c false ck wr ar mk) := by have HOO := HO.out; rw [HK.out] at HOO; exact fin_bank HOO N5.out hrow g6
      have c6 := hb6.cell 0
      have f6 := hb6.frozen 0
      rw [show (bankC A k c false ck wr ar mk)[0]? = some (.slice A k c) from rfl] at c6
      refine hK _ _ ⟨until_of c6, ?_⟩
      clear hK K
      refine U_segP (r := [16, 17]) (fuel := 1) rfl (by kernel_rfl) (by kernel_rfl) (by simp only [List.filterMap_cons, List.filterMap_nil, List.getElem?_toArray, List.getElem?_cons_succ, List.getElem?_cons_zero]; rfl) (fun _ _ d _ _ h => by cases d <;> exact h) (until_of c6) ?_
      iterate 2 (refine wpYield_step rfl (fun K hK => ?_)
                 apply Exists.intro
                 refine ⟨fun w' hw' => ?_, ?_⟩
                 · (go_simp; try with_reducible rfl)
                 go_simp
                 refine hK _ ?_
                 clear hK K)
      refine wpYield_nil ?_
      refine U_eff 18 rfl (by kernel_rfl) rfl (fun K hK => ?_)
      go_simp
      refine hK _ _ ⟨until_past (by kernel_rfl), ?_⟩
      clear hK K
      refine U_done (by kernel_rfl) ?_ _
      have HB6 := Lib.hid hb6; clear hb6
      go_wp2
      go_ret2
      exact fin_add HB.out HK.out HN.out N5.out FIN.out HB6.out
  · refine U_pick rfl rfl (fun K hK => ?_)
    obtain ⟨v1, hrun, c10, m1⟩ := MC.out w.drew
    refine wp_ran (run_exec_mk _ _ rfl rfl rfl hrun) ?_
    have n1 : Nw w v1 := gb_of_drew m1
    refine hK _ _ ⟨until_of (c0 _ n1), ?_⟩
    clear hK K hrun
    refine U_all (rs := [6, 8]) (by kernel_rfl) (by simp) fun j hj => ?_
    simp only [List.mem_cons, List.not_mem_nil, or_false] at hj
    rcases hj with rfl | rfl
    · refine U_pick rfl rfl (fun K hK => ?_)
      obtain ⟨v2, hrun, c6, m2⟩ := MA.out v1
      refine wp_ran (run_exec_mk _ _ rfl rfl rfl hrun) ?_
      have n2 : Nw w v2 := gb_trans n1 m2
      refine hK _ _ ⟨until_of (c0 _ n2), ?_⟩
      clear hK K hrun
      refine U_eff 8 rfl (by kernel_rfl) rfl (fun K hK => ?_)
      obtain ⟨v3, hrun, c8, m3⟩ := MA.out v2
      refine wp_ran (run_exec_mk _ _ rfl rfl rfl hrun) ?_
      have n3 : Nw w v3 := gb_trans n2 m3
      refine hK _ _ ⟨until_of (c0 _ n3), ?_⟩
      clear hK K hrun
      have md : Made w v3 v1.heap.size v2.heap.size w.drew.heap.size n := ⟨n3, (c6).eq (m3.block _ (c6).lt (by simp)), c8, ((c10).eq (m2.block _ (c10).lt (by simp))).eq (m3.block _ ((c10).eq (m2.block _ (c10).lt (by simp))).lt (by simp)), fun x hx => by
          simp only [List.mem_cons, List.not_mem_nil, or_false] at hx
          have z1 := n1.size; have z2 := n2.size; have z3 : w.drew.heap.size = w.heap.size := rfl
          rcases hx with rfl | rfl | rfl <;> omega⟩
      have MD := Lib.hid md; clear md n1 n2 m1 m2 m3 c6 c8 c10
      have N3 := Lib.hid n3; clear n3
      obtain ⟨q1, hq1⟩ : ∃ q1, q1 = v1.heap.size := ⟨_, rfl⟩
      obtain ⟨q2, hq2⟩ : ∃ q2, q2 = v2.heap.size := ⟨_, rfl⟩
      obtain ⟨q3, hq3⟩ : ∃ q3, q3 = w.drew.heap.size := ⟨_, rfl⟩
      rw [← hq1, ← hq2, ← hq3] at MD
      rw [← hq1, ← hq2, ← hq3]
      clear hq1 hq2 hq3
      refine U_segP (r := [11, 12]) (fuel := 6) rfl (by kernel_rfl) (by kernel_rfl) (by simp only [List.filterMap_cons, List.filterMap_nil, List.getElem?_toArray, List.getElem?_cons_succ, List.getElem?_cons_zero]; rfl) (fun _ _ d _ _ h => by cases d <;> exact h) (until_of (c0 _ N3.out)) ?_
      iterate 2 (refine wpYield_step rfl (fun K hK => ?_)
                 apply Exists.intro
                 refine ⟨fun w' hw' => ?_, ?_⟩
                 · (go_simp; try with_reducible rfl)
                 go_simp
                 refine hK _ ?_
                 clear hK K)
      refine wpYield_nil ?_
      refine U_eff 13 rfl (by kernel_rfl) rfl (fun K hK => ?_)
      go_simp
      obtain ⟨w4, hw4⟩ : ∃ w4, w4 = v3.alloc (.cells #[.slice (some ⟨q1, 0, none⟩) n n, .slice (some ⟨q2, 0, none⟩) n n, .slice (some ⟨q3, 0, none⟩) n n, .bool false, .int .i64 0] 114) := ⟨_, rfl⟩
      rw [← hw4]
      have n34 : Nw v3 w4 := by rw [hw4]; exact World.grownBy_alloc v3 _ none
      have om : MO w4 ⟨v3.heap.size, q1, q2, q3, n⟩ := ⟨false, 0, by rw [hw4]; exact Obj1.new v3 _ _⟩
      have lv : v3.heap.size < w4.heap.size := om.lt
      clear hw4
      have N4 := Lib.hid (gb_trans N3.out n34)
      refine hK _ _ ⟨until_of (c0 _ N4.out), ?_⟩
      clear hK K
      refine U_eff 14 rfl (by kernel_rfl) rfl (fun K hK => ?_)
      refine wp_ran (run_exec_buildSlice1 T107 _ rfl (v := pv v3.heap.size) rfl rfl (by omega)) ?_
      obtain ⟨w5, hw5⟩ : ∃ w5, w5 = w4.alloc (.cells (pv v3.heap.size).cells 115) := ⟨_, rfl⟩
      rw [← hw5]
      have n45 : Nw w4 w5 := by rw [hw5]; exact World.grownBy_alloc w4 _ none
      have r5 : Own w5 w4.heap.size 115 1 (some ⟨w4.heap.size, 0, none⟩) 1 1 [pv v3.heap.size] := by rw [hw5]; exact World.ownsRow_lit (e := 115) (size := 1) w4 #[pv v3.heap.size] 1 (Nat.le_refl _) (by unfold maxLen; omega) rfl
      clear hw5
      have N5 := Lib.hid (gb_trans N4.out n45)
      refine hK _ _ ⟨until_of (c0 _ N5.out), ?_⟩
      clear hK K
      refine U_eff 15 rfl (by kernel_rfl) rfl (fun K hK => ?_)
      have HLL := HL.out
      have hrow : Own w5 0 115 1 A k c (ms.map fun m => pv m.p) := by rw [← HK.out]; exact HB.out.row.nw N5.out
      obtain ⟨A', c', w6, hrun, o6, g6, e6⟩ := run_app_own T107 107 (d := 1) hrow r5.rd (by intro u hu; simp at hu; subst hu; rfl) (by omega) (by unfold maxLen; omega) (Nat.zero_le _)
      refine wp_ran (run_exec_append rfl hrun) ?_
      have FIN := Lib.hid (AddFin.mk MD.out om lv n34 n45 hrow o6 g6 e6)
      clear om lv n34 n45 r5 o6 e6 hrun MD N3 N4
      have hb6 : Obj1 w6 b 109 (bankC A k c false ck wr ar mk) := by have HOO := HO.out; rw [HK.out] at HOO; exact fin_bank HOO N5.out hrow g6
      have c6 := hb6.cell 0
      have f6 := hb6.frozen 0
      rw [show (bankC A k c false ck wr ar mk)[0]? = some (.slice A k c) from rfl] at c6
      refine hK _ _ ⟨until_of c6, ?_⟩
      clear hK K
      refine U_segP (r := [16, 17]) (fuel := 1) rfl (by kernel_rfl) (by kernel_rfl) (by simp only [List.filterMap_cons, List.filterMap_nil, List.getElem?_toArray, List.getElem?_cons_succ, List.getElem?_cons_zero]; rfl) (fun _ _ d _ _ h => by cases d <;> exact h) (until_of c6) ?_
      iterate 2 (refine wpYield_step rfl (fun K hK => ?_)
                 apply Exists.intro
                 refine ⟨fun w' hw' => ?_, ?_⟩
                 · (go_simp; try with_reducible rfl)
                 go_simp
                 refine hK _ ?_
                 clear hK K)
      refine wpYield_nil ?_
      refine U_eff 18 rfl (by kernel_rfl) rfl (fun K hK => ?_)
      go_simp
      refine hK _ _ ⟨until_past (by kernel_rfl), ?_⟩
      clear hK K
      refine U_done (by kernel_rfl) ?_ _
      have HB6 := Lib.hid hb6; clear hb6
      go_wp2
      go_ret2
      exact fin_add HB.out HK.out HN.out N5.out FIN.out HB6.out
    · refine U_pick rfl rfl (fun K hK => ?_)
      obtain ⟨v2, hrun, c8, m2⟩ := MA.out v1
      refine wp_ran (run_exec_mk _ _ rfl rfl rfl hrun) ?_
      have n2 : Nw w v2 := gb_trans n1 m2
      refine hK _ _ ⟨until_of (c0 _ n2), ?_⟩
      clear hK K hrun
      refine U_eff 6 rfl (by kernel_rfl) rfl (fun K hK => ?_)
      obtain ⟨v3, hrun, c6, m3⟩ := MA.out v2
      refine wp_ran (run_exec_mk _ _ rfl rfl rfl hrun) ?_
      have n3 : Nw w v3 := gb_trans n2 m3
      refine hK _ _ ⟨until_of (c0 _ n3), ?_⟩
      clear hK K hrun
      have md : Made w v3 v2.heap.size v1.heap.size w.drew.heap.size n := ⟨n3, c6, (c8).eq (m3.block _ (c8).lt (by simp)), ((c10).eq (m2.block _ (c10).lt (by simp))).eq (m3.block _ ((c10).eq (m2.block _ (c10).lt (by simp))).lt (by simp)), fun x hx => by
          simp only [List.mem_cons, List.not_mem_nil, or_false] at hx
          have z1 := n1.size; have z2 := n2.size; have z3 : w.drew.heap.size = w.heap.size := rfl
          rcases hx with rfl | rfl | rfl <;> omega⟩
      have MD := Lib.hid md; clear md n1 n2 m1 m2 m3 c6 c8 c10
      have N3 := Lib.hid n3; clear n3
      obtain ⟨q1, hq1⟩ : ∃ q1, q1 = v2.heap.size := ⟨_, rfl⟩
      obtain ⟨q2, hq2⟩ : ∃ q2, q2 = v1.heap.size := ⟨_, rfl⟩
      obtain ⟨q3, hq3⟩ : ∃ q3, q3 = w.drew.heap.size := ⟨_, rfl⟩
      rw [← hq1, ← hq2, ← hq3] at MD
      rw [← hq1, ← hq2, ← hq3]
      clear hq1 hq2 hq3
      refine U_segP (r := [11, 12]) (fuel := 6) rfl (by kernel_rfl) (by kernel_rfl) (by simp only [List.filterMap_cons, List.filterMap_nil, List.getElem?_toArray, List.getElem?_cons_succ, List.getElem?_cons_zero]; rfl) (fun _ _ d _ _ h => by cases d <;> exact h) (until_of (c0 _ N3.out)) ?_
      iterate 2 (refine wpYield_step rfl (fun K hK => ?_)
                 apply Exists.intro
                 refine ⟨fun w' hw' => ?_, ?_⟩
                 · (go_simp; try with_reducible rfl)
                 go_simp
                 refine hK _ ?_
                 clear hK K)
      refine wpYield_nil ?_
      refine U_eff 13 rfl (by kernel_rfl) rfl (fun K hK => ?_)
      go_simp
      obtain ⟨w4, hw4⟩ : ∃ w4, w4 = v3.alloc (.cells #[.slice (some ⟨q1, 0, none⟩) n n, .slice (some ⟨q2, 0, none⟩) n n, .slice (some ⟨q3, 0, none⟩) n n, .bool false, .int .i64 0] 114) := ⟨_, rfl⟩
      rw [← hw4]
      have n34 : Nw v3 w4 := by rw [hw4]; exact World.grownBy_alloc v3 _ none
      have om : MO w4 ⟨v3.heap.size, q1, q2, q3, n⟩ := ⟨false, 0, by rw [hw4]; exact Obj1.new v3 _ _⟩
      have lv : v3.heap.size < w4.heap.size := om.lt
      clear hw4
      have N4 := Lib.hid (gb_trans N3.out n34)
      refine hK _ _ ⟨until_of (c0 _ N4.out), ?_⟩
      clear hK K
      refine U_eff 14 rfl (by kernel_rfl) rfl (fun K hK => ?_)
      refine wp_ran (run_exec_buildSlice1 T107 _ rfl (v := pv v3.heap.size) rfl rfl (by omega)) ?_
      obtain ⟨w5, hw5⟩ : ∃ w5, w5 = w4.alloc (.cells (pv v3.heap.size).cells 115) := ⟨_, rfl⟩
      rw [← hw5]
      have n45 : Nw w4 w5 := by rw [hw5]; exact World.grownBy_alloc w4 _ none
      have r5 : Own w5 w4.heap.size 115 1 (some ⟨w4.heap.size, 0, none⟩) 1 1 [pv v3.heap.size] := by rw [hw5]; exact World.ownsRow_lit (e := 115) (size := 1) w4 #[pv v3.heap.size] 1 (Nat.le_refl _) (by unfold maxLen; omega) rfl
      clear hw5
      have N5 := Lib.hid (gb_trans N4.out n45)
      refine hK _ _ ⟨until_of (c0 _ N5.out), ?_⟩
      clear hK K
      refine U_eff 15 rfl (by kernel_rfl) rfl (fun K hK => ?_)
      have HLL := HL.out
      have hrow : Own w5 0 115 1 A k c (ms.map fun m => pv m.p) := by rw [← HK.out]; exact HB.out.row.nw N5.out
      obtain ⟨A', c', w6, hrun, o6, g6, e6⟩ := run_app_own T107 107 (d := 1) hrow r5.rd (by intro u hu; simp at hu; subst hu; rfl) (by omega) (by unfold maxLen; omega) (Nat.zero_le _)
      refine wp_ran (run_exec_append rfl hrun) ?_
      have FIN := Lib.hid (AddFin.mk MD.out om lv n34 n45 hrow o6 g6 e6)
      clear om lv n34 n45 r5 o6 e6 hrun MD N3 N4
      have hb6 : Obj1 w6 b 109 (bankC A k c false ck wr ar mk) := by have HOO := HO.out; rw [HK.out] at HOO; exact fin_bank HOO N5.out hrow g6
      have c6 := hb6.cell 0
      have f6 := hb6.frozen 0
      rw [show (bankC A k c false ck wr ar mk)[0]? = some (.slice A k c) from rfl] at c6
      refine hK _ _ ⟨until_of c6, ?_⟩
      clear hK K
      refine U_segP (r := [16, 17]) (fuel := 1) rfl (by kernel_rfl) (by kernel_rfl) (by simp only [List.filterMap_cons, List.filterMap_nil, List.getElem?_toArray, List.getElem?_cons_succ, List.getElem?_cons_zero]; rfl) (fun _ _ d _ _ h => by cases d <;> exact h) (until_of c6) ?_
      iterate 2 (refine wpYield_step rfl (fun K hK => ?_)
                 apply Exists.intro
                 refine ⟨fun w' hw' => ?_, ?_⟩
                 · (go_simp; try with_reducible rfl)
                 go_simp
                 refine hK _ ?_
                 clear hK K)
      refine wpYield_nil ?_
      refine U_eff 18 rfl (by kernel_rfl) rfl (fun K hK => ?_)
      go_simp
      refine hK _ _ ⟨until_past (by kernel_rfl), ?_⟩
      clear hK K
      refine U_done (by kernel_rfl) ?_ _
      have HB6 := Lib.hid hb6; clear hb6
      go_wp2
      go_ret2
      exact fin_add HB.out HK.out HN.out N5.out FIN.out HB6.out
end Go.Proofs.Ytmcgfnfhpcddlaa

