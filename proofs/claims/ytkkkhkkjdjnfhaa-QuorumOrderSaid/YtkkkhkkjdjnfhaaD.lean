/- Equality of members and of lists of members, for all of them: slices.Equal, the reference's SameMembers and Same, quorum.same. -/
import Derived.Test.YtkkkhkkjdjnfhaaC
import Derived.Test.YtkkkhkkjdjnfhaaReg
namespace Go.Proofs.Ytkkkhkkjdjnfhaa
open Go.RowKit Go.BW

theorem fields28 : (Try.prog.fieldsOf 28).toList.map (fun f => (f.name, f.type, f.offset)) = [("ID", 3, 0), ("Sectors", 3, 1), ("State", 3, 2)] := by kernel_rfl
theorem run_equal_mem {w : World} (x y : Mem) : (Op.equal 28 (mv x) (mv y)).run Try.prog w = .ok (decide (x = y)) w := by
  show (Op.equalIn 10000 28 _ _).run Try.prog w = _
  unfold mv
  rw [run_equalIn_struct w 9999 28 _ _ (by kernel_rfl) (by kernel_rfl)]
  have hf : ∃ f0 f1 f2 : Field, (Try.prog.fieldsOf 28).toList = [f0, f1, f2] ∧ (f0.name, f0.type, f0.offset) = ("ID", 3, 0) ∧ (f1.name, f1.type, f1.offset) = ("Sectors", 3, 1) ∧ (f2.name, f2.type, f2.offset) = ("State", 3, 2) := by
    have h := fields28
    generalize (Try.prog.fieldsOf 28).toList = l at h
    have h3 := congrArg List.length h
    simp only [List.length_map, List.length_cons, List.length_nil] at h3
    match l, h, h3 with
    | [f0, f1, f2], h, _ => simp only [List.map_cons, List.map_nil, List.cons.injEq, and_true] at h; exact ⟨f0, f1, f2, rfl, h.1, h.2.1, h.2.2⟩
  obtain ⟨f0, f1, f2, hl, h0, h1, h2⟩ := hf
  simp only [Prod.mk.injEq] at h0 h1 h2
  obtain ⟨n0, t0, o0⟩ := h0
  obtain ⟨n1, t1, o1⟩ := h1
  obtain ⟨n2, t2, o2⟩ := h2
  have hp : ∀ (cs : Array Value) (i : Nat) (v : Value), cs[i]? = some v → (part 3 cs i).run Try.prog w = .ok v w := by
    intro cs i v hi
    unfold part
    have hagg : (isAgg 3).run Try.prog w = .ok false w := by
      unfold isAgg
      rw [Sem.run_bind, run_underlying Try.underlying3 w]
      rfl
    rw [Sem.run_bind, hagg]
    simp [hi]
  have hp0 : ∀ a b c : Value, (part 3 #[a, b, c] 0).run Try.prog w = .ok a w := fun a b c => hp _ 0 _ rfl
  have hp1 : ∀ a b c : Value, (part 3 #[a, b, c] 1).run Try.prog w = .ok b w := fun a b c => hp _ 1 _ rfl
  have hp2 : ∀ a b c : Value, (part 3 #[a, b, c] 2).run Try.prog w = .ok c w := fun a b c => hp _ 2 _ rfl
  have he : ∀ a b : Int, (Op.equalIn 9999 3 (.int .i64 a) (.int .i64 b)).run Try.prog w = .ok (a == b) w := fun a b => run_equalIn_int w 9998 3 _ _ a b Try.underlying3
  rw [hl]
  simp only [Op.eqFields, n0, n1, n2, t0, t1, t2, o0, o1, o2]
  simp only [show ("ID" ≠ "_") = True from by simp, show ("Sectors" ≠ "_") = True from by simp, show ("State" ≠ "_") = True from by simp, if_true, Sem.run_bind, hp0, hp1, hp2, Result.andThen_ok, he]
  obtain ⟨xt, xg, xs⟩ := x
  obtain ⟨yt, yg, ys⟩ := y
  by_cases e0 : xt = yt <;> by_cases e1 : xg = yg <;> by_cases e2 : xs = ys <;> simp [e0, e1, e2, hp0, hp1, hp2, he, Sem.run_pure, Sem.run_bind]
theorem wpYield_neq_mem {ops : Array Oper} {S : World → Prop} {R : Act → Prop} {rest : List Oper} {o : Oper} {a : Act} (x y : Operand) (hop : o.op = .binOp .neq 28 x y 28) (hw : Region.wanted o (yielded ops a.tmps) = true) (s t : Mem)
    (hx : a.eval x = .agg (mc s).toArray) (hy : a.eval y = .agg (mc t).toArray) {r : Bool} (hr : (!decide (s = t)) = r) (hK : wpYield Try.prog ops S R rest (a.put o.dst (.bool r))) : wpYield Try.prog ops S R (o :: rest) a := by
  refine wpYield_val hw (v := .bool r) (fun w _ => ?_) hK
  have hx' : a.eval x = mv s := hx
  have hy' : a.eval y = mv t := hy
  have hg : (eqGuard .neq 28 x y (mv s) (mv t)).run Try.prog w = .ok () w := by unfold mv; exact Go.BW.run_eqGuard_agg x y _ _ (by kernel_rfl)
  unfold execOp
  simp only [hop, hx', hy', Sem.run_bind, hg, Result.andThen_ok]
  have hq : (binOp .neq 28 (mv s) (mv t)).run Try.prog w = .ok (.bool (!decide (s = t))) w := by
    have he := run_equal_mem (w := w) s t
    unfold mv at he ⊢
    simp only [binOp]
    simp [he]
  rw [hq, hr]
  simp
theorem take_snoc_eq {α : Type} {xs ys : List α} {k : Nat} {x y : α} (h : xs.take k = ys.take k) (hx : xs[k]? = some x) (hy : ys[k]? = some y) (e : x = y) : xs.take (k + 1) = ys.take (k + 1) := by
  obtain ⟨h1, rfl⟩ := List.getElem?_eq_some_iff.1 hx
  obtain ⟨h2, rfl⟩ := List.getElem?_eq_some_iff.1 hy
  rw [List.take_succ_eq_append_getElem h1, List.take_succ_eq_append_getElem h2, h, e]
theorem ne_of_at {α : Type} {xs ys : List α} {k : Nat} {x y : α} (hx : xs[k]? = some x) (hy : ys[k]? = some y) (e : x ≠ y) : ¬ xs = ys := by
  rintro rfl; rw [hx] at hy; injection hy with hy; exact e hy
def eqM (xs ys : List Mem) : Bool := decide (xs = ys)
set_option maxHeartbeats 1000000 in
theorem equal_any {w : World} {B B' n m c d : Nat} {A A' : Option Addr} {xs ys : List Mem} (hx : Rd w B 3 A n (fl mc xs)) (hy : Rd w B' 3 A' m (fl mc ys)) (hB : B ≤ w.heap.size) (hB' : B' ≤ w.heap.size) (hn : n ≤ 1000000) (hm : m ≤ 1000000) :
    Calls Try.prog 34 #[.slice A n c, .slice A' m d] w (Ret (.bool (eqM xs ys)) w) := by
  have hlx := hx.lenL mc_len (by decide)
  have hly := hy.lenL mc_len (by decide)
  by_cases hl : n = m
  · subst hl
    have HX := Lib.hid hx; have HY := Lib.hid hy; have HLX := Lib.hid hlx; have HLY := Lib.hid hly
    clear hlx hly
    go_enter Try.func34, Try.ntmps34
    go_wp2
    go_loopw [13] (fun i wr => ∃ k : Nat, k ≤ n ∧ i = .int .i64 k ∧ Hid (xs.take k = ys.take k) ∧ Nw w wr) (fun i _ => n - (intOf i).toNat)
    case atStart => exact ⟨0, Nat.zero_le _, rfl, Lib.hid rfl, Nw.refl _⟩
    case round =>
      obtain ⟨k, hk, rfl, ht, hnw⟩ := hrel
      by_cases hlt : k < n
      · obtain ⟨_, b, off, x, rfl, _, ax, cx⟩ := (hx.nw hnw hB).atL mc_len (by decide) hlt
        obtain ⟨_, b', off', y, rfl, _, ay, cy⟩ := (hy.nw hnw hB').atL mc_len (by decide) hlt
        have HCX := Lib.hid (fun w' (h : Nw wr w') => show ∀ j u, (mc x)[j]? = some u → w'.cell? ⟨b, off + k * 3 + j, none⟩ = some u from by
          intro j u hu
          obtain ⟨_, b2, o2, x2, e, _, a2, c2⟩ := (hx.nw (gb_trans hnw h) hB).atL mc_len (by decide) hlt
          injection e with e; injection e with e1 e2; subst e1; subst e2
          rw [ax] at a2; injection a2 with a2; subst a2
          exact c2 j u hu)
        have HCY := Lib.hid (fun w' (h : Nw wr w') => show ∀ j u, (mc y)[j]? = some u → w'.cell? ⟨b', off' + k * 3 + j, none⟩ = some u from by
          intro j u hu
          obtain ⟨_, b2, o2, x2, e, _, a2, c2⟩ := (hy.nw (gb_trans hnw h) hB').atL mc_len (by decide) hlt
          injection e with e; injection e with e1 e2; subst e1; subst e2
          rw [ay] at a2; injection a2 with a2; subst a2
          exact c2 j u hu)
        have hlt' : (k : Int) < (n : Int) := by omega
        have AX := Lib.hid ax; have AY := Lib.hid ay
        clear ax ay cx cy
        have hs3 : (Try.prog.info? 28).map (·.size) = some (mc x).length := by kernel_rfl
        have hs4 : (Try.prog.info? 28).map (·.size) = some (mc y).length := by kernel_rfl
        by_cases he : x = y
        · have hr : (!decide (x = y)) = false := by simp [he]
          have HE := Lib.hid he
          clear he
          go_wp2
          refine wp_region_held (S := (fun w' => Nw wr w')) (by kernel_rfl) ?_
          change wpAnyH _ _ _ _ _ _ _ _ (World.drew wr)
          refine held_seg' (l := [0, 1, 2, 3, 4, 5, 6, 7, 8]) (fuel := 0) rfl (by kernel_rfl) (by kernel_rfl) (by simp only [List.filterMap_cons, List.filterMap_nil, List.getElem?_toArray, List.getElem?_cons_succ, List.getElem?_cons_zero]; rfl) (fun _ _ d _ _ h => by cases d <;> exact h) (gb_drew (Nw.refl wr)) ?_
          iterate 3 (refine wpYield_step rfl (fun K hK => ?_)
                     apply Exists.intro
                     refine ⟨fun w' hw' => ?_, ?_⟩
                     · (go_simp; try with_reducible rfl)
                     go_simp
                     refine hK _ ?_
                     clear hK K)
          refine wpYield_load_agg 28 _ rfl rfl rfl (mc x) (fun w' hw' => HCX.out w' hw') _ Try.underlying28 rfl hs3 ?_
          iterate 3 (refine wpYield_step rfl (fun K hK => ?_)
                     apply Exists.intro
                     refine ⟨fun w' hw' => ?_, ?_⟩
                     · (go_simp; try with_reducible rfl)
                     go_simp
                     refine hK _ ?_
                     clear hK K)
          refine wpYield_load_agg 28 _ rfl rfl rfl (mc y) (fun w' hw' => HCY.out w' hw') _ Try.underlying28 rfl hs4 ?_
          refine wpYield_neq_mem _ _ rfl rfl x y rfl rfl hr ?_
          refine wpYield_nil ?_
          refine wpAnyH_done (by kernel_rfl) ?_ _
          go_wp2
          go_roundw
          case rel => exact ⟨k + 1, by omega, by go_num, Lib.hid (take_snoc_eq ht.out AX.out AY.out HE.out), gb_drew hnw⟩
          case measure => simp only [intOf]; omega
        · have hr : (!decide (x = y)) = true := by simp [he]
          have HF := Lib.hid (show eqM xs ys = false from decide_eq_false (ne_of_at AX.out AY.out he))
          clear he
          go_wp2
          refine wp_region_held (S := (fun w' => Nw wr w')) (by kernel_rfl) ?_
          change wpAnyH _ _ _ _ _ _ _ _ (World.drew wr)
          refine held_seg' (l := [0, 1, 2, 3, 4, 5, 6, 7, 8]) (fuel := 0) rfl (by kernel_rfl) (by kernel_rfl) (by simp only [List.filterMap_cons, List.filterMap_nil, List.getElem?_toArray, List.getElem?_cons_succ, List.getElem?_cons_zero]; rfl) (fun _ _ d _ _ h => by cases d <;> exact h) (gb_drew (Nw.refl wr)) ?_
          iterate 3 (refine wpYield_step rfl (fun K hK => ?_)
                     apply Exists.intro
                     refine ⟨fun w' hw' => ?_, ?_⟩
                     · (go_simp; try with_reducible rfl)
                     go_simp
                     refine hK _ ?_
                     clear hK K)
          refine wpYield_load_agg 28 _ rfl rfl rfl (mc x) (fun w' hw' => HCX.out w' hw') _ Try.underlying28 rfl hs3 ?_
          iterate 3 (refine wpYield_step rfl (fun K hK => ?_)
                     apply Exists.intro
                     refine ⟨fun w' hw' => ?_, ?_⟩
                     · (go_simp; try with_reducible rfl)
                     go_simp
                     refine hK _ ?_
                     clear hK K)
          refine wpYield_load_agg 28 _ rfl rfl rfl (mc y) (fun w' hw' => HCY.out w' hw') _ Try.underlying28 rfl hs4 ?_
          refine wpYield_neq_mem _ _ rfl rfl x y rfl rfl hr ?_
          refine wpYield_nil ?_
          refine wpAnyH_done (by kernel_rfl) ?_ _
          go_wp2
          go_ret
          exact ⟨by rw [HF.out]; rfl, gb_drew hnw⟩
      · have hkn : k = n := by omega
        subst hkn
        have HF := Lib.hid (show eqM xs ys = true from decide_eq_true (by
          have h := ht.out
          rwa [List.take_of_length_le (by rw [HLX.out]; exact Nat.le_refl _), List.take_of_length_le (by rw [HLY.out]; exact Nat.le_refl _)] at h))
        go_wp2
        go_ret
        exact ⟨by rw [HF.out]; rfl, hnw⟩
  · have HF := Lib.hid (show eqM xs ys = false from decide_eq_false (by rintro rfl; omega))
    have hb : ((n : Int) != (m : Int)) = true := by simp; omega
    clear hlx hly hl
    go_enter Try.func34, Try.ntmps34
    go_wp2
    go_ret
    exact ⟨by rw [HF.out]; rfl, Nw.refl _⟩
set_option maxHeartbeats 1000000 in
theorem samem_any {w : World} {B B' n m c d : Nat} {A A' : Option Addr} {xs ys : List Mem} (hx : Rd w B 3 A n (fl mc xs)) (hy : Rd w B' 3 A' m (fl mc ys)) (hB : B ≤ w.heap.size) (hB' : B' ≤ w.heap.size) (hn : n ≤ 1000000) (hm : m ≤ 1000000) :
    Calls Try.prog 32 #[.slice A n c, .slice A' m d] w (Ret (.bool (eqM xs ys)) w) := by
  have hlx := hx.lenL mc_len (by decide)
  have hly := hy.lenL mc_len (by decide)
  by_cases hl : n = m
  · subst hl
    have HX := Lib.hid hx; have HY := Lib.hid hy; have HLX := Lib.hid hlx; have HLY := Lib.hid hly
    clear hlx hly
    go_enter Try.func32, Try.ntmps32
    go_wp2
    go_loopw [5] (fun i wr => ∃ k : Nat, k ≤ n ∧ i = .int .i64 k ∧ Hid (xs.take k = ys.take k) ∧ Nw w wr) (fun i _ => n - (intOf i).toNat)
    case atStart => exact ⟨0, Nat.zero_le _, rfl, Lib.hid rfl, Nw.refl _⟩
    case round =>
      obtain ⟨k, hk, rfl, ht, hnw⟩ := hrel
      by_cases hlt : k < n
      · obtain ⟨_, b, off, x, rfl, _, ax, cx⟩ := (hx.nw hnw hB).atL mc_len (by decide) hlt
        obtain ⟨_, b', off', y, rfl, _, ay, cy⟩ := (hy.nw hnw hB').atL mc_len (by decide) hlt
        have HCX := Lib.hid (fun w' (h : Nw wr w') => show ∀ j u, (mc x)[j]? = some u → w'.cell? ⟨b, off + k * 3 + j, none⟩ = some u from by
          intro j u hu
          obtain ⟨_, b2, o2, x2, e, _, a2, c2⟩ := (hx.nw (gb_trans hnw h) hB).atL mc_len (by decide) hlt
          injection e with e; injection e with e1 e2; subst e1; subst e2
          rw [ax] at a2; injection a2 with a2; subst a2
          exact c2 j u hu)
        have HCY := Lib.hid (fun w' (h : Nw wr w') => show ∀ j u, (mc y)[j]? = some u → w'.cell? ⟨b', off' + k * 3 + j, none⟩ = some u from by
          intro j u hu
          obtain ⟨_, b2, o2, x2, e, _, a2, c2⟩ := (hy.nw (gb_trans hnw h) hB').atL mc_len (by decide) hlt
          injection e with e; injection e with e1 e2; subst e1; subst e2
          rw [ay] at a2; injection a2 with a2; subst a2
          exact c2 j u hu)
        have hlt' : (k : Int) < (n : Int) := by omega
        have AX := Lib.hid ax; have AY := Lib.hid ay
        clear ax ay cx cy
        have hs3 : (Try.prog.info? 28).map (·.size) = some (mc x).length := by kernel_rfl
        have hs4 : (Try.prog.info? 28).map (·.size) = some (mc y).length := by kernel_rfl
        by_cases he : x = y
        · have hr : (!decide (x = y)) = false := by simp [he]
          have HE := Lib.hid he
          clear he
          go_wp2
          refine wp_region_held (S := (fun w' => Nw wr w')) (by kernel_rfl) ?_
          change wpAnyH _ _ _ _ _ _ _ _ (World.drew wr)
          refine held_seg' (l := [0, 1, 2, 3, 4, 5, 6, 7, 8]) (fuel := 0) rfl (by kernel_rfl) (by kernel_rfl) (by simp only [List.filterMap_cons, List.filterMap_nil, List.getElem?_toArray, List.getElem?_cons_succ, List.getElem?_cons_zero]; rfl) (fun _ _ d _ _ h => by cases d <;> exact h) (gb_drew (Nw.refl wr)) ?_
          iterate 3 (refine wpYield_step rfl (fun K hK => ?_)
                     apply Exists.intro
                     refine ⟨fun w' hw' => ?_, ?_⟩
                     · (go_simp; try with_reducible rfl)
                     go_simp
                     refine hK _ ?_
                     clear hK K)
          refine wpYield_load_agg 28 _ rfl rfl rfl (mc x) (fun w' hw' => HCX.out w' hw') _ Try.underlying28 rfl hs3 ?_
          iterate 3 (refine wpYield_step rfl (fun K hK => ?_)
                     apply Exists.intro
                     refine ⟨fun w' hw' => ?_, ?_⟩
                     · (go_simp; try with_reducible rfl)
                     go_simp
                     refine hK _ ?_
                     clear hK K)
          refine wpYield_load_agg 28 _ rfl rfl rfl (mc y) (fun w' hw' => HCY.out w' hw') _ Try.underlying28 rfl hs4 ?_
          refine wpYield_neq_mem _ _ rfl rfl x y rfl rfl hr ?_
          refine wpYield_nil ?_
          refine wpAnyH_done (by kernel_rfl) ?_ _
          go_wp2
          go_roundw
          case rel => exact ⟨k + 1, by omega, by go_num, Lib.hid (take_snoc_eq ht.out AX.out AY.out HE.out), gb_drew hnw⟩
          case measure => simp only [intOf]; omega
        · have hr : (!decide (x = y)) = true := by simp [he]
          have HF := Lib.hid (show eqM xs ys = false from decide_eq_false (ne_of_at AX.out AY.out he))
          clear he
          go_wp2
          refine wp_region_held (S := (fun w' => Nw wr w')) (by kernel_rfl) ?_
          change wpAnyH _ _ _ _ _ _ _ _ (World.drew wr)
          refine held_seg' (l := [0, 1, 2, 3, 4, 5, 6, 7, 8]) (fuel := 0) rfl (by kernel_rfl) (by kernel_rfl) (by simp only [List.filterMap_cons, List.filterMap_nil, List.getElem?_toArray, List.getElem?_cons_succ, List.getElem?_cons_zero]; rfl) (fun _ _ d _ _ h => by cases d <;> exact h) (gb_drew (Nw.refl wr)) ?_
          iterate 3 (refine wpYield_step rfl (fun K hK => ?_)
                     apply Exists.intro
                     refine ⟨fun w' hw' => ?_, ?_⟩
                     · (go_simp; try with_reducible rfl)
                     go_simp
                     refine hK _ ?_
                     clear hK K)
          refine wpYield_load_agg 28 _ rfl rfl rfl (mc x) (fun w' hw' => HCX.out w' hw') _ Try.underlying28 rfl hs3 ?_
          iterate 3 (refine wpYield_step rfl (fun K hK => ?_)
                     apply Exists.intro
                     refine ⟨fun w' hw' => ?_, ?_⟩
                     · (go_simp; try with_reducible rfl)
                     go_simp
                     refine hK _ ?_
                     clear hK K)
          refine wpYield_load_agg 28 _ rfl rfl rfl (mc y) (fun w' hw' => HCY.out w' hw') _ Try.underlying28 rfl hs4 ?_
          refine wpYield_neq_mem _ _ rfl rfl x y rfl rfl hr ?_
          refine wpYield_nil ?_
          refine wpAnyH_done (by kernel_rfl) ?_ _
          go_wp2
          go_ret
          exact ⟨by rw [HF.out]; rfl, gb_drew hnw⟩
      · have hkn : k = n := by omega
        subst hkn
        have HF := Lib.hid (show eqM xs ys = true from decide_eq_true (by
          have h := ht.out
          rwa [List.take_of_length_le (by rw [HLX.out]; exact Nat.le_refl _), List.take_of_length_le (by rw [HLY.out]; exact Nat.le_refl _)] at h))
        go_wp2
        go_ret
        exact ⟨by rw [HF.out]; rfl, hnw⟩
  · have HF := Lib.hid (show eqM xs ys = false from decide_eq_false (by rintro rfl; omega))
    have hb : ((n : Int) != (m : Int)) = true := by simp; omega
    clear hlx hly hl
    go_enter Try.func32, Try.ntmps32
    go_wp2
    go_ret
    exact ⟨by rw [HF.out]; rfl, Nw.refl _⟩
end Go.Proofs.Ytkkkhkkjdjnfhaa

