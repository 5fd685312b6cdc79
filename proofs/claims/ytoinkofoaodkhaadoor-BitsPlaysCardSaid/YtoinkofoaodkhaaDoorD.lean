/- What bits' New, Clone and Take do. -/
import Derived.Test.YtoinkofoaodkhaaDoorC
import Derived.Test.YtoinkofoaodkhaaDoorRes
namespace Go.Proofs.YtoinkofoaodkhaaDoor
open Go.RowKit Go.BW Go.BW.Bit

theorem word_zero (N j : Nat) : word (List.replicate N false) j = 0 := by
  apply Nat.eq_of_testBit_eq
  intro i
  rw [word_bit, Nat.zero_testBit]
  have : (List.replicate N false).getD (64 * j + i) false = false := by
    rw [List.getD_eq_getElem?_getD, List.getElem?_replicate]
    split <;> rfl
  rw [this]
  simp
theorem bc_zero (N : Nat) : bc (List.replicate N false) = (bc []).set 1024 (iv N) := by
  have e : ∀ j, word (List.replicate N false) j = word [] j := fun j => by rw [word_zero, show ([] : List Bool) = List.replicate 0 false from rfl, word_zero]
  unfold bc
  rw [cnt_zero, List.length_replicate, List.set_append_right _ _ (by simp)]
  simp [e]
  rfl
theorem i58 : (Tryd.prog.info? 58).map (·.size) = some 1026 := by kernel_rfl
set_option maxRecDepth 100000 in
theorem z58 : (Tryd.prog.info? 58).map (fun i => (i.zero, i.size)) = some (some (.agg (bc []).toArray), 1026) := by kernel_rfl
theorem fields58 : (match Tryd.prog.underlying 58 with | some (.struct fs) => fs.toList.map (fun f => (f.type, f.offset)) | _ => []) = [(56, 0), (3, 1024), (3, 1025)] := by kernel_rfl
theorem i56 : (Tryd.prog.info? 56).map (·.size) = some 1024 := by kernel_rfl
theorem i3 : (Tryd.prog.info? 3).map (·.size) = some 1 := by kernel_rfl
theorem run_build_b {o : Oper} {a : Act} {w : World} (v : Operand) (hop : o.op = .build 58 #[(1, v)]) (N : Nat) (hv : a.eval v = .int .i64 N) : (execOp a.eval o).run Tryd.prog w = .ok (.value (.agg (bc (List.replicate N false)).toArray)) w := by
  obtain ⟨i0, hi0, hz0⟩ := Option.map_eq_some_iff.1 z58
  simp only [Prod.mk.injEq] at hz0
  have hzv : (zeroValue 58).run Tryd.prog w = .ok (.agg (bc []).toArray) w := by simp [zeroValue, typeInfo, hi0, hz0.1]
  obtain ⟨j6, hj6, hs6⟩ := Option.map_eq_some_iff.1 i56
  obtain ⟨j3, hj3, hs3⟩ := Option.map_eq_some_iff.1 i3
  unfold execOp
  simp [hop, hv, Instr.build, Sem.run_bind, hzv, run_underlying Tryd.underlying58]
  have hf : Instr.fill (fun x => [(0, 1024), (1024, 1), (1025, 1)][x]?) (Value.agg (bc []).toArray).cells [(1, Value.int .i64 (N : Int))] = some (bc (List.replicate N false)).toArray := by
    have hsz : (Value.agg (bc []).toArray).cells.size = 1026 := by show (bc []).toArray.size = 1026; rw [List.size_toArray, bc_len]
    have hvs : (Value.int .i64 (N : Int)).cells = #[.int .i64 (N : Int)] := rfl
    unfold Instr.fill
    simp only [List.getElem?_cons_succ, List.getElem?_cons_zero]
    rw [hvs, hsz]
    rw [bc_zero]
    simp
    unfold Instr.fill
    simp [Value.cells, iv]
  first
    | (rw [hf]; rfl)
    | (simp [hj6, hs6, hj3, hs3, sizeOf, typeInfo] ; rw [hf]; rfl)
theorem wpList_build_b {ops : Array Oper} {rest : List Oper} {o : Oper} {a : Act} {Q : Exit → Act → World → Prop} {w : World} (v : Operand) (hop : o.op = .build 58 #[(1, v)]) (hw : Region.wanted o (yielded ops a.tmps) = true) (N : Nat) (hv : a.eval v = .int .i64 N)
    (hK : wpList Tryd.prog ops Q rest (a.put o.dst (.agg (bc (List.replicate N false)).toArray)) w) : wpList Tryd.prog ops Q (o :: rest) a w := wpList_ran hw (run_build_b v hop N hv) hK
def numN (n : Int) : Nat := (min (max n 0) 65536).toNat
theorem numN_b (n : Int) : numN n ≤ 65536 := by unfold numN; omega
def NewPost (bs : List Bool) (w : World) (e : Ending) (w' : World) : Prop := ∃ g, e = .returned (pv g) ∧ BR w' g bs ∧ w.heap.size ≤ g ∧ Nw w w'
set_option maxRecDepth 100000 in
set_option maxHeartbeats 4000000 in
theorem new_any (n : Int) (w : World) : Calls Tryd.prog 10 #[.int .i64 n] w (NewPost (List.replicate (numN n) false) w) := by
  obtain ⟨N, hN⟩ : ∃ N, numN n = N := ⟨_, rfl⟩
  have hb := numN_b n
  rw [hN] at hb ⊢
  obtain ⟨m, hm⟩ : ∃ m : Int, (if n < 0 then (0 : Int) else n) = m := ⟨_, rfl⟩
  have hm2 : (if (65536 : Int) < m then (65536 : Int) else m) = (N : Int) := by
    rw [← hm, ← hN]; unfold numN
    split <;> split <;> omega
  have HM := Lib.hid hm; have HM2 := Lib.hid hm2
  clear hm hm2 hN
  go_enter Tryd.func10, Tryd.ntmps10
  go_wp2_with (first | (refine wpList_build_b _ rfl rfl N rfl ?_) | (refine wpList_min_int _ _ _ rfl rfl m 65536 rfl rfl HM2.out ?_) | (refine wpList_max_int _ _ _ rfl rfl n 0 rfl rfl HM.out ?_))
  go_ret
  refine ⟨w.heap.size, rfl, ⟨Obj1.new w 58 _, by rw [List.length_replicate]; exact hb⟩, Nat.le_refl _, World.grownBy_alloc w _ none⟩
theorem bc_one (bs : List Bool) : ∀ u ∈ bc bs, u.oneCell' = true := by
  intro u hu
  unfold bc at hu
  rcases List.mem_append.1 hu with hu | hu
  · obtain ⟨j, _, rfl⟩ := List.mem_map.1 hu; rfl
  · simp at hu
    rcases hu with rfl | rfl <;> rfl
theorem szc : (Value.agg (bc []).toArray).cells.size = 1026 := by show (bc []).toArray.size = 1026; rw [List.size_toArray, bc_len]
set_option maxRecDepth 100000 in
set_option maxHeartbeats 4000000 in
theorem clone_any {w : World} {g : Nat} {bs : List Bool} (h : BR w g bs) : Calls Tryd.prog 24 #[pv g] w (NewPost bs w) := by
  have hc : ∀ j u, (bc bs)[j]? = some u → w.cell? ⟨g, 0 + j, none⟩ = some u := fun j u hu => by
    rw [Nat.zero_add, h.1.cell j, List.getElem?_toArray]; exact hu
  have HL := Lib.hid h.2
  have HC := Lib.hid hc
  clear h hc
  obtain ⟨i0, hi0, hz0⟩ := Option.map_eq_some_iff.1 z58
  simp only [Prod.mk.injEq] at hz0
  have HZ := Lib.hid hz0.1
  have H0 := Lib.hid hi0; clear hi0 hz0
  unfold pv
  go_enter Tryd.func24, Tryd.ntmps24
  have HI := Lib.hid (i58.trans (by rw [bc_len] : some 1026 = some (bc bs).length))
  have HSZ := Lib.hid (show 0 + (bc bs).length ≤ 1 * 1026 from by rw [bc_len]; decide)
  go_wp2_with (refine wpList_load_agg 58 _ rfl rfl rfl (bc bs) HC.out _ Tryd.underlying58 rfl HI.out ?_; refine wpList_alloc (size := 1026) 58 rfl rfl w.heap.size i0 H0.out HZ.out szc (Nat.le_refl _) ?_; intro y w1 a1 a2 a3; refine wpList_store_own (cs := bc bs) 58 _ _ rfl rfl rfl rfl rfl HI.out (bc_one bs) a1 HSZ.out ?_; intro w3 s1 s2)
  go_ret
  have o3 := Own.row1' s1
  rw [splice_all _ _ (by rw [bc_len, a1.len])] at o3
  exact ⟨y, rfl, ⟨o3, HL.out⟩, a3, nw_of_gb a2 s2 (by intro x e; injection e with e; subst e; exact a3)⟩
def takeS (bs : List Bool) : List Bool := match nxt bs 0 with | some i => bs.set i true | none => bs
def TakePost (g : Nat) (bs : List Bool) (w : World) (e : Ending) (w' : World) : Prop := e = .returned (nextV bs 0) ∧ BR w' g (takeS bs) ∧ Chg w w' [g]
theorem take_any {w : World} {g : Nat} {bs : List Bool} (h : BR w g bs) (ht : Tab w) : Calls Tryd.prog 21 #[pv g] w (TakePost g bs w) := by
  have hx := next_any h ht 0 (by omega)
  unfold TakePost takeS
  unfold nextV at hx ⊢
  rw [show (0 : Int).toNat = 0 from rfl] at hx ⊢
  cases hn : nxt bs 0 with
  | none =>
    rw [hn] at hx
    have HB := Lib.hid h
    clear h hn ht
    unfold pv at hx ⊢
    have HX := Lib.hid hx; clear hx
    go_enter Tryd.func21, Tryd.ntmps21
    go_wp2_with (refine HX.out.mono ?_; rintro e w2 ⟨rfl, rfl⟩)
    go_ret2
    exact ⟨rfl, HB.out, Chg.refl _ _⟩
  | some i =>
    rw [hn] at hx
    have hs := (nxt_some bs 0 i).1 hn
    have hT := takeAt_any h (i : Int)
    have e1 : takeF bs (i : Int) = (0, bs.set i true) := by
      unfold takeF
      rw [if_neg (by unfold inB; simp; omega), Int.toNat_natCast, if_neg (by rw [hs.2.2.1]; decide)]
    rw [e1] at hT
    clear h hn ht hs e1
    unfold pv at hx hT ⊢
    have HX := Lib.hid hx; have HT := Lib.hid hT; clear hx hT
    go_enter Tryd.func21, Tryd.ntmps21
    go_wp2_with (first | (refine HT.out.mono ?_; rintro e w3 ⟨rfl, b3, c3⟩) | (refine HX.out.mono ?_; rintro e w2 ⟨rfl, rfl⟩))
    go_ret2
    exact ⟨rfl, b3, c3⟩
end Go.Proofs.YtoinkofoaodkhaaDoor

