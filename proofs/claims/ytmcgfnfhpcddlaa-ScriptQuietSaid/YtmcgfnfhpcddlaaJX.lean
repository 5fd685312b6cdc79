/- A toy is built, as the laws build it. -/
import Derived.Test.YtmcgfnfhpcddlaaJQ
import Derived.Test.YtmcgfnfhpcddlaaJP
import Derived.Test.YtmcgfnfhpcddlaaJF
import Derived.Test.YtmcgfnfhpcddlaaJA
import Derived.Test.YtmcgfnfhpcddlaaJW
import Derived.Test.YtmcgfnfhpcddlaaJT
set_option linter.unusedVariables false
set_option linter.unusedSimpArgs false
/- A toy is built, as the laws build it. -/
namespace Go.Proofs.Ytmcgfnfhpcddlaa
open Go.RowKit Go.BW

def toy0C (keep : Nat) (at' : Nat) (odd : List UInt8) : Array Value := toyC (.pointer none) (.slice none 0 0) (.slice none 0 0) keep at' 0 false odd
theorem z35 : (Try.prog.info? 35).map (fun i => i.zero) = some (some (.agg (toy0C 0 0 z64))) := by kernel_rfl
theorem sz_of {t : TypeId} {n : Nat} (h : (Try.prog.info? t).map (·.size) = some n) : ∃ i, Try.prog.info? t = some i ∧ i.size = n := Option.map_eq_some_iff.1 h
theorem fill_foldO (off : Nat) : ∀ (l : List Value) (k : Nat) (cs : Array Value), off + k + l.length ≤ cs.size → ((l.zipIdx k).foldl (fun cs (x : Value × Nat) => cs.setIfInBounds (off + x.2) x.1) cs).toList = splice cs.toList (off + k) l
  | [], k, cs, _ => by simp [splice]
  | x :: l, k, cs, h => by
    simp only [List.length_cons] at h
    rw [List.zipIdx_cons, List.foldl_cons, fill_foldO off l (k + 1) _ (by simp; omega), Array.toList_setIfInBounds]
    unfold splice
    have hk : off + k < cs.toList.length := by simp; omega
    rw [List.take_set, ← Nat.add_assoc, List.take_succ_eq_append_getElem hk, List.drop_set, if_pos (by simp; omega), List.set_append, if_neg (by simp; omega), List.length_take, Nat.min_eq_left (by omega), Nat.sub_self, List.set_cons_zero, List.append_assoc, List.length_cons, show off + k + (l.length + 1) = off + k + 1 + l.length by omega]
    rfl
def P35 : Nat → Option (Nat × Nat) := fun x => [(0, 1), (1, 1), (2, 1), (3, 1), (4, 1), (5, 1), (6, 1), (7, 64)][x]?
theorem fill_odd (keep t : Nat) {odd : List UInt8} (ho : odd.length = 64) : Instr.fill P35 (toy0C keep t z64) [(7, .agg (odd.map bv).toArray)] = some (toy0C keep t odd) := by
  have hsz : (toy0C keep t z64).size = 71 := toyC_size (by simp [z64])
  unfold Instr.fill
  rw [show P35 7 = some (7, 64) from rfl]
  simp only
  rw [if_neg (by rw [hsz]; simp [Value.cells, ho])]
  unfold Instr.fill
  simp only [Option.some.injEq]
  apply Array.toList_inj.1
  have h := fill_foldO 7 (odd.map bv) 0 (toy0C keep t z64) (by rw [hsz]; simp [ho])
  rw [← Array.foldl_toList, Array.toList_zipIdx]
  refine h.trans ?_
  unfold splice toy0C toyC toyL
  simp [ho, z64]
theorem fill_346 (keep t : Nat) {odd : List UInt8} (ho : odd.length = 64) : Instr.fill P35 (toy0C 0 0 z64) [(3, .int .u64 (keep : Int)), (4, .int .i64 (t : Int)), (7, .agg (odd.map bv).toArray)] = some (toy0C keep t odd) :=
  (show Instr.fill P35 (toy0C 0 0 z64) [(3, .int .u64 (keep : Int)), (4, .int .i64 (t : Int)), (7, .agg (odd.map bv).toArray)] = Instr.fill P35 (toy0C keep t z64) [(7, .agg (odd.map bv).toArray)] from rfl).trans (fill_odd keep t ho)
theorem fill_36 (keep : Nat) {odd : List UInt8} (ho : odd.length = 64) : Instr.fill P35 (toy0C 0 0 z64) [(3, .int .u64 (keep : Int)), (7, .agg (odd.map bv).toArray)] = some (toy0C keep 0 odd) :=
  (show Instr.fill P35 (toy0C 0 0 z64) [(3, .int .u64 (keep : Int)), (7, .agg (odd.map bv).toArray)] = Instr.fill P35 (toy0C keep 0 z64) [(7, .agg (odd.map bv).toArray)] from rfl).trans (fill_odd keep 0 ho)
theorem fill_3 (keep : Nat) : Instr.fill P35 (toy0C 0 0 z64) [(3, .int .u64 (keep : Int))] = some (toy0C keep 0 z64) := rfl
theorem run_build35 {o : Oper} {a : Go.Act} {w : World} (ps : List (Nat × Operand)) (vs : List (Nat × Value)) (hop : o.op = .build 35 ps.toArray) (hv : ps.map (fun p => (p.1, a.eval p.2)) = vs) (out : Array Value)
    (hf : Instr.fill P35 (toy0C 0 0 z64) vs = some out) : (execOp a.eval o).run Try.prog w = .ok (.value (.agg out)) w := by
  obtain ⟨i0, hi0, hz0⟩ := Option.map_eq_some_iff.1 z35
  have hzv : (zeroValue 35).run Try.prog w = .ok (.agg (toy0C 0 0 z64)) w := by simp [zeroValue, typeInfo, hi0, hz0]
  obtain ⟨j33, hj33, hs33⟩ := sz_of i33
  obtain ⟨j3, hj3, hs3⟩ := sz_of i3
  obtain ⟨j31, hj31, hs31⟩ := sz_of (show (Try.prog.info? 31).map (·.size) = some 1 from by kernel_rfl)
  obtain ⟨j29, hj29, hs29⟩ := sz_of (show (Try.prog.info? 29).map (·.size) = some 1 from by kernel_rfl)
  obtain ⟨j30, hj30, hs30⟩ := sz_of (show (Try.prog.info? 30).map (·.size) = some 1 from by kernel_rfl)
  obtain ⟨j4, hj4, hs4⟩ := sz_of (show (Try.prog.info? 4).map (·.size) = some 1 from by kernel_rfl)
  have hc : (Value.agg (toy0C 0 0 z64)).cells = toy0C 0 0 z64 := rfl
  have hp : ∀ vs, Instr.fill (fun x => [(0, 1), (1, 1), (2, 1), (3, 1), (4, 1), (5, 1), (6, 1), (7, 64)][x]?) (toy0C 0 0 z64) vs = Instr.fill P35 (toy0C 0 0 z64) vs := fun _ => rfl
  unfold execOp
  simp [hop, Instr.build, Sem.run_bind, hzv, run_underlying Try.underlying35, hj33, hs33, hj3, hs3, hj31, hs31, hj29, hs29, hj30, hs30, hj4, hs4, sizeOf, typeInfo]
  rw [hc, hv, hp, hf]
  simp
section
variable {ops : Array Oper} {rest : List Oper} {o : Oper} {a : Go.Act} {Q : Exit → Go.Act → World → Prop} {w : World}
theorem wpList_toy0 (hop : o.op = .build 35 #[]) (hw : Region.wanted o (yielded ops a.tmps) = true)
    (hK : wpList Try.prog ops Q rest (a.put o.dst (.agg (toy0C 0 0 z64))) w) : wpList Try.prog ops Q (o :: rest) a w :=
  wpList_ran hw (run_build35 [] [] hop rfl _ rfl) hK
theorem wpList_toy3 (x : Operand) (hop : o.op = .build 35 #[(3, x)]) (hw : Region.wanted o (yielded ops a.tmps) = true) {keep : Nat} (hx : a.eval x = .int .u64 (keep : Int))
    (hK : wpList Try.prog ops Q rest (a.put o.dst (.agg (toy0C keep 0 z64))) w) : wpList Try.prog ops Q (o :: rest) a w :=
  wpList_ran hw (run_build35 [(3, x)] [(3, .int .u64 (keep : Int))] hop (by simp [hx]) _ (fill_3 keep)) hK
theorem wpList_toy36 (x z : Operand) (hop : o.op = .build 35 #[(3, x), (7, z)]) (hw : Region.wanted o (yielded ops a.tmps) = true) {keep : Nat} {odd : List UInt8} (ho : odd.length = 64) (hx : a.eval x = .int .u64 (keep : Int)) (hz : a.eval z = .agg (odd.map bv).toArray)
    (hK : wpList Try.prog ops Q rest (a.put o.dst (.agg (toy0C keep 0 odd))) w) : wpList Try.prog ops Q (o :: rest) a w :=
  wpList_ran hw (run_build35 [(3, x), (7, z)] [(3, .int .u64 (keep : Int)), (7, .agg (odd.map bv).toArray)] hop (by simp [hx, hz]) _ (fill_36 keep ho)) hK
theorem wpList_toy346 (x y z : Operand) (hop : o.op = .build 35 #[(3, x), (4, y), (7, z)]) (hw : Region.wanted o (yielded ops a.tmps) = true) {keep t : Nat} {odd : List UInt8} (ho : odd.length = 64) (hx : a.eval x = .int .u64 (keep : Int)) (hy : a.eval y = .int .i64 (t : Int)) (hz : a.eval z = .agg (odd.map bv).toArray)
    (hK : wpList Try.prog ops Q rest (a.put o.dst (.agg (toy0C keep t odd))) w) : wpList Try.prog ops Q (o :: rest) a w :=
  wpList_ran hw (run_build35 [(3, x), (4, y), (7, z)] [(3, .int .u64 (keep : Int)), (4, .int .i64 (t : Int)), (7, .agg (odd.map bv).toArray)] hop (by simp [hx, hy, hz]) _ (fill_346 keep t ho)) hK
theorem wpYield_toy346 {S : World → Prop} {R : Go.Act → Prop} (x y z : Operand) (hop : o.op = .build 35 #[(3, x), (4, y), (7, z)]) (hw : Region.wanted o (yielded ops a.tmps) = true) {keep t : Nat} {odd : List UInt8} (ho : odd.length = 64) (hx : a.eval x = .int .u64 (keep : Int)) (hy : a.eval y = .int .i64 (t : Int)) (hz : a.eval z = .agg (odd.map bv).toArray)
    (hK : wpYield Try.prog ops S R rest (a.put o.dst (.agg (toy0C keep t odd)))) : wpYield Try.prog ops S R (o :: rest) a :=
  wpYield_val hw (fun _ _ => run_build35 [(3, x), (4, y), (7, z)] [(3, .int .u64 (keep : Int)), (4, .int .i64 (t : Int)), (7, .agg (odd.map bv).toArray)] hop (by simp [hx, hy, hz]) _ (fill_346 keep t ho)) hK
end
end Go.Proofs.Ytmcgfnfhpcddlaa


/- A sector that no act of a script writes: what the law's unheard returns; for all scripts of at most a hundred and twenty acts. -/
namespace Go.Proofs.Ytmcgfnfhpcddlaa
open Go.RowKit Go.BW

set_option maxRecDepth 100000 in
theorem z33u : (Try.prog.info? 33).map (fun i => (i.zero, i.size)) = some (some (.agg (z64.map bv).toArray), 64) := by kernel_rfl
theorem z64u : (Value.agg (z64.map bv).toArray).cells.size = 64 := by show (z64.map bv).toArray.size = 64; simp [z64]
section
variable {ops : Array Oper} {rest : List Oper} {o : Oper} {a : Go.Act} {Q : Exit → Go.Act → World → Prop} {w : World}
theorem wpList_alloc33u (hop : o.op = .alloc 33) (hw : Region.wanted o (yielded ops a.tmps) = true)
    (hK : ∀ g w', Obj1 w' g 33 (z64.map bv).toArray → Nw w w' → w.heap.size ≤ g → wpList Try.prog ops Q rest (a.put o.dst (.pointer (some ⟨g, 0, none⟩))) w') : wpList Try.prog ops Q (o :: rest) a w := by
  obtain ⟨i, hi, hz⟩ := Option.map_eq_some_iff.1 z33u
  simp only [Prod.mk.injEq] at hz
  refine wpList_alloc (size := 64) 33 hop hw w.heap.size i hi hz.1 z64u (Nat.le_refl _) fun g w' o1 n1 h1 => hK g w' ?_ n1 h1
  exact o1.row1'
/-- 'T{x, y, z}' of bytes -/
theorem wpList_build3 (x y z : UInt8) (v u t : Operand) (hop : o.op = .build 33 #[(0, v), (1, u), (2, t)]) (hw : Region.wanted o (yielded ops a.tmps) = true) (hv : a.eval v = bv x) (hu : a.eval u = bv y) (ht : a.eval t = bv z)
    (hK : wpList Try.prog ops Q rest (a.put o.dst (.agg ((x :: y :: z :: List.replicate 61 0).map bv).toArray)) w) : wpList Try.prog ops Q (o :: rest) a w := by
  refine wpList_ran hw (w' := w) (v := .agg ((x :: y :: z :: List.replicate 61 0).map bv).toArray) ?_ hK
  obtain ⟨i0, hi0, hz0⟩ := Option.map_eq_some_iff.1 z33u
  simp only [Prod.mk.injEq] at hz0
  have hzv : (zeroValue 33).run Try.prog w = .ok (.agg (z64.map bv).toArray) w := by simp [zeroValue, typeInfo, hi0, hz0.1]
  obtain ⟨i5, hi5, hs5⟩ : ∃ i, Try.prog.info? 5 = some i ∧ i.size = 1 := Option.map_eq_some_iff.1 (by kernel_rfl : (Try.prog.info? 5).map (·.size) = some 1)
  have hf : Instr.fill (fun i => some (i, 1)) (Value.agg (z64.map bv).toArray).cells [(0, bv x), (1, bv y), (2, bv z)] = some ((x :: y :: z :: List.replicate 61 0).map bv).toArray := by rfl
  unfold execOp
  simp [hop, hv, hu, ht, Instr.build, Sem.run_bind, hzv, run_underlying Try.underlying33, sizeOf, typeInfo, hi5, hs5]
  simp at hf
  rw [hf]
  simp
end
theorem sec_oneu (s : List UInt8) : ∀ u ∈ s.map bv, u.oneCell' = true := by
  intro u hu; obtain ⟨x, _, rfl⟩ := List.mem_map.1 hu; rfl
theorem byte_n {n : Nat} (h : n ≤ 120) : Value.int .u8 (n : Int) = bv (UInt8.ofNat n) := by
  unfold bv
  congr 1
  simp
  omega
theorem wpList_buildUn {ops : Array Oper} {rest : List Oper} {o : Oper} {a : Go.Act} {Q : Exit → Go.Act → World → Prop} {w : World} (k : Nat) (v u t : Operand) (hop : o.op = .build 33 #[(0, v), (1, u), (2, t)]) (hw : Region.wanted o (yielded ops a.tmps) = true) (hv : a.eval v = bv 117) (hu : a.eval u = bv 110) (ht : a.eval t = bv (UInt8.ofNat k))
    (hK : wpList Try.prog ops Q rest (a.put o.dst (.agg ((unS k).map bv).toArray)) w) : wpList Try.prog ops Q (o :: rest) a w := wpList_build3 117 110 (UInt8.ofNat k) v u t hop hw hv hu ht hK
def UnPost (acts : List Act) (w : World) (e : Ending) (w' : World) : Prop := ∃ n, e = .returned (.agg ((unS n).map bv).toArray) ∧ (∀ a ∈ acts, a.s ≠ unS n) ∧ Nw w w'
set_option maxRecDepth 100000 in
set_option maxHeartbeats 8000000 in
theorem unheard_any {w : World} {B : Nat} {x : Sc} (h : SOk w B x) (hB : B ≤ w.heap.size) (hm : x.m ≤ 120) : Calls Try.prog 24 #[sv x] w (UnPost x.acts w) := by
  have HM := Lib.hid hm
  have HL := Lib.hid h.al
  obtain ⟨num, A, n, c, sz, bl, D, m, d, acts⟩ := x
  unfold sv
  have hbox := Obj1.new w 25 #[.int .i64 num, .slice A n c, .int .i64 bl, .slice D m d]
  have hg0 := World.grownBy_alloc w (.cells #[.int .i64 num, .slice A n c, .int .i64 bl, .slice D m d] 25) none
  obtain ⟨W, hW⟩ : ∃ W, w.alloc (.cells #[.int .i64 num, .slice A n c, .int .i64 bl, .slice D m d] 25) = W := ⟨_, rfl⟩
  obtain ⟨y, hy⟩ : ∃ y, w.heap.size = y := ⟨_, rfl⟩
  rw [hW] at hbox hg0
  rw [hy] at hbox
  have BX := Lib.hid hbox; have N0 := Lib.hid hg0
  have HS := Lib.hid (fun wr (k : Nw w wr) => (h.nw k hB).a)
  have HO := Lib.hid h.ok
  have HBW := Lib.hid hB
  clear hbox hg0 h hm hB
  simp only at HL HM HS HO ⊢
  go_enter Try.func24, Try.ntmps24
  go_wp2_with (first | ((with_reducible refine wpList_alloc33u (by with_unfolding_all exact rfl) (by with_unfolding_all exact rfl) ?_); intro rg w1 r1 n1 hr))
  have hrg : w.heap.size ≤ rg := by have := N0.out.size; omega
  have R1 := Lib.hid r1; have N1 := Lib.hid (gb_trans N0.out n1); have B1 := Lib.hid (BX.out.nw n1); have HRG := Lib.hid hrg
  clear r1 n1 hr BX N0 hrg hW hy
  go_loopw [3] (fun i wr => ∃ k : Nat, k ≤ 120 ∧ i = .int .i64 k ∧ Hid (∀ j, j < k → ∃ a ∈ acts, a.s = unS j) ∧ Nw w1 wr) (fun i _ => 120 - (intOf i).toNat)
  case atStart => exact ⟨0, by omega, rfl, Lib.hid (fun j hj => absurd hj (by omega)), Nw.refl _⟩
  case round =>
    obtain ⟨k, hk, rfl, hall, hnw⟩ := hrel
    have NR := Lib.hid hnw
    clear hnw
    have hwu : IntKind.u8.wrap (k : Int) = (k : Int) := by simp only [IntKind.wrap, IntKind.bits, IntKind.signed]; simp; omega
    have HU := Lib.hid (show (Try.prog.info? 33).map (·.size) = some ((unS k).map bv).length from i33' (unS_len k))
    have HSZ := Lib.hid (show (z64.map bv).toArray.size = ((unS k).map bv).length from by rw [List.size_toArray, List.length_map, List.length_map, unS_len]; rfl)
    have HBN := Lib.hid (byte_n hk)
    go_wp2_with (first
      | (refine wpList_store_obj 33 _ _ rfl rfl ((unS k).map bv) rfl rfl rfl HU.out (sec_oneu _) X2.out HSZ.out ?_; intro w3 s3 g3)
      | (refine wpList_buildUn k _ _ _ rfl rfl rfl rfl HBN.out ?_)
      | ((with_reducible refine wpList_alloc33u (by with_unfolding_all exact rfl) (by with_unfolding_all exact rfl) ?_); intro gx w2 x2 n2 hx; have X2 := Lib.hid x2; have N2 := Lib.hid (gb_trans NR.out n2); have HX := Lib.hid hx; clear x2 n2 hx))
    have hgx : w.heap.size ≤ gx := by have h1 := N1.out.size; have h2 := NR.out.size; have := HX.out; omega
    have hgx1 : w1.heap.size ≤ gx := by have h2 := NR.out.size; have := HX.out; omega
    have X3 := Lib.hid s3; have N3 := Lib.hid (nw_of_gb N2.out g3 (fun q hq => by injection hq with hq; omega))
    have HGX := Lib.hid hgx1
    clear s3 g3 X2 N2 NR hgx hgx1 HX HBN hwu
    go_loopw [5, 6] (fun v i wr => ∃ (j : Nat) (b : Bool), j ≤ m ∧ i = .int .i64 j ∧ v = .bool b ∧ Hid (anyU acts j (unS k) = b) ∧ Nw w3 wr) (fun _ i _ => m - (intOf i).toNat)
    case atStart => exact ⟨0, false, Nat.zero_le _, rfl, rfl, Lib.hid (anyU_zero _ _), Nw.refl _⟩
    case round =>
      obtain ⟨j, b, hj, rfl, rfl, hb, hnw⟩ := hrel
      have NR := Lib.hid hnw
      have p3 := (B1.out.nw (gb_trans N3.out hnw)).cell 3
      clear hnw
      rcases (show j < m ∨ j = m by omega) with hlt | rfl
      · have d1 : (j : Int) < (m : Int) := by omega
        have hwr := gb_trans N1.out (gb_trans N3.out NR.out)
        obtain ⟨_, rb, off, a, rfl, hrb, hak, hca⟩ := (HS.out wr hwr).atL actC_len (by decide) hlt
        have hal := (HO.out a (List.mem_of_getElem? hak)).s
        have HAL := Lib.hid hal
        have hlw : rb < wr.heap.size := by have := hwr.size; have := HBW.out; omega
        have LD1 := Lib.hid (show ∀ w', Nw wr w' → ∀ i u, (a.s.map bv)[i]? = some u → w'.cell? ⟨rb, off + j * 69 + 2 + i, none⟩ = some u from fun w' q i u hu => by
          rw [World.cell?_of_block (q.block rb hlw (by simp)), Nat.add_assoc]
          exact hca (2 + i) u (actC_s a (by rw [p64_of hal]; exact hu)))
        have LD2 := Lib.hid (show ∀ w', Nw wr w' → ∀ i u, ((unS k).map bv)[i]? = some u → w'.cell? ⟨gx, 0 + i, none⟩ = some u from fun w' q i u hu => by
          rw [Nat.zero_add, (X3.out.nw (gb_trans NR.out q)).cell i, List.getElem?_toArray]; exact hu)
        have c3 : ∀ w', Nw wr w' → w'.cell? ⟨y, 3, none⟩ = some (.slice (some ⟨rb, off, none⟩) m d) := fun w' q => (B1.out.nw (gb_trans N3.out (gb_trans NR.out q))).cell 3
        obtain ⟨e, he⟩ : ∃ e, decide (a.s = unS k) = e := ⟨_, rfl⟩
        have HE := Lib.hid (show (false ^^ decide (a.s = unS k)) = e by rw [he]; simp)
        have HN := Lib.hid (show anyU acts (j + 1) (unS k) = (b || e) by rw [anyU_succ hak, hb.out, he])
        have HUL := Lib.hid (unS_len k)
        have hm120 : m ≤ 120 := HM.out
        clear hak hca hal hlw hwr he hb hrb
        rcases b with _ | _
        · go_upto_region 8 with fail
          refine wp_region_held (S := (fun w' => Nw wr w')) (by kernel_rfl) ?_
          change wpAnyH _ _ _ _ _ _ _ _ (World.drew wr)
          refine held_seg' (l := [0, 1, 2, 3, 4, 5, 6, 7, 8, 9, 10, 11]) (fuel := 0) rfl (by kernel_rfl) (by kernel_rfl) (by simp only [List.filterMap_cons, List.filterMap_nil, List.getElem?_toArray, List.getElem?_cons_succ, List.getElem?_cons_zero]; rfl) (fun _ _ d _ _ h => by cases d <;> exact h) (gb_drew (Nw.refl wr)) ?_
          iterate 7 (refine wpYield_step rfl (fun K hK => ?_)
                     apply Exists.intro
                     refine ⟨fun w' hw' => ?_, ?_⟩
                     · (go_simp; try with_reducible rfl)
                     go_simp
                     refine hK _ ?_
                     clear hK K)
          refine wpYield_load_agg 33 _ rfl rfl rfl (a.s.map bv) (fun w' hw' i u hu => LD1.out w' hw' i u hu) _ Try.underlying33 rfl (i33' HAL.out) ?_
          refine wpYield_load_agg 33 _ rfl rfl rfl ((unS k).map bv) (fun w' hw' i u hu => LD2.out w' hw' i u hu) _ Try.underlying33 rfl (i33' HUL.out) ?_
          refine wpYield_eq_arr false 33 33 5 64 _ _ rfl rfl a.s (unS k) Try.underlying33 Try.underlying5 i5 (by kernel_rfl) rfl rfl HAL.out HUL.out e HE.out ?_
          iterate 2 (refine wpYield_step rfl (fun K hK => ?_)
                     apply Exists.intro
                     refine ⟨fun w' hw' => ?_, ?_⟩
                     · (go_simp; try with_reducible rfl)
                     go_simp
                     refine hK _ ?_
                     clear hK K)
          refine wpYield_nil ?_
          refine wpAnyH_done (by kernel_rfl) ?_ _
          clear c3
          go_wp2
          go_roundw
          case rel => exact ⟨j + 1, e, hlt, by go_num, rfl, Lib.hid (by rw [HN.out]; simp), gb_drew NR.out⟩
          case measure => simp only [intOf]; omega
        · go_upto_region 8 with fail
          refine wp_region_held (S := (fun w' => Nw wr w')) (by kernel_rfl) ?_
          change wpAnyH _ _ _ _ _ _ _ _ (World.drew wr)
          refine held_seg' (l := [0, 1, 2, 3, 4, 5, 6, 7, 8, 9, 10, 11]) (fuel := 0) rfl (by kernel_rfl) (by kernel_rfl) (by simp only [List.filterMap_cons, List.filterMap_nil, List.getElem?_toArray, List.getElem?_cons_succ, List.getElem?_cons_zero]; rfl) (fun _ _ d _ _ h => by cases d <;> exact h) (gb_drew (Nw.refl wr)) ?_
          iterate 2 (refine wpYield_step rfl (fun K hK => ?_)
                     apply Exists.intro
                     refine ⟨fun w' hw' => ?_, ?_⟩
                     · (go_simp; try with_reducible rfl)
                     go_simp
                     refine hK _ ?_
                     clear hK K)
          iterate 8 (refine wpYield_skipK rfl (fun K hK => ?_); go_simp; refine hK _ ?_; clear hK K)
          iterate 2 (refine wpYield_step rfl (fun K hK => ?_)
                     apply Exists.intro
                     refine ⟨fun w' hw' => ?_, ?_⟩
                     · (go_simp; try with_reducible rfl)
                     go_simp
                     refine hK _ ?_
                     clear hK K)
          refine wpYield_nil ?_
          refine wpAnyH_done (by kernel_rfl) ?_ _
          clear c3
          go_wp2
          go_roundw
          case rel => exact ⟨j + 1, true, hlt, by go_num, rfl, Lib.hid (by rw [HN.out]; simp), gb_drew NR.out⟩
          case measure => simp only [intOf]; omega
      · have d1 : decide ((j : Int) < (j : Int)) = false := by simp
        rcases b with _ | _
        · have hnot : ∀ a ∈ acts, a.s ≠ unS k := fun a ha e => by
            have := (anyU_all (Nat.le_of_eq HL.out) (unS k)).2 ⟨a, ha, e⟩
            rw [hb.out] at this; cases this
          have HN := Lib.hid hnot
          clear hnot hb
          have HUO := Lib.hid (show (Try.prog.info? 33).map (·.size) = some ((unS k).map bv).toArray.size from by rw [List.size_toArray]; exact i33' (unS_len k))
          have HSZ := Lib.hid (show (z64.map bv).toArray.size = ((unS k).map bv).length from by rw [List.size_toArray, List.length_map, List.length_map, unS_len]; rfl)
          have XR := Lib.hid (X3.out.nw NR.out)
          have RR2 := Lib.hid (R1.out.nw (gb_trans N3.out NR.out))
          clear hall
          go_wp2_with (first
            | (refine wpList_store_obj 33 _ _ rfl rfl ((unS k).map bv) rfl rfl rfl HU.out (sec_oneu _) RR2.out HSZ.out ?_; intro w5 s5 g5)
            | (refine wpList_load_obj 33 _ rfl rfl rfl XR.out _ Try.underlying33 rfl HUO.out ?_))
          refine bodyPost_ret (results_cell_row rfl _ _ _ _ _ _ _ rfl s5 Try.underlying33 rfl HUO.out) rfl ?_
          exact ⟨k, rfl, HN.out, nw_of_gb (gb_trans N1.out (gb_trans N3.out NR.out)) g5 (fun q hq => by injection hq with hq; have := HRG.out; omega)⟩
        · have hin : ∀ i, i ≤ k → ∃ a ∈ acts, a.s = unS i := fun i hi => by
            rcases Nat.lt_or_eq_of_le hi with h1 | h1
            · exact hall.out i h1
            · subst h1; exact (anyU_all (Nat.le_of_eq HL.out) _).1 hb.out
          have hk1 := un_few (by rw [HL.out]; exact HM.out) hk hin
          have HIN := Lib.hid (show ∀ i, i < k + 1 → ∃ a ∈ acts, a.s = unS i from fun i hi => hin i (by omega))
          clear hin hall hb
          go_wp2
          go_roundw
          case rel => exact ⟨k + 1, hk1, by go_num, HIN, gb_trans N3.out NR.out⟩
          case measure => simp only [intOf]; omega
end Go.Proofs.Ytmcgfnfhpcddlaa


/- What a run with a toy just built says: one that does not lie, one that lies, one whose script may not be; for all scripts. -/
namespace Go.Proofs.Ytmcgfnfhpcddlaa
open Go.RowKit Go.BW

def HonestPost (t m : Nat) (w : World) (e : Ending) (w' : World) : Prop := e = .returned (.tuple #[.int .i64 (m : Int), .bool true]) ∧ Chg w w' [t]
theorem toy_of {w : World} {t keep at' : Nat} {odd : List UInt8} (h : Obj1 w t 35 (toy0C keep at' odd)) (bl : Nat) : Toy0 w t keep ⟨bl, at', odd⟩ := h
theorem bl_of {s : Scr} (hr : rightS s = true) : s.bl = ((s.bl.toNat : Nat) : Int) := by have := (rightS_parts hr).2.2.1; omega
theorem run_honest {w : World} {B t keep : Nat} {x : Sc} {odd : List UInt8} (h : SOk w B x) (hB : B ≤ w.heap.size) (hr : rightS (scr x) = true) (h0 : Obj1 w t 35 (toy0C keep 0 odd)) (hod : odd.length = 64) (hkp : keep < 18446744073709551616) (hBt : B ≤ t) :
    Calls Try.prog 14 #[sv x, tIf t] w (HonestPost t x.m w) := by
  refine (run_any h hB hr (toy_of h0 x.bl.toNat) (bl_of hr) hod (Nat.zero_le _) hkp hBt).mono fun e w' hp => ?_
  obtain ⟨n, ok, E, rfl, hi, _, hc⟩ := hp
  have := run_law (p := ⟨x.bl.toNat, 0, odd⟩) x.n keep (acs := x.acts) (fun a ha => ⟨(h.ok a ha).s, fun hz => absurd rfl hz⟩) (fun hz => absurd rfl hz) hi
  have hok : ok = true := this.2.2.2 rfl
  have hn : n = x.m := (this.2.2.1 hok).trans h.al
  rw [hok, hn]
  exact ⟨rfl, hc⟩
def LiesR (t m : Nat) (w : World) (e : Ending) (w' : World) : Prop := ∃ (n : Nat) (ok : Bool), e = .returned (.tuple #[.int .i64 (n : Int), .bool ok]) ∧ n ≤ m ∧ (ok = true → n = m) ∧ w'.cell? ⟨t, 6, none⟩ = some (.bool (!ok)) ∧ Chg w w' [t]
theorem run_lies {w : World} {B t keep at' k : Nat} {x : Sc} (h : SOk w B x) (hB : B ≤ w.heap.size) (hr : rightS (scr x) = true) (h0 : Obj1 w t 35 (toy0C keep at' (unS k))) (hat : at' ≤ 1024) (hun : ∀ a ∈ x.acts, a.s ≠ unS k) (hkp : keep < 18446744073709551616) (hBt : B ≤ t) :
    Calls Try.prog 14 #[sv x, tIf t] w (LiesR t x.m w) := by
  refine (run_any h hB hr (toy_of h0 x.bl.toNat) (bl_of hr) (unS_len k) (by show at' ≤ 1000000; omega) hkp hBt).mono fun e w' hp => ?_
  obtain ⟨n, ok, E, rfl, hi, ⟨b, lr, lc, nr, nc, ht⟩, hc⟩ := hp
  have := run_law (p := ⟨x.bl.toNat, at', unS k⟩) x.n keep (acs := x.acts) (fun a ha => ⟨(h.ok a ha).s, fun _ => hun a ha⟩) (fun _ => unS_not0 k) hi
  refine ⟨n, ok, rfl, by have := this.1; rw [h.al] at this; exact this, fun e => (this.2.2.1 e).trans h.al, ?_, hc⟩
  have hl : E.lied = !ok := by rw [this.2.1]; simp
  rw [← hl]
  exact ht.obj.cell 6
theorem SOk.take {w : World} {B k : Nat} {x : Sc} (h : SOk w B x) (hk : k ≤ x.m) : SOk w B ⟨x.num, x.A, x.n, x.c, x.sz, x.bl, x.D, k, x.d, x.acts.take k⟩ :=
  ⟨h.z, h.zc, h.zm, by have := h.a.take hk; rw [fl_take actC_len] at this; exact this, Nat.le_trans hk h.ac, h.am, fun a ha => h.ok a (List.mem_of_mem_take ha)⟩
theorem right_take {s : Scr} (h : rightS s = true) (k : Nat) : rightS ⟨s.num, s.sz, s.bl, s.acts.take k⟩ = true := by
  obtain ⟨h1, h2, h3, h4, h5, h6⟩ := rightS_parts h
  unfold rightS
  simp only [Bool.and_eq_true, inR_iff, decide_eq_true_eq, List.all_eq_true, List.length_take]
  exact ⟨⟨⟨⟨⟨h1, by omega⟩, h3⟩, by omega⟩, h5⟩, fun a ha => h6 a (List.mem_of_mem_take ha)⟩
/-- a run of a toy that lies, whole: what it answered, and the toy behind it -/
def FirstR (t at' k : Nat) (p : Par) (nd keep : Nat) (acs : List Act) (m : Nat) (w : World) (e : Ending) (w' : World) : Prop :=
  ∃ (n : Nat) (ok : Bool) (E : St), e = .returned (.tuple #[.int .i64 (n : Int), .bool ok]) ∧ RunIs p (newS p nd keep) acs n ok E ∧ n ≤ m ∧ (∃ cs, Obj1 w' t 35 cs ∧ cs[4]? = some (.int .i64 (at' : Int)) ∧ ∀ j u, ((unS k).map bv)[j]? = some u → cs[7 + j]? = some u) ∧ Chg w w' [t]
theorem run_first_any {w : World} {B t keep at' k : Nat} {x : Sc} (h : SOk w B x) (hB : B ≤ w.heap.size) (hr : rightS (scr x) = true) (h0 : Obj1 w t 35 (toy0C keep at' (unS k))) (hat : at' ≤ 1024) (hun : ∀ a ∈ x.acts, a.s ≠ unS k) (hkp : keep < 18446744073709551616) (hBt : B ≤ t) :
    Calls Try.prog 14 #[sv x, tIf t] w (FirstR t at' k ⟨x.bl.toNat, at', unS k⟩ x.n keep x.acts x.m w) := by
  refine (run_any h hB hr (toy_of h0 x.bl.toNat) (bl_of hr) (unS_len k) (by show at' ≤ 1000000; omega) hkp hBt).mono fun e w' hp => ?_
  obtain ⟨n, ok, E, rfl, hi, ⟨b, lr, lc, nr, nc, ht⟩, hc⟩ := hp
  have := run_law (p := ⟨x.bl.toNat, at', unS k⟩) x.n keep (acs := x.acts) (fun a ha => ⟨(h.ok a ha).s, fun _ => hun a ha⟩) (fun _ => unS_not0 k) hi
  refine ⟨n, ok, E, rfl, hi, by have := this.1; rw [h.al] at this; exact this, ⟨_, ht.obj, rfl, fun j u hu => ?_⟩, hc⟩
  rw [← ht.obj.cell (7 + j)]; exact toy_odd ht.obj j u hu
/-- .. and once more, up to the act that was wrong -/
theorem run_upto {w : World} {B t keep at' k n : Nat} {x : Sc} {E : St} (h : SOk w B x) (hB : B ≤ w.heap.size) (hr : rightS (scr x) = true) (hi : RunIs ⟨x.bl.toNat, at', unS k⟩ (newS ⟨x.bl.toNat, at', unS k⟩ x.n keep) x.acts n false E) (hn : n < x.m) (h0 : Obj1 w t 35 (toy0C keep at' (unS k))) (hat : at' ≤ 1024) (hkp : keep < 18446744073709551616) (hBt : B ≤ t) :
    Calls Try.prog 14 #[sv ⟨x.num, x.A, x.n, x.c, x.sz, x.bl, x.D, n + 1, x.d, x.acts.take (n + 1)⟩, tIf t] w (fun e w' => e = .returned (.tuple #[.int .i64 (n : Int), .bool false]) ∧ Chg w w' [t]) := by
  refine (run_any (h.take hn) hB (right_take hr (n + 1)) (toy_of h0 x.bl.toNat) (bl_of hr) (unS_len k) (by show at' ≤ 1000000; omega) hkp hBt).mono fun e w' hp => ?_
  obtain ⟨n', ok, E', rfl, hi', _, hc⟩ := hp
  obtain ⟨h1, h2⟩ := run_first hi (by rw [h.al]; exact hn) hi'
  rw [h1, h2]
  exact ⟨rfl, hc⟩
/-- a script that may not be is not done -/
theorem run_not {w : World} {B : Nat} {x : Sc} (h : SOk w B x) (hB : B ≤ w.heap.size) (hr : rightS (scr x) = false) (mk : Value) : Calls Try.prog 14 #[sv x, mk] w (Ret (.tuple #[.int .i64 (-1), .bool false]) w) := by
  have HRT := right_any (h.nw (World.grownBy_alloc w (.cells #[.int .i64 x.num, .slice x.A x.n x.c, .int .i64 x.bl, .slice x.D x.m x.d] 25) none) hB) (Nat.le_trans hB (World.grownBy_alloc w (.cells #[.int .i64 x.num, .slice x.A x.n x.c, .int .i64 x.bl, .slice x.D x.m x.d] 25) none).size)
  rw [hr] at HRT
  obtain ⟨num, A, n, c, sz, bl, D, m, d, acs⟩ := x
  unfold sv at HRT ⊢
  simp only at HRT ⊢
  have hbox := Obj1.new w 25 #[.int .i64 num, .slice A n c, .int .i64 bl, .slice D m d]
  have hg0 := World.grownBy_alloc w (.cells #[.int .i64 num, .slice A n c, .int .i64 bl, .slice D m d] 25) none
  obtain ⟨W, hW⟩ : ∃ W, w.alloc (.cells #[.int .i64 num, .slice A n c, .int .i64 bl, .slice D m d] 25) = W := ⟨_, rfl⟩
  obtain ⟨y, hy⟩ : ∃ y, w.heap.size = y := ⟨_, rfl⟩
  rw [hW] at hbox hg0 HRT
  rw [hy] at hbox
  have B0 := Lib.hid hbox; have N0 := Lib.hid hg0; have HRT' := Lib.hid HRT
  clear hbox hg0 h hB hr HRT
  go_enter Try.func14, Try.ntmps14
  go_wp2_with (first
    | (go_at_call 15; (with_reducible refine HRT'.out.mono ?_); rintro e w2 ⟨rfl, n2⟩)
    | (refine wpList_load_obj 25 _ rfl rfl rfl B0.out _ Try.underlying25 rfl (by kernel_rfl) ?_))
  go_ret2
  exact ⟨rfl, gb_trans N0.out n2⟩
/-- nobody's device is not made -/
theorem run_nobody {w : World} {B : Nat} {x : Sc} (h : SOk w B x) (hB : B ≤ w.heap.size) (hr : rightS (scr x) = true) (er : Int) : Calls Try.prog 14 #[sv x, .iface 41 (.agg #[.int .i64 er])] w (Ret (.tuple #[.int .i64 (-1), .bool false]) w) := by
  have g0 := World.grownBy_alloc w (.cells #[.int .i64 x.num, .slice x.A x.n x.c, .int .i64 x.bl, .slice x.D x.m x.d] 25) none
  have HRT := right_any (h.nw g0 hB) (Nat.le_trans hB g0.size)
  have HNS := fun w2 (n2 : Nw (w.alloc (.cells #[.int .i64 x.num, .slice x.A x.n x.c, .int .i64 x.bl, .slice x.D x.m x.d] 25)) w2) => nset_any (h.nw (gb_trans g0 n2) hB) (Nat.le_trans hB (gb_trans g0 n2).size) hr er
  rw [hr] at HRT
  obtain ⟨num, A, n, c, sz, bl, D, m, d, acs⟩ := x
  unfold sv at HRT HNS ⊢
  simp only at HRT HNS ⊢
  have hbox := Obj1.new w 25 #[.int .i64 num, .slice A n c, .int .i64 bl, .slice D m d]
  have hg0 := World.grownBy_alloc w (.cells #[.int .i64 num, .slice A n c, .int .i64 bl, .slice D m d] 25) none
  obtain ⟨W, hW⟩ : ∃ W, w.alloc (.cells #[.int .i64 num, .slice A n c, .int .i64 bl, .slice D m d] 25) = W := ⟨_, rfl⟩
  obtain ⟨y, hy⟩ : ∃ y, w.heap.size = y := ⟨_, rfl⟩
  rw [hW] at hbox hg0 HRT HNS
  rw [hy] at hbox
  have B0 := Lib.hid hbox; have N0 := Lib.hid hg0; have HRT' := Lib.hid HRT; have HNS' := Lib.hid HNS
  clear hbox hg0 h hB hr HRT HNS g0
  go_enter Try.func14, Try.ntmps14
  go_wp2_with (first
    | (go_at_call 26; (with_reducible refine (HNS'.out _ n2).mono ?_); rintro e w3 ⟨rfl, n3⟩)
    | (go_at_call 15; (with_reducible refine HRT'.out.mono ?_); rintro e w2 ⟨rfl, n2⟩)
    | (refine wpList_load_obj 25 _ rfl rfl rfl (B0.out.nw n2) _ Try.underlying25 rfl (by kernel_rfl) ?_)
    | (refine wpList_load_obj 25 _ rfl rfl rfl B0.out _ Try.underlying25 rfl (by kernel_rfl) ?_))
  go_ret2
  exact ⟨rfl, gb_trans N0.out (gb_trans n2 n3)⟩
end Go.Proofs.Ytmcgfnfhpcddlaa

