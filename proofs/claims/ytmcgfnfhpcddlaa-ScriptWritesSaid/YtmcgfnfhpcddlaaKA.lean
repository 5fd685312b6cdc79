/- Strings in a walk as lists of bytes: parts, sums, copies into an own row; under the premises that each lemma states. -/
import Derived.Test.YtmcgfnfhpcddlaaJA
import Derived.Laws.Strings2
import Derived.Test.YtmcgfnfhpcddlaaJK
set_option linter.unusedVariables false
set_option linter.unusedSimpArgs false
/- Strings in a walk as lists of bytes: parts, sums, copies into an own row; under the premises that each lemma states. -/
namespace Go.BW
open Go.RowKit
section
variable {P : Program} {size : Nat} {e : TypeId}
theorem run_copy_str_mine {base g : Nat} {w : World} {n c off dLen dCap : Nat} {xs : List Value} {bs : List UInt8} (dT sT ty elem : TypeId)
    (hu : P.underlying dT = some (.slice elem)) (hsz : (P.info? elem).map (·.size) = some 1) (hown : Own w base e size (some ⟨g, 0, none⟩) n c xs)
    (hfit : off + Nat.min bs.length dLen ≤ n * size) :
    ∃ w', (Builtin.copy_ #[dT, sT] ty #[.slice (some ⟨g, off, none⟩) dLen dCap, .string ⟨bs.toArray⟩]).run P w = .ok (goInt (Nat.min bs.length dLen)) w' ∧
      Own w' base e size (some ⟨g, 0, none⟩) n c (splice xs off ((bs.take dLen).map bv)) ∧ w.grownBy w' (some g) := by
  obtain ⟨i, hq, his⟩ := Option.map_eq_some_iff.1 hsz
  have hcl : ((bs.take dLen).map bv).length = Nat.min bs.length dLen := by rw [List.length_map, List.length_take]; exact Nat.min_comm _ _
  rcases hown.2 with ⟨h', _⟩ | ⟨g', cap, cur, hv', hb, hg, hnc, hcm, hcs, htake⟩
  · simp at h'
  · simp only [Value.slice.injEq, Option.some.injEq, Addr.mk.injEq, and_true, true_and] at hv'
    obtain ⟨rfl, rfl⟩ := hv'
    have hnn : n * size ≤ cur.size := by rw [hcs]; exact Nat.mul_le_mul_right _ hnc
    have h1 : ∀ u ∈ (bs.take dLen).map bv, u.oneCell' = true := by intro u hu; obtain ⟨x, _, rfl⟩ := List.mem_map.1 hu; rfl
    have hst := run_storeCells_at P g off e ((bs.take dLen).map bv) 0 cur w hg (by omega) h1
    rw [Nat.add_zero] at hst
    have hcu : cur.toList.length = cur.size := Array.length_toList
    have hxl : xs.length = n * size := hown.1
    refine ⟨w.setRow g (cur.toList.take off ++ (bs.take dLen).map bv ++ cur.toList.drop (off + ((bs.take dLen).map bv).length)).toArray, ?_, ?_, ⟨rfl, rfl, rfl, by simp [World.setRow], fun k _ hk => setRow_other w g k _ (fun e => hk (by rw [e]))⟩⟩
    rotate_left
    · refine ⟨by rw [length_splice _ _ _ (by omega)]; exact hxl, .inr ⟨g, c, _, rfl, hb, setRow_heap w g cur (cur.toList.take off ++ (bs.take dLen).map bv ++ cur.toList.drop (off + ((bs.take dLen).map bv).length)).toArray e _ hg, hnc, hcm, ?_, ?_⟩⟩
      · rw [List.append_assoc, ← hcs, List.size_toArray, ← hcu]
        exact length_splice _ _ _ (by omega)
      · rw [← htake]
        show (cur.toList.take off ++ (bs.take dLen).map bv ++ cur.toList.drop (off + ((bs.take dLen).map bv).length)).take (n * size) = _
        rw [List.append_assoc]
        exact splice_take _ _ _ _ (by omega) (by omega)
    · have hsize : (ByteArray.mk bs.toArray).size = bs.length := by show bs.toArray.size = _; simp
      have htk : List.take (Nat.min bs.length dLen) (List.map (fun b : UInt8 => Value.int IntKind.u8 (b.toNat : Int)) bs) = (bs.take dLen).map bv := by
        rw [← List.map_take]
        have : bs.take (Nat.min bs.length dLen) = bs.take dLen := by
          rcases Nat.le_total bs.length dLen with h | h
          · rw [show Nat.min bs.length dLen = bs.length from Nat.min_eq_left h, List.take_of_length_le (Nat.le_refl _), List.take_of_length_le h]
          · rw [show Nat.min bs.length dLen = dLen from Nat.min_eq_right h]
        rw [this]; rfl
      obtain ⟨W', hW⟩ : ∃ W', w.setRow g (cur.toList.take off ++ (bs.take dLen).map bv ++ cur.toList.drop (off + ((bs.take dLen).map bv).length)).toArray = W' := ⟨_, rfl⟩
      rw [hW] at hst ⊢
      simp [Builtin.copy_, run_underlying hu, Builtin.lenOf, Builtin.firstCells, sizeOf, typeInfo, hq, hsize]
      rw [htk, hst]
      simp [Result.andThen]
theorem run_slice_str (t : TypeId) (ht : P.underlying t = some .string) {w : World} (bs : List UInt8) (l h : Nat) (hl : l ≤ h) (hc : h ≤ bs.length) :
    (Instr.sliceAt t (.string ⟨bs.toArray⟩) (some (.int .i64 l)) (some (.int .i64 h)) none).run P w = .ok (.string ⟨((bs.take h).drop l).toArray⟩) w := by
  rw [run_sliceAt_string w t _ _ _ _ ht, run_slice_string w t _ _ _ _ _ ht (by omega) (by omega) (by show (h : Int) ≤ (bs.toArray.size : Nat); simp; omega)]
  rw [ByteArray.extract_mk, List.drop_take]; rfl
section
variable {ops : Array Oper} {rest : List Oper} {o : Oper} {a : Act} {Q : Exit → Act → World → Prop} {w : World}
theorem wpList_slice_str (t : TypeId) (ht : P.underlying t = some .string) (x l h : Operand) (hop : o.op = .slice t x (some l) (some h) none) (hw : Region.wanted o (yielded ops a.tmps) = true) (bs : List UInt8) (kl kh : Nat) (vl vh : Int) (hx : a.eval x = .string ⟨bs.toArray⟩) (hl : a.eval l = .int .i64 vl) (hh : a.eval h = .int .i64 vh)
    (el : vl = kl) (eh : vh = kh) (h1 : kl ≤ kh) (h2 : kh ≤ bs.length) {cs : List UInt8} (hcs : (bs.take kh).drop kl = cs) (hK : wpList P ops Q rest (a.put o.dst (.string ⟨cs.toArray⟩)) w) : wpList P ops Q (o :: rest) a w := by
  subst hcs; subst el; subst eh
  refine wpList_ran hw ?_ hK
  have := run_slice_str (P := P) t ht (w := w) bs kl kh h1 h2
  unfold execOp
  simp [hop, hx, hl, hh, this]
theorem run_exec_str_add (t t2 : TypeId) (x y : Operand) (hop : o.op = .binOp .add t x y t2) (bs cs : List UInt8) (hx : a.eval x = .string ⟨bs.toArray⟩) (hy : a.eval y = .string ⟨cs.toArray⟩) (hsm : bs.length + cs.length ≤ 9223372036854775807) :
    (execOp a.eval o).run P w = .ok (.value (.string ⟨(bs ++ cs).toArray⟩)) w := by
  have e : (ByteArray.mk bs.toArray ++ ByteArray.mk cs.toArray) = ⟨(bs ++ cs).toArray⟩ := by rw [ByteArray.mk_append_mk]
  have z1 : (ByteArray.mk bs.toArray).size = bs.length := by show bs.toArray.size = _; simp
  have z2 : (ByteArray.mk cs.toArray).size = cs.length := by show cs.toArray.size = _; simp
  unfold execOp
  simp [hop, hx, hy, eqGuard, binOp, Op.stringOp, e, z1, z2]
  omega
theorem wpList_str_add (t t2 : TypeId) (x y : Operand) (hop : o.op = .binOp .add t x y t2) (hw : Region.wanted o (yielded ops a.tmps) = true) (bs cs : List UInt8) (hx : a.eval x = .string ⟨bs.toArray⟩) (hy : a.eval y = .string ⟨cs.toArray⟩)
    (hsm : bs.length + cs.length ≤ 9223372036854775807) {ds : List UInt8} (hds : bs ++ cs = ds) (hK : wpList P ops Q rest (a.put o.dst (.string ⟨ds.toArray⟩)) w) : wpList P ops Q (o :: rest) a w := by
  subst hds
  exact wpList_ran hw (run_exec_str_add t t2 x y hop bs cs hx hy hsm) hK
theorem wpYield_str_add {S : World → Prop} {R : Act → Prop} (t t2 : TypeId) (x y : Operand) (hop : o.op = .binOp .add t x y t2) (hw : Region.wanted o (yielded ops a.tmps) = true) (bs cs : List UInt8) (hx : a.eval x = .string ⟨bs.toArray⟩) (hy : a.eval y = .string ⟨cs.toArray⟩)
    (hsm : bs.length + cs.length ≤ 9223372036854775807) {ds : List UInt8} (hds : bs ++ cs = ds) (hK : wpYield P ops S R rest (a.put o.dst (.string ⟨ds.toArray⟩))) : wpYield P ops S R (o :: rest) a := by
  subst hds
  exact wpYield_val hw (fun _ _ => run_exec_str_add t t2 x y hop bs cs hx hy hsm) hK
theorem wpList_copy_str (dT sT elem : TypeId) (hu : P.underlying dT = some (.slice elem)) (hsz : (P.info? elem).map (·.size) = some 1) (d s : Operand)
    (hop : o.op = .call { callee := .builtin .copy, args := #[d, s], argTypes := #[dT, sT] }) (hw : Region.wanted o (yielded ops a.tmps) = true)
    {base g n c off dLen dCap : Nat} {xs : List Value} (bs : List UInt8) (hd : a.eval d = .slice (some ⟨g, off, none⟩) dLen dCap) (hs : a.eval s = .string ⟨bs.toArray⟩)
    (hown : Own w base e size (some ⟨g, 0, none⟩) n c xs) (hfit : off + Nat.min bs.length dLen ≤ n * size)
    (hK : ∀ w', Own w' base e size (some ⟨g, 0, none⟩) n c (splice xs off ((bs.take dLen).map bv)) → w.grownBy w' (some g) → wpList P ops Q rest (a.put o.dst (goInt (Nat.min bs.length dLen))) w') :
    wpList P ops Q (o :: rest) a w := by
  obtain ⟨w', hrun, h2, h3⟩ := run_copy_str_mine (P := P) (bs := bs) dT sT o.type elem hu hsz hown (dCap := dCap) hfit
  refine wpList_ran hw (w' := w') (v := goInt (Nat.min bs.length dLen)) ?_ (hK w' h2 h3)
  unfold execOp
  simp only [hop, resolve, invoke, builtin, Sem.run_bind, Sem.run_pure, Result.andThen_ok, List.map_toArray, List.map_cons, List.map_nil, hd, hs, hrun]
end
end
end Go.BW


/- The reference's numbers and filled bytes as strings, for all of them. -/
namespace Go.Proofs.Ytmcgfnfhpcddlaa
open Go.RowKit Go.BW

def str (bs : List UInt8) : Value := .string ⟨bs.toArray⟩
theorem be_one (n : Nat) : be 1 n = [UInt8.ofNat n] := by
  show UInt8.ofNat (n / 256 ^ 0) :: be 0 n = _
  rw [Nat.pow_zero, Nat.div_one]; rfl
theorem be_le (n : Nat) : ∀ k, (be k n).length ≤ k := fun k => Nat.le_of_eq (be_len n k)
set_option maxHeartbeats 2000000 in
theorem num_any (v : Nat) (hv : v < 18446744073709551616) (k : Nat) (hk : k ≤ 8) {K : Int} (hK : K = (k : Int)) (w : World) : Calls Try.prog 37 #[.int .u64 (v : Int), .int .i64 K] w (Ret (str (be k v)) w) := by
  subst hK
  unfold str
  go_enter Try.func37, Try.ntmps37
  go_wp2
  go_loopw [0, 5, 6] (fun n t i wr => ∃ j : Nat, j ≤ k ∧ i = .int .i64 j ∧ n = .int .u64 ((v / 256 ^ j : Nat) : Int) ∧ t = .string ⟨(be j v).toArray⟩ ∧ Nw w wr) (fun _ _ i _ => k - (intOf i).toNat)
  case atStart => exact ⟨0, Nat.zero_le _, rfl, by simp, rfl, Nw.refl _⟩
  case round =>
    obtain ⟨j, hj, rfl, rfl, rfl, hnw⟩ := hrel
    rcases (show j < k ∨ j = k by omega) with hlt | rfl
    · have d1 : (j : Int) < (k : Int) := by omega
      have HB := Lib.hid (show be (j + 1) v = UInt8.ofNat (v / 256 ^ j) :: be j v from rfl)
      have HD := Lib.hid (show v / 256 ^ (j + 1) = v / 256 ^ j / 256 from by rw [Nat.pow_succ, Nat.div_div_eq_div_mul])
      have hN : v / 256 ^ j ≤ v := Nat.div_le_self _ _
      obtain ⟨N, hNN⟩ : ∃ N, v / 256 ^ j = N := ⟨_, rfl⟩
      rw [hNN] at HB HD hN
      rw [hNN]
      have t1 : ((N : Int)).tmod 256 = ((N % 256 : Nat) : Int) := by rw [Int.tmod_eq_emod_of_nonneg (by omega)]; omega
      have t2 : ((N : Int)).tdiv 256 = ((N / 256 : Nat) : Int) := by rw [Int.tdiv_eq_ediv_of_nonneg (by omega)]; omega
      have t3 : ((N % 256 : Nat) : Int) % 256 = ((N % 256 : Nat) : Int) := by omega
      have hbl := be_le v j
      obtain ⟨bj, hbj⟩ : ∃ b, be j v = b := ⟨_, rfl⟩
      rw [hbj] at HB hbl
      rw [hbj]
      have hcb : Value.int .u8 ((N % 256 : Nat) : Int) = bv (UInt8.ofNat N) := by unfold bv; congr 1
      have hrd : Rd (wr.alloc (.cells #[.int .u8 ((N % 256 : Nat) : Int)] 5)) (wr.heap.size + 1) 1 (some ⟨wr.heap.size, 0, none⟩) 1 ([UInt8.ofNat N].map bv) := by
        have := rd_lit (w0 := wr) [Value.int .u8 ((N % 256 : Nat) : Int)] 5 1 rfl
        rw [hcb] at this ⊢
        exact this
      have RD := Lib.hid hrd; have NR := Lib.hid hnw
      clear hNN hbj hcb hrd hnw
      go_wp2_with (first
        | (refine wpList_str_add 9 9 _ _ rfl rfl [UInt8.ofNat N] bj rfl rfl (by simp; omega) rfl ?_)
        | (refine wpList_bytes_str 46 9 5 Try.underlying46 Try.underlying5 Try.underlying9 _ rfl rfl rfl RD.out ?_))
      go_roundw
      case rel => exact ⟨j + 1, by omega, by go_num, (by rw [HD.out]; first | rfl | (congr 1; done) | (congr 1; omega)), (by rw [HB.out]; first | done | rfl), gb_trans NR.out (World.grownBy_alloc wr _ none)⟩
      case measure => simp only [intOf]; omega
    · have d1 : decide ((j : Int) < (j : Int)) = false := by simp
      have NR := Lib.hid hnw
      clear hnw
      go_wp2
      go_ret
      exact ⟨rfl, NR.out⟩
theorem wpList_secpart0 {ops : Array Oper} {rest : List Oper} {o : Oper} {a : Go.Act} {Q : Exit → Go.Act → World → Prop} {w : World} (x h : Operand) (hop : o.op = .slice 33 x none (some h) none) (hw : Region.wanted o (yielded ops a.tmps) = true) {g k : Nat}
    (hx : a.eval x = .pointer (some ⟨g, 0, none⟩)) (hh : a.eval h = .int .i64 (k : Int)) (hk : k ≤ 64) (hK : wpList Try.prog ops Q rest (a.put o.dst (.slice (some ⟨g, 0, none⟩) k 64)) w) : wpList Try.prog ops Q (o :: rest) a w := by
  refine wpList_ran hw (w' := w) ?_ hK
  have := run_arr_partO 33 5 64 Try.underlying33 i5 g 0 0 k none (some (.int .i64 k)) (by omega) hk (.inr ⟨rfl, rfl⟩) (.inl rfl) w
  unfold execOp
  simp [hop, hx, hh, this]
theorem rd_sec {w : World} {g : Nat} {s : List UInt8} (h : Obj1 w g 33 (s.map bv).toArray) (hs : s.length = 64) {k : Nat} (hk : k ≤ 64) : Rd w w.heap.size 1 (some ⟨g, 0, none⟩) k ((s.take k).map bv) := by
  refine ⟨by simp; omega, fun _ => ⟨g, 0, rfl, h.lt, fun j u hu => ?_⟩⟩
  rw [Nat.zero_add, h.cell j, List.getElem?_toArray]
  rw [List.getElem?_map, List.getElem?_take] at hu
  split at hu
  · rw [List.getElem?_map]; exact hu
  · cases hu
set_option maxHeartbeats 2000000 in
theorem rfilled_any (s : List UInt8) (hs : s.length = 64) (w : World) : Calls Try.prog 60 #[.agg (s.map bv).toArray] w (Ret (str (s.take (fillN s))) w) := by
  have hbox := Obj1.new w 33 (s.map bv).toArray
  have hg0 := World.grownBy_alloc w (.cells (s.map bv).toArray 33) none
  obtain ⟨W, hW⟩ : ∃ W, w.alloc (.cells (s.map bv).toArray 33) = W := ⟨_, rfl⟩
  obtain ⟨y, hy⟩ : ∃ y, w.heap.size = y := ⟨_, rfl⟩
  rw [hW] at hbox hg0
  rw [hy] at hbox
  have BX := Lib.hid hbox; have N0 := Lib.hid hg0
  have hle := fillN_le s
  obtain ⟨F, hF⟩ : ∃ F, fillN s = F := ⟨_, rfl⟩
  have HF := Lib.hid hF
  unfold str
  rw [hF]
  rw [hF] at hle
  clear hbox hg0 hF
  go_enter Try.func60, Try.ntmps60
  go_wp2
  go_loopw [3] (fun i wr => ∃ n : Nat, i = .int .i64 (n : Int) ∧ n ≤ 64 ∧ F ≤ n ∧ Nw W wr) (fun i _ => (intOf i).toNat)
  case atStart => exact ⟨64, rfl, Nat.le_refl _, by omega, Nw.refl _⟩
  case round =>
    obtain ⟨n, rfl, hn, hfl, hnw⟩ := hrel
    have HRD := Lib.hid (fun (k : Nat) (hk : k ≤ 64) => rd_sec (BX.out.nw hnw) hs hk)
    rcases n with _ | n
    · have hz : F = 0 := by omega
      subst hz
      clear hfl hle
      go_wp2_with (first | (refine wpList_bytes_str 46 9 5 Try.underlying46 Try.underlying5 Try.underlying9 _ rfl rfl rfl (HRD.out 0 (by omega)) ?_) | ((with_reducible refine wpList_secpart0 (k := 0) _ _ (by with_unfolding_all exact rfl) (by with_unfolding_all exact rfl) (by with_unfolding_all exact rfl) (by with_unfolding_all exact rfl) (by omega) ?_)))
      go_ret
      exact ⟨rfl, gb_trans N0.out hnw⟩
    · have hc : s[n]? = some s[n] := List.getElem?_eq_getElem (by omega)
      obtain ⟨c, hcc⟩ : ∃ c, s[n] = c := ⟨_, rfl⟩
      rw [hcc] at hc
      have hf := fill_step s (by rw [HF.out]; exact hfl) hc
      rw [HF.out] at hf
      have hcell : wr.cell? ⟨y, n, none⟩ = some (.int .u8 (c.toNat : Int)) := by
        rw [(BX.out.nw hnw).cell n, List.getElem?_toArray, List.getElem?_map, hc]; rfl
      have hlt : (0 : Int) < ((n + 1 : Nat) : Int) := by omega
      have hcast : ((n + 1 : Nat) : Int) - 1 = (n : Int) := by omega
      rcases Decidable.em (c = 0) with h0 | h0
      · have hh := Lib.hid (hf.1 h0)
        have hq : ((c.toNat : Int) == 0) = true := by rw [h0]; rfl
        clear hf hc hcc hfl h0 hle
        go_wp2
        go_roundw
        case rel => exact ⟨n, by go_num, by omega, hh.out, hnw⟩
        case measure => simp only [intOf]; omega
      · have hh := hf.2 h0
        have hq : ((c.toNat : Int) == 0) = false := by
          rw [beq_eq_false_iff_ne]
          intro e
          exact h0 (UInt8.toNat_inj.1 (by simpa using (show c.toNat = 0 by omega)))
        subst hh
        clear hf hc hcc hfl h0 hle
        go_wp2_with (first | (refine wpList_bytes_str 46 9 5 Try.underlying46 Try.underlying5 Try.underlying9 _ rfl rfl rfl (HRD.out (n + 1) hn) ?_) | ((with_reducible refine wpList_secpart0 (k := n + 1) _ _ (by with_unfolding_all exact rfl) (by with_unfolding_all exact rfl) (by with_unfolding_all exact rfl) (by with_unfolding_all exact rfl) hn ?_)))
        go_ret
        exact ⟨rfl, gb_trans N0.out hnw⟩
end Go.Proofs.Ytmcgfnfhpcddlaa


/- The reference's bytes of an act, for all acts that may be. -/
namespace Go.Proofs.Ytmcgfnfhpcddlaa
open Go.RowKit Go.BW

theorem numk (x : Int) (h0 : 0 ≤ x) (h1 : x ≤ 18446744073709551615) (k : Nat) (hk : k ≤ 8) {K : Int} (hK : K = (k : Int)) (w : World) : Calls Try.prog 37 #[.int .u64 x, .int .i64 K] w (fun e w' => e = .returned (.string ⟨(be k x.toNat).toArray⟩) ∧ Nw w w') := by
  have h := num_any x.toNat (by omega) k hk hK w
  rw [Int.toNat_of_nonneg h0] at h
  exact h
theorem num1 (x : Int) (h0 : 0 ≤ x) (h1 : x ≤ 18446744073709551615) (w : World) : Calls Try.prog 37 #[.int .u64 x, .int .i64 1] w (fun e w' => e = .returned (.string ⟨[b8 x].toArray⟩) ∧ Nw w w') := by
  have h := numk x h0 h1 1 (by decide) (K := 1) rfl w
  rw [be_one] at h
  exact h
set_option maxRecDepth 100000 in
set_option maxHeartbeats 8000000 in
theorem actbytes_any {a : Act} (hra : rightA a = true) (hoa : ActOk a) (w : World) : Calls Try.prog 38 #[.agg (actC a).toArray] w (Ret (str (actB a)) w) := by
  have hbx : ActO (w.alloc (.cells (actC a).toArray 44)) w.heap.size a := Obj1.new w 44 (actC a).toArray
  have hg0 := World.grownBy_alloc w (.cells (actC a).toArray 44) none
  obtain ⟨W, hW⟩ : ∃ V, w.alloc (.cells (actC a).toArray 44) = V := ⟨_, rfl⟩
  obtain ⟨y, hy⟩ : ∃ y, w.heap.size = y := ⟨_, rfl⟩
  rw [hW] at hbx hg0
  rw [hy] at hbx
  have BX := Lib.hid hbx; have N0 := Lib.hid hg0
  have hkk := hbx.k
  obtain ⟨r1, _, r3, r4, r5⟩ := rightA_parts hra
  have hs := hoa.s; have hm := hoa.m
  have hk1 : a.k % 18446744073709551616 = a.k := by omega
  have HK := Lib.hid (fun w' => num1 a.k (by omega) (by omega) w')
  have hn65 : 0 ≤ a.n ∧ a.n ≤ 65535 := by unfold mostN at r4; split at r4 <;> omega
  have hbm : a.b % 18446744073709551616 = a.b := by omega
  have hnm : a.n % 18446744073709551616 = a.n := by omega
  have htm : a.at' % 18446744073709551616 = a.at' := by omega
  have HBB := Lib.hid (fun w' => num1 a.b (by omega) (by omega) w')
  have HNN := Lib.hid (fun w' => num1 a.n (by omega) (by omega) w')
  have HTT := Lib.hid (fun w' => num1 a.at' (by omega) (by omega) w')
  have HN2 := Lib.hid (fun w' => numk a.n (by omega) (by omega) 2 (by decide) (K := 2) rfl w')
  have hmm := numk (a.m : Int) (by omega) (by omega) 8 (by decide) (K := 8) rfl
  rw [Int.toNat_natCast] at hmm
  have HMM := Lib.hid hmm
  have hwn : IntKind.u64.wrap a.n = a.n := by rw [IntKind.wrap_u64]; omega
  have hwt : IntKind.u64.wrap a.at' = a.at' := by rw [IntKind.wrap_u64]; omega
  have hl2 := be_le a.n.toNat 2; have hl8 := be_le a.m 8
  obtain ⟨R, hR⟩ : ∃ R, actB a = R := ⟨_, rfl⟩
  unfold str
  rw [hR]
  have HR := Lib.hid hR
  clear hbx hg0 hmm hR hra hoa r3 r5
  go_enter Try.func38, Try.ntmps38
  go_upto_region 2 with (first | (go_at_call 37; (with_reducible refine (HK.out _).mono ?_); rintro e w1 ⟨rfl, k1⟩; have B1 := Lib.hid (BX.out.nw k1); have N1 := Lib.hid (gb_trans N0.out k1)))
  have hkk := B1.out.k; have hbb := B1.out.b; have hnn := B1.out.n; have htt := B1.out.t
  clear BX N0 HK k1
  rcases (show a.k = 1 ∨ a.k = 2 ∨ a.k = 3 ∨ a.k = 4 ∨ a.k = 5 ∨ a.k = 6 ∨ a.k = 7 ∨ a.k = 8 ∨ a.k = 9 ∨ a.k = 10 by omega) with e | e | e | e | e | e | e | e | e | e
  · have HE := Lib.hid (show R = b8 a.k :: ([b8 a.b, UInt8.ofNat (fillN a.s)] ++ a.s.take (fillN a.s)) from by rw [← HR.out]; unfold actB; rw [e]; rfl)
    clear HR
    have HFI := Lib.hid (fun w' => rfilled_any a.s hs w')
    unfold Ret str at HFI
    have hfl := fillN_le a.s
    have htl : (a.s.take (fillN a.s)).length = fillN a.s := by rw [List.length_take]; omega
    obtain ⟨ft, hft⟩ : ∃ q, a.s.take (fillN a.s) = q := ⟨_, rfl⟩
    obtain ⟨F, hF⟩ : ∃ q, fillN a.s = q := ⟨_, rfl⟩
    rw [hft] at HFI HE htl
    rw [hF] at HE htl hfl
    have HL := Lib.hid (fun w' => num1 (F : Int) (by omega) (by omega) w')
    have hFm : (F : Int) % 18446744073709551616 = (F : Int) := by omega
    have hlen : ((ByteArray.mk ft.toArray).size : Int) = (F : Int) := by show ((ft.toArray.size : Nat) : Int) = _; rw [List.size_toArray, htl]
    have hlen2 : (ByteArray.mk ft.toArray).size = F := by show ft.toArray.size = _; rw [List.size_toArray, htl]
    have HSS : ∀ (ww : World), ActO ww y a → ∀ j u, (a.s.map bv)[j]? = some u → ww.cell? ⟨y, 2 + j, none⟩ = some u := fun ww h => by have := h.s; rwa [p64_of hs] at this
    have HS2 := Lib.hid (HSS _ B1.out)
    clear HSS hft hF
    go_upto_region 5 with (first | ((with_reducible refine (HFI.out _).mono ?_); rintro e' w2 ⟨rfl, k2⟩; have B2 := Lib.hid (B1.out.nw k2); have N2 := Lib.hid (gb_trans N1.out k2)) | ((with_reducible refine wpList_load_agg 33 _ (by with_unfolding_all exact rfl) (by with_unfolding_all exact rfl) (by with_unfolding_all exact rfl) (a.s.map bv) HS2.out _ Try.underlying33 (by with_unfolding_all exact rfl) (i33' hs) ?_)))
    have hbb := B2.out.b
    go_wp2_with (first | (go_at_call 37; (with_reducible refine (HL.out _).mono ?_); rintro e' w4 ⟨rfl, k4⟩) | (go_at_call 37; (with_reducible refine (HBB.out _).mono ?_); rintro e' w3 ⟨rfl, k3⟩))
    go_ret
    have hb8F : b8 (F : Int) = UInt8.ofNat F := by unfold b8; simp
    exact ⟨by rw [HE.out]; show Ending.returned (Value.string _) = _; simp [ByteArray.mk_append_mk, e, hb8F], gb_trans N2.out (gb_trans k3 k4)⟩
  · have HE := Lib.hid (show R = b8 a.k :: ([b8 a.b]) from by rw [← HR.out]; unfold actB; rw [e]; rfl)
    clear HR
    go_wp2_with (first | (go_at_call 37; (with_reducible refine (HBB.out _).mono ?_); rintro e' w2 ⟨rfl, k2⟩))
    go_ret
    exact ⟨by rw [HE.out]; show Ending.returned (Value.string _) = _; simp [ByteArray.mk_append_mk, e], gb_trans N1.out k2⟩
  · have HE := Lib.hid (show R = b8 a.k :: ([]) from by rw [← HR.out]; unfold actB; rw [e]; rfl)
    clear HR
    go_wp2
    go_ret
    exact ⟨by rw [HE.out]; show Ending.returned (Value.string _) = _; simp [ByteArray.mk_append_mk, e], N1.out⟩
  · have HE := Lib.hid (show R = b8 a.k :: ([b8 a.n]) from by rw [← HR.out]; unfold actB; rw [e]; rfl)
    clear HR
    go_wp2_with (first | (go_at_call 37; (with_reducible refine (HNN.out _).mono ?_); rintro e' w2 ⟨rfl, k2⟩))
    go_ret
    exact ⟨by rw [HE.out]; show Ending.returned (Value.string _) = _; simp [ByteArray.mk_append_mk, e], gb_trans N1.out k2⟩
  · have HE := Lib.hid (show R = b8 a.k :: (be 2 a.n.toNat) from by rw [← HR.out]; unfold actB; rw [e]; rfl)
    clear HR
    go_wp2_with (first | (go_at_call 37; (with_reducible refine (HN2.out _).mono ?_); rintro e' w2 ⟨rfl, k2⟩))
    go_ret
    exact ⟨by rw [HE.out]; show Ending.returned (Value.string _) = _; simp [ByteArray.mk_append_mk, e], gb_trans N1.out k2⟩
  · have HE := Lib.hid (show R = b8 a.k :: ([b8 a.n]) from by rw [← HR.out]; unfold actB; rw [e]; rfl)
    clear HR
    go_wp2_with (first | (go_at_call 37; (with_reducible refine (HNN.out _).mono ?_); rintro e' w2 ⟨rfl, k2⟩))
    go_ret
    exact ⟨by rw [HE.out]; show Ending.returned (Value.string _) = _; simp [ByteArray.mk_append_mk, e], gb_trans N1.out k2⟩
  · have HE := Lib.hid (show R = b8 a.k :: ([b8 a.n] ++ be 8 a.m) from by rw [← HR.out]; unfold actB; rw [e]; rfl)
    clear HR
    go_upto_region 14 with fail
    have f1 : ∀ w', Nw w1 w' → w'.cell? ⟨y, 66, none⟩ = some (.int .i64 a.n) := fun _ h => (B1.out.nw h).n
    have f2 : ∀ w', Nw w1 w' → w'.cell? ⟨y, 67, none⟩ = some (.int .i64 a.at') := fun _ h => (B1.out.nw h).t
    have f3 : ∀ w', Nw w1 w' → w'.cell? ⟨y, 68, none⟩ = some (.int .u64 (a.m : Int)) := fun _ h => (B1.out.nw h).m
    refine wp_region_held (S := (fun w' => Nw w1 w')) (by kernel_rfl) ?_
    change wpAnyH _ _ _ _ _ _ _ _ (World.drew w1)
    refine held_seg' (l := [0, 1, 2, 3, 6, 7]) (fuel := 5) rfl (by kernel_rfl) (by kernel_rfl) (by simp only [List.filterMap_cons, List.filterMap_nil, List.getElem?_toArray, List.getElem?_cons_succ, List.getElem?_cons_zero]; rfl) (fun _ _ d _ _ h => by cases d <;> exact h) (gb_drew (Nw.refl w1)) ?_
    iterate 6 (refine wpYield_step rfl (fun K hK => ?_)
               apply Exists.intro
               refine ⟨fun w' hw' => ?_, ?_⟩
               · (go_simp; try with_reducible rfl)
               go_simp
               refine hK _ ?_
               clear hK K)
    refine wpYield_nil ?_
    refine held_eff 4 rfl (by kernel_rfl) rfl (fun K hK => ?_)
    go_simp
    refine (HNN.out _).mono ?_
    rintro e' w2 ⟨rfl, k2⟩
    have K2 := Lib.hid (gb_trans (gb_drew (Nw.refl w1)) k2)
    refine hK _ _ ⟨K2.out, ?_⟩
    clear hK K
    refine held_seg' (l := [5]) (fuel := 3) rfl (by kernel_rfl) (by kernel_rfl) (by simp only [List.filterMap_cons, List.filterMap_nil, List.getElem?_toArray, List.getElem?_cons_succ, List.getElem?_cons_zero]; rfl) (fun _ _ d _ _ h => by cases d <;> exact h) K2.out ?_
    go_simp
    refine wpYield_str_add 9 9 _ _ rfl rfl [b8 7] [b8 a.n] rfl rfl (by simp only [List.length_append, List.length_cons, List.length_nil]; omega) rfl ?_
    refine wpYield_nil ?_
    refine held_eff 8 rfl (by kernel_rfl) rfl (fun K hK => ?_)
    go_simp
    refine (HMM.out _).mono ?_
    rintro e' w3 ⟨rfl, k3⟩
    have K3 := Lib.hid (gb_trans K2.out k3)
    refine hK _ _ ⟨K3.out, ?_⟩
    clear hK K
    refine held_seg' (l := [9, 10]) (fuel := 0) rfl (by kernel_rfl) (by kernel_rfl) (by simp only [List.filterMap_cons, List.filterMap_nil, List.getElem?_toArray, List.getElem?_cons_succ, List.getElem?_cons_zero]; rfl) (fun _ _ d _ _ h => by cases d <;> exact h) K3.out ?_
    go_simp
    refine wpYield_str_add 9 9 _ _ rfl rfl ([b8 7] ++ [b8 a.n]) (be 8 a.m) rfl rfl (by simp only [List.length_append, List.length_cons, List.length_nil]; omega) rfl ?_
    (refine wpYield_step rfl (fun K hK => ?_)
     apply Exists.intro
     refine ⟨fun w' hw' => ?_, ?_⟩
     · (go_simp; try with_reducible rfl)
     go_simp
     refine hK _ ?_
     clear hK K)
    refine wpYield_nil ?_
    refine wpAnyH_done (by kernel_rfl) ?_ _
    go_wp2
    go_ret
    exact ⟨by rw [HE.out]; show Ending.returned (Value.string _) = _; simp [ByteArray.mk_append_mk, e], gb_trans N1.out K3.out⟩
  · have HE := Lib.hid (show R = b8 a.k :: ([b8 a.at', b8 a.n] ++ be 8 a.m) from by rw [← HR.out]; unfold actB; rw [e]; rfl)
    clear HR
    go_upto_region 16 with fail
    have f1 : ∀ w', Nw w1 w' → w'.cell? ⟨y, 66, none⟩ = some (.int .i64 a.n) := fun _ h => (B1.out.nw h).n
    have f2 : ∀ w', Nw w1 w' → w'.cell? ⟨y, 67, none⟩ = some (.int .i64 a.at') := fun _ h => (B1.out.nw h).t
    have f3 : ∀ w', Nw w1 w' → w'.cell? ⟨y, 68, none⟩ = some (.int .u64 (a.m : Int)) := fun _ h => (B1.out.nw h).m
    refine wp_region_held (S := (fun w' => Nw w1 w')) (by kernel_rfl) ?_
    change wpAnyH _ _ _ _ _ _ _ _ (World.drew w1)
    refine held_seg' (l := [0, 1, 2, 3, 6, 7, 8, 11, 12]) (fuel := 7) rfl (by kernel_rfl) (by kernel_rfl) (by simp only [List.filterMap_cons, List.filterMap_nil, List.getElem?_toArray, List.getElem?_cons_succ, List.getElem?_cons_zero]; rfl) (fun _ _ d _ _ h => by cases d <;> exact h) (gb_drew (Nw.refl w1)) ?_
    iterate 9 (refine wpYield_step rfl (fun K hK => ?_)
               apply Exists.intro
               refine ⟨fun w' hw' => ?_, ?_⟩
               · (go_simp; try with_reducible rfl)
               go_simp
               refine hK _ ?_
               clear hK K)
    refine wpYield_nil ?_
    refine held_eff 4 rfl (by kernel_rfl) rfl (fun K hK => ?_)
    go_simp
    refine (HTT.out _).mono ?_
    rintro e' w2 ⟨rfl, k2⟩
    have K2 := Lib.hid (gb_trans (gb_drew (Nw.refl w1)) k2)
    refine hK _ _ ⟨K2.out, ?_⟩
    clear hK K
    refine held_seg' (l := [5]) (fuel := 5) rfl (by kernel_rfl) (by kernel_rfl) (by simp only [List.filterMap_cons, List.filterMap_nil, List.getElem?_toArray, List.getElem?_cons_succ, List.getElem?_cons_zero]; rfl) (fun _ _ d _ _ h => by cases d <;> exact h) K2.out ?_
    go_simp
    refine wpYield_str_add 9 9 _ _ rfl rfl [b8 8] [b8 a.at'] rfl rfl (by simp only [List.length_append, List.length_cons, List.length_nil]; omega) rfl ?_
    refine wpYield_nil ?_
    refine held_eff 9 rfl (by kernel_rfl) rfl (fun K hK => ?_)
    go_simp
    refine (HNN.out _).mono ?_
    rintro e' w3 ⟨rfl, k3⟩
    have K3 := Lib.hid (gb_trans K2.out k3)
    refine hK _ _ ⟨K3.out, ?_⟩
    clear hK K
    refine held_seg' (l := [10]) (fuel := 3) rfl (by kernel_rfl) (by kernel_rfl) (by simp only [List.filterMap_cons, List.filterMap_nil, List.getElem?_toArray, List.getElem?_cons_succ, List.getElem?_cons_zero]; rfl) (fun _ _ d _ _ h => by cases d <;> exact h) K3.out ?_
    go_simp
    refine wpYield_str_add 9 9 _ _ rfl rfl ([b8 8] ++ [b8 a.at']) [b8 a.n] rfl rfl (by simp only [List.length_append, List.length_cons, List.length_nil]; omega) rfl ?_
    refine wpYield_nil ?_
    refine held_eff 13 rfl (by kernel_rfl) rfl (fun K hK => ?_)
    go_simp
    refine (HMM.out _).mono ?_
    rintro e' w4 ⟨rfl, k4⟩
    have K4 := Lib.hid (gb_trans K3.out k4)
    refine hK _ _ ⟨K4.out, ?_⟩
    clear hK K
    refine held_seg' (l := [14, 15]) (fuel := 0) rfl (by kernel_rfl) (by kernel_rfl) (by simp only [List.filterMap_cons, List.filterMap_nil, List.getElem?_toArray, List.getElem?_cons_succ, List.getElem?_cons_zero]; rfl) (fun _ _ d _ _ h => by cases d <;> exact h) K4.out ?_
    go_simp
    refine wpYield_str_add 9 9 _ _ rfl rfl ([b8 8] ++ [b8 a.at'] ++ [b8 a.n]) (be 8 a.m) rfl rfl (by simp only [List.length_append, List.length_cons, List.length_nil]; omega) rfl ?_
    (refine wpYield_step rfl (fun K hK => ?_)
     apply Exists.intro
     refine ⟨fun w' hw' => ?_, ?_⟩
     · (go_simp; try with_reducible rfl)
     go_simp
     refine hK _ ?_
     clear hK K)
    refine wpYield_nil ?_
    refine wpAnyH_done (by kernel_rfl) ?_ _
    go_wp2
    go_ret
    exact ⟨by rw [HE.out]; show Ending.returned (Value.string _) = _; simp [ByteArray.mk_append_mk, e], gb_trans N1.out K4.out⟩
  · have HE := Lib.hid (show R = b8 a.k :: ([b8 a.n, b8 a.at']) from by rw [← HR.out]; unfold actB; rw [e]; rfl)
    clear HR
    go_upto_region 18 with fail
    have f1 : ∀ w', Nw w1 w' → w'.cell? ⟨y, 66, none⟩ = some (.int .i64 a.n) := fun _ h => (B1.out.nw h).n
    have f2 : ∀ w', Nw w1 w' → w'.cell? ⟨y, 67, none⟩ = some (.int .i64 a.at') := fun _ h => (B1.out.nw h).t
    have f3 : ∀ w', Nw w1 w' → w'.cell? ⟨y, 68, none⟩ = some (.int .u64 (a.m : Int)) := fun _ h => (B1.out.nw h).m
    refine wp_region_held (S := (fun w' => Nw w1 w')) (by kernel_rfl) ?_
    change wpAnyH _ _ _ _ _ _ _ _ (World.drew w1)
    refine held_seg' (l := [0, 1, 2, 3, 6, 7, 8]) (fuel := 5) rfl (by kernel_rfl) (by kernel_rfl) (by simp only [List.filterMap_cons, List.filterMap_nil, List.getElem?_toArray, List.getElem?_cons_succ, List.getElem?_cons_zero]; rfl) (fun _ _ d _ _ h => by cases d <;> exact h) (gb_drew (Nw.refl w1)) ?_
    iterate 7 (refine wpYield_step rfl (fun K hK => ?_)
               apply Exists.intro
               refine ⟨fun w' hw' => ?_, ?_⟩
               · (go_simp; try with_reducible rfl)
               go_simp
               refine hK _ ?_
               clear hK K)
    refine wpYield_nil ?_
    refine held_eff 4 rfl (by kernel_rfl) rfl (fun K hK => ?_)
    go_simp
    refine (HNN.out _).mono ?_
    rintro e' w2 ⟨rfl, k2⟩
    have K2 := Lib.hid (gb_trans (gb_drew (Nw.refl w1)) k2)
    refine hK _ _ ⟨K2.out, ?_⟩
    clear hK K
    refine held_seg' (l := [5]) (fuel := 3) rfl (by kernel_rfl) (by kernel_rfl) (by simp only [List.filterMap_cons, List.filterMap_nil, List.getElem?_toArray, List.getElem?_cons_succ, List.getElem?_cons_zero]; rfl) (fun _ _ d _ _ h => by cases d <;> exact h) K2.out ?_
    go_simp
    refine wpYield_str_add 9 9 _ _ rfl rfl [b8 9] [b8 a.n] rfl rfl (by simp only [List.length_append, List.length_cons, List.length_nil]; omega) rfl ?_
    refine wpYield_nil ?_
    refine held_eff 9 rfl (by kernel_rfl) rfl (fun K hK => ?_)
    go_simp
    refine (HTT.out _).mono ?_
    rintro e' w3 ⟨rfl, k3⟩
    have K3 := Lib.hid (gb_trans K2.out k3)
    refine hK _ _ ⟨K3.out, ?_⟩
    clear hK K
    refine held_seg' (l := [10, 11]) (fuel := 0) rfl (by kernel_rfl) (by kernel_rfl) (by simp only [List.filterMap_cons, List.filterMap_nil, List.getElem?_toArray, List.getElem?_cons_succ, List.getElem?_cons_zero]; rfl) (fun _ _ d _ _ h => by cases d <;> exact h) K3.out ?_
    go_simp
    refine wpYield_str_add 9 9 _ _ rfl rfl ([b8 9] ++ [b8 a.n]) [b8 a.at'] rfl rfl (by simp only [List.length_append, List.length_cons, List.length_nil]; omega) rfl ?_
    (refine wpYield_step rfl (fun K hK => ?_)
     apply Exists.intro
     refine ⟨fun w' hw' => ?_, ?_⟩
     · (go_simp; try with_reducible rfl)
     go_simp
     refine hK _ ?_
     clear hK K)
    refine wpYield_nil ?_
    refine wpAnyH_done (by kernel_rfl) ?_ _
    go_wp2
    go_ret
    exact ⟨by rw [HE.out]; show Ending.returned (Value.string _) = _; simp [ByteArray.mk_append_mk, e], gb_trans N1.out K3.out⟩
  · have HE := Lib.hid (show R = b8 a.k :: ([]) from by rw [← HR.out]; unfold actB; rw [e]; rfl)
    clear HR
    go_wp2
    go_ret
    exact ⟨by rw [HE.out]; show Ending.returned (Value.string _) = _; simp [ByteArray.mk_append_mk, e], N1.out⟩
end Go.Proofs.Ytmcgfnfhpcddlaa


/- What the reference's act returns, for all acts. -/
namespace Go.Proofs.Ytmcgfnfhpcddlaa
open Go.RowKit Go.BW

theorem z64_bv : (z64.map bv).toArray.size = 64 := by simp [z64]
set_option maxRecDepth 100000 in
theorem z33 : (Try.prog.info? 33).map (fun i => (i.zero, i.size)) = some (some (.agg (z64.map bv).toArray), 64) := by kernel_rfl
theorem z33c : (Value.agg (z64.map bv).toArray).cells.size = 64 := z64_bv
theorem i33o (s : List UInt8) (h : s.length = 64) : (Try.prog.info? 33).map (·.size) = some (s.map bv).toArray.size := by rw [List.size_toArray, List.length_map, h]; exact i33
section
variable {ops : Array Oper} {rest : List Oper} {o : Oper} {a : Go.Act} {Q : Exit → Go.Act → World → Prop} {w : World}
theorem wpList_alloc33 (hop : o.op = .alloc 33) (hw : Region.wanted o (yielded ops a.tmps) = true)
    (hK : ∀ g w', Obj1 w' g 33 (z64.map bv).toArray → Nw w w' → w.heap.size ≤ g → wpList Try.prog ops Q rest (a.put o.dst (.pointer (some ⟨g, 0, none⟩))) w') : wpList Try.prog ops Q (o :: rest) a w := by
  obtain ⟨i, hi, hz⟩ := Option.map_eq_some_iff.1 z33
  simp only [Prod.mk.injEq] at hz
  refine wpList_alloc (size := 64) 33 hop hw w.heap.size i hi hz.1 z33c (Nat.le_refl _) fun g w' o1 n1 h1 => hK g w' ?_ n1 h1
  exact o1.row1'
theorem wpList_build33 (hop : o.op = .build 33 #[]) (hw : Region.wanted o (yielded ops a.tmps) = true)
    (hK : wpList Try.prog ops Q rest (a.put o.dst (.agg (z64.map bv).toArray)) w) : wpList Try.prog ops Q (o :: rest) a w := by
  obtain ⟨i, hi, hz⟩ := Option.map_eq_some_iff.1 z33
  simp only [Prod.mk.injEq] at hz
  exact wpList_build0 33 hop hw i _ hi hz.1 64 5 Try.underlying33 (by rw [i5]; rfl) hK
theorem wpList_eql33 (x y : Operand) (hop : o.op = .binOp .eql 33 x y 33) (hw : Region.wanted o (yielded ops a.tmps) = true) {xs ys : List UInt8} (hx : a.eval x = .agg (xs.map bv).toArray) (hy : a.eval y = .agg (ys.map bv).toArray) (hxl : xs.length = 64) (hyl : ys.length = 64) {r : Bool} (hr : decide (xs = ys) = r)
    (hK : wpList Try.prog ops Q rest (a.put o.dst (.bool r)) w) : wpList Try.prog ops Q (o :: rest) a w :=
  wpList_eq_arr false 33 33 5 64 x y hop hw xs ys Try.underlying33 Try.underlying5 i5 (by kernel_rfl) hx hy hxl hyl r (by rw [← hr]; simp) hK
end
theorem bare_eq1 (b : Int) (s : List UInt8) (n t : Int) (m : Nat) : decide (bareA ⟨1, b, s, n, t, m⟩ = ⟨1, b, s, n, t, m⟩) = ((n == 0) && (t == 0) && ((m : Int) == 0)) := by
  rw [Bool.eq_iff_iff]
  unfold bareA
  simp [a0]
  constructor <;> intro h <;> (repeat' apply And.intro) <;> first | omega | (simp_all; done)
theorem bare_eq2 (b : Int) (s : List UInt8) (n t : Int) (m : Nat) : decide (bareA ⟨2, b, s, n, t, m⟩ = ⟨2, b, s, n, t, m⟩) = ((n == 0) && (t == 0) && ((m : Int) == 0) && decide (s = z64)) := by
  rw [Bool.eq_iff_iff]
  unfold bareA
  simp [a0]
  constructor <;> intro h <;> (repeat' apply And.intro) <;> first | omega | (simp_all; done)
theorem bare_eq3 (b : Int) (s : List UInt8) (n t : Int) (m : Nat) : decide (bareA ⟨3, b, s, n, t, m⟩ = ⟨3, b, s, n, t, m⟩) = ((b == 0) && (n == 0) && (t == 0) && ((m : Int) == 0) && decide (s = z64)) := by
  rw [Bool.eq_iff_iff]
  unfold bareA
  simp [a0]
  constructor <;> intro h <;> (repeat' apply And.intro) <;> first | omega | (simp_all; done)
theorem bare_eq4 (b : Int) (s : List UInt8) (n t : Int) (m : Nat) : decide (bareA ⟨4, b, s, n, t, m⟩ = ⟨4, b, s, n, t, m⟩) = ((b == 0) && (t == 0) && ((m : Int) == 0) && decide (s = z64)) := by
  rw [Bool.eq_iff_iff]
  unfold bareA
  simp [a0]
  constructor <;> intro h <;> (repeat' apply And.intro) <;> first | omega | (simp_all; done)
theorem bare_eq5 (b : Int) (s : List UInt8) (n t : Int) (m : Nat) : decide (bareA ⟨5, b, s, n, t, m⟩ = ⟨5, b, s, n, t, m⟩) = ((b == 0) && (t == 0) && ((m : Int) == 0) && decide (s = z64)) := by
  rw [Bool.eq_iff_iff]
  unfold bareA
  simp [a0]
  constructor <;> intro h <;> (repeat' apply And.intro) <;> first | omega | (simp_all; done)
theorem bare_eq6 (b : Int) (s : List UInt8) (n t : Int) (m : Nat) : decide (bareA ⟨6, b, s, n, t, m⟩ = ⟨6, b, s, n, t, m⟩) = ((b == 0) && (t == 0) && ((m : Int) == 0) && decide (s = z64)) := by
  rw [Bool.eq_iff_iff]
  unfold bareA
  simp [a0]
  constructor <;> intro h <;> (repeat' apply And.intro) <;> first | omega | (simp_all; done)
theorem bare_eq7 (b : Int) (s : List UInt8) (n t : Int) (m : Nat) : decide (bareA ⟨7, b, s, n, t, m⟩ = ⟨7, b, s, n, t, m⟩) = ((b == 0) && (t == 0) && decide (s = z64)) := by
  rw [Bool.eq_iff_iff]
  unfold bareA
  simp [a0]
  constructor <;> intro h <;> (repeat' apply And.intro) <;> first | omega | (simp_all; done)
theorem bare_eq8 (b : Int) (s : List UInt8) (n t : Int) (m : Nat) : decide (bareA ⟨8, b, s, n, t, m⟩ = ⟨8, b, s, n, t, m⟩) = ((b == 0) && decide (s = z64)) := by
  rw [Bool.eq_iff_iff]
  unfold bareA
  simp [a0]
  constructor <;> intro h <;> (repeat' apply And.intro) <;> first | omega | (simp_all; done)
theorem bare_eq9 (b : Int) (s : List UInt8) (n t : Int) (m : Nat) : decide (bareA ⟨9, b, s, n, t, m⟩ = ⟨9, b, s, n, t, m⟩) = ((b == 0) && ((m : Int) == 0) && decide (s = z64)) := by
  rw [Bool.eq_iff_iff]
  unfold bareA
  simp [a0]
  constructor <;> intro h <;> (repeat' apply And.intro) <;> first | omega | (simp_all; done)
theorem bare_eq10 (b : Int) (s : List UInt8) (n t : Int) (m : Nat) : decide (bareA ⟨10, b, s, n, t, m⟩ = ⟨10, b, s, n, t, m⟩) = ((b == 0) && (n == 0) && (t == 0) && ((m : Int) == 0) && decide (s = z64)) := by
  rw [Bool.eq_iff_iff]
  unfold bareA
  simp [a0]
  constructor <;> intro h <;> (repeat' apply And.intro) <;> first | omega | (simp_all; done)
set_option maxRecDepth 100000 in
set_option maxHeartbeats 8000000 in
theorem ract_out {a : Act} (hoa : ActOk a) (hkk0 : ¬ (1 ≤ a.k ∧ a.k ≤ 10)) (w : World) : Calls Try.prog 40 #[.agg (actC a).toArray] w (Ret (.bool (rightA a)) w) := by
  have hbx : ActO (w.alloc (.cells (actC a).toArray 44)) w.heap.size a := Obj1.new w 44 (actC a).toArray
  have hg0 := World.grownBy_alloc w (.cells (actC a).toArray 44) none
  obtain ⟨W, hW⟩ : ∃ V, w.alloc (.cells (actC a).toArray 44) = V := ⟨_, rfl⟩
  obtain ⟨y, hy⟩ : ∃ y, w.heap.size = y := ⟨_, rfl⟩
  rw [hW] at hbx hg0
  rw [hy] at hbx
  have BX := Lib.hid hbx; have N0 := Lib.hid hg0
  have hs := hoa.s
  have hz : z64.length = 64 := by simp [z64]
  have P0 := Lib.hid (fun w' => within2_any a.k 1 10 w')
  have P1 := Lib.hid (fun w' => within2_any a.b 0 255 w')
  have P2 := Lib.hid (fun w' => within2_any a.n 0 (mostN a.k) w')
  have P3 := Lib.hid (fun w' => within2_any a.at' 0 255 w')
  have HSS : ∀ (ww : World), ActO ww y a → ∀ j u, (a.s.map bv)[j]? = some u → ww.cell? ⟨y, 2 + j, none⟩ = some u := fun ww h => by have := h.s; rwa [p64_of hs] at this
  have HS2 := Lib.hid HSS
  have hkk := hbx.k; have hbb := hbx.b; have hnn := hbx.n; have htt := hbx.t; have hmm := hbx.m
  obtain ⟨R, hR⟩ : ∃ R, rightA a = R := ⟨_, rfl⟩
  rw [hR]
  have hRR : R = (inR a.k 1 10 && decide (bareA a = a) && inR a.b 0 255 && inR a.n 0 (mostN a.k) && inR a.at' 0 255) := by rw [← hR]; rfl
  have HR := Lib.hid hRR
  clear hbx hg0 HSS hR hRR hoa
  obtain ⟨k, hk⟩ : ∃ k, a.k = k := ⟨_, rfl⟩
  rw [hk] at hkk P0 P2 HR
  have hk10 := hkk0; rw [hk] at hk10; clear hkk0
  have h0 : inR k 1 10 = false := by unfold inR; exact decide_eq_false hk10
  rw [h0] at P0 HR
  have HF := Lib.hid (show R = false by rw [HR.out]; rfl)
  have h5 : k ≠ 5 := by omega
  have hM : mostN k = 255 := by unfold mostN; rw [if_neg h5]
  rw [hM] at P2
  have t1 : (k == 1) = false := by rw [beq_eq_false_iff_ne]; omega
  have t2 : (k == 2) = false := by rw [beq_eq_false_iff_ne]; omega
  have t5 : (k == 5) = false := by rw [beq_eq_false_iff_ne]; omega
  have t7 : (k == 7) = false := by rw [beq_eq_false_iff_ne]; omega
  have t8 : (k == 8) = false := by rw [beq_eq_false_iff_ne]; omega
  have t9 : (k == 9) = false := by rw [beq_eq_false_iff_ne]; omega
  clear HR hM h5 h0
  rcases (show k < 1 ∨ 10 < k by omega) with h | h
  · have d1 : decide ((4 : Int) ≤ k) = false := by simp; omega
    clear hk10 h
    go_enter Try.func40, Try.ntmps40
    go_wp2_with (first | (go_at_call 39; (with_reducible refine (P3.out _).mono ?_); rintro e' w' ⟨rfl, rfl⟩) | (go_at_call 39; (with_reducible refine (P2.out _).mono ?_); rintro e' w' ⟨rfl, rfl⟩) | (go_at_call 39; (with_reducible refine (P1.out _).mono ?_); rintro e' w' ⟨rfl, rfl⟩) | (go_at_call 39; (with_reducible refine (P0.out _).mono ?_); rintro e' w' ⟨rfl, rfl⟩))
    go_ret
    exact ⟨by rw [HF.out]; rfl, N0.out⟩
  · have d1 : decide ((4 : Int) ≤ k) = true := by simp; omega
    have d2 : decide (k ≤ (9 : Int)) = false := by simp; omega
    clear hk10 h
    go_enter Try.func40, Try.ntmps40
    go_wp2_with (first | (go_at_call 39; (with_reducible refine (P3.out _).mono ?_); rintro e' w' ⟨rfl, rfl⟩) | (go_at_call 39; (with_reducible refine (P2.out _).mono ?_); rintro e' w' ⟨rfl, rfl⟩) | (go_at_call 39; (with_reducible refine (P1.out _).mono ?_); rintro e' w' ⟨rfl, rfl⟩) | (go_at_call 39; (with_reducible refine (P0.out _).mono ?_); rintro e' w' ⟨rfl, rfl⟩))
    go_ret
    exact ⟨by rw [HF.out]; rfl, N0.out⟩
end Go.Proofs.Ytmcgfnfhpcddlaa

