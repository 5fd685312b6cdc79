/- Strings in a walk as lists of bytes: parts, sums, copies into an own row; under the premises that each lemma states. -/
import Derived.Test.YtmcgfnfhpcddlaaApp
import Derived.Laws.Strings2
namespace Go.BW
open Go.RowKit
section
variable {P : Program} {size : Nat} {e : TypeId}
theorem run_copy_str_mine {base g : Nat} {w : World} {n c off dLen dCap : Nat} {xs : List Value} {bs : List UInt8} (dT sT ty elem : TypeId)
    (hu : P.underlying dT = some (.slice elem)) (hsz : (P.info? elem).map (·.size) = some 1) (hown : Own w base e size (some ⟨g, 0, none⟩) n c xs)
    (hfit : off + Nat.min bs.length dLen ≤ n * size) :
    ∃ w', (Builtin.copy_ #[dT, sT] ty #[.slice (some ⟨g, off, none⟩) dLen dCap, .string ⟨bs.toArray⟩]).run P w = .ok (goInt (Nat.min bs.length dLen)) w' ∧
      Own w' base e size (some ⟨g, 0, none⟩) n c (splice xs off ((bs.take dLen).map bv)) ∧ w.grownBy w' (some g) := by
  obtain ⟨i, hq, his⟩ := Option.map_eq_some_iff.1 hsz
  have hcl : ((bs.take dLen).map bv).length = Nat.min bs.length dLen := by rw [List.length_map, List.length_take]; exact Nat.min_comm _ _
  rcases hown.2 with ⟨h', _⟩ | ⟨g', cap, cur, hv', hb, hg, hnc, hcm, hcs, htake⟩
  · simp at h'
  · simp only [Value.slice.injEq, Option.some.injEq, Addr.mk.injEq, and_true, true_and] at hv'
    obtain ⟨rfl, rfl⟩ := hv'
    have hnn : n * size ≤ cur.size := by rw [hcs]; exact Nat.mul_le_mul_right _ hnc
    have h1 : ∀ u ∈ (bs.take dLen).map bv, u.oneCell' = true := by intro u hu; obtain ⟨x, _, rfl⟩ := List.mem_map.1 hu; rfl
    have hst := run_storeCells_at P g off e ((bs.take dLen).map bv) 0 cur w hg (by omega) h1
    rw [Nat.add_zero] at hst
    have hcu : cur.toList.length = cur.size := Array.length_toList
    have hxl : xs.length = n * size := hown.1
    refine ⟨w.setRow g (cur.toList.take off ++ (bs.take dLen).map bv ++ cur.toList.drop (off + ((bs.take dLen).map bv).length)).toArray, ?_, ?_, ⟨rfl, rfl, rfl, by simp [World.setRow], fun k _ hk => setRow_other w g k _ (fun e => hk (by rw [e]))⟩⟩
    rotate_left
    · refine ⟨by rw [length_splice _ _ _ (by omega)]; exact hxl, .inr ⟨g, c, _, rfl, hb, setRow_heap w g cur (cur.toList.take off ++ (bs.take dLen).map bv ++ cur.toList.drop (off + ((bs.take dLen).map bv).length)).toArray e _ hg, hnc, hcm, ?_, ?_⟩⟩
      · rw [List.append_assoc, ← hcs, List.size_toArray, ← hcu]
        exact length_splice _ _ _ (by omega)
      · rw [← htake]
        show (cur.toList.take off ++ (bs.take dLen).map bv ++ cur.toList.drop (off + ((bs.take dLen).map bv).length)).take (n * size) = _
        rw [List.append_assoc]
        exact splice_take _ _ _ _ (by omega) (by omega)
    · have hsize : (ByteArray.mk bs.toArray).size = bs.length := by show bs.toArray.size = _; simp
      have htk : List.take (Nat.min bs.length dLen) (List.map (fun b : UInt8 => Value.int IntKind.u8 (b.toNat : Int)) bs) = (bs.take dLen).map bv := by
        rw [← List.map_take]
        have : bs.take (Nat.min bs.length dLen) = bs.take dLen := by
          rcases Nat.le_total bs.length dLen with h | h
          · rw [show Nat.min bs.length dLen = bs.length from Nat.min_eq_left h, List.take_of_length_le (Nat.le_refl _), List.take_of_length_le h]
          · rw [show Nat.min bs.length dLen = dLen from Nat.min_eq_right h]
        rw [this]; rfl
      obtain ⟨W', hW⟩ : ∃ W', w.setRow g (cur.toList.take off ++ (bs.take dLen).map bv ++ cur.toList.drop (off + ((bs.take dLen).map bv).length)).toArray = W' := ⟨_, rfl⟩
      rw [hW] at hst ⊢
      simp [Builtin.copy_, run_underlying hu, Builtin.lenOf, Builtin.firstCells, sizeOf, typeInfo, hq, hsize]
      rw [htk, hst]
      simp [Result.andThen]
theorem run_slice_str (t : TypeId) (ht : P.underlying t = some .string) {w : World} (bs : List UInt8) (l h : Nat) (hl : l ≤ h) (hc : h ≤ bs.length) :
    (Instr.sliceAt t (.string ⟨bs.toArray⟩) (some (.int .i64 l)) (some (.int .i64 h)) none).run P w = .ok (.string ⟨((bs.take h).drop l).toArray⟩) w := by
  rw [run_sliceAt_string w t _ _ _ _ ht, run_slice_string w t _ _ _ _ _ ht (by omega) (by omega) (by show (h : Int) ≤ (bs.toArray.size : Nat); simp; omega)]
  rw [ByteArray.extract_mk, List.drop_take]; rfl
section
variable {ops : Array Oper} {rest : List Oper} {o : Oper} {a : Act} {Q : Exit → Act → World → Prop} {w : World}
theorem wpList_slice_str (t : TypeId) (ht : P.underlying t = some .string) (x l h : Operand) (hop : o.op = .slice t x (some l) (some h) none) (hw : Region.wanted o (yielded ops a.tmps) = true) (bs : List UInt8) (kl kh : Nat) (vl vh : Int) (hx : a.eval x = .string ⟨bs.toArray⟩) (hl : a.eval l = .int .i64 vl) (hh : a.eval h = .int .i64 vh)
    (el : vl = kl) (eh : vh = kh) (h1 : kl ≤ kh) (h2 : kh ≤ bs.length) {cs : List UInt8} (hcs : (bs.take kh).drop kl = cs) (hK : wpList P ops Q rest (a.put o.dst (.string ⟨cs.toArray⟩)) w) : wpList P ops Q (o :: rest) a w := by
  subst hcs; subst el; subst eh
  refine wpList_ran hw ?_ hK
  have := run_slice_str (P := P) t ht (w := w) bs kl kh h1 h2
  unfold execOp
  simp [hop, hx, hl, hh, this]
theorem run_exec_str_add (t t2 : TypeId) (x y : Operand) (hop : o.op = .binOp .add t x y t2) (bs cs : List UInt8) (hx : a.eval x = .string ⟨bs.toArray⟩) (hy : a.eval y = .string ⟨cs.toArray⟩) (hsm : bs.length + cs.length ≤ 9223372036854775807) :
    (execOp a.eval o).run P w = .ok (.value (.string ⟨(bs ++ cs).toArray⟩)) w := by
  have e : (ByteArray.mk bs.toArray ++ ByteArray.mk cs.toArray) = ⟨(bs ++ cs).toArray⟩ := by rw [ByteArray.mk_append_mk]
  have z1 : (ByteArray.mk bs.toArray).size = bs.length := by show bs.toArray.size = _; simp
  have z2 : (ByteArray.mk cs.toArray).size = cs.length := by show cs.toArray.size = _; simp
  unfold execOp
  simp [hop, hx, hy, eqGuard, binOp, Op.stringOp, e, z1, z2]
  omega
theorem wpList_str_add (t t2 : TypeId) (x y : Operand) (hop : o.op = .binOp .add t x y t2) (hw : Region.wanted o (yielded ops a.tmps) = true) (bs cs : List UInt8) (hx : a.eval x = .string ⟨bs.toArray⟩) (hy : a.eval y = .string ⟨cs.toArray⟩)
    (hsm : bs.length + cs.length ≤ 9223372036854775807) {ds : List UInt8} (hds : bs ++ cs = ds) (hK : wpList P ops Q rest (a.put o.dst (.string ⟨ds.toArray⟩)) w) : wpList P ops Q (o :: rest) a w := by
  subst hds
  exact wpList_ran hw (run_exec_str_add t t2 x y hop bs cs hx hy hsm) hK
theorem wpYield_str_add {S : World → Prop} {R : Act → Prop} (t t2 : TypeId) (x y : Operand) (hop : o.op = .binOp .add t x y t2) (hw : Region.wanted o (yielded ops a.tmps) = true) (bs cs : List UInt8) (hx : a.eval x = .string ⟨bs.toArray⟩) (hy : a.eval y = .string ⟨cs.toArray⟩)
    (hsm : bs.length + cs.length ≤ 9223372036854775807) {ds : List UInt8} (hds : bs ++ cs = ds) (hK : wpYield P ops S R rest (a.put o.dst (.string ⟨ds.toArray⟩))) : wpYield P ops S R (o :: rest) a := by
  subst hds
  exact wpYield_val hw (fun _ _ => run_exec_str_add t t2 x y hop bs cs hx hy hsm) hK
theorem wpList_copy_str (dT sT elem : TypeId) (hu : P.underlying dT = some (.slice elem)) (hsz : (P.info? elem).map (·.size) = some 1) (d s : Operand)
    (hop : o.op = .call { callee := .builtin .copy, args := #[d, s], argTypes := #[dT, sT] }) (hw : Region.wanted o (yielded ops a.tmps) = true)
    {base g n c off dLen dCap : Nat} {xs : List Value} (bs : List UInt8) (hd : a.eval d = .slice (some ⟨g, off, none⟩) dLen dCap) (hs : a.eval s = .string ⟨bs.toArray⟩)
    (hown : Own w base e size (some ⟨g, 0, none⟩) n c xs) (hfit : off + Nat.min bs.length dLen ≤ n * size)
    (hK : ∀ w', Own w' base e size (some ⟨g, 0, none⟩) n c (splice xs off ((bs.take dLen).map bv)) → w.grownBy w' (some g) → wpList P ops Q rest (a.put o.dst (goInt (Nat.min bs.length dLen))) w') :
    wpList P ops Q (o :: rest) a w := by
  obtain ⟨w', hrun, h2, h3⟩ := run_copy_str_mine (P := P) (bs := bs) dT sT o.type elem hu hsz hown (dCap := dCap) hfit
  refine wpList_ran hw (w' := w') (v := goInt (Nat.min bs.length dLen)) ?_ (hK w' h2 h3)
  unfold execOp
  simp only [hop, resolve, invoke, builtin, Sem.run_bind, Sem.run_pure, Result.andThen_ok, List.map_toArray, List.map_cons, List.map_nil, hd, hs, hrun]
end
end
end Go.BW

