/- Steps of a walk that build, load and store acts; which numbers may be; what script.bare returns. For all acts. -/
import Derived.Test.YtmcgfnfhpcddlaaA
import Derived.Test.YtmcgfnfhpcddlaaRes
import Derived.Deep.Cut
import Derived.Deep.CutRange
import Derived.Deep.DeepCutAuto
namespace Go.Proofs.Ytmcgfnfhpcddlaa
open Go.RowKit Go.BW

theorem splice_one {l : List Value} {i : Nat} {v : Value} (h : i < l.length) : splice l i [v] = l.set i v := by
  unfold splice
  rw [List.set_eq_take_append_cons_drop, if_pos h]
  rfl
theorem sec_one (s : List UInt8) : ∀ u ∈ s.map bv, u.oneCell' = true := by
  intro u hu; obtain ⟨c, _, rfl⟩ := List.mem_map.1 hu; rfl
theorem ActO.own {w : World} {g : Nat} {b : Act} (h : ActO w g b) : Own w 0 44 69 (some ⟨g, 0, none⟩) 1 1 (actC b) := by
  have := Obj1.own (size := 69) h (by rw [List.size_toArray, actC_len])
  simpa using this
theorem ActO.of_own {w : World} {base g : Nat} {b : Act} (h : Own w base 44 69 (some ⟨g, 0, none⟩) 1 1 (actC b)) : ActO w g b := h.row1'
section
variable {ops : Array Oper} {rest : List Oper} {o : Oper} {a : Go.Act} {Q : Exit → Go.Act → World → Prop} {w : World}
theorem wpList_alloc44 (hop : o.op = .alloc 44) (hw : Region.wanted o (yielded ops a.tmps) = true)
    (hK : ∀ g w', ActO w' g (a0 0) → Nw w w' → w.heap.size ≤ g → wpList Try.prog ops Q rest (a.put o.dst (.pointer (some ⟨g, 0, none⟩))) w') : wpList Try.prog ops Q (o :: rest) a w := by
  obtain ⟨i, hi, hz⟩ := Option.map_eq_some_iff.1 z44
  simp only [Prod.mk.injEq] at hz
  refine wpList_alloc (size := 69) 44 hop hw w.heap.size i hi hz.1 actC0 (Nat.le_refl _) fun g w' o1 n1 h1 => hK g w' ?_ n1 h1
  exact ActO.of_own o1
theorem wpList_store_act (ty : TypeId) (p x : Operand) (hop : o.op = .store ty p x) (hw : Region.wanted o (yielded ops a.tmps) = true) {g i : Nat} {b b' : Act} (cs : List Value)
    (hp : a.eval p = .pointer (some ⟨g, i, none⟩)) {v : Value} (hx : a.eval x = v) (hv : v.cells = cs.toArray) (hi : (Try.prog.info? ty).map (·.size) = some cs.length) (h1 : ∀ u ∈ cs, u.oneCell' = true)
    (ho : ActO w g b) (hfit : i + cs.length ≤ 69) (he : splice (actC b) i cs = actC b') (hK : ∀ w', ActO w' g b' → w.grownBy w' (some g) → wpList Try.prog ops Q rest (a.put o.dst undef) w') : wpList Try.prog ops Q (o :: rest) a w := by
  refine wpList_store_own (size := 69) ty p x hop hw hp hx hv hi h1 ho.own (by omega) fun w' h2 h3 => hK w' ?_ h3
  rw [he] at h2
  exact ActO.of_own h2
theorem wp_store_act {K : Go.Act → World → Prop} (ty : TypeId) (p x : Operand) (hop : o.op = .store ty p x) {g i : Nat} {b b' : Act} (cs : List Value)
    (hp : a.eval p = .pointer (some ⟨g, i, none⟩)) {v : Value} (hx : a.eval x = v) (hv : v.cells = cs.toArray) (hi : (Try.prog.info? ty).map (·.size) = some cs.length) (h1 : ∀ u ∈ cs, u.oneCell' = true)
    (ho : ActO w g b) (hfit : i + cs.length ≤ 69) (he : splice (actC b) i cs = actC b') (hK : ∀ w', ActO w' g b' → w.grownBy w' (some g) → K (a.put o.dst undef) w') : o.wp Try.prog a w K Q := by
  refine wp_store_own (size := 69) ty p x hop hp hx hv hi h1 ho.own (by omega) fun w' h2 h3 => hK w' ?_ h3
  rw [he] at h2
  exact ActO.of_own h2
theorem wpList_store44 (p x : Operand) (hop : o.op = .store 44 p x) (hw : Region.wanted o (yielded ops a.tmps) = true) {g : Nat} {b : Act} (b' : Act)
    (hp : a.eval p = .pointer (some ⟨g, 0, none⟩)) (hx : a.eval x = .agg (actC b').toArray) (ho : ActO w g b) (hK : ∀ w', ActO w' g b' → w.grownBy w' (some g) → wpList Try.prog ops Q rest (a.put o.dst undef) w') : wpList Try.prog ops Q (o :: rest) a w :=
  wpList_store_act 44 p x hop hw (actC b') hp hx rfl (i44' b') (actC_one b') ho (by rw [actC_len]; decide) (splice_all _ _ (by rw [actC_len, actC_len])) hK
theorem wpList_load44 (x : Operand) (hop : o.op = .load 44 x) (hw : Region.wanted o (yielded ops a.tmps) = true) {g : Nat} {b : Act} (hx : a.eval x = .pointer (some ⟨g, 0, none⟩)) (ho : ActO w g b)
    (hK : wpList Try.prog ops Q rest (a.put o.dst (.agg (actC b).toArray)) w) : wpList Try.prog ops Q (o :: rest) a w :=
  wpList_load_obj 44 x hop hw hx ho _ Try.underlying44 rfl (i44a b) hK
theorem run_build_act {o : Oper} {a : Go.Act} {w : World} (v : Operand) (hop : o.op = .build 44 #[(0, v)]) (k : Int) (hv : a.eval v = .int .i64 k) : (execOp a.eval o).run Try.prog w = .ok (.value (.agg (actC (a0 k)).toArray)) w := by
  obtain ⟨i0, hi0, hz0⟩ := Option.map_eq_some_iff.1 z44
  simp only [Prod.mk.injEq] at hz0
  have hzv : (zeroValue 44).run Try.prog w = .ok (.agg (actC (a0 0)).toArray) w := by simp [zeroValue, typeInfo, hi0, hz0.1]
  obtain ⟨j33, hj33, hs33⟩ := Option.map_eq_some_iff.1 i33
  obtain ⟨j3, hj3, hs3⟩ := Option.map_eq_some_iff.1 i3
  obtain ⟨j31, hj31, hs31⟩ := Option.map_eq_some_iff.1 (show (Try.prog.info? 31).map (·.size) = some 1 from by kernel_rfl)
  have hf : Instr.fill (fun x => [(0, 1), (1, 1), (2, 64), (66, 1), (67, 1), (68, 1)][x]?) (Value.agg (actC (a0 0)).toArray).cells [(0, Value.int .i64 k)] = some (actC (a0 k)).toArray := by
    have hsz : (Value.agg (actC (a0 0)).toArray).cells.size = 69 := actC0
    have hvs : (Value.int .i64 k).cells = #[.int .i64 k] := rfl
    unfold Instr.fill
    simp only [List.getElem?_cons_zero]
    rw [hvs, hsz]
    simp
    unfold Instr.fill
    rfl
  unfold execOp
  simp [hop, hv, Instr.build, Sem.run_bind, hzv, run_underlying Try.underlying44]
  first
    | (rw [hf]; rfl)
    | (simp [hj33, hs33, hj3, hs3, hj31, hs31, sizeOf, typeInfo] ; rw [hf]; rfl)
theorem wpList_build44 (v : Operand) (hop : o.op = .build 44 #[(0, v)]) (hw : Region.wanted o (yielded ops a.tmps) = true) (k : Int) (hv : a.eval v = .int .i64 k)
    (hK : wpList Try.prog ops Q rest (a.put o.dst (.agg (actC (a0 k)).toArray)) w) : wpList Try.prog ops Q (o :: rest) a w := wpList_ran hw (run_build_act v hop k hv) hK
theorem wpList_neq_act (x y : Operand) (hop : o.op = .binOp .neq 44 x y 44) (hw : Region.wanted o (yielded ops a.tmps) = true) {b c : Act} (hx : a.eval x = .agg (actC b).toArray) (hy : a.eval y = .agg (actC c).toArray) (hb : b.s.length = 64) (hc : c.s.length = 64) {r : Bool} (hr : (!decide (b = c)) = r)
    (hK : wpList Try.prog ops Q rest (a.put o.dst (.bool r)) w) : wpList Try.prog ops Q (o :: rest) a w := by
  refine wpList_ran hw (v := .bool r) (w' := w) ?_ hK
  have hg : (eqGuard .neq 44 x y (.agg (actC b).toArray) (.agg (actC c).toArray)).run Try.prog w = .ok () w := Go.BW.run_eqGuard_agg x y _ _ (by kernel_rfl)
  have he := run_equal_act (w := w) hb hc
  unfold execOp
  simp only [hop, hx, hy, Sem.run_bind, hg, Result.andThen_ok]
  have hq : (binOp .neq 44 (.agg (actC b).toArray) (.agg (actC c).toArray)).run Try.prog w = .ok (.bool (!decide (b = c))) w := by
    simp only [binOp]
    rw [Sem.run_bind, he]
    simp
  rw [hq, hr]
  simp
end
theorem within_any (n a b : Int) (w : World) : Calls Try.prog 32 #[.int .i64 n, .int .i64 a, .int .i64 b] w fun e w' => e = .returned (.bool (inR n a b)) ∧ w = w' := by
  by_cases h1 : a ≤ n
  · by_cases h2 : n ≤ b
    · have H := Lib.hid (show inR n a b = true by unfold inR; simp [h1, h2])
      go_enter Try.func32, Try.ntmps32
      go_wp2
      go_ret
      exact ⟨by rw [H.out]; rfl, rfl⟩
    · have H := Lib.hid (show inR n a b = false by unfold inR; simp [h2])
      go_enter Try.func32, Try.ntmps32
      go_wp2
      go_ret
      exact ⟨by rw [H.out]; rfl, rfl⟩
  · have H := Lib.hid (show inR n a b = false by unfold inR; simp [h1])
    go_enter Try.func32, Try.ntmps32
    go_wp2
    go_ret
    exact ⟨by rw [H.out]; rfl, rfl⟩
theorem within2_any (n a b : Int) (w : World) : Calls Try.prog 39 #[.int .i64 n, .int .i64 a, .int .i64 b] w fun e w' => e = .returned (.bool (inR n a b)) ∧ w = w' := by
  by_cases h1 : a ≤ n
  · by_cases h2 : n ≤ b
    · have H := Lib.hid (show inR n a b = true by unfold inR; simp [h1, h2])
      go_enter Try.func39, Try.ntmps39
      go_wp2
      go_ret
      exact ⟨by rw [H.out]; rfl, rfl⟩
    · have H := Lib.hid (show inR n a b = false by unfold inR; simp [h2])
      go_enter Try.func39, Try.ntmps39
      go_wp2
      go_ret
      exact ⟨by rw [H.out]; rfl, rfl⟩
  · have H := Lib.hid (show inR n a b = false by unfold inR; simp [h1])
    go_enter Try.func39, Try.ntmps39
    go_wp2
    go_ret
    exact ⟨by rw [H.out]; rfl, rfl⟩
def BarePost (a : Act) (w : World) (e : Ending) (w' : World) : Prop := e = .returned (.tuple #[.agg (actC (bareA a)).toArray, .bool (knownK a.k)]) ∧ Nw w w'
theorem one1 (v : Value) (h : v.oneCell' = true) : ∀ u ∈ [v], u.oneCell' = true := by intro u hu; rw [List.mem_singleton] at hu; subst hu; exact h
theorem st_n (a : Act) (x : Int) : splice (actC a) 66 [.int .i64 x] = actC ⟨a.k, a.b, a.s, x, a.at', a.m⟩ := by rw [splice_one (by rw [actC_len]; decide), set_n]
theorem st_b (a : Act) (x : Int) : splice (actC a) 1 [.int .i64 x] = actC ⟨a.k, x, a.s, a.n, a.at', a.m⟩ := by rw [splice_one (by rw [actC_len]; decide), set_b]
theorem st_t (a : Act) (x : Int) : splice (actC a) 67 [.int .i64 x] = actC ⟨a.k, a.b, a.s, a.n, x, a.m⟩ := by rw [splice_one (by rw [actC_len]; decide), set_t]
theorem st_m (a : Act) (x : Nat) : splice (actC a) 68 [.int .u64 (x : Int)] = actC ⟨a.k, a.b, a.s, a.n, a.at', x⟩ := by rw [splice_one (by rw [actC_len]; decide), set_m]
theorem i31 : (Try.prog.info? 31).map (·.size) = some 1 := by kernel_rfl
theorem ActO.other {w w' : World} {g r : Nat} {a : Act} (h : ActO w g a) (k : w.grownBy w' (some r)) (hne : g ≠ r) : ActO w' g a :=
  Obj1.chg h (Chg.of_gb (F := [r]) k (by intro q hq; injection hq with hq; simp [hq])) (by simpa using hne)
theorem ActO.drew {w : World} {g : Nat} {a : Act} (h : ActO w g a) : ActO w.drew g a := h
end Go.Proofs.Ytmcgfnfhpcddlaa

