/- A slice cut at its end, and the lesser of two numbers, in a walk; under the premises that each lemma states. -/
import Derived.Test.YtobifmndpkjlmaaLib
namespace Go.BW
open Go.RowKit
variable {P : Program}
theorem run_slice_hi (t e : TypeId) (ht : P.underlying t = some (.slice e)) {size : Nat} (hi : (P.info? e).map (·.size) = some size) {w : World} (A : Option Addr) (n c h : Nat) (hc : h ≤ c) :
    (Instr.slice t (.slice A n c) none (some (.int .i64 h)) none).run P w = .ok (.slice A h c) w := by
  obtain ⟨i, hi, hs⟩ := Option.map_eq_some_iff.1 hi
  have hb : 0 ≤ (h : Int) ∧ (h : Int) ≤ c := ⟨by omega, by omega⟩
  have ha : (if c = 0 then A else A.map (·.add (0 * size))) = A := by
    split
    · rfl
    · cases A with
      | none => rfl
      | some a => simp only [Option.map_some, Nat.zero_mul]; unfold Addr.add; rw [if_pos rfl]
  unfold Instr.slice
  rw [Sem.run_bind, run_underlying ht]
  rw [Nat.zero_mul] at ha
  simp [Instr.sliceBounds, Instr.sliceBound, asIntOf, hc, sizeOf, typeInfo, hi, hs]
  first | done | exact ha | simpa using ha
theorem run_sliceAt_hi (t e : TypeId) (ht : P.underlying t = some (.slice e)) {size : Nat} (hi : (P.info? e).map (·.size) = some size) {w : World} (A : Option Addr) (n c h : Nat) (hc : h ≤ c) :
    (Instr.sliceAt t (.slice A n c) none (some (.int .i64 h)) none).run P w = .ok (.slice A h c) w := by
  unfold Instr.sliceAt
  rw [Sem.run_bind, run_underlying ht]
  exact run_slice_hi t e ht hi A n c h hc
theorem run_min_nat {w : World} (ts : Array TypeId) (t : TypeId) (a b : Nat) : (Builtin.min_ ts t #[.int .i64 a, .int .i64 b]).run P w = .ok (.int .i64 (min a b : Nat)) w := by
  have e : (if (b : Int) < (a : Int) then (b : Int) else a) = ((min a b : Nat) : Int) := by
    split <;> omega
  show (Builtin.min2 (.int .i64 a) (.int .i64 b)).run P w = _
  unfold Builtin.min2
  rw [Sem.run_pure, e]
theorem run_max_nat {w : World} (ts : Array TypeId) (t : TypeId) (a b : Nat) : (Builtin.max_ ts t #[.int .i64 a, .int .i64 b]).run P w = .ok (.int .i64 (max a b : Nat)) w := by
  have e : (if (a : Int) < (b : Int) then (b : Int) else a) = ((max a b : Nat) : Int) := by
    split <;> omega
  show (Builtin.max2 (.int .i64 a) (.int .i64 b)).run P w = _
  unfold Builtin.max2
  first | rw [Sem.run_pure, e] | (rw [Sem.run_pure]; congr 2; omega)
section
variable {ops : Array Oper} {rest : List Oper} {o : Oper} {a : Act} {Q : Exit → Act → World → Prop} {w : World}
theorem run_exec_slice_hi (t e : TypeId) (ht : P.underlying t = some (.slice e)) {size : Nat} (hi : (P.info? e).map (·.size) = some size) (x h : Operand) (hop : o.op = .slice t x none (some h) none) (A : Option Addr) (n c k : Nat) (hx : a.eval x = .slice A n c) (hh : a.eval h = .int .i64 k) (hc : k ≤ c) :
    (execOp a.eval o).run P w = .ok (.value (.slice A k c)) w := by
  have := run_sliceAt_hi t e ht hi (w := w) A n c k hc
  unfold execOp
  simp [hop, hx, hh, this]
theorem wpList_slice_hi (t e : TypeId) (ht : P.underlying t = some (.slice e)) {size : Nat} (hi : (P.info? e).map (·.size) = some size) (x h : Operand) (hop : o.op = .slice t x none (some h) none) (hw : Region.wanted o (yielded ops a.tmps) = true) (A : Option Addr) (n c k : Nat) (hx : a.eval x = .slice A n c) (hh : a.eval h = .int .i64 k) (hc : k ≤ c)
    (hK : wpList P ops Q rest (a.put o.dst (.slice A k c)) w) : wpList P ops Q (o :: rest) a w :=
  wpList_ran hw (run_exec_slice_hi t e ht hi x h hop A n c k hx hh hc) hK
theorem wpList_slice_hi' (t e : TypeId) (ht : P.underlying t = some (.slice e)) {size : Nat} (hi : (P.info? e).map (·.size) = some size) (x h : Operand) (hop : o.op = .slice t x none (some h) none) (hw : Region.wanted o (yielded ops a.tmps) = true) (A : Option Addr) (n c k : Nat) (v : Int) (hx : a.eval x = .slice A n c) (hh : a.eval h = .int .i64 v) (hv : v = (k : Int)) (hc : k ≤ c)
    (hK : wpList P ops Q rest (a.put o.dst (.slice A k c)) w) : wpList P ops Q (o :: rest) a w := by
  subst hv; exact wpList_ran hw (run_exec_slice_hi t e ht hi x h hop A n c k hx hh hc) hK
theorem run_exec_min (ts : Array TypeId) (x y : Operand) (hop : o.op = .call { callee := .builtin .min, args := #[x, y], argTypes := ts }) (m n : Nat) (hx : a.eval x = .int .i64 m) (hy : a.eval y = .int .i64 n) :
    (execOp a.eval o).run P w = .ok (.value (.int .i64 (min m n : Nat))) w := by
  have := run_min_nat (P := P) (w := w) ts o.type m n
  unfold execOp
  simp only [hop, resolve, invoke, builtin, Sem.run_bind, Sem.run_pure, Result.andThen_ok, List.map_toArray, List.map_cons, List.map_nil, hx, hy, this]
theorem wpList_min (ts : Array TypeId) (x y : Operand) (hop : o.op = .call { callee := .builtin .min, args := #[x, y], argTypes := ts }) (hw : Region.wanted o (yielded ops a.tmps) = true) (m n : Nat) (hx : a.eval x = .int .i64 m) (hy : a.eval y = .int .i64 n) {k : Nat} (hk : min m n = k)
    (hK : wpList P ops Q rest (a.put o.dst (.int .i64 k)) w) : wpList P ops Q (o :: rest) a w := by
  subst hk; exact wpList_ran hw (run_exec_min ts x y hop m n hx hy) hK
end
section
variable {ops : Array Oper} {rest : List Oper} {o : Oper} {a : Act} {Q : Exit → Act → World → Prop} {w : World}
theorem run_exec_max_int (ts : Array TypeId) (x y : Operand) (hop : o.op = .call { callee := .builtin .max, args := #[x, y], argTypes := ts }) (m n : Int) (hx : a.eval x = .int .i64 m) (hy : a.eval y = .int .i64 n) :
    (execOp a.eval o).run P w = .ok (.value (.int .i64 (if m < n then n else m))) w := by
  have e : (Builtin.max_ ts o.type #[.int .i64 m, .int .i64 n]).run P w = .ok (.int .i64 (if m < n then n else m)) w := by
    show (Builtin.max2 (.int .i64 m) (.int .i64 n)).run P w = _
    unfold Builtin.max2
    rw [Sem.run_pure]
  unfold execOp
  simp only [hop, resolve, invoke, builtin, Sem.run_bind, Sem.run_pure, Result.andThen_ok, List.map_toArray, List.map_cons, List.map_nil, hx, hy, e]
theorem wpList_max_int (ts : Array TypeId) (x y : Operand) (hop : o.op = .call { callee := .builtin .max, args := #[x, y], argTypes := ts }) (hw : Region.wanted o (yielded ops a.tmps) = true) (m n : Int) (hx : a.eval x = .int .i64 m) (hy : a.eval y = .int .i64 n) {k : Int} (hk : (if m < n then n else m) = k)
    (hK : wpList P ops Q rest (a.put o.dst (.int .i64 k)) w) : wpList P ops Q (o :: rest) a w := by
  subst hk; exact wpList_ran hw (run_exec_max_int ts x y hop m n hx hy) hK
theorem run_exec_min_int (ts : Array TypeId) (x y : Operand) (hop : o.op = .call { callee := .builtin .min, args := #[x, y], argTypes := ts }) (m n : Int) (hx : a.eval x = .int .i64 m) (hy : a.eval y = .int .i64 n) :
    (execOp a.eval o).run P w = .ok (.value (.int .i64 (if n < m then n else m))) w := by
  have e : (Builtin.min_ ts o.type #[.int .i64 m, .int .i64 n]).run P w = .ok (.int .i64 (if n < m then n else m)) w := by
    show (Builtin.min2 (.int .i64 m) (.int .i64 n)).run P w = _
    unfold Builtin.min2
    rw [Sem.run_pure]
  unfold execOp
  simp only [hop, resolve, invoke, builtin, Sem.run_bind, Sem.run_pure, Result.andThen_ok, List.map_toArray, List.map_cons, List.map_nil, hx, hy, e]
theorem wpList_min_int (ts : Array TypeId) (x y : Operand) (hop : o.op = .call { callee := .builtin .min, args := #[x, y], argTypes := ts }) (hw : Region.wanted o (yielded ops a.tmps) = true) (m n : Int) (hx : a.eval x = .int .i64 m) (hy : a.eval y = .int .i64 n) {k : Int} (hk : (if n < m then n else m) = k)
    (hK : wpList P ops Q rest (a.put o.dst (.int .i64 k)) w) : wpList P ops Q (o :: rest) a w := by
  subst hk; exact wpList_ran hw (run_exec_min_int ts x y hop m n hx hy) hK
end
section
variable {ops : Array Oper} {S : World → Prop} {R : Act → Prop} {rest : List Oper} {o : Oper} {a : Act}
theorem wpYield_slice_hi (t e : TypeId) (ht : P.underlying t = some (.slice e)) {size : Nat} (hi : (P.info? e).map (·.size) = some size) (x h : Operand) (hop : o.op = .slice t x none (some h) none) (hw : Region.wanted o (yielded ops a.tmps) = true) (A : Option Addr) (n c k : Nat) (hx : a.eval x = .slice A n c) (hh : a.eval h = .int .i64 k) (hc : k ≤ c)
    (hK : wpYield P ops S R rest (a.put o.dst (.slice A k c))) : wpYield P ops S R (o :: rest) a :=
  wpYield_val hw (fun _ _ => run_exec_slice_hi t e ht hi x h hop A n c k hx hh hc) hK
theorem wpYield_min (ts : Array TypeId) (x y : Operand) (hop : o.op = .call { callee := .builtin .min, args := #[x, y], argTypes := ts }) (hw : Region.wanted o (yielded ops a.tmps) = true) (m n : Nat) (hx : a.eval x = .int .i64 m) (hy : a.eval y = .int .i64 n) {k : Nat} (hk : min m n = k)
    (hK : wpYield P ops S R rest (a.put o.dst (.int .i64 k))) : wpYield P ops S R (o :: rest) a := by
  subst hk; exact wpYield_val hw (fun _ _ => run_exec_min ts x y hop m n hx hy) hK
end
section
variable {t e : TypeId} {z : Value} {size bytes : Nat} {o : Oper} {a : Act} {K : Act → World → Prop} {Q : Exit → Act → World → Prop}
theorem wp_app_lit {w0 : World} (T : El P t e z size bytes) (s x : Operand) (hop : o.op = .call { callee := .builtin .append, args := #[s, x], argTypes := #[t, t] })
    (base : Nat) (hs : a.eval s = .slice (some ⟨w0.heap.size, 0, none⟩) 0 0) {B : Nat} {X : Option Addr} {m d : Nat} {news : List Value} (hx : a.eval x = .slice X m d)
    (hr : Rd w0 B size X m news) (hB : B ≤ w0.heap.size) (h1 : ∀ u ∈ news, u.oneCell' = true) (hsm : m * bytes ≤ 140737488355328 ∧ m ≤ maxLen) (hbase : base ≤ w0.heap.size)
    (hK : ∀ A' c' w', Own w' base e size A' m c' news → Nw w0 w' → K (a.put o.dst (.slice A' m c')) w') : o.wp P a (w0.alloc (.cells #[] e)) K Q := by
  have hown : Own (w0.alloc (.cells #[] e)) w0.heap.size e size (some ⟨w0.heap.size, 0, none⟩) 0 0 [] := World.ownsRow_made w0 #[] 0 (Nat.le_refl _) (by simp) (by simp)
  obtain ⟨A', c', w', hrun, h2, h3, _⟩ := run_app_own T o.type hown (d := d) (hr.nw (World.grownBy_alloc w0 _ none) hB) h1 (by simpa using hsm.1) (by simpa using hsm.2) (by simp)
  rw [Nat.zero_add] at h2 hrun
  exact wp_ran (run_exec_append hop (by rw [hs, hx]; exact hrun)) (hK A' c' w' (by simpa using h2.more hbase) (nw_of_gb (World.grownBy_alloc w0 _ none) h3 (by simp [Value.ownBlock])))
end
end Go.BW

