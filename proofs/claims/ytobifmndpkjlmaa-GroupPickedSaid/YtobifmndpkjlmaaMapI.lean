/- A map whose keys are ints, as a function: look-up, update, clearing; for any program of the model; each under the premises that it states. -/
import Derived.Test.YtobifmndpkjlmaaApp
import Derived.MapKept
namespace Go.BW
open Go.RowKit

def lookI (kv : List (Int × Value)) (x : Int) : Option Value := (kv.find? (·.1 == x)).map (·.2)
def updI (x : Int) (v : Value) : List (Int × Value) → List (Int × Value)
  | [] => []
  | p :: l => if p.1 == x then (x, v) :: l else p :: updI x v l
def ekv (e : MapEntry) : Value × Value := (e.key, e.val)
def pkv (p : Int × Value) : Value × Value := (.int .i64 p.1, p.2)
/-- the map at b: what each int leads to -/
def MapI (w : World) (b : Nat) (f : Int → Option Value) : Prop :=
  ∃ es clock, w.heap[b]? = some (.map es clock) ∧ ∃ kv : List (Int × Value), es.toList.map ekv = kv.map pkv ∧ ∀ x, lookI kv x = f x
section
variable {w w' : World} {b : Nat} {f : Int → Option Value}
theorem MapI.lt (h : MapI w b f) : b < w.heap.size := by
  obtain ⟨es, c, h1, _⟩ := h
  exact (Array.getElem?_eq_some_iff.1 h1).1
theorem MapI.eq (h : MapI w b f) (e : w'.heap[b]? = w.heap[b]?) : MapI w' b f := by
  obtain ⟨es, c, h1, h2⟩ := h
  exact ⟨es, c, e.trans h1, h2⟩
theorem MapI.nw (h : MapI w b f) (k : Nw w w') : MapI w' b f := h.eq (k.block b h.lt (by simp))
theorem MapI.drewN (h : MapI w b f) (k : Nat) : MapI (w.drewN k) b f := h
theorem MapI.new (w : World) : MapI (w.alloc (.map #[] 0)) w.heap.size (fun _ => none) := ⟨#[], 0, heap_alloc_new w _, [], rfl, fun _ => rfl⟩
/-- a map and a row are unlike blocks -/
theorem MapI.ne {g : Nat} {t : TypeId} {cs : Array Value} (h : MapI w b f) (k : Obj1 w g t cs) : b ≠ g := by
  rintro rfl
  obtain ⟨es, c, h1, _⟩ := h
  unfold Obj1 at k
  rw [k] at h1
  cases h1
end
theorem lookI_upd (x : Int) (v : Value) (y : Int) : ∀ kv : List (Int × Value), lookI kv x ≠ none → lookI (updI x v kv) y = if y = x then some v else lookI kv y
  | [], h => absurd rfl h
  | p :: l, h => by
    unfold updI
    by_cases hp : p.1 = x
    · rw [if_pos (by simpa using hp)]
      by_cases hy : y = x
      · subst hy; simp [lookI]
      · have h1 : ¬ x = y := fun e => hy e.symm
        have h2 : ¬ p.1 = y := by rw [hp]; exact h1
        simp [lookI, List.find?_cons, beq_eq_false_iff_ne.2 h1, beq_eq_false_iff_ne.2 h2, hy]
    · rw [if_neg (by simpa using hp)]
      have h' : lookI l x ≠ none := by
        intro e; apply h
        simpa [lookI, List.find?_cons, beq_eq_false_iff_ne.2 hp] using e
      have ih := lookI_upd x v y l h'
      by_cases hpy : p.1 = y
      · have hyx : ¬ y = x := by rw [← hpy]; exact hp
        simp [lookI, List.find?_cons, hpy, hyx]
      · simp only [lookI, List.find?_cons, beq_eq_false_iff_ne.2 hpy] at ih ⊢
        exact ih
theorem lookI_push (x : Int) (v : Value) (y : Int) (kv : List (Int × Value)) (h : lookI kv x = none) : lookI (kv ++ [(x, v)]) y = if y = x then some v else lookI kv y := by
  unfold lookI at h ⊢
  rw [Option.map_eq_none_iff] at h
  rw [List.find?_append]
  by_cases hy : y = x
  · subst hy; rw [h]; simp
  · have hx : ¬ x = y := fun e => hy e.symm
    cases hk : kv.find? (·.1 == y) <;> simp [hy, hx]
theorem find_I (d : IntKind) (x : Int) (v : Value) : ∀ (es : List MapEntry) (kv : List (Int × Value)) (i : Nat), es.map ekv = kv.map pkv →
    (lookI kv x = none ∧ Instr.findNow (.int d) (.int .i64 x) es i = some none) ∨
    ∃ j u, Instr.findNow (.int d) (.int .i64 x) es i = some (some (i + j, u)) ∧ lookI kv x = some u ∧ (es[j]?).map (·.key) = some (.int .i64 x) ∧
      (es.modify j fun e => { e with key := .int .i64 x, val := v }).map ekv = (updI x v kv).map pkv
  | [], [], _, _ => .inl ⟨rfl, rfl⟩
  | [], _ :: _, _, h => by simp at h
  | _ :: _, [], _, h => by simp at h
  | e :: es, p :: kv, i, h => by
    simp only [List.map_cons, List.cons.injEq] at h
    obtain ⟨h1, h2⟩ := h
    unfold ekv pkv at h1
    injection h1 with hk hv
    unfold Instr.findNow
    rw [hk]
    simp only [Instr.sameNow, if_true]
    by_cases hp : p.1 = x
    · rw [show (x == p.1) = true by simpa using hp.symm]
      refine .inr ⟨0, e.val, rfl, ?_, ?_, ?_⟩
      · simp [lookI, hp, hv]
      · rw [← hp]; simp [hk]
      · simp only [List.modify_zero_cons, List.map_cons, updI, hp, beq_self_eq_true, if_true, h2]
        rfl
    · rw [show (x == p.1) = false by rw [beq_eq_false_iff_ne]; exact fun e => hp e.symm]
      simp only
      have hne := beq_eq_false_iff_ne.2 hp
      rcases find_I d x v es kv (i + 1) h2 with ⟨h3, h4⟩ | ⟨j, u, h3, h4, h5, h6⟩
      · exact .inl ⟨by simpa [lookI, List.find?_cons, hne] using h3, h4⟩
      · refine .inr ⟨j + 1, u, by rw [h3, Nat.add_assoc, Nat.add_comm 1 j], by simpa [lookI, List.find?_cons, hne] using h4, by simpa using h5, ?_⟩
        simp only [List.modify_succ_cons, List.map_cons, updI, hne, Bool.false_eq_true, if_false, h6, List.cons.injEq, and_true]
        show (e.key, e.val) = (Value.int .i64 p.1, p.2)
        rw [hk, hv]
section
variable {P : Program} {w : World} {b : Nat} {f : Int → Option Value}
structure MapT (P : Program) (t k e : TypeId) (z : Value) : Prop where
  ht : P.underlying t = some (.map k e)
  hk : P.underlying k = some (.int .i64)
  hz : ∀ w, (zeroValue e).run P w = .ok z w
variable {t k e : TypeId} {z : Value}
theorem run_check_I (T : MapT P t k e z) (em : Bool) (x : Int) : (Instr.checkKey em 10000 k (.int .i64 x)).run P w = .ok () w := by
  unfold Instr.checkKey
  rw [Sem.run_bind, run_underlying T.hk w]
  rfl
theorem run_lookup_I (T : MapT P t k e z) (h : MapI w b f) (x : Int) : (Instr.lookup t (.map (some b)) (.int .i64 x) false).run P w = .ok ((f x).getD z) w := by
  obtain ⟨es, clock, hb, kv, hkv, hf⟩ := h
  unfold Instr.lookup Instr.findKey
  rw [Sem.run_bind, run_underlying T.ht]
  simp only [Result.andThen_ok, Sem.run_bind, MapKept.run_getObj_map hb, Sem.run_pure, run_check_I T, run_underlying T.hk]
  rcases find_I .i64 x z es.toList kv 0 hkv with ⟨h1, h2⟩ | ⟨j, u, h1, h2, _⟩
  · rw [h2, ← hf, h1]
    simp [Sem.run_bind, Sem.run_pure, T.hz]
  · rw [h1, ← hf, h2]
    simp [Sem.run_bind, Sem.run_pure]
theorem run_update_I (T : MapT P t k e z) (h : MapI w b f) (x : Int) (v : Value) :
    ∃ w', (Instr.mapUpdate t (.map (some b)) (.int .i64 x) v).run P w = .ok () w' ∧ MapI w' b (fun y => if y = x then some v else f y) ∧ w.grownBy w' (some b) := by
  obtain ⟨es, clock, hb, kv, hkv, hf⟩ := h
  have hlt := (Array.getElem?_eq_some_iff.1 hb).1
  have hgr : ∀ o : Obj, w.grownBy { w with heap := w.heap.setIfInBounds b o } (some b) := fun o => ⟨rfl, rfl, rfl, by simp, fun k hk hne => by
    simp only [Array.getElem?_setIfInBounds]
    rw [if_neg (fun e => hne (by rw [e]))]⟩
  have hrun : ∀ o : Obj, (setObj b o).run P w = .ok () { w with heap := w.heap.setIfInBounds b o } := fun o => MapKept.run_setObj_map _ hb
  rcases find_I .i64 x v es.toList kv 0 hkv with ⟨h1, h2⟩ | ⟨j, u, h1, h2, h3, h4⟩
  · refine ⟨_, ?_, ⟨es.push { key := .int .i64 x, val := v, born := clock }, clock + 1, ?_, kv ++ [(x, v)], ?_, ?_⟩, hgr (.map (es.push { key := .int .i64 x, val := v, born := clock }) (clock + 1))⟩
    · unfold Instr.mapUpdate Instr.findKey
      rw [Sem.run_bind, run_underlying T.ht]
      simp only [Result.andThen_ok, Sem.run_bind, MapKept.run_getObj_map hb, run_check_I T, run_underlying T.hk, h2, Sem.run_pure]
      exact hrun _
    · simp [hlt]
    · simp [hkv, ekv, pkv]
    · intro y; rw [lookI_push _ _ _ _ h1, hf]
  · have hsame : ∀ x : Int, Instr.sameBits 10000 (.int .i64 x) (.int .i64 x) = true := fun x => by simp [Instr.sameBits]
    refine ⟨_, ?_, ⟨es.modify j fun e => { e with key := .int .i64 x, val := v }, clock, ?_, updI x v kv, ?_, ?_⟩, hgr (.map (es.modify j fun e => { e with key := .int .i64 x, val := v }) clock)⟩
    · unfold Instr.mapUpdate Instr.findKey
      rw [Sem.run_bind, run_underlying T.ht]
      simp only [Result.andThen_ok, Sem.run_bind, MapKept.run_getObj_map hb, run_check_I T, run_underlying T.hk, h1, Sem.run_pure, Nat.zero_add]
      have h3' : (Option.map (fun x => x.key) es[j]?).getD (Value.int .i64 x) = .int .i64 x := by
        rw [show es[j]? = es.toList[j]? by simp, h3]; rfl
      rw [h3']
      unfold Instr.keyThatStays
      rw [hsame]
      simp only [if_true, Sem.run_pure, Result.andThen_ok]
      exact hrun _
    · simp [hlt]
    · rw [Array.toList_modify]; exact h4
    · intro y; rw [lookI_upd _ _ _ _ (by rw [h2]; simp), hf]
theorem run_clear_I (T : MapT P t k e z) (ty : TypeId) (h : MapI w b f) : ∃ w', (Builtin.clear_ #[t] ty #[.map (some b)]).run P w = .ok (.tuple #[]) w' ∧ MapI w' b (fun _ => none) ∧ w.grownBy w' (some b) := by
  obtain ⟨es, clock, hb, kv, hkv, hf⟩ := h
  have hlt := (Array.getElem?_eq_some_iff.1 hb).1
  refine ⟨{ w with heap := w.heap.setIfInBounds b (.map #[] clock) }, ?_, ⟨#[], clock, by simp [hlt], [], rfl, fun _ => rfl⟩, ⟨rfl, rfl, rfl, by simp, fun k hk hne => by
    simp only [Array.getElem?_setIfInBounds]
    rw [if_neg (fun e => hne (by rw [e]))]⟩⟩
  unfold Builtin.clear_
  simp only [List.getElem?_toArray, List.getElem?_cons_zero]
  rw [Sem.run_bind, run_underlying T.ht]
  simp only [Result.andThen_ok, Sem.run_bind, MapKept.run_getObj_map hb, MapKept.run_setObj_map _ hb, Sem.run_pure]
variable {ops : Array Oper} {rest : List Oper} {o : Oper} {a : Act} {Q : Exit → Act → World → Prop}
theorem wpList_lookI (T : MapT P t k e z) (m x : Operand) (hop : o.op = .lookup t m x false) (hw : Region.wanted o (yielded ops a.tmps) = true) (hm : a.eval m = .map (some b)) (y : Int) (hx : a.eval x = .int .i64 y) (h : MapI w b f)
    {v : Value} (hv : (f y).getD z = v) (hK : wpList P ops Q rest (a.put o.dst v) w) : wpList P ops Q (o :: rest) a w := by
  subst hv
  refine wpList_ran hw (w' := w) ?_ hK
  unfold execOp
  simp [hop, hm, hx, run_lookup_I T h]
theorem wpList_updI (T : MapT P t k e z) (m x v : Operand) (hop : o.op = .mapUpdate t m x v) (hw : Region.wanted o (yielded ops a.tmps) = true) (hm : a.eval m = .map (some b)) (y : Int) (hx : a.eval x = .int .i64 y) (u : Value) (hv : a.eval v = u) (h : MapI w b f)
    (hK : ∀ w', MapI w' b (fun z => if z = y then some u else f z) → w.grownBy w' (some b) → wpList P ops Q rest (a.put o.dst undef) w') : wpList P ops Q (o :: rest) a w := by
  obtain ⟨w', h1, h2, h3⟩ := run_update_I T h y u
  refine wpList_ran_skip hw (w' := w') ?_ (hK w' h2 h3)
  unfold execOp
  simp [hop, hm, hx, hv, h1]
theorem wpList_clearI (T : MapT P t k e z) (m : Operand) (hop : o.op = .call { callee := .builtin .clear, args := #[m], argTypes := #[t] }) (hw : Region.wanted o (yielded ops a.tmps) = true) (hm : a.eval m = .map (some b)) (h : MapI w b f)
    (hK : ∀ w', MapI w' b (fun _ => none) → w.grownBy w' (some b) → wpList P ops Q rest (a.put o.dst (.tuple #[])) w') : wpList P ops Q (o :: rest) a w := by
  obtain ⟨w', h1, h2, h3⟩ := run_clear_I T o.type h
  refine wpList_ran hw (w' := w') ?_ (hK w' h2 h3)
  unfold execOp
  simp only [hop, resolve, invoke, builtin, Sem.run_bind, Sem.run_pure, Result.andThen_ok, List.map_toArray, List.map_cons, List.map_nil, hm, h1]
end
end Go.BW

