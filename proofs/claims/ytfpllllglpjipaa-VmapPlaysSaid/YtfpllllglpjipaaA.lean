/- Places, changes, and the row and the map that hold them; each lemma under the premises that it states. -/
import Derived.Test.YtfpllllglpjipaaProg
import Derived.Test.YtfpllllglpjipaaLib
import Derived.Test.YtfpllllglpjipaaFlat
import Derived.Laws.StructEq
import Derived.MapKept
import Derived.Test.YtfpllllglpjipaaReg
namespace Go.Proofs.Ytfpllllglpjipaa
open Go.RowKit Go.BW

structure Wh where
  t : Int
  g : Int
  s : Int
deriving DecidableEq
structure Ch where
  b : Int
  to : Wh
deriving DecidableEq
def wc (x : Wh) : List Value := [.int .i64 x.t, .int .i64 x.g, .int .i64 x.s]
def cc (x : Ch) : List Value := [.int .i64 x.b, .int .i64 x.to.t, .int .i64 x.to.g, .int .i64 x.to.s]
theorem wc_len (x : Wh) : (wc x).length = 3 := rfl
theorem cc_len (x : Ch) : (cc x).length = 4 := rfl
theorem wc_one (x : Wh) : ∀ u ∈ wc x, u.oneCell' = true := by intro u hu; simp [wc] at hu; rcases hu with rfl | rfl | rfl <;> rfl
theorem cc_one (x : Ch) : ∀ u ∈ cc x, u.oneCell' = true := by intro u hu; simp [cc] at hu; rcases hu with rfl | rfl | rfl | rfl <;> rfl
theorem wc_inj (x y : Wh) (h : wc x = wc y) : x = y := by
  cases x; cases y
  simp [wc] at h
  simp [h]
def wv (x : Wh) : Value := .agg #[.int .i64 x.t, .int .i64 x.g, .int .i64 x.s]
def cv (x : Ch) : Value := .agg #[.int .i64 x.b, .int .i64 x.to.t, .int .i64 x.to.g, .int .i64 x.to.s]
def pv (p : Nat) : Value := .pointer (some ⟨p, 0, none⟩)
theorem wv_inj (x y : Wh) (h : wv x = wv y) : x = y := by
  cases x; cases y
  simp [wv] at h
  simp [h]
def w0 : Wh := ⟨0, 0, 0⟩
theorem T28 : El Try.prog 28 31 (wv w0) 3 24 := El.mk' Try.underlying28 (by kernel_rfl) rfl (by decide)
theorem T22 : El Try.prog 22 33 (cv ⟨0, w0⟩) 4 32 := El.mk' Try.underlying22 (by kernel_rfl) rfl (by decide)
theorem T41 : El Try.prog 41 3 (.int .i64 0) 1 8 := El.mk' Try.underlying41 (by kernel_rfl) rfl (by decide)
theorem fields31 : (Try.prog.fieldsOf 31).toList.map (fun f => (f.name, f.type, f.offset)) = [("Tier", 3, 0), ("Group", 3, 1), ("Slot", 3, 2)] := by kernel_rfl
theorem run_equal_where {w : World} (x y : Wh) : (Op.equal 31 (wv x) (wv y)).run Try.prog w = .ok (decide (x = y)) w := by
  show (Op.equalIn 10000 31 _ _).run Try.prog w = _
  unfold wv
  rw [run_equalIn_struct w 9999 31 _ _ (by kernel_rfl) (by kernel_rfl)]
  have hf : ∃ f0 f1 f2 : Field, (Try.prog.fieldsOf 31).toList = [f0, f1, f2] ∧ (f0.name, f0.type, f0.offset) = ("Tier", 3, 0) ∧ (f1.name, f1.type, f1.offset) = ("Group", 3, 1) ∧ (f2.name, f2.type, f2.offset) = ("Slot", 3, 2) := by
    have h := fields31
    generalize (Try.prog.fieldsOf 31).toList = l at h
    have h3 := congrArg List.length h
    simp only [List.length_map, List.length_cons, List.length_nil] at h3
    match l, h, h3 with
    | [f0, f1, f2], h, _ => simp only [List.map_cons, List.map_nil, List.cons.injEq, and_true] at h; exact ⟨f0, f1, f2, rfl, h.1, h.2.1, h.2.2⟩
  obtain ⟨f0, f1, f2, hl, h0, h1, h2⟩ := hf
  simp only [Prod.mk.injEq] at h0 h1 h2
  obtain ⟨n0, t0, o0⟩ := h0
  obtain ⟨n1, t1, o1⟩ := h1
  obtain ⟨n2, t2, o2⟩ := h2
  have hp : ∀ (cs : Array Value) (i : Nat) (v : Value), cs[i]? = some v → (part 3 cs i).run Try.prog w = .ok v w := by
    intro cs i v hi
    unfold part
    have hagg : (isAgg 3).run Try.prog w = .ok false w := by
      unfold isAgg
      rw [Sem.run_bind, run_underlying Try.underlying3 w]
      rfl
    rw [Sem.run_bind, hagg]
    simp [hi]
  have hp0 : ∀ a b c : Value, (part 3 #[a, b, c] 0).run Try.prog w = .ok a w := fun a b c => hp _ 0 _ rfl
  have hp1 : ∀ a b c : Value, (part 3 #[a, b, c] 1).run Try.prog w = .ok b w := fun a b c => hp _ 1 _ rfl
  have hp2 : ∀ a b c : Value, (part 3 #[a, b, c] 2).run Try.prog w = .ok c w := fun a b c => hp _ 2 _ rfl
  have he : ∀ a b : Int, (Op.equalIn 9999 3 (.int .i64 a) (.int .i64 b)).run Try.prog w = .ok (a == b) w := fun a b => run_equalIn_int w 9998 3 _ _ a b Try.underlying3
  rw [hl]
  simp only [Op.eqFields, n0, n1, n2, t0, t1, t2, o0, o1, o2]
  simp only [show ("Tier" ≠ "_") = True from by simp, show ("Group" ≠ "_") = True from by simp, show ("Slot" ≠ "_") = True from by simp, if_true, Sem.run_bind, hp0, hp1, hp2, Result.andThen_ok, he]
  obtain ⟨xt, xg, xs⟩ := x
  obtain ⟨yt, yg, ys⟩ := y
  by_cases e0 : xt = yt <;> by_cases e1 : xg = yg <;> by_cases e2 : xs = ys <;> simp [e0, e1, e2, hp0, hp1, hp2, he, Sem.run_pure, Sem.run_bind]

/-- the map at b holds these, the elder first -/
def MapAt (w : World) (b : Nat) (kv : List (Wh × Int)) : Prop :=
  ∃ es clock, w.heap[b]? = some (.map es clock) ∧ es.toList.map (fun e => (e.key, e.val)) = kv.map fun p => (wv p.1, .int .i64 p.2)
theorem MapAt.lt {w : World} {b : Nat} {kv : List (Wh × Int)} (h : MapAt w b kv) : b < w.heap.size := by
  obtain ⟨es, c, h1, _⟩ := h
  exact (Array.getElem?_eq_some_iff.1 h1).1
theorem MapAt.eq {w w' : World} {b : Nat} {kv : List (Wh × Int)} (h : MapAt w b kv) (e : w'.heap[b]? = w.heap[b]?) : MapAt w' b kv := by
  obtain ⟨es, c, h1, h2⟩ := h
  exact ⟨es, c, e.trans h1, h2⟩
theorem MapAt.nw {w w' : World} {b : Nat} {kv : List (Wh × Int)} (h : MapAt w b kv) (k : Nw w w') : MapAt w' b kv := h.eq (k.block b h.lt (by simp))
theorem MapAt.new (w : World) : MapAt (w.alloc (.map #[] 0)) w.heap.size [] := ⟨#[], 0, heap_alloc_new w _, rfl⟩
/-- the block at a place -/
def look (kv : List (Wh × Int)) (x : Wh) : Option Int := (kv.find? fun p => decide (x = p.1)).map (·.2)
theorem run_find {w : World} (x : Wh) : ∀ (es : List MapEntry) (kv : List (Wh × Int)) (i : Nat), es.map (fun e => (e.key, e.val)) = kv.map (fun p => (wv p.1, .int .i64 p.2)) →
    ∃ r, (Instr.findAsking 31 (wv x) es i).run Try.prog w = .ok r w ∧ r.map (·.2) = (look kv x).map (.int .i64 ·)
  | [], [], i, _ => ⟨none, rfl, rfl⟩
  | [], _ :: _, _, h => by simp at h
  | _ :: _, [], _, h => by simp at h
  | e :: es, p :: kv, i, h => by
    simp only [List.map_cons, List.cons.injEq, Prod.mk.injEq] at h
    obtain ⟨⟨h1, h2⟩, h3⟩ := h
    unfold Instr.findAsking look
    rw [Sem.run_bind, h1, run_equal_where]
    by_cases hx : x = p.1
    · simp [hx, Sem.run_pure, h2]
    · obtain ⟨r, h4, h5⟩ := run_find (w := w) x es kv (i + 1) h3
      simp only [Result.andThen_ok, decide_eq_false hx, Bool.false_eq_true, if_false, List.find?_cons]
      exact ⟨r, h4, h5⟩
theorem run_findKey {w : World} (x : Wh) (es : List MapEntry) (kv : List (Wh × Int)) (h : es.map (fun e => (e.key, e.val)) = kv.map (fun p => (wv p.1, .int .i64 p.2))) :
    ∃ r, (Instr.findKey 31 (wv x) es).run Try.prog w = .ok r w ∧ r.map (·.2) = (look kv x).map (.int .i64 ·) := by
  unfold Instr.findKey
  rw [Sem.run_bind, run_underlying Try.underlying31]
  simp only [Result.andThen_ok]
  cases es with
  | nil =>
    have : kv = [] := by cases kv; rfl; simp at h
    subst this
    exact ⟨none, rfl, rfl⟩
  | cons e es =>
    have hn : ∀ d, Instr.findNow (.struct d) (wv x) (e :: es) 0 = none := fun d => rfl
    rw [hn]
    exact run_find x (e :: es) kv 0 h
theorem run_part3 {w : World} {cs : Array Value} {i : Nat} {v : Value} (hi : cs[i]? = some v) : (part 3 cs i).run Try.prog w = .ok v w := by
  unfold part
  have hagg : (isAgg 3).run Try.prog w = .ok false w := by
    unfold isAgg
    rw [Sem.run_bind, run_underlying Try.underlying3 w]
    rfl
  rw [Sem.run_bind, hagg]
  simp [hi]
theorem run_checkKey3 {w : World} (em : Bool) (a : Int) : (Instr.checkKey em 9999 3 (.int .i64 a)).run Try.prog w = .ok () w := by
  unfold Instr.checkKey
  rw [Sem.run_bind, run_underlying Try.underlying3 w]
  rfl
theorem run_checkKey {w : World} (em : Bool) (x : Wh) : (Instr.checkKey em 10000 31 (wv x)).run Try.prog w = .ok () w := by
  have h0 : ∀ a b c : Value, (part 3 #[a, b, c] 0).run Try.prog w = .ok a w := fun a b c => run_part3 rfl
  have h1 : ∀ a b c : Value, (part 3 #[a, b, c] 1).run Try.prog w = .ok b w := fun a b c => run_part3 rfl
  have h2 : ∀ a b c : Value, (part 3 #[a, b, c] 2).run Try.prog w = .ok c w := fun a b c => run_part3 rfl
  unfold Instr.checkKey
  rw [Sem.run_bind, run_underlying Try.underlying31 w]
  unfold wv
  simp [Sem.run_bind, Sem.run_pure, h0, h1, h2, run_checkKey3]
theorem run_lookup {w : World} {b : Nat} {kv : List (Wh × Int)} (h : MapAt w b kv) (x : Wh) :
    (Instr.lookup 54 (.map (some b)) (wv x) true).run Try.prog w = .ok (.tuple #[.int .i64 ((look kv x).getD 0), .bool (look kv x).isSome]) w := by
  obtain ⟨es, clock, hb, hk⟩ := h
  obtain ⟨r, h1, h2⟩ := run_findKey (w := w) x es.toList kv hk
  have hz : (zeroValue 3).run Try.prog w = .ok (.int .i64 0) w := by
    obtain ⟨i, hi, hz, _⟩ := T41.info
    simp [zeroValue, typeInfo, hi, hz]
  unfold Instr.lookup
  rw [Sem.run_bind, run_underlying Try.underlying54]
  simp only [Result.andThen_ok, Sem.run_bind, MapKept.run_getObj_map hb, Sem.run_pure, run_checkKey, h1]
  rcases r with _ | ⟨j, v⟩
  · have : look kv x = none := by cases hl : look kv x; rfl; rw [hl] at h2; cases h2
    simp [this, hz, Sem.run_bind, Sem.run_pure]
  · cases hl : look kv x with
    | none => rw [hl] at h2; cases h2
    | some a =>
      rw [hl] at h2
      simp only [Option.map_some, Option.some.injEq] at h2
      simp [h2, Sem.run_bind, Sem.run_pure]
theorem run_update {w : World} {b : Nat} {kv : List (Wh × Int)} (h : MapAt w b kv) (x : Wh) (v : Int) (hn : look kv x = none) :
    ∃ w', (Instr.mapUpdate 54 (.map (some b)) (wv x) (.int .i64 v)).run Try.prog w = .ok () w' ∧ MapAt w' b (kv ++ [(x, v)]) ∧ w.grownBy w' (some b) := by
  obtain ⟨es, clock, hb, hk⟩ := h
  obtain ⟨r, h1, h2⟩ := run_findKey (w := w) x es.toList kv hk
  rw [hn] at h2
  have hr : r = none := by cases r; rfl; simp at h2
  subst hr
  have hlt := (Array.getElem?_eq_some_iff.1 hb).1
  refine ⟨{ w with heap := w.heap.setIfInBounds b (.map (es.push { key := wv x, val := .int .i64 v, born := clock }) (clock + 1)) }, ?_, ⟨es.push { key := wv x, val := .int .i64 v, born := clock }, clock + 1, ?_, ?_⟩, ⟨rfl, rfl, rfl, by simp, fun k hk hne => ?_⟩⟩
  · unfold Instr.mapUpdate
    rw [Sem.run_bind, run_underlying Try.underlying54]
    simp only [Result.andThen_ok, Sem.run_bind, MapKept.run_getObj_map hb, run_checkKey, h1]
    exact MapKept.run_setObj_map _ hb
  · simp [hlt]
  · simp [hk]
  · simp only [Array.getElem?_setIfInBounds]
    rw [if_neg (fun e => hne (by rw [e]))]
section
variable {P : Program} {ops : Array Oper} {rest : List Oper} {o : Oper} {a : Act} {Q : Exit → Act → World → Prop} {w : World}
theorem wpList_look (hP : P = Try.prog) (m x : Operand) (hop : o.op = .lookup 54 m x true) (hw : Region.wanted o (yielded ops a.tmps) = true) {b : Nat} {kv : List (Wh × Int)} (hm : a.eval m = .map (some b)) (y : Wh) (hx : a.eval x = wv y) (h : MapAt w b kv)
    (hK : wpList P ops Q rest (a.put o.dst (.tuple #[.int .i64 ((look kv y).getD 0), .bool (look kv y).isSome])) w) : wpList P ops Q (o :: rest) a w := by
  subst hP
  refine wpList_ran hw (w' := w) ?_ hK
  unfold execOp
  simp [hop, hm, hx, run_lookup h]
theorem wpList_upd (hP : P = Try.prog) (m x v : Operand) (hop : o.op = .mapUpdate 54 m x v) (hw : Region.wanted o (yielded ops a.tmps) = true) {b : Nat} {kv : List (Wh × Int)} (hm : a.eval m = .map (some b)) (y : Wh) (hx : a.eval x = wv y) (z : Int) (hv : a.eval v = .int .i64 z) (h : MapAt w b kv) (hn : look kv y = none)
    (hK : ∀ w', MapAt w' b (kv ++ [(y, z)]) → w.grownBy w' (some b) → wpList P ops Q rest (a.put o.dst undef) w') : wpList P ops Q (o :: rest) a w := by
  subst hP
  obtain ⟨w', h1, h2, h3⟩ := run_update h y z hn
  refine wpList_ran_skip hw (w' := w') ?_ (hK w' h2 h3)
  unfold execOp
  simp [hop, hm, hx, hv, h1]
theorem run_eq_wh (neg : Bool) (x y : Operand) (t2 : TypeId) (hop : o.op = .binOp (if neg then .neq else .eql) 31 x y t2) (p q : Wh) (hx : a.eval x = wv p) (hy : a.eval y = wv q) : (execOp a.eval o).run Try.prog w = .ok (.value (.bool (neg ^^ decide (p = q)))) w := by
  have hg : ∀ op : BinOp, (eqGuard op 31 x y (wv p) (wv q)).run Try.prog w = .ok () w := fun op => Go.BW.run_eqGuard_agg x y _ _ (by kernel_rfl)
  have he : (binOp .eql 31 (wv p) (wv q)).run Try.prog w = .ok (.bool (decide (p = q))) w := by
    have := run_equal_where (w := w) p q
    unfold wv at this ⊢
    simp only [binOp]
    simp [this]
  have hn : (binOp .neq 31 (wv p) (wv q)).run Try.prog w = .ok (.bool (!decide (p = q))) w := by
    have := run_equal_where (w := w) p q
    unfold wv at this ⊢
    simp only [binOp]
    simp [this]
  unfold execOp
  cases neg
  · simp only [hop, hx, hy, Sem.run_bind, if_false, Bool.false_eq_true, hg, Result.andThen_ok, he, Sem.run_pure, Bool.false_bne]
  · simp only [hop, hx, hy, Sem.run_bind, if_true, hg, Result.andThen_ok, hn, Sem.run_pure, Bool.true_bne]
theorem wpList_eq_wh (hP : P = Try.prog) (neg : Bool) (x y : Operand) (t2 : TypeId) (hop : o.op = .binOp (if neg then .neq else .eql) 31 x y t2) (hw : Region.wanted o (yielded ops a.tmps) = true) (p q : Wh) (hx : a.eval x = wv p) (hy : a.eval y = wv q) (r : Bool) (hr : (neg ^^ decide (p = q)) = r)
    (hK : wpList P ops Q rest (a.put o.dst (.bool r)) w) : wpList P ops Q (o :: rest) a w := by
  subst hP; subst hr
  exact wpList_ran hw (run_eq_wh neg x y t2 hop p q hx hy) hK
end
def eqW (p q : Wh) : Bool := decide (p = q)
theorem eqW_iff {p q : Wh} : eqW p q = true ↔ p = q := by unfold eqW; simp
theorem eqW_self (p : Wh) : eqW p p = true := by unfold eqW; simp
theorem eqW_ne {p q : Wh} (h : p ≠ q) : eqW p q = false := by unfold eqW; simp [h]
section
variable {P : Program} {ops : Array Oper} {rest : List Oper} {o : Oper} {a : Act} {Q : Exit → Act → World → Prop} {w : World}
theorem wpList_eqW (hP : P = Try.prog) (x y : Operand) (t2 : TypeId) (hop : o.op = .binOp .eql 31 x y t2) (hw : Region.wanted o (yielded ops a.tmps) = true) (p q : Wh) (hx : a.eval x = wv p) (hy : a.eval y = wv q) {r : Bool} (hr : eqW p q = r)
    (hK : wpList P ops Q rest (a.put o.dst (.bool r)) w) : wpList P ops Q (o :: rest) a w :=
  wpList_eq_wh hP false x y t2 hop hw p q hx hy r (by rw [← hr]; unfold eqW; simp) hK
theorem wpList_neW (hP : P = Try.prog) (x y : Operand) (t2 : TypeId) (hop : o.op = .binOp .neq 31 x y t2) (hw : Region.wanted o (yielded ops a.tmps) = true) (p q : Wh) (hx : a.eval x = wv p) (hy : a.eval y = wv q) {r : Bool} (hr : eqW p q = !r)
    (hK : wpList P ops Q rest (a.put o.dst (.bool r)) w) : wpList P ops Q (o :: rest) a w :=
  wpList_eq_wh hP true x y t2 hop hw p q hx hy r (by unfold eqW at hr; rw [hr]; simp) hK
end
section
variable {P : Program} {ops : Array Oper} {S : World → Prop} {R : Act → Prop} {rest : List Oper} {o : Oper} {a : Act}
theorem wpYield_eq_wh (hP : P = Try.prog) (neg : Bool) (x y : Operand) (t2 : TypeId) (hop : o.op = .binOp (if neg then .neq else .eql) 31 x y t2) (hw : Region.wanted o (yielded ops a.tmps) = true) (p q : Wh) (hx : a.eval x = wv p) (hy : a.eval y = wv q) (r : Bool) (hr : (neg ^^ decide (p = q)) = r)
    (hK : wpYield P ops S R rest (a.put o.dst (.bool r))) : wpYield P ops S R (o :: rest) a := by
  subst hP; subst hr
  exact wpYield_val hw (fun w' _ => run_eq_wh neg x y t2 hop p q hx hy) hK
theorem wpYield_look (hP : P = Try.prog) (m x : Operand) (hop : o.op = .lookup 54 m x true) (hw : Region.wanted o (yielded ops a.tmps) = true) {b : Nat} {kv : List (Wh × Int)} (hm : a.eval m = .map (some b)) (y : Wh) (hx : a.eval x = wv y) (h : ∀ w', S w' → MapAt w' b kv)
    (hK : wpYield P ops S R rest (a.put o.dst (.tuple #[.int .i64 ((look kv y).getD 0), .bool (look kv y).isSome]))) : wpYield P ops S R (o :: rest) a := by
  subst hP
  refine wpYield_val hw (fun w' hw' => ?_) hK
  unfold execOp
  simp [hop, hm, hx, run_lookup (h w' hw')]
end
end Go.Proofs.Ytfpllllglpjipaa

