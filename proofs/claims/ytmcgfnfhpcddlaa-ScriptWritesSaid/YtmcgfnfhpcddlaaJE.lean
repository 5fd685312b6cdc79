/- Acts and scripts in memory: their cells, what loads and stores of them do, and when two acts are the same; for all of them. -/
import Derived.Test.YtmcgfnfhpcddlaaProg
import Derived.Test.YtmcgfnfhpcddlaaJC
import Derived.Test.YtmcgfnfhpcddlaaJA
import Derived.Deep.Cut
import Derived.Deep.CutRange
import Derived.Deep.DeepCutAuto
set_option linter.unusedVariables false
set_option linter.unusedSimpArgs false
/- Acts and scripts in memory: their cells, what loads and stores of them do, and when two acts are the same; for all of them. -/
namespace Go.Proofs.Ytmcgfnfhpcddlaa
open Go.RowKit Go.BW

def uv (x : Nat) : Value := .int .u64 (x : Int)
/-- a sector's bytes, sixty-four in any case -/
def p64 (s : List UInt8) : List UInt8 := (s ++ z64).take 64
theorem p64_len (s : List UInt8) : (p64 s).length = 64 := by unfold p64 z64; simp
theorem p64_of {s : List UInt8} (h : s.length = 64) : p64 s = s := by unfold p64; rw [← h]; exact List.take_left
def actC (a : Act) : List Value := [iv a.k, iv a.b] ++ ((p64 a.s).map bv ++ [iv a.n, iv a.at', uv a.m])
theorem actC_len (a : Act) : (actC a).length = 69 := by simp [actC, p64_len]
theorem actC_one (a : Act) : ∀ u ∈ actC a, u.oneCell' = true := by
  intro u hu
  unfold actC at hu
  simp only [List.mem_append, List.mem_cons, List.not_mem_nil, or_false, List.mem_map] at hu
  rcases hu with (rfl | rfl) | (⟨c, _, rfl⟩ | (rfl | rfl | rfl)) <;> rfl
theorem actC_k (a : Act) : (actC a)[0]? = some (.int .i64 a.k) := rfl
theorem actC_b (a : Act) : (actC a)[1]? = some (.int .i64 a.b) := rfl
theorem actC_s (a : Act) {j : Nat} {v : Value} (h : ((p64 a.s).map bv)[j]? = some v) : (actC a)[2 + j]? = some v := by
  have hj := (List.getElem?_eq_some_iff.1 h).1
  unfold actC
  rw [List.getElem?_append_right (by simp), List.getElem?_append_left (by simp only [List.length_cons, List.length_nil]; omega)]
  rw [← h]; congr 1
  simp only [List.length_cons, List.length_nil]; omega
theorem actC_tail (a : Act) (j : Nat) : (actC a)[66 + j]? = [iv a.n, iv a.at', uv a.m][j]? := by
  have hl := p64_len a.s
  unfold actC
  rw [List.getElem?_append_right (by simp only [List.length_cons, List.length_nil]; omega), List.getElem?_append_right (by simp [hl]; omega)]
  congr 1
  simp [hl]; omega
theorem actC_n (a : Act) : (actC a)[66]? = some (.int .i64 a.n) := actC_tail a 0
theorem actC_t (a : Act) : (actC a)[67]? = some (.int .i64 a.at') := actC_tail a 1
theorem actC_m (a : Act) : (actC a)[68]? = some (.int .u64 (a.m : Int)) := actC_tail a 2
theorem set_tail (a : Act) (j : Nat) (v : Value) : (actC a).set (66 + j) v = [iv a.k, iv a.b] ++ ((p64 a.s).map bv ++ [iv a.n, iv a.at', uv a.m].set j v) := by
  have hl := p64_len a.s
  unfold actC
  rw [List.set_append_right _ _ (by simp only [List.length_cons, List.length_nil]; omega), List.set_append_right _ _ (by simp [hl]; omega)]
  congr 3
  simp [hl]; omega
theorem set_b (a : Act) (x : Int) : (actC a).set 1 (.int .i64 x) = actC ⟨a.k, x, a.s, a.n, a.at', a.m⟩ := rfl
theorem set_n (a : Act) (x : Int) : (actC a).set 66 (.int .i64 x) = actC ⟨a.k, a.b, a.s, x, a.at', a.m⟩ := set_tail a 0 _
theorem set_t (a : Act) (x : Int) : (actC a).set 67 (.int .i64 x) = actC ⟨a.k, a.b, a.s, a.n, x, a.m⟩ := set_tail a 1 _
theorem set_m (a : Act) (x : Nat) : (actC a).set 68 (.int .u64 (x : Int)) = actC ⟨a.k, a.b, a.s, a.n, a.at', x⟩ := set_tail a 2 _
theorem set_s (a : Act) (s : List UInt8) (h : s.length = 64) : splice (actC a) 2 (s.map bv) = actC ⟨a.k, a.b, s, a.n, a.at', a.m⟩ := by
  have hl := p64_len a.s
  unfold splice actC
  rw [p64_of h]
  have e1 : ([iv a.k, iv a.b] ++ ((p64 a.s).map bv ++ [iv a.n, iv a.at', uv a.m])).take 2 = [iv a.k, iv a.b] := rfl
  have e2 : ([iv a.k, iv a.b] ++ ((p64 a.s).map bv ++ [iv a.n, iv a.at', uv a.m])).drop (2 + (s.map bv).length) = [iv a.n, iv a.at', uv a.m] := by
    rw [List.length_map, h]
    show ((p64 a.s).map bv ++ [iv a.n, iv a.at', uv a.m]).drop 64 = _
    have := List.drop_left (l₁ := (p64 a.s).map bv) (l₂ := [iv a.n, iv a.at', uv a.m])
    rwa [List.length_map, hl] at this
  rw [e1, e2]
/-- an act as a variable -/
def ActO (w : World) (g : Nat) (a : Act) : Prop := Obj1 w g 44 (actC a).toArray
section
variable {w w' : World} {g : Nat} {a : Act}
theorem ActO.nw (h : ActO w g a) (k : Nw w w') : ActO w' g a := Obj1.nw h k
theorem ActO.at (h : ActO w g a) {i : Nat} {v : Value} (hv : (actC a)[i]? = some v) : w.cell? ⟨g, i, none⟩ = some v := by
  rw [Obj1.cell h i, List.getElem?_toArray]; exact hv
theorem ActO.k (h : ActO w g a) : w.cell? ⟨g, 0, none⟩ = some (.int .i64 a.k) := h.at (actC_k a)
theorem ActO.b (h : ActO w g a) : w.cell? ⟨g, 1, none⟩ = some (.int .i64 a.b) := h.at (actC_b a)
theorem ActO.n (h : ActO w g a) : w.cell? ⟨g, 66, none⟩ = some (.int .i64 a.n) := h.at (actC_n a)
theorem ActO.t (h : ActO w g a) : w.cell? ⟨g, 67, none⟩ = some (.int .i64 a.at') := h.at (actC_t a)
theorem ActO.m (h : ActO w g a) : w.cell? ⟨g, 68, none⟩ = some (.int .u64 (a.m : Int)) := h.at (actC_m a)
theorem ActO.s (h : ActO w g a) : ∀ j u, ((p64 a.s).map bv)[j]? = some u → w.cell? ⟨g, 2 + j, none⟩ = some u := fun _ _ hu => h.at (actC_s a hu)
theorem ActO.set (h : ActO w g a) {b : Act} (i : Nat) (v : Value) (e : (actC a).set i v = actC b) : ActO (w.setCell ⟨g, i, none⟩ v) g b := by
  have := Obj1.set h i v
  unfold ActO
  rw [← e]
  simpa using this
end
theorem T22 : El Try.prog 22 3 (.int .i64 0) 1 8 := El.mk' Try.underlying22 (by kernel_rfl) rfl (by decide)
theorem T46 : El Try.prog 46 5 (.int .u8 0) 1 1 := El.mk' Try.underlying46 (by kernel_rfl) rfl (by decide)
theorem actC0 : (Value.agg (actC (a0 0)).toArray).cells.size = 69 := by show (actC (a0 0)).toArray.size = 69; rw [List.size_toArray, actC_len]
set_option maxRecDepth 100000 in
theorem z44 : (Try.prog.info? 44).map (fun i => (i.zero, i.size, i.bytes)) = some (some (.agg (actC (a0 0)).toArray), 69, 104) := by kernel_rfl
theorem T23 : El Try.prog 23 44 (.agg (actC (a0 0)).toArray) 69 104 := El.mk' Try.underlying23 z44 actC0 (by decide)
theorem i44 : (Try.prog.info? 44).map (·.size) = some 69 := by kernel_rfl
theorem i44' (a : Act) : (Try.prog.info? 44).map (·.size) = some (actC a).length := by rw [actC_len]; exact i44
theorem i44a (a : Act) : (Try.prog.info? 44).map (·.size) = some (actC a).toArray.size := by rw [List.size_toArray, actC_len]; exact i44
theorem i33 : (Try.prog.info? 33).map (·.size) = some 64 := by kernel_rfl
theorem i33' {s : List UInt8} (h : s.length = 64) : (Try.prog.info? 33).map (·.size) = some (s.map bv).length := by rw [List.length_map, h]; exact i33
theorem i5 : (Try.prog.info? 5).map (·.size) = some 1 := by kernel_rfl
theorem i3 : (Try.prog.info? 3).map (·.size) = some 1 := by kernel_rfl

/-! equality -/
theorem run_equalIn_arr {P : Program} {w : World} {D : Nat} (d : Nat) (hD : D = d + 2) (t e : TypeId) (N : Nat) (xs ys : List UInt8) (ht : P.underlying t = some (.array N e)) (he : P.underlying e = some (.int .u8)) (hs : (P.info? e).map (·.size) = some 1) (hx : xs.length = N) (hy : ys.length = N) :
    (Op.equalIn D t (.agg (xs.map bv).toArray) (.agg (ys.map bv).toArray)).run P w = .ok (decide (xs = ys)) w := by
  subst hD
  obtain ⟨i, hq, his⟩ := Option.map_eq_some_iff.1 hs
  have hsz : (sizeOf e).run P w = .ok 1 w := by simp [sizeOf, typeInfo, hq, his]
  unfold Op.equalIn
  have hl := run_eq_loop (w := w) e d xs ys he (by omega) N 0 (by omega) rfl
  simp only [Sem.run_bind, run_underlying ht, hsz, Result.andThen_ok]
  rw [Std.Legacy.Range.forIn_eq_forIn_range', show (Std.Legacy.Range.size [:N]) = N from by simp [Std.Legacy.Range.size]]
  have hl' : (forIn (m := Sem) (List.range' 0 N 1) ((none, ()) : Option Bool × Unit) (fun i _ => do
        if !(← Op.equalIn (d + 1) e (← part e (xs.map bv).toArray (i * 1)) (← part e (ys.map bv).toArray (i * 1))) then pure (ForInStep.done (some false, ()))
        else pure (ForInStep.yield (none, ())))).run P w = .ok (if xs = ys then (none, ()) else (some false, ())) w := hl
  simp only [hl', Result.andThen_ok]
  by_cases h : xs = ys <;> simp [h, Sem.run_pure]
theorem fields44 : (Try.prog.fieldsOf 44).toList.map (fun f => (f.name, f.type, f.offset)) = [("Kind", 3, 0), ("Block", 3, 1), ("S", 33, 2), ("N", 3, 66), ("At", 3, 67), ("Mask", 31, 68)] := by kernel_rfl
theorem part_int {w : World} {e : TypeId} {k : IntKind} (he : Try.prog.underlying e = some (.int k)) (cs : Array Value) (i : Nat) (v : Value) (hi : cs[i]? = some v) : (part e cs i).run Try.prog w = .ok v w := by
  unfold part
  have hagg : (isAgg e).run Try.prog w = .ok false w := by
    unfold isAgg
    rw [Sem.run_bind, run_underlying he w]
    rfl
  rw [Sem.run_bind, hagg]
  simp [hi]
theorem part_sec {w : World} {a : Act} (h : a.s.length = 64) : (part 33 (actC a).toArray 2).run Try.prog w = .ok (.agg (a.s.map bv).toArray) w := by
  have hagg : (isAgg 33).run Try.prog w = .ok true w := by
    unfold isAgg
    rw [Sem.run_bind, run_underlying Try.underlying33 w]
    rfl
  obtain ⟨i, hq, his⟩ := Option.map_eq_some_iff.1 i33
  have hsz : (sizeOf 33).run Try.prog w = .ok 64 w := by simp [sizeOf, typeInfo, hq, his]
  unfold part
  rw [Sem.run_bind, hagg]
  simp only [Result.andThen_ok, if_true, Sem.run_bind, hsz, Sem.run_pure]
  have : (actC a).toArray.extract 2 (2 + 64) = (a.s.map bv).toArray := by
    apply Array.toList_inj.1
    rw [Array.toList_extract]
    unfold actC
    rw [p64_of h]
    simp only [List.extract]
    show ((a.s.map bv) ++ [iv a.n, iv a.at', uv a.m]).take 64 = a.s.map bv
    have := List.take_left (l₁ := a.s.map bv) (l₂ := [iv a.n, iv a.at', uv a.m])
    rwa [List.length_map, h] at this
  rw [this]
theorem run_equal_act {w : World} {x y : Act} (hx : x.s.length = 64) (hy : y.s.length = 64) : (Op.equal 44 (.agg (actC x).toArray) (.agg (actC y).toArray)).run Try.prog w = .ok (decide (x = y)) w := by
  show (Op.equalIn 10000 44 _ _).run Try.prog w = _
  rw [run_equalIn_struct w 9999 44 _ _ (by kernel_rfl) (by kernel_rfl)]
  have hf : ∃ f0 f1 f2 f3 f4 f5 : Field, (Try.prog.fieldsOf 44).toList = [f0, f1, f2, f3, f4, f5] ∧ (f0.name, f0.type, f0.offset) = ("Kind", 3, 0) ∧ (f1.name, f1.type, f1.offset) = ("Block", 3, 1) ∧ (f2.name, f2.type, f2.offset) = ("S", 33, 2) ∧
      (f3.name, f3.type, f3.offset) = ("N", 3, 66) ∧ (f4.name, f4.type, f4.offset) = ("At", 3, 67) ∧ (f5.name, f5.type, f5.offset) = ("Mask", 31, 68) := by
    have h := fields44
    generalize (Try.prog.fieldsOf 44).toList = l at h
    have h3 := congrArg List.length h
    simp only [List.length_map, List.length_cons, List.length_nil] at h3
    match l, h, h3 with
    | [f0, f1, f2, f3, f4, f5], h, _ =>
      simp only [List.map_cons, List.map_nil, List.cons.injEq, and_true] at h
      exact ⟨f0, f1, f2, f3, f4, f5, rfl, h.1, h.2.1, h.2.2.1, h.2.2.2.1, h.2.2.2.2.1, h.2.2.2.2.2⟩
  obtain ⟨f0, f1, f2, f3, f4, f5, hl, h0, h1, h2, h3, h4, h5⟩ := hf
  simp only [Prod.mk.injEq] at h0 h1 h2 h3 h4 h5
  obtain ⟨n0, t0, o0⟩ := h0
  obtain ⟨n1, t1, o1⟩ := h1
  obtain ⟨n2, t2, o2⟩ := h2
  obtain ⟨n3, t3, o3⟩ := h3
  obtain ⟨n4, t4, o4⟩ := h4
  obtain ⟨n5, t5, o5⟩ := h5
  have hp : ∀ (a : Act) (i : Nat) (v : Value), (actC a)[i]? = some v → (part 3 (actC a).toArray i).run Try.prog w = .ok v w := fun a i v h => part_int Try.underlying3 _ i v (by rw [List.getElem?_toArray]; exact h)
  have hp0 := fun a => hp a 0 _ (actC_k a)
  have hp1 := fun a => hp a 1 _ (actC_b a)
  have hp3 := fun a => hp a 66 _ (actC_n a)
  have hp4 := fun a => hp a 67 _ (actC_t a)
  have hp5 : ∀ a, (part 31 (actC a).toArray 68).run Try.prog w = .ok (.int .u64 (a.m : Int)) w := fun a => part_int Try.underlying31 _ 68 _ (by rw [List.getElem?_toArray]; exact actC_m a)
  have he : ∀ a b : Int, (Op.equalIn 9999 3 (.int .i64 a) (.int .i64 b)).run Try.prog w = .ok (a == b) w := fun a b => run_equalIn_int w 9998 3 _ _ a b Try.underlying3
  have hm : ∀ a b : Int, (Op.equalIn 9999 31 (.int .u64 a) (.int .u64 b)).run Try.prog w = .ok (a == b) w := fun a b => run_equalIn_int w 9998 31 _ _ a b Try.underlying31
  have hs : (Op.equalIn 9999 33 (.agg (x.s.map bv).toArray) (.agg (y.s.map bv).toArray)).run Try.prog w = .ok (decide (x.s = y.s)) w := run_equalIn_arr (w := w) 9997 (by decide) 33 5 64 x.s y.s Try.underlying33 Try.underlying5 i5 hx hy
  rw [hl]
  have P0 := hp0 x; have Q0 := hp0 y; have P1 := hp1 x; have Q1 := hp1 y; have P2 := part_sec (w := w) hx; have Q2 := part_sec (w := w) hy; have P3 := hp3 x; have Q3 := hp3 y; have P4 := hp4 x; have Q4 := hp4 y; have P5 := hp5 x; have Q5 := hp5 y
  have hext : x = y ↔ x.k = y.k ∧ x.b = y.b ∧ x.s = y.s ∧ x.n = y.n ∧ x.at' = y.at' ∧ x.m = y.m := by
    refine ⟨ext_act, fun ⟨h1, h2, h3, h4, h5, h6⟩ => ?_⟩
    obtain ⟨xk, xb, xs, xn, xt, xm⟩ := x
    simp only at h1 h2 h3 h4 h5 h6
    subst h1; subst h2; subst h3; subst h4; subst h5; subst h6; rfl
  have hdec : decide (x = y) = ((x.k == y.k) && (x.b == y.b) && decide (x.s = y.s) && (x.n == y.n) && (x.at' == y.at') && ((x.m : Int) == (y.m : Int))) := by
    rw [Bool.eq_iff_iff]
    simp only [decide_eq_true_eq, Bool.and_eq_true, beq_iff_eq, hext, and_assoc]
    constructor <;> (rintro ⟨h1, h2, h3, h4, h5, h6⟩; exact ⟨h1, h2, h3, h4, h5, by omega⟩)
  have E0 := he x.k y.k; have E1 := he x.b y.b; have E3 := he x.n y.n; have E4 := he x.at' y.at'; have E5 := hm x.m y.m
  rw [hdec]
  clear hext hdec he hm hp hp0 hp1 hp3 hp4 hp5
  generalize (x.k == y.k) = b0 at E0 ⊢
  generalize (x.b == y.b) = b1 at E1 ⊢
  generalize decide (x.s = y.s) = b2 at hs ⊢
  generalize (x.n == y.n) = b3 at E3 ⊢
  generalize (x.at' == y.at') = b4 at E4 ⊢
  generalize ((x.m : Int) == (y.m : Int)) = b5 at E5 ⊢
  simp only [Op.eqFields, n0, n1, n2, n3, n4, n5, t0, t1, t2, t3, t4, t5, o0, o1, o2, o3, o4, o5, ne_eq, String.reduceEq, not_false_eq_true, if_true, Sem.run_bind, P0, Q0, Result.andThen_ok, E0]
  cases b0
  · simp [Sem.run_pure]
  simp only [Bool.not_true, Bool.false_eq_true, if_false, Bool.true_and]
  rw [Sem.run_bind, P1, Result.andThen_ok, Sem.run_bind, Q1, Result.andThen_ok, Sem.run_bind, E1, Result.andThen_ok]
  cases b1
  · simp [Sem.run_pure]
  simp only [Bool.not_true, Bool.false_eq_true, if_false, Bool.true_and]
  rw [Sem.run_bind, P2, Result.andThen_ok, Sem.run_bind, Q2, Result.andThen_ok, Sem.run_bind, hs, Result.andThen_ok]
  cases b2
  · simp [Sem.run_pure]
  simp only [Bool.not_true, Bool.false_eq_true, if_false, Bool.true_and]
  rw [Sem.run_bind, P3, Result.andThen_ok, Sem.run_bind, Q3, Result.andThen_ok, Sem.run_bind, E3, Result.andThen_ok]
  cases b3
  · simp [Sem.run_pure]
  simp only [Bool.not_true, Bool.false_eq_true, if_false, Bool.true_and]
  rw [Sem.run_bind, P4, Result.andThen_ok, Sem.run_bind, Q4, Result.andThen_ok, Sem.run_bind, E4, Result.andThen_ok]
  cases b4
  · simp [Sem.run_pure]
  simp only [Bool.not_true, Bool.false_eq_true, if_false, Bool.true_and]
  rw [Sem.run_bind, P5, Result.andThen_ok, Sem.run_bind, Q5, Result.andThen_ok, Sem.run_bind, E5, Result.andThen_ok]
  cases b5 <;> simp [Sem.run_pure]
end Go.Proofs.Ytmcgfnfhpcddlaa


/- Steps of a walk that build, load and store acts; which numbers may be; what script.bare returns. For all acts. -/
namespace Go.Proofs.Ytmcgfnfhpcddlaa
open Go.RowKit Go.BW

theorem splice_one {l : List Value} {i : Nat} {v : Value} (h : i < l.length) : splice l i [v] = l.set i v := by
  unfold splice
  rw [List.set_eq_take_append_cons_drop, if_pos h]
  rfl
theorem sec_one (s : List UInt8) : ∀ u ∈ s.map bv, u.oneCell' = true := by
  intro u hu; obtain ⟨c, _, rfl⟩ := List.mem_map.1 hu; rfl
theorem ActO.own {w : World} {g : Nat} {b : Act} (h : ActO w g b) : Own w 0 44 69 (some ⟨g, 0, none⟩) 1 1 (actC b) := by
  have := Obj1.own (size := 69) h (by rw [List.size_toArray, actC_len])
  simpa using this
theorem ActO.of_own {w : World} {base g : Nat} {b : Act} (h : Own w base 44 69 (some ⟨g, 0, none⟩) 1 1 (actC b)) : ActO w g b := h.row1'
section
variable {ops : Array Oper} {rest : List Oper} {o : Oper} {a : Go.Act} {Q : Exit → Go.Act → World → Prop} {w : World}
theorem wpList_alloc44 (hop : o.op = .alloc 44) (hw : Region.wanted o (yielded ops a.tmps) = true)
    (hK : ∀ g w', ActO w' g (a0 0) → Nw w w' → w.heap.size ≤ g → wpList Try.prog ops Q rest (a.put o.dst (.pointer (some ⟨g, 0, none⟩))) w') : wpList Try.prog ops Q (o :: rest) a w := by
  obtain ⟨i, hi, hz⟩ := Option.map_eq_some_iff.1 z44
  simp only [Prod.mk.injEq] at hz
  refine wpList_alloc (size := 69) 44 hop hw w.heap.size i hi hz.1 actC0 (Nat.le_refl _) fun g w' o1 n1 h1 => hK g w' ?_ n1 h1
  exact ActO.of_own o1
theorem wpList_store_act (ty : TypeId) (p x : Operand) (hop : o.op = .store ty p x) (hw : Region.wanted o (yielded ops a.tmps) = true) {g i : Nat} {b b' : Act} (cs : List Value)
    (hp : a.eval p = .pointer (some ⟨g, i, none⟩)) {v : Value} (hx : a.eval x = v) (hv : v.cells = cs.toArray) (hi : (Try.prog.info? ty).map (·.size) = some cs.length) (h1 : ∀ u ∈ cs, u.oneCell' = true)
    (ho : ActO w g b) (hfit : i + cs.length ≤ 69) (he : splice (actC b) i cs = actC b') (hK : ∀ w', ActO w' g b' → w.grownBy w' (some g) → wpList Try.prog ops Q rest (a.put o.dst undef) w') : wpList Try.prog ops Q (o :: rest) a w := by
  refine wpList_store_own (size := 69) ty p x hop hw hp hx hv hi h1 ho.own (by omega) fun w' h2 h3 => hK w' ?_ h3
  rw [he] at h2
  exact ActO.of_own h2
theorem wp_store_act {K : Go.Act → World → Prop} (ty : TypeId) (p x : Operand) (hop : o.op = .store ty p x) {g i : Nat} {b b' : Act} (cs : List Value)
    (hp : a.eval p = .pointer (some ⟨g, i, none⟩)) {v : Value} (hx : a.eval x = v) (hv : v.cells = cs.toArray) (hi : (Try.prog.info? ty).map (·.size) = some cs.length) (h1 : ∀ u ∈ cs, u.oneCell' = true)
    (ho : ActO w g b) (hfit : i + cs.length ≤ 69) (he : splice (actC b) i cs = actC b') (hK : ∀ w', ActO w' g b' → w.grownBy w' (some g) → K (a.put o.dst undef) w') : o.wp Try.prog a w K Q := by
  refine wp_store_own (size := 69) ty p x hop hp hx hv hi h1 ho.own (by omega) fun w' h2 h3 => hK w' ?_ h3
  rw [he] at h2
  exact ActO.of_own h2
theorem wpList_store44 (p x : Operand) (hop : o.op = .store 44 p x) (hw : Region.wanted o (yielded ops a.tmps) = true) {g : Nat} {b : Act} (b' : Act)
    (hp : a.eval p = .pointer (some ⟨g, 0, none⟩)) (hx : a.eval x = .agg (actC b').toArray) (ho : ActO w g b) (hK : ∀ w', ActO w' g b' → w.grownBy w' (some g) → wpList Try.prog ops Q rest (a.put o.dst undef) w') : wpList Try.prog ops Q (o :: rest) a w :=
  wpList_store_act 44 p x hop hw (actC b') hp hx rfl (i44' b') (actC_one b') ho (by rw [actC_len]; decide) (splice_all _ _ (by rw [actC_len, actC_len])) hK
theorem wpList_load44 (x : Operand) (hop : o.op = .load 44 x) (hw : Region.wanted o (yielded ops a.tmps) = true) {g : Nat} {b : Act} (hx : a.eval x = .pointer (some ⟨g, 0, none⟩)) (ho : ActO w g b)
    (hK : wpList Try.prog ops Q rest (a.put o.dst (.agg (actC b).toArray)) w) : wpList Try.prog ops Q (o :: rest) a w :=
  wpList_load_obj 44 x hop hw hx ho _ Try.underlying44 rfl (i44a b) hK
theorem run_build_act {o : Oper} {a : Go.Act} {w : World} (v : Operand) (hop : o.op = .build 44 #[(0, v)]) (k : Int) (hv : a.eval v = .int .i64 k) : (execOp a.eval o).run Try.prog w = .ok (.value (.agg (actC (a0 k)).toArray)) w := by
  obtain ⟨i0, hi0, hz0⟩ := Option.map_eq_some_iff.1 z44
  simp only [Prod.mk.injEq] at hz0
  have hzv : (zeroValue 44).run Try.prog w = .ok (.agg (actC (a0 0)).toArray) w := by simp [zeroValue, typeInfo, hi0, hz0.1]
  obtain ⟨j33, hj33, hs33⟩ := Option.map_eq_some_iff.1 i33
  obtain ⟨j3, hj3, hs3⟩ := Option.map_eq_some_iff.1 i3
  obtain ⟨j31, hj31, hs31⟩ := Option.map_eq_some_iff.1 (show (Try.prog.info? 31).map (·.size) = some 1 from by kernel_rfl)
  have hf : Instr.fill (fun x => [(0, 1), (1, 1), (2, 64), (66, 1), (67, 1), (68, 1)][x]?) (Value.agg (actC (a0 0)).toArray).cells [(0, Value.int .i64 k)] = some (actC (a0 k)).toArray := by
    have hsz : (Value.agg (actC (a0 0)).toArray).cells.size = 69 := actC0
    have hvs : (Value.int .i64 k).cells = #[.int .i64 k] := rfl
    unfold Instr.fill
    simp only [List.getElem?_cons_zero]
    rw [hvs, hsz]
    simp
    unfold Instr.fill
    rfl
  unfold execOp
  simp [hop, hv, Instr.build, Sem.run_bind, hzv, run_underlying Try.underlying44]
  first
    | (rw [hf]; rfl)
    | (simp [hj33, hs33, hj3, hs3, hj31, hs31, sizeOf, typeInfo] ; rw [hf]; rfl)
theorem wpList_build44 (v : Operand) (hop : o.op = .build 44 #[(0, v)]) (hw : Region.wanted o (yielded ops a.tmps) = true) (k : Int) (hv : a.eval v = .int .i64 k)
    (hK : wpList Try.prog ops Q rest (a.put o.dst (.agg (actC (a0 k)).toArray)) w) : wpList Try.prog ops Q (o :: rest) a w := wpList_ran hw (run_build_act v hop k hv) hK
theorem wpList_neq_act (x y : Operand) (hop : o.op = .binOp .neq 44 x y 44) (hw : Region.wanted o (yielded ops a.tmps) = true) {b c : Act} (hx : a.eval x = .agg (actC b).toArray) (hy : a.eval y = .agg (actC c).toArray) (hb : b.s.length = 64) (hc : c.s.length = 64) {r : Bool} (hr : (!decide (b = c)) = r)
    (hK : wpList Try.prog ops Q rest (a.put o.dst (.bool r)) w) : wpList Try.prog ops Q (o :: rest) a w := by
  refine wpList_ran hw (v := .bool r) (w' := w) ?_ hK
  have hg : (eqGuard .neq 44 x y (.agg (actC b).toArray) (.agg (actC c).toArray)).run Try.prog w = .ok () w := Go.BW.run_eqGuard_agg x y _ _ (by kernel_rfl)
  have he := run_equal_act (w := w) hb hc
  unfold execOp
  simp only [hop, hx, hy, Sem.run_bind, hg, Result.andThen_ok]
  have hq : (binOp .neq 44 (.agg (actC b).toArray) (.agg (actC c).toArray)).run Try.prog w = .ok (.bool (!decide (b = c))) w := by
    simp only [binOp]
    rw [Sem.run_bind, he]
    simp
  rw [hq, hr]
  simp
end
theorem within_any (n a b : Int) (w : World) : Calls Try.prog 32 #[.int .i64 n, .int .i64 a, .int .i64 b] w fun e w' => e = .returned (.bool (inR n a b)) ∧ w = w' := by
  by_cases h1 : a ≤ n
  · by_cases h2 : n ≤ b
    · have H := Lib.hid (show inR n a b = true by unfold inR; simp [h1, h2])
      go_enter Try.func32, Try.ntmps32
      go_wp2
      go_ret
      exact ⟨by rw [H.out]; rfl, rfl⟩
    · have H := Lib.hid (show inR n a b = false by unfold inR; simp [h2])
      go_enter Try.func32, Try.ntmps32
      go_wp2
      go_ret
      exact ⟨by rw [H.out]; rfl, rfl⟩
  · have H := Lib.hid (show inR n a b = false by unfold inR; simp [h1])
    go_enter Try.func32, Try.ntmps32
    go_wp2
    go_ret
    exact ⟨by rw [H.out]; rfl, rfl⟩
theorem within2_any (n a b : Int) (w : World) : Calls Try.prog 39 #[.int .i64 n, .int .i64 a, .int .i64 b] w fun e w' => e = .returned (.bool (inR n a b)) ∧ w = w' := by
  by_cases h1 : a ≤ n
  · by_cases h2 : n ≤ b
    · have H := Lib.hid (show inR n a b = true by unfold inR; simp [h1, h2])
      go_enter Try.func39, Try.ntmps39
      go_wp2
      go_ret
      exact ⟨by rw [H.out]; rfl, rfl⟩
    · have H := Lib.hid (show inR n a b = false by unfold inR; simp [h2])
      go_enter Try.func39, Try.ntmps39
      go_wp2
      go_ret
      exact ⟨by rw [H.out]; rfl, rfl⟩
  · have H := Lib.hid (show inR n a b = false by unfold inR; simp [h1])
    go_enter Try.func39, Try.ntmps39
    go_wp2
    go_ret
    exact ⟨by rw [H.out]; rfl, rfl⟩
def BarePost (a : Act) (w : World) (e : Ending) (w' : World) : Prop := e = .returned (.tuple #[.agg (actC (bareA a)).toArray, .bool (knownK a.k)]) ∧ Nw w w'
theorem one1 (v : Value) (h : v.oneCell' = true) : ∀ u ∈ [v], u.oneCell' = true := by intro u hu; rw [List.mem_singleton] at hu; subst hu; exact h
theorem st_n (a : Act) (x : Int) : splice (actC a) 66 [.int .i64 x] = actC ⟨a.k, a.b, a.s, x, a.at', a.m⟩ := by rw [splice_one (by rw [actC_len]; decide), set_n]
theorem st_b (a : Act) (x : Int) : splice (actC a) 1 [.int .i64 x] = actC ⟨a.k, x, a.s, a.n, a.at', a.m⟩ := by rw [splice_one (by rw [actC_len]; decide), set_b]
theorem st_t (a : Act) (x : Int) : splice (actC a) 67 [.int .i64 x] = actC ⟨a.k, a.b, a.s, a.n, x, a.m⟩ := by rw [splice_one (by rw [actC_len]; decide), set_t]
theorem st_m (a : Act) (x : Nat) : splice (actC a) 68 [.int .u64 (x : Int)] = actC ⟨a.k, a.b, a.s, a.n, a.at', x⟩ := by rw [splice_one (by rw [actC_len]; decide), set_m]
theorem i31 : (Try.prog.info? 31).map (·.size) = some 1 := by kernel_rfl
theorem ActO.other {w w' : World} {g r : Nat} {a : Act} (h : ActO w g a) (k : w.grownBy w' (some r)) (hne : g ≠ r) : ActO w' g a :=
  Obj1.chg h (Chg.of_gb (F := [r]) k (by intro q hq; injection hq with hq; simp [hq])) (by simpa using hne)
theorem ActO.drew {w : World} {g : Nat} {a : Act} (h : ActO w g a) : ActO w.drew g a := h
end Go.Proofs.Ytmcgfnfhpcddlaa


/- What script.bare returns, for all acts. -/
namespace Go.Proofs.Ytmcgfnfhpcddlaa
open Go.RowKit Go.BW

set_option maxRecDepth 100000 in
set_option maxHeartbeats 8000000 in
theorem bare_any {a : Act} (ho : a.s.length = 64) (w : World) : Calls Try.prog 33 #[.agg (actC a).toArray] w (BarePost a w) := by
  have hbx : ActO (w.alloc (.cells (actC a).toArray 44)) w.heap.size a := Obj1.new w 44 (actC a).toArray
  have hg0 := World.grownBy_alloc w (.cells (actC a).toArray 44) none
  obtain ⟨V, hV⟩ : ∃ V, w.alloc (.cells (actC a).toArray 44) = V := ⟨_, rfl⟩
  obtain ⟨ga, hga⟩ : ∃ y, w.heap.size = y := ⟨_, rfl⟩
  rw [hV] at hbx hg0
  rw [hga] at hbx
  have hgw : w.heap.size ≤ ga := by omega
  have A0 := Lib.hid hbx; have N0 := Lib.hid hg0
  obtain ⟨k, hk⟩ : ∃ k, a.k = k := ⟨_, rfl⟩
  have hkk := A0.out.k
  have hl0 := A0.out.lt
  rw [hk] at hkk
  clear hbx hg0
  obtain ⟨KK, hKK⟩ : ∃ K, knownK a.k = K := ⟨_, rfl⟩
  obtain ⟨b9, hB9⟩ : ∃ b9, bareA a = b9 := ⟨_, rfl⟩
  unfold BarePost
  rw [hKK, hB9]
  go_enter Try.func33, Try.ntmps33
  go_upto_region 2 with (first
    | (refine wpList_store44 _ _ rfl rfl (a0 k) rfl rfl X2.out ?_; intro w3 s3 g3)
    | (refine wpList_alloc44 rfl rfl ?_; intro gx w2 x2 n2 l2; have X2 := Lib.hid x2; have A2 := Lib.hid (A1.out.nw n2); have R2 := Lib.hid (R1.out.nw n2); have N2 := Lib.hid (gb_trans N1.out n2))
    | (refine wpList_build44 _ rfl rfl k rfl ?_)
    | (refine wpList_alloc44 rfl rfl ?_; intro gr w1 x1 n1 l1; have R1 := Lib.hid x1; have A1 := Lib.hid (A0.out.nw n1); have N1 := Lib.hid (gb_trans N0.out n1); have hkk := A1.out.k; rw [hk] at hkk))
  have hlr := R1.out.lt
  have hla := A1.out.lt
  have hxa : ga ≠ gx := by omega
  have hxr : gr ≠ gx := by omega
  have hra : ga ≠ gr := by omega
  have hgr : w.heap.size ≤ gr := by omega
  have hgx : w.heap.size ≤ gx := by omega
  have A3 := Lib.hid (A2.out.other g3 hxa); have R3 := Lib.hid (R2.out.other g3 hxr); have X3 := Lib.hid s3
  have N3 := Lib.hid (nw_of_gb N2.out g3 (fun q hq => by injection hq with hq; omega))
  have hkk := A3.out.k
  rw [hk] at hkk
  clear x1 n1 l1 x2 n2 l2 s3 g3 A0 A1 A2 R1 R2 X2 N0 N1 N2 hV hga hlr hla hl0
  rcases (show k = 1 ∨ k = 2 ∨ k = 3 ∨ k = 4 ∨ k = 5 ∨ k = 6 ∨ k = 7 ∨ k = 8 ∨ k = 9 ∨ k = 10 ∨ (k ≠ 1 ∧ k ≠ 2 ∧ k ≠ 3 ∧ k ≠ 4 ∧ k ≠ 5 ∧ k ≠ 6 ∧ k ≠ 7 ∧ k ≠ 8 ∧ k ≠ 9 ∧ k ≠ 10) by omega) with e | e | e | e | e | e | e | e | e | e | ⟨e1, e2, e3, e4, e5, e6, e7, e8, e9, e10⟩
  · subst e
    have f1 : ∀ w', ActO w' ga a → w'.cell? ⟨ga, 1, none⟩ = some (.int .i64 a.b) := fun _ h => h.b
    have HB := Lib.hid (show b9 = ⟨1, a.b, a.s, 0, 0, 0⟩ from by rw [← hB9]; unfold bareA; simp [hk, a0])
    have HK := Lib.hid (show KK = true from by rw [← hKK, hk]; decide)
    clear hB9 hKK
    go_upto_region 5 with fail
    refine wp_region_held (S := (fun w' => ActO w' ga a)) (by kernel_rfl) ?_
    change wpAnyH _ _ _ _ _ _ _ _ (World.drew w3)
    have R4 := Lib.hid (show ActO w3.drew gr (a0 0) from R3.out); have X4 := Lib.hid (show ActO w3.drew gx (a0 _) from X3.out); have N4 := Lib.hid (gb_drew N3.out); have A4 := Lib.hid (show ActO w3.drew ga a from A3.out)
    clear R3 X3 N3 A3 hkk
    refine held_seg' (l := [0, 1, 2, 3, 4]) (fuel := 3) rfl (by kernel_rfl) (by kernel_rfl) (by simp only [List.filterMap_cons, List.filterMap_nil, List.getElem?_toArray, List.getElem?_cons_succ, List.getElem?_cons_zero]; rfl) (fun _ _ d _ _ h => by cases d <;> exact h) A4.out ?_
    iterate 3 (refine wpYield_step rfl (fun K hK => ?_)
               apply Exists.intro
               refine ⟨fun w' hw' => ?_, ?_⟩
               · (go_simp; try with_reducible rfl)
               go_simp
               refine hK _ ?_
               clear hK K)
    refine wpYield_load_agg 33 _ rfl rfl rfl (a.s.map bv) (fun w' hw' => by have := hw'.s; rw [p64_of ho] at this; exact this) _ Try.underlying33 rfl (i33' ho) ?_
    (refine wpYield_step rfl (fun K hK => ?_)
     apply Exists.intro
     refine ⟨fun w' hw' => ?_, ?_⟩
     · (go_simp; try with_reducible rfl)
     go_simp
     refine hK _ ?_
     clear hK K)
    refine wpYield_nil ?_
    refine held_eff 5 rfl (by kernel_rfl) rfl (fun K hK => ?_)
    refine wp_store_act 3 _ _ rfl [.int .i64 a.b] rfl rfl rfl i3 (one1 _ rfl) X4.out (by first | (rw [List.length_map, ho]; decide) | (simp only [List.length_cons, List.length_nil]; omega)) (st_b _ _) (fun w5 s5 g5 => ?_)
    have A5 := Lib.hid (A4.out.other g5 hxa); have R5 := Lib.hid (R4.out.other g5 hxr); have X5 := Lib.hid s5; have N5 := Lib.hid (nw_of_gb N4.out g5 (fun q hq => by injection hq with hq; omega))
    refine hK _ _ ⟨A5.out, ?_⟩
    clear hK K A4 R4 X4 N4 s5 g5
    refine held_seg' (l := [6]) (fuel := 1) rfl (by kernel_rfl) (by kernel_rfl) (by simp only [List.filterMap_cons, List.filterMap_nil, List.getElem?_toArray, List.getElem?_cons_succ, List.getElem?_cons_zero]; rfl) (fun _ _ d _ _ h => by cases d <;> exact h) A5.out ?_
    (refine wpYield_step rfl (fun K hK => ?_)
     apply Exists.intro
     refine ⟨fun w' hw' => ?_, ?_⟩
     · (go_simp; try with_reducible rfl)
     go_simp
     refine hK _ ?_
     clear hK K)
    refine wpYield_nil ?_
    refine held_eff 7 rfl (by kernel_rfl) rfl (fun K hK => ?_)
    refine wp_store_act 33 _ _ rfl (a.s.map bv) rfl rfl rfl (i33' ho) (sec_one _) X5.out (by first | (rw [List.length_map, ho]; decide) | (simp only [List.length_cons, List.length_nil]; omega)) (set_s _ _ ho) (fun w6 s6 g6 => ?_)
    have A6 := Lib.hid (A5.out.other g6 hxa); have R6 := Lib.hid (R5.out.other g6 hxr); have X6 := Lib.hid s6; have N6 := Lib.hid (nw_of_gb N5.out g6 (fun q hq => by injection hq with hq; omega))
    refine hK _ _ ⟨A6.out, ?_⟩
    clear hK K A5 R5 X5 N5 s6 g6
    refine wpAnyH_done (by kernel_rfl) ?_ _
    have R9 := R6; have X9 := X6; have N9 := N6
    clear R6 X6 N6 A6
    go_wp2_with (first | (refine wpList_store44 _ _ rfl rfl _ rfl rfl R9.out ?_; intro w10 s10 g10) | (refine wpList_load44 _ rfl rfl rfl X9.out ?_))
    (refine bodyPost_ret (res_cell_tmp rfl _ _ _ 44 _ _ rfl s10 Try.underlying44 rfl (i44a _)) rfl ?_)
    exact ⟨by rw [HB.out, HK.out]; rfl, nw_of_gb N9.out g10 (fun q hq => by injection hq with hq; omega)⟩
  · subst e
    have HB := Lib.hid (show b9 = ⟨2, a.b, z64, 0, 0, 0⟩ from by rw [← hB9]; unfold bareA; simp [hk, a0])
    have HK := Lib.hid (show KK = true from by rw [← hKK, hk]; decide)
    clear hB9 hKK
    have hf := A3.out.b
    go_upto_region 20 with (first | (refine wpList_store_act 3 _ _ rfl rfl [.int .i64 a.b] rfl rfl rfl i3 (one1 _ rfl) X3.out (by simp only [List.length_cons, List.length_nil]; omega) (st_b _ _) ?_; intro w4 s4 g4))
    have R9 := Lib.hid (R3.out.other g4 hxr); have X9 := Lib.hid s4; have N9 := Lib.hid (nw_of_gb N3.out g4 (fun q hq => by injection hq with hq; omega))
    clear s4 g4 A3 R3 X3 N3 hkk hf
    go_wp2_with (first | (refine wpList_store44 _ _ rfl rfl _ rfl rfl R9.out ?_; intro w10 s10 g10) | (refine wpList_load44 _ rfl rfl rfl X9.out ?_))
    (refine bodyPost_ret (res_cell_tmp rfl _ _ _ 44 _ _ rfl s10 Try.underlying44 rfl (i44a _)) rfl ?_)
    exact ⟨by rw [HB.out, HK.out]; rfl, nw_of_gb N9.out g10 (fun q hq => by injection hq with hq; omega)⟩
  · subst e
    have HB := Lib.hid (show b9 = a0 3 from by rw [← hB9]; unfold bareA; simp [hk, a0])
    have HK := Lib.hid (show KK = true from by rw [← hKK, hk]; decide)
    clear hB9 hKK
    have R9 := R3; have X9 := X3; have N9 := N3
    clear A3 R3 X3 N3
    go_wp2_with (first | (refine wpList_store44 _ _ rfl rfl _ rfl rfl R9.out ?_; intro w10 s10 g10) | (refine wpList_load44 _ rfl rfl rfl X9.out ?_))
    (refine bodyPost_ret (res_cell_tmp rfl _ _ _ 44 _ _ rfl s10 Try.underlying44 rfl (i44a _)) rfl ?_)
    exact ⟨by rw [HB.out, HK.out]; rfl, nw_of_gb N9.out g10 (fun q hq => by injection hq with hq; omega)⟩
  · subst e
    have HB := Lib.hid (show b9 = ⟨4, 0, z64, a.n, 0, 0⟩ from by rw [← hB9]; unfold bareA; simp [hk, a0])
    have HK := Lib.hid (show KK = true from by rw [← hKK, hk]; decide)
    clear hB9 hKK
    have hf := A3.out.n
    go_upto_region 20 with (first | (refine wpList_store_act 3 _ _ rfl rfl [.int .i64 a.n] rfl rfl rfl i3 (one1 _ rfl) X3.out (by simp only [List.length_cons, List.length_nil]; omega) (st_n _ _) ?_; intro w4 s4 g4))
    have R9 := Lib.hid (R3.out.other g4 hxr); have X9 := Lib.hid s4; have N9 := Lib.hid (nw_of_gb N3.out g4 (fun q hq => by injection hq with hq; omega))
    clear s4 g4 A3 R3 X3 N3 hkk hf
    go_wp2_with (first | (refine wpList_store44 _ _ rfl rfl _ rfl rfl R9.out ?_; intro w10 s10 g10) | (refine wpList_load44 _ rfl rfl rfl X9.out ?_))
    (refine bodyPost_ret (res_cell_tmp rfl _ _ _ 44 _ _ rfl s10 Try.underlying44 rfl (i44a _)) rfl ?_)
    exact ⟨by rw [HB.out, HK.out]; rfl, nw_of_gb N9.out g10 (fun q hq => by injection hq with hq; omega)⟩
  · subst e
    have HB := Lib.hid (show b9 = ⟨5, 0, z64, a.n, 0, 0⟩ from by rw [← hB9]; unfold bareA; simp [hk, a0])
    have HK := Lib.hid (show KK = true from by rw [← hKK, hk]; decide)
    clear hB9 hKK
    have hf := A3.out.n
    go_upto_region 20 with (first | (refine wpList_store_act 3 _ _ rfl rfl [.int .i64 a.n] rfl rfl rfl i3 (one1 _ rfl) X3.out (by simp only [List.length_cons, List.length_nil]; omega) (st_n _ _) ?_; intro w4 s4 g4))
    have R9 := Lib.hid (R3.out.other g4 hxr); have X9 := Lib.hid s4; have N9 := Lib.hid (nw_of_gb N3.out g4 (fun q hq => by injection hq with hq; omega))
    clear s4 g4 A3 R3 X3 N3 hkk hf
    go_wp2_with (first | (refine wpList_store44 _ _ rfl rfl _ rfl rfl R9.out ?_; intro w10 s10 g10) | (refine wpList_load44 _ rfl rfl rfl X9.out ?_))
    (refine bodyPost_ret (res_cell_tmp rfl _ _ _ 44 _ _ rfl s10 Try.underlying44 rfl (i44a _)) rfl ?_)
    exact ⟨by rw [HB.out, HK.out]; rfl, nw_of_gb N9.out g10 (fun q hq => by injection hq with hq; omega)⟩
  · subst e
    have HB := Lib.hid (show b9 = ⟨6, 0, z64, a.n, 0, 0⟩ from by rw [← hB9]; unfold bareA; simp [hk, a0])
    have HK := Lib.hid (show KK = true from by rw [← hKK, hk]; decide)
    clear hB9 hKK
    have hf := A3.out.n
    go_upto_region 20 with (first | (refine wpList_store_act 3 _ _ rfl rfl [.int .i64 a.n] rfl rfl rfl i3 (one1 _ rfl) X3.out (by simp only [List.length_cons, List.length_nil]; omega) (st_n _ _) ?_; intro w4 s4 g4))
    have R9 := Lib.hid (R3.out.other g4 hxr); have X9 := Lib.hid s4; have N9 := Lib.hid (nw_of_gb N3.out g4 (fun q hq => by injection hq with hq; omega))
    clear s4 g4 A3 R3 X3 N3 hkk hf
    go_wp2_with (first | (refine wpList_store44 _ _ rfl rfl _ rfl rfl R9.out ?_; intro w10 s10 g10) | (refine wpList_load44 _ rfl rfl rfl X9.out ?_))
    (refine bodyPost_ret (res_cell_tmp rfl _ _ _ 44 _ _ rfl s10 Try.underlying44 rfl (i44a _)) rfl ?_)
    exact ⟨by rw [HB.out, HK.out]; rfl, nw_of_gb N9.out g10 (fun q hq => by injection hq with hq; omega)⟩
  · subst e
    have f1 : ∀ w', ActO w' ga a → w'.cell? ⟨ga, 66, none⟩ = some (.int .i64 a.n) := fun _ h => h.n
    have f3 : ∀ w', ActO w' ga a → w'.cell? ⟨ga, 68, none⟩ = some (.int .u64 (a.m : Int)) := fun _ h => h.m
    have HB := Lib.hid (show b9 = ⟨7, 0, z64, a.n, 0, a.m⟩ from by rw [← hB9]; unfold bareA; simp [hk, a0])
    have HK := Lib.hid (show KK = true from by rw [← hKK, hk]; decide)
    clear hB9 hKK
    go_upto_region 13 with fail
    refine wp_region_held (S := (fun w' => ActO w' ga a)) (by kernel_rfl) ?_
    change wpAnyH _ _ _ _ _ _ _ _ (World.drew w3)
    have R4 := Lib.hid (show ActO w3.drew gr (a0 0) from R3.out); have X4 := Lib.hid (show ActO w3.drew gx (a0 _) from X3.out); have N4 := Lib.hid (gb_drew N3.out); have A4 := Lib.hid (show ActO w3.drew ga a from A3.out)
    clear R3 X3 N3 A3 hkk
    refine held_seg' (l := [0, 1, 2, 3, 4]) (fuel := 3) rfl (by kernel_rfl) (by kernel_rfl) (by simp only [List.filterMap_cons, List.filterMap_nil, List.getElem?_toArray, List.getElem?_cons_succ, List.getElem?_cons_zero]; rfl) (fun _ _ d _ _ h => by cases d <;> exact h) A4.out ?_
    iterate 5 (refine wpYield_step rfl (fun K hK => ?_)
               apply Exists.intro
               refine ⟨fun w' hw' => ?_, ?_⟩
               · (go_simp; try with_reducible rfl)
               go_simp
               refine hK _ ?_
               clear hK K)
    refine wpYield_nil ?_
    refine held_eff 5 rfl (by kernel_rfl) rfl (fun K hK => ?_)
    refine wp_store_act 3 _ _ rfl [.int .i64 a.n] rfl rfl rfl i3 (one1 _ rfl) X4.out (by first | (rw [List.length_map, ho]; decide) | (simp only [List.length_cons, List.length_nil]; omega)) (st_n _ _) (fun w5 s5 g5 => ?_)
    have A5 := Lib.hid (A4.out.other g5 hxa); have R5 := Lib.hid (R4.out.other g5 hxr); have X5 := Lib.hid s5; have N5 := Lib.hid (nw_of_gb N4.out g5 (fun q hq => by injection hq with hq; omega))
    refine hK _ _ ⟨A5.out, ?_⟩
    clear hK K A4 R4 X4 N4 s5 g5
    refine held_seg' (l := [6]) (fuel := 1) rfl (by kernel_rfl) (by kernel_rfl) (by simp only [List.filterMap_cons, List.filterMap_nil, List.getElem?_toArray, List.getElem?_cons_succ, List.getElem?_cons_zero]; rfl) (fun _ _ d _ _ h => by cases d <;> exact h) A5.out ?_
    (refine wpYield_step rfl (fun K hK => ?_)
     apply Exists.intro
     refine ⟨fun w' hw' => ?_, ?_⟩
     · (go_simp; try with_reducible rfl)
     go_simp
     refine hK _ ?_
     clear hK K)
    refine wpYield_nil ?_
    refine held_eff 7 rfl (by kernel_rfl) rfl (fun K hK => ?_)
    refine wp_store_act 31 _ _ rfl [.int .u64 (a.m : Int)] rfl rfl rfl i31 (one1 _ rfl) X5.out (by first | (rw [List.length_map, ho]; decide) | (simp only [List.length_cons, List.length_nil]; omega)) (st_m _ _) (fun w6 s6 g6 => ?_)
    have A6 := Lib.hid (A5.out.other g6 hxa); have R6 := Lib.hid (R5.out.other g6 hxr); have X6 := Lib.hid s6; have N6 := Lib.hid (nw_of_gb N5.out g6 (fun q hq => by injection hq with hq; omega))
    refine hK _ _ ⟨A6.out, ?_⟩
    clear hK K A5 R5 X5 N5 s6 g6
    refine wpAnyH_done (by kernel_rfl) ?_ _
    have R9 := R6; have X9 := X6; have N9 := N6
    clear R6 X6 N6 A6
    go_wp2_with (first | (refine wpList_store44 _ _ rfl rfl _ rfl rfl R9.out ?_; intro w10 s10 g10) | (refine wpList_load44 _ rfl rfl rfl X9.out ?_))
    (refine bodyPost_ret (res_cell_tmp rfl _ _ _ 44 _ _ rfl s10 Try.underlying44 rfl (i44a _)) rfl ?_)
    exact ⟨by rw [HB.out, HK.out]; rfl, nw_of_gb N9.out g10 (fun q hq => by injection hq with hq; omega)⟩
  · subst e
    have f1 : ∀ w', ActO w' ga a → w'.cell? ⟨ga, 66, none⟩ = some (.int .i64 a.n) := fun _ h => h.n
    have f2 : ∀ w', ActO w' ga a → w'.cell? ⟨ga, 67, none⟩ = some (.int .i64 a.at') := fun _ h => h.t
    have f3 : ∀ w', ActO w' ga a → w'.cell? ⟨ga, 68, none⟩ = some (.int .u64 (a.m : Int)) := fun _ h => h.m
    have HB := Lib.hid (show b9 = ⟨8, 0, z64, a.n, a.at', a.m⟩ from by rw [← hB9]; unfold bareA; simp [hk, a0])
    have HK := Lib.hid (show KK = true from by rw [← hKK, hk]; decide)
    clear hB9 hKK
    go_upto_region 15 with fail
    refine wp_region_held (S := (fun w' => ActO w' ga a)) (by kernel_rfl) ?_
    change wpAnyH _ _ _ _ _ _ _ _ (World.drew w3)
    have R4 := Lib.hid (show ActO w3.drew gr (a0 0) from R3.out); have X4 := Lib.hid (show ActO w3.drew gx (a0 _) from X3.out); have N4 := Lib.hid (gb_drew N3.out); have A4 := Lib.hid (show ActO w3.drew ga a from A3.out)
    clear R3 X3 N3 A3 hkk
    refine held_seg' (l := [0, 1, 2, 3, 4, 5, 6]) (fuel := 5) rfl (by kernel_rfl) (by kernel_rfl) (by simp only [List.filterMap_cons, List.filterMap_nil, List.getElem?_toArray, List.getElem?_cons_succ, List.getElem?_cons_zero]; rfl) (fun _ _ d _ _ h => by cases d <;> exact h) A4.out ?_
    iterate 7 (refine wpYield_step rfl (fun K hK => ?_)
               apply Exists.intro
               refine ⟨fun w' hw' => ?_, ?_⟩
               · (go_simp; try with_reducible rfl)
               go_simp
               refine hK _ ?_
               clear hK K)
    refine wpYield_nil ?_
    refine held_eff 7 rfl (by kernel_rfl) rfl (fun K hK => ?_)
    refine wp_store_act 3 _ _ rfl [.int .i64 a.at'] rfl rfl rfl i3 (one1 _ rfl) X4.out (by first | (rw [List.length_map, ho]; decide) | (simp only [List.length_cons, List.length_nil]; omega)) (st_t _ _) (fun w5 s5 g5 => ?_)
    have A5 := Lib.hid (A4.out.other g5 hxa); have R5 := Lib.hid (R4.out.other g5 hxr); have X5 := Lib.hid s5; have N5 := Lib.hid (nw_of_gb N4.out g5 (fun q hq => by injection hq with hq; omega))
    refine hK _ _ ⟨A5.out, ?_⟩
    clear hK K A4 R4 X4 N4 s5 g5
    refine held_seg' (l := [8]) (fuel := 3) rfl (by kernel_rfl) (by kernel_rfl) (by simp only [List.filterMap_cons, List.filterMap_nil, List.getElem?_toArray, List.getElem?_cons_succ, List.getElem?_cons_zero]; rfl) (fun _ _ d _ _ h => by cases d <;> exact h) A5.out ?_
    (refine wpYield_step rfl (fun K hK => ?_)
     apply Exists.intro
     refine ⟨fun w' hw' => ?_, ?_⟩
     · (go_simp; try with_reducible rfl)
     go_simp
     refine hK _ ?_
     clear hK K)
    refine wpYield_nil ?_
    refine held_eff 9 rfl (by kernel_rfl) rfl (fun K hK => ?_)
    refine wp_store_act 3 _ _ rfl [.int .i64 a.n] rfl rfl rfl i3 (one1 _ rfl) X5.out (by first | (rw [List.length_map, ho]; decide) | (simp only [List.length_cons, List.length_nil]; omega)) (st_n _ _) (fun w6 s6 g6 => ?_)
    have A6 := Lib.hid (A5.out.other g6 hxa); have R6 := Lib.hid (R5.out.other g6 hxr); have X6 := Lib.hid s6; have N6 := Lib.hid (nw_of_gb N5.out g6 (fun q hq => by injection hq with hq; omega))
    refine hK _ _ ⟨A6.out, ?_⟩
    clear hK K A5 R5 X5 N5 s6 g6
    refine held_seg' (l := [10]) (fuel := 1) rfl (by kernel_rfl) (by kernel_rfl) (by simp only [List.filterMap_cons, List.filterMap_nil, List.getElem?_toArray, List.getElem?_cons_succ, List.getElem?_cons_zero]; rfl) (fun _ _ d _ _ h => by cases d <;> exact h) A6.out ?_
    (refine wpYield_step rfl (fun K hK => ?_)
     apply Exists.intro
     refine ⟨fun w' hw' => ?_, ?_⟩
     · (go_simp; try with_reducible rfl)
     go_simp
     refine hK _ ?_
     clear hK K)
    refine wpYield_nil ?_
    refine held_eff 11 rfl (by kernel_rfl) rfl (fun K hK => ?_)
    refine wp_store_act 31 _ _ rfl [.int .u64 (a.m : Int)] rfl rfl rfl i31 (one1 _ rfl) X6.out (by first | (rw [List.length_map, ho]; decide) | (simp only [List.length_cons, List.length_nil]; omega)) (st_m _ _) (fun w7 s7 g7 => ?_)
    have A7 := Lib.hid (A6.out.other g7 hxa); have R7 := Lib.hid (R6.out.other g7 hxr); have X7 := Lib.hid s7; have N7 := Lib.hid (nw_of_gb N6.out g7 (fun q hq => by injection hq with hq; omega))
    refine hK _ _ ⟨A7.out, ?_⟩
    clear hK K A6 R6 X6 N6 s7 g7
    refine wpAnyH_done (by kernel_rfl) ?_ _
    have R9 := R7; have X9 := X7; have N9 := N7
    clear R7 X7 N7 A7
    go_wp2_with (first | (refine wpList_store44 _ _ rfl rfl _ rfl rfl R9.out ?_; intro w10 s10 g10) | (refine wpList_load44 _ rfl rfl rfl X9.out ?_))
    (refine bodyPost_ret (res_cell_tmp rfl _ _ _ 44 _ _ rfl s10 Try.underlying44 rfl (i44a _)) rfl ?_)
    exact ⟨by rw [HB.out, HK.out]; rfl, nw_of_gb N9.out g10 (fun q hq => by injection hq with hq; omega)⟩
  · subst e
    have f1 : ∀ w', ActO w' ga a → w'.cell? ⟨ga, 66, none⟩ = some (.int .i64 a.n) := fun _ h => h.n
    have f2 : ∀ w', ActO w' ga a → w'.cell? ⟨ga, 67, none⟩ = some (.int .i64 a.at') := fun _ h => h.t
    have HB := Lib.hid (show b9 = ⟨9, 0, z64, a.n, a.at', 0⟩ from by rw [← hB9]; unfold bareA; simp [hk, a0])
    have HK := Lib.hid (show KK = true from by rw [← hKK, hk]; decide)
    clear hB9 hKK
    go_upto_region 17 with fail
    refine wp_region_held (S := (fun w' => ActO w' ga a)) (by kernel_rfl) ?_
    change wpAnyH _ _ _ _ _ _ _ _ (World.drew w3)
    have R4 := Lib.hid (show ActO w3.drew gr (a0 0) from R3.out); have X4 := Lib.hid (show ActO w3.drew gx (a0 _) from X3.out); have N4 := Lib.hid (gb_drew N3.out); have A4 := Lib.hid (show ActO w3.drew ga a from A3.out)
    clear R3 X3 N3 A3 hkk
    refine held_seg' (l := [0, 1, 2, 3, 4]) (fuel := 3) rfl (by kernel_rfl) (by kernel_rfl) (by simp only [List.filterMap_cons, List.filterMap_nil, List.getElem?_toArray, List.getElem?_cons_succ, List.getElem?_cons_zero]; rfl) (fun _ _ d _ _ h => by cases d <;> exact h) A4.out ?_
    iterate 5 (refine wpYield_step rfl (fun K hK => ?_)
               apply Exists.intro
               refine ⟨fun w' hw' => ?_, ?_⟩
               · (go_simp; try with_reducible rfl)
               go_simp
               refine hK _ ?_
               clear hK K)
    refine wpYield_nil ?_
    refine held_eff 5 rfl (by kernel_rfl) rfl (fun K hK => ?_)
    refine wp_store_act 3 _ _ rfl [.int .i64 a.n] rfl rfl rfl i3 (one1 _ rfl) X4.out (by first | (rw [List.length_map, ho]; decide) | (simp only [List.length_cons, List.length_nil]; omega)) (st_n _ _) (fun w5 s5 g5 => ?_)
    have A5 := Lib.hid (A4.out.other g5 hxa); have R5 := Lib.hid (R4.out.other g5 hxr); have X5 := Lib.hid s5; have N5 := Lib.hid (nw_of_gb N4.out g5 (fun q hq => by injection hq with hq; omega))
    refine hK _ _ ⟨A5.out, ?_⟩
    clear hK K A4 R4 X4 N4 s5 g5
    refine held_seg' (l := [6]) (fuel := 1) rfl (by kernel_rfl) (by kernel_rfl) (by simp only [List.filterMap_cons, List.filterMap_nil, List.getElem?_toArray, List.getElem?_cons_succ, List.getElem?_cons_zero]; rfl) (fun _ _ d _ _ h => by cases d <;> exact h) A5.out ?_
    (refine wpYield_step rfl (fun K hK => ?_)
     apply Exists.intro
     refine ⟨fun w' hw' => ?_, ?_⟩
     · (go_simp; try with_reducible rfl)
     go_simp
     refine hK _ ?_
     clear hK K)
    refine wpYield_nil ?_
    refine held_eff 7 rfl (by kernel_rfl) rfl (fun K hK => ?_)
    refine wp_store_act 3 _ _ rfl [.int .i64 a.at'] rfl rfl rfl i3 (one1 _ rfl) X5.out (by first | (rw [List.length_map, ho]; decide) | (simp only [List.length_cons, List.length_nil]; omega)) (st_t _ _) (fun w6 s6 g6 => ?_)
    have A6 := Lib.hid (A5.out.other g6 hxa); have R6 := Lib.hid (R5.out.other g6 hxr); have X6 := Lib.hid s6; have N6 := Lib.hid (nw_of_gb N5.out g6 (fun q hq => by injection hq with hq; omega))
    refine hK _ _ ⟨A6.out, ?_⟩
    clear hK K A5 R5 X5 N5 s6 g6
    refine wpAnyH_done (by kernel_rfl) ?_ _
    have R9 := R6; have X9 := X6; have N9 := N6
    clear R6 X6 N6 A6
    go_wp2_with (first | (refine wpList_store44 _ _ rfl rfl _ rfl rfl R9.out ?_; intro w10 s10 g10) | (refine wpList_load44 _ rfl rfl rfl X9.out ?_))
    (refine bodyPost_ret (res_cell_tmp rfl _ _ _ 44 _ _ rfl s10 Try.underlying44 rfl (i44a _)) rfl ?_)
    exact ⟨by rw [HB.out, HK.out]; rfl, nw_of_gb N9.out g10 (fun q hq => by injection hq with hq; omega)⟩
  · subst e
    have HB := Lib.hid (show b9 = a0 10 from by rw [← hB9]; unfold bareA; simp [hk, a0])
    have HK := Lib.hid (show KK = true from by rw [← hKK, hk]; decide)
    clear hB9 hKK
    have R9 := R3; have X9 := X3; have N9 := N3
    clear A3 R3 X3 N3
    go_wp2_with (first | (refine wpList_store44 _ _ rfl rfl _ rfl rfl R9.out ?_; intro w10 s10 g10) | (refine wpList_load44 _ rfl rfl rfl X9.out ?_))
    (refine bodyPost_ret (res_cell_tmp rfl _ _ _ 44 _ _ rfl s10 Try.underlying44 rfl (i44a _)) rfl ?_)
    exact ⟨by rw [HB.out, HK.out]; rfl, nw_of_gb N9.out g10 (fun q hq => by injection hq with hq; omega)⟩
  · have HB := Lib.hid (show b9 = a0 k from by rw [← hB9]; unfold bareA; simp [hk, e1, e2, e4, e5, e6, e7, e8, e9])
    have HK := Lib.hid (show KK = false from by rw [← hKK, hk]; unfold knownK; simp; omega)
    clear hB9 hKK
    have t1 : (k == 1) = false := by simpa using e1
    have t2 : (k == 2) = false := by simpa using e2
    have t3 : (k == 3) = false := by simpa using e3
    have t4 : (k == 4) = false := by simpa using e4
    have t5 : (k == 5) = false := by simpa using e5
    have t6 : (k == 6) = false := by simpa using e6
    have t7 : (k == 7) = false := by simpa using e7
    have t8 : (k == 8) = false := by simpa using e8
    have t9 : (k == 9) = false := by simpa using e9
    have t10 : (k == 10) = false := by simpa using e10
    have R9 := R3; have X9 := X3; have N9 := N3
    clear A3 R3 X3 N3 e1 e2 e3 e4 e5 e6 e7 e8 e9 e10
    go_wp2_with (first | (refine wpList_store44 _ _ rfl rfl _ rfl rfl R9.out ?_; intro w10 s10 g10) | (refine wpList_load44 _ rfl rfl rfl X9.out ?_))
    (refine bodyPost_ret (res_cell_tmp rfl _ _ _ 44 _ _ rfl s10 Try.underlying44 rfl (i44a _)) rfl ?_)
    exact ⟨by rw [HB.out, HK.out]; rfl, nw_of_gb N9.out g10 (fun q hq => by injection hq with hq; omega)⟩
end Go.Proofs.Ytmcgfnfhpcddlaa

