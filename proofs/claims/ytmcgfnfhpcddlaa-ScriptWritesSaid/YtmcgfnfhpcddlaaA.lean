/- Acts and scripts in memory: their cells, what loads and stores of them do, and when two acts are the same; for all of them. -/
import Derived.Test.YtmcgfnfhpcddlaaProg
import Derived.Test.YtmcgfnfhpcddlaaS4
import Derived.Test.YtmcgfnfhpcddlaaApp
import Derived.Test.YtmcgfnfhpcddlaaArr
import Derived.Test.YtmcgfnfhpcddlaaFlat
import Derived.Test.YtmcgfnfhpcddlaaCut
import Derived.Test.YtmcgfnfhpcddlaaReg
namespace Go.Proofs.Ytmcgfnfhpcddlaa
open Go.RowKit Go.BW

def uv (x : Nat) : Value := .int .u64 (x : Int)
/-- a sector's bytes, sixty-four in any case -/
def p64 (s : List UInt8) : List UInt8 := (s ++ z64).take 64
theorem p64_len (s : List UInt8) : (p64 s).length = 64 := by unfold p64 z64; simp
theorem p64_of {s : List UInt8} (h : s.length = 64) : p64 s = s := by unfold p64; rw [← h]; exact List.take_left
def actC (a : Act) : List Value := [iv a.k, iv a.b] ++ ((p64 a.s).map bv ++ [iv a.n, iv a.at', uv a.m])
theorem actC_len (a : Act) : (actC a).length = 69 := by simp [actC, p64_len]
theorem actC_one (a : Act) : ∀ u ∈ actC a, u.oneCell' = true := by
  intro u hu
  unfold actC at hu
  simp only [List.mem_append, List.mem_cons, List.not_mem_nil, or_false, List.mem_map] at hu
  rcases hu with (rfl | rfl) | (⟨c, _, rfl⟩ | (rfl | rfl | rfl)) <;> rfl
theorem actC_k (a : Act) : (actC a)[0]? = some (.int .i64 a.k) := rfl
theorem actC_b (a : Act) : (actC a)[1]? = some (.int .i64 a.b) := rfl
theorem actC_s (a : Act) {j : Nat} {v : Value} (h : ((p64 a.s).map bv)[j]? = some v) : (actC a)[2 + j]? = some v := by
  have hj := (List.getElem?_eq_some_iff.1 h).1
  unfold actC
  rw [List.getElem?_append_right (by simp), List.getElem?_append_left (by simp only [List.length_cons, List.length_nil]; omega)]
  rw [← h]; congr 1
  simp only [List.length_cons, List.length_nil]; omega
theorem actC_tail (a : Act) (j : Nat) : (actC a)[66 + j]? = [iv a.n, iv a.at', uv a.m][j]? := by
  have hl := p64_len a.s
  unfold actC
  rw [List.getElem?_append_right (by simp only [List.length_cons, List.length_nil]; omega), List.getElem?_append_right (by simp [hl]; omega)]
  congr 1
  simp [hl]; omega
theorem actC_n (a : Act) : (actC a)[66]? = some (.int .i64 a.n) := actC_tail a 0
theorem actC_t (a : Act) : (actC a)[67]? = some (.int .i64 a.at') := actC_tail a 1
theorem actC_m (a : Act) : (actC a)[68]? = some (.int .u64 (a.m : Int)) := actC_tail a 2
theorem set_tail (a : Act) (j : Nat) (v : Value) : (actC a).set (66 + j) v = [iv a.k, iv a.b] ++ ((p64 a.s).map bv ++ [iv a.n, iv a.at', uv a.m].set j v) := by
  have hl := p64_len a.s
  unfold actC
  rw [List.set_append_right _ _ (by simp only [List.length_cons, List.length_nil]; omega), List.set_append_right _ _ (by simp [hl]; omega)]
  congr 3
  simp [hl]; omega
theorem set_b (a : Act) (x : Int) : (actC a).set 1 (.int .i64 x) = actC ⟨a.k, x, a.s, a.n, a.at', a.m⟩ := rfl
theorem set_n (a : Act) (x : Int) : (actC a).set 66 (.int .i64 x) = actC ⟨a.k, a.b, a.s, x, a.at', a.m⟩ := set_tail a 0 _
theorem set_t (a : Act) (x : Int) : (actC a).set 67 (.int .i64 x) = actC ⟨a.k, a.b, a.s, a.n, x, a.m⟩ := set_tail a 1 _
theorem set_m (a : Act) (x : Nat) : (actC a).set 68 (.int .u64 (x : Int)) = actC ⟨a.k, a.b, a.s, a.n, a.at', x⟩ := set_tail a 2 _
theorem set_s (a : Act) (s : List UInt8) (h : s.length = 64) : splice (actC a) 2 (s.map bv) = actC ⟨a.k, a.b, s, a.n, a.at', a.m⟩ := by
  have hl := p64_len a.s
  unfold splice actC
  rw [p64_of h]
  have e1 : ([iv a.k, iv a.b] ++ ((p64 a.s).map bv ++ [iv a.n, iv a.at', uv a.m])).take 2 = [iv a.k, iv a.b] := rfl
  have e2 : ([iv a.k, iv a.b] ++ ((p64 a.s).map bv ++ [iv a.n, iv a.at', uv a.m])).drop (2 + (s.map bv).length) = [iv a.n, iv a.at', uv a.m] := by
    rw [List.length_map, h]
    show ((p64 a.s).map bv ++ [iv a.n, iv a.at', uv a.m]).drop 64 = _
    have := List.drop_left (l₁ := (p64 a.s).map bv) (l₂ := [iv a.n, iv a.at', uv a.m])
    rwa [List.length_map, hl] at this
  rw [e1, e2]
/-- an act as a variable -/
def ActO (w : World) (g : Nat) (a : Act) : Prop := Obj1 w g 44 (actC a).toArray
section
variable {w w' : World} {g : Nat} {a : Act}
theorem ActO.nw (h : ActO w g a) (k : Nw w w') : ActO w' g a := Obj1.nw h k
theorem ActO.at (h : ActO w g a) {i : Nat} {v : Value} (hv : (actC a)[i]? = some v) : w.cell? ⟨g, i, none⟩ = some v := by
  rw [Obj1.cell h i, List.getElem?_toArray]; exact hv
theorem ActO.k (h : ActO w g a) : w.cell? ⟨g, 0, none⟩ = some (.int .i64 a.k) := h.at (actC_k a)
theorem ActO.b (h : ActO w g a) : w.cell? ⟨g, 1, none⟩ = some (.int .i64 a.b) := h.at (actC_b a)
theorem ActO.n (h : ActO w g a) : w.cell? ⟨g, 66, none⟩ = some (.int .i64 a.n) := h.at (actC_n a)
theorem ActO.t (h : ActO w g a) : w.cell? ⟨g, 67, none⟩ = some (.int .i64 a.at') := h.at (actC_t a)
theorem ActO.m (h : ActO w g a) : w.cell? ⟨g, 68, none⟩ = some (.int .u64 (a.m : Int)) := h.at (actC_m a)
theorem ActO.s (h : ActO w g a) : ∀ j u, ((p64 a.s).map bv)[j]? = some u → w.cell? ⟨g, 2 + j, none⟩ = some u := fun _ _ hu => h.at (actC_s a hu)
theorem ActO.set (h : ActO w g a) {b : Act} (i : Nat) (v : Value) (e : (actC a).set i v = actC b) : ActO (w.setCell ⟨g, i, none⟩ v) g b := by
  have := Obj1.set h i v
  unfold ActO
  rw [← e]
  simpa using this
end
theorem T22 : El Try.prog 22 3 (.int .i64 0) 1 8 := El.mk' Try.underlying22 (by kernel_rfl) rfl (by decide)
theorem T46 : El Try.prog 46 5 (.int .u8 0) 1 1 := El.mk' Try.underlying46 (by kernel_rfl) rfl (by decide)
theorem actC0 : (Value.agg (actC (a0 0)).toArray).cells.size = 69 := by show (actC (a0 0)).toArray.size = 69; rw [List.size_toArray, actC_len]
set_option maxRecDepth 100000 in
theorem z44 : (Try.prog.info? 44).map (fun i => (i.zero, i.size, i.bytes)) = some (some (.agg (actC (a0 0)).toArray), 69, 104) := by kernel_rfl
theorem T23 : El Try.prog 23 44 (.agg (actC (a0 0)).toArray) 69 104 := El.mk' Try.underlying23 z44 actC0 (by decide)
theorem i44 : (Try.prog.info? 44).map (·.size) = some 69 := by kernel_rfl
theorem i44' (a : Act) : (Try.prog.info? 44).map (·.size) = some (actC a).length := by rw [actC_len]; exact i44
theorem i44a (a : Act) : (Try.prog.info? 44).map (·.size) = some (actC a).toArray.size := by rw [List.size_toArray, actC_len]; exact i44
theorem i33 : (Try.prog.info? 33).map (·.size) = some 64 := by kernel_rfl
theorem i33' {s : List UInt8} (h : s.length = 64) : (Try.prog.info? 33).map (·.size) = some (s.map bv).length := by rw [List.length_map, h]; exact i33
theorem i5 : (Try.prog.info? 5).map (·.size) = some 1 := by kernel_rfl
theorem i3 : (Try.prog.info? 3).map (·.size) = some 1 := by kernel_rfl

/-! equality -/
theorem run_equalIn_arr {P : Program} {w : World} {D : Nat} (d : Nat) (hD : D = d + 2) (t e : TypeId) (N : Nat) (xs ys : List UInt8) (ht : P.underlying t = some (.array N e)) (he : P.underlying e = some (.int .u8)) (hs : (P.info? e).map (·.size) = some 1) (hx : xs.length = N) (hy : ys.length = N) :
    (Op.equalIn D t (.agg (xs.map bv).toArray) (.agg (ys.map bv).toArray)).run P w = .ok (decide (xs = ys)) w := by
  subst hD
  obtain ⟨i, hq, his⟩ := Option.map_eq_some_iff.1 hs
  have hsz : (sizeOf e).run P w = .ok 1 w := by simp [sizeOf, typeInfo, hq, his]
  unfold Op.equalIn
  have hl := run_eq_loop (w := w) e d xs ys he (by omega) N 0 (by omega) rfl
  simp only [Sem.run_bind, run_underlying ht, hsz, Result.andThen_ok]
  rw [Std.Legacy.Range.forIn_eq_forIn_range', show (Std.Legacy.Range.size [:N]) = N from by simp [Std.Legacy.Range.size]]
  have hl' : (forIn (m := Sem) (List.range' 0 N 1) ((none, ()) : Option Bool × Unit) (fun i _ => do
        if !(← Op.equalIn (d + 1) e (← part e (xs.map bv).toArray (i * 1)) (← part e (ys.map bv).toArray (i * 1))) then pure (ForInStep.done (some false, ()))
        else pure (ForInStep.yield (none, ())))).run P w = .ok (if xs = ys then (none, ()) else (some false, ())) w := hl
  simp only [hl', Result.andThen_ok]
  by_cases h : xs = ys <;> simp [h, Sem.run_pure]
theorem fields44 : (Try.prog.fieldsOf 44).toList.map (fun f => (f.name, f.type, f.offset)) = [("Kind", 3, 0), ("Block", 3, 1), ("S", 33, 2), ("N", 3, 66), ("At", 3, 67), ("Mask", 31, 68)] := by kernel_rfl
theorem part_int {w : World} {e : TypeId} {k : IntKind} (he : Try.prog.underlying e = some (.int k)) (cs : Array Value) (i : Nat) (v : Value) (hi : cs[i]? = some v) : (part e cs i).run Try.prog w = .ok v w := by
  unfold part
  have hagg : (isAgg e).run Try.prog w = .ok false w := by
    unfold isAgg
    rw [Sem.run_bind, run_underlying he w]
    rfl
  rw [Sem.run_bind, hagg]
  simp [hi]
theorem part_sec {w : World} {a : Act} (h : a.s.length = 64) : (part 33 (actC a).toArray 2).run Try.prog w = .ok (.agg (a.s.map bv).toArray) w := by
  have hagg : (isAgg 33).run Try.prog w = .ok true w := by
    unfold isAgg
    rw [Sem.run_bind, run_underlying Try.underlying33 w]
    rfl
  obtain ⟨i, hq, his⟩ := Option.map_eq_some_iff.1 i33
  have hsz : (sizeOf 33).run Try.prog w = .ok 64 w := by simp [sizeOf, typeInfo, hq, his]
  unfold part
  rw [Sem.run_bind, hagg]
  simp only [Result.andThen_ok, if_true, Sem.run_bind, hsz, Sem.run_pure]
  have : (actC a).toArray.extract 2 (2 + 64) = (a.s.map bv).toArray := by
    apply Array.toList_inj.1
    rw [Array.toList_extract]
    unfold actC
    rw [p64_of h]
    simp only [List.extract]
    show ((a.s.map bv) ++ [iv a.n, iv a.at', uv a.m]).take 64 = a.s.map bv
    have := List.take_left (l₁ := a.s.map bv) (l₂ := [iv a.n, iv a.at', uv a.m])
    rwa [List.length_map, h] at this
  rw [this]
theorem run_equal_act {w : World} {x y : Act} (hx : x.s.length = 64) (hy : y.s.length = 64) : (Op.equal 44 (.agg (actC x).toArray) (.agg (actC y).toArray)).run Try.prog w = .ok (decide (x = y)) w := by
  show (Op.equalIn 10000 44 _ _).run Try.prog w = _
  rw [run_equalIn_struct w 9999 44 _ _ (by kernel_rfl) (by kernel_rfl)]
  have hf : ∃ f0 f1 f2 f3 f4 f5 : Field, (Try.prog.fieldsOf 44).toList = [f0, f1, f2, f3, f4, f5] ∧ (f0.name, f0.type, f0.offset) = ("Kind", 3, 0) ∧ (f1.name, f1.type, f1.offset) = ("Block", 3, 1) ∧ (f2.name, f2.type, f2.offset) = ("S", 33, 2) ∧
      (f3.name, f3.type, f3.offset) = ("N", 3, 66) ∧ (f4.name, f4.type, f4.offset) = ("At", 3, 67) ∧ (f5.name, f5.type, f5.offset) = ("Mask", 31, 68) := by
    have h := fields44
    generalize (Try.prog.fieldsOf 44).toList = l at h
    have h3 := congrArg List.length h
    simp only [List.length_map, List.length_cons, List.length_nil] at h3
    match l, h, h3 with
    | [f0, f1, f2, f3, f4, f5], h, _ =>
      simp only [List.map_cons, List.map_nil, List.cons.injEq, and_true] at h
      exact ⟨f0, f1, f2, f3, f4, f5, rfl, h.1, h.2.1, h.2.2.1, h.2.2.2.1, h.2.2.2.2.1, h.2.2.2.2.2⟩
  obtain ⟨f0, f1, f2, f3, f4, f5, hl, h0, h1, h2, h3, h4, h5⟩ := hf
  simp only [Prod.mk.injEq] at h0 h1 h2 h3 h4 h5
  obtain ⟨n0, t0, o0⟩ := h0
  obtain ⟨n1, t1, o1⟩ := h1
  obtain ⟨n2, t2, o2⟩ := h2
  obtain ⟨n3, t3, o3⟩ := h3
  obtain ⟨n4, t4, o4⟩ := h4
  obtain ⟨n5, t5, o5⟩ := h5
  have hp : ∀ (a : Act) (i : Nat) (v : Value), (actC a)[i]? = some v → (part 3 (actC a).toArray i).run Try.prog w = .ok v w := fun a i v h => part_int Try.underlying3 _ i v (by rw [List.getElem?_toArray]; exact h)
  have hp0 := fun a => hp a 0 _ (actC_k a)
  have hp1 := fun a => hp a 1 _ (actC_b a)
  have hp3 := fun a => hp a 66 _ (actC_n a)
  have hp4 := fun a => hp a 67 _ (actC_t a)
  have hp5 : ∀ a, (part 31 (actC a).toArray 68).run Try.prog w = .ok (.int .u64 (a.m : Int)) w := fun a => part_int Try.underlying31 _ 68 _ (by rw [List.getElem?_toArray]; exact actC_m a)
  have he : ∀ a b : Int, (Op.equalIn 9999 3 (.int .i64 a) (.int .i64 b)).run Try.prog w = .ok (a == b) w := fun a b => run_equalIn_int w 9998 3 _ _ a b Try.underlying3
  have hm : ∀ a b : Int, (Op.equalIn 9999 31 (.int .u64 a) (.int .u64 b)).run Try.prog w = .ok (a == b) w := fun a b => run_equalIn_int w 9998 31 _ _ a b Try.underlying31
  have hs : (Op.equalIn 9999 33 (.agg (x.s.map bv).toArray) (.agg (y.s.map bv).toArray)).run Try.prog w = .ok (decide (x.s = y.s)) w := run_equalIn_arr (w := w) 9997 (by decide) 33 5 64 x.s y.s Try.underlying33 Try.underlying5 i5 hx hy
  rw [hl]
  have P0 := hp0 x; have Q0 := hp0 y; have P1 := hp1 x; have Q1 := hp1 y; have P2 := part_sec (w := w) hx; have Q2 := part_sec (w := w) hy; have P3 := hp3 x; have Q3 := hp3 y; have P4 := hp4 x; have Q4 := hp4 y; have P5 := hp5 x; have Q5 := hp5 y
  have hext : x = y ↔ x.k = y.k ∧ x.b = y.b ∧ x.s = y.s ∧ x.n = y.n ∧ x.at' = y.at' ∧ x.m = y.m := by
    refine ⟨ext_act, fun ⟨h1, h2, h3, h4, h5, h6⟩ => ?_⟩
    obtain ⟨xk, xb, xs, xn, xt, xm⟩ := x
    simp only at h1 h2 h3 h4 h5 h6
    subst h1; subst h2; subst h3; subst h4; subst h5; subst h6; rfl
  have hdec : decide (x = y) = ((x.k == y.k) && (x.b == y.b) && decide (x.s = y.s) && (x.n == y.n) && (x.at' == y.at') && ((x.m : Int) == (y.m : Int))) := by
    rw [Bool.eq_iff_iff]
    simp only [decide_eq_true_eq, Bool.and_eq_true, beq_iff_eq, hext, and_assoc]
    constructor <;> (rintro ⟨h1, h2, h3, h4, h5, h6⟩; exact ⟨h1, h2, h3, h4, h5, by omega⟩)
  have E0 := he x.k y.k; have E1 := he x.b y.b; have E3 := he x.n y.n; have E4 := he x.at' y.at'; have E5 := hm x.m y.m
  rw [hdec]
  clear hext hdec he hm hp hp0 hp1 hp3 hp4 hp5
  generalize (x.k == y.k) = b0 at E0 ⊢
  generalize (x.b == y.b) = b1 at E1 ⊢
  generalize decide (x.s = y.s) = b2 at hs ⊢
  generalize (x.n == y.n) = b3 at E3 ⊢
  generalize (x.at' == y.at') = b4 at E4 ⊢
  generalize ((x.m : Int) == (y.m : Int)) = b5 at E5 ⊢
  simp only [Op.eqFields, n0, n1, n2, n3, n4, n5, t0, t1, t2, t3, t4, t5, o0, o1, o2, o3, o4, o5, ne_eq, String.reduceEq, not_false_eq_true, if_true, Sem.run_bind, P0, Q0, Result.andThen_ok, E0]
  cases b0
  · simp [Sem.run_pure]
  simp only [Bool.not_true, Bool.false_eq_true, if_false, Bool.true_and]
  rw [Sem.run_bind, P1, Result.andThen_ok, Sem.run_bind, Q1, Result.andThen_ok, Sem.run_bind, E1, Result.andThen_ok]
  cases b1
  · simp [Sem.run_pure]
  simp only [Bool.not_true, Bool.false_eq_true, if_false, Bool.true_and]
  rw [Sem.run_bind, P2, Result.andThen_ok, Sem.run_bind, Q2, Result.andThen_ok, Sem.run_bind, hs, Result.andThen_ok]
  cases b2
  · simp [Sem.run_pure]
  simp only [Bool.not_true, Bool.false_eq_true, if_false, Bool.true_and]
  rw [Sem.run_bind, P3, Result.andThen_ok, Sem.run_bind, Q3, Result.andThen_ok, Sem.run_bind, E3, Result.andThen_ok]
  cases b3
  · simp [Sem.run_pure]
  simp only [Bool.not_true, Bool.false_eq_true, if_false, Bool.true_and]
  rw [Sem.run_bind, P4, Result.andThen_ok, Sem.run_bind, Q4, Result.andThen_ok, Sem.run_bind, E4, Result.andThen_ok]
  cases b4
  · simp [Sem.run_pure]
  simp only [Bool.not_true, Bool.false_eq_true, if_false, Bool.true_and]
  rw [Sem.run_bind, P5, Result.andThen_ok, Sem.run_bind, Q5, Result.andThen_ok, Sem.run_bind, E5, Result.andThen_ok]
  cases b5 <;> simp [Sem.run_pure]
end Go.Proofs.Ytmcgfnfhpcddlaa

