/- What Join returns, for all numbers and every slice of at most a million sectors. -/
import Derived.Test.YtlfkeohlnhlcoaaDoorSR
import Derived.Test.YtlfkeohlnhlcoaaDoorBuf
import Derived.Lib.BufferKept
import Derived.Lib.BufferOld
namespace Go.Proofs.YtlfkeohlnhlcoaaDoor
open Go.RowKit Go.BW

def names5 : List String := ["Gen", "Num", "Part", "Parts", "Len"]
theorem fields31 : (Tryd.prog.fieldsOf 31).toList.map (fun f => (f.name, f.type, f.offset)) = [("Gen", 3, 0), ("Num", 3, 1), ("Part", 3, 2), ("Parts", 3, 3), ("Len", 3, 4)] := by kernel_rfl
def tagE (x y : Int × Int × Int × Int × Int) : Bool := decide (x = y)
def tv5 (x : Int × Int × Int × Int × Int) : Value := tv x.1 x.2.1 x.2.2.1 x.2.2.2.1 x.2.2.2.2
theorem run_equal_tag {w : World} (x y : Int × Int × Int × Int × Int) : (Op.equal 31 (tv5 x) (tv5 y)).run Tryd.prog w = .ok (tagE x y) w := by
  show (Op.equalIn 10000 31 _ _).run Tryd.prog w = _
  unfold tv5 tv
  rw [run_equalIn_struct w 9999 31 _ _ (by kernel_rfl) (by kernel_rfl)]
  have hf : ∃ f0 f1 f2 f3 f4 : Field, (Tryd.prog.fieldsOf 31).toList = [f0, f1, f2, f3, f4] ∧ (f0.name, f0.type, f0.offset) = ("Gen", 3, 0) ∧ (f1.name, f1.type, f1.offset) = ("Num", 3, 1) ∧ (f2.name, f2.type, f2.offset) = ("Part", 3, 2)
      ∧ (f3.name, f3.type, f3.offset) = ("Parts", 3, 3) ∧ (f4.name, f4.type, f4.offset) = ("Len", 3, 4) := by
    have h := fields31
    generalize (Tryd.prog.fieldsOf 31).toList = l at h
    have h3 := congrArg List.length h
    simp only [List.length_map, List.length_cons, List.length_nil] at h3
    match l, h, h3 with
    | [f0, f1, f2, f3, f4], h, _ => simp only [List.map_cons, List.map_nil, List.cons.injEq, and_true] at h; exact ⟨f0, f1, f2, f3, f4, rfl, h.1, h.2.1, h.2.2.1, h.2.2.2.1, h.2.2.2.2⟩
  obtain ⟨f0, f1, f2, f3, f4, hl, h0, h1, h2, h3, h4⟩ := hf
  simp only [Prod.mk.injEq] at h0 h1 h2 h3 h4
  obtain ⟨n0, t0, o0⟩ := h0
  obtain ⟨n1, t1, o1⟩ := h1
  obtain ⟨n2, t2, o2⟩ := h2
  obtain ⟨n3, t3, o3⟩ := h3
  obtain ⟨n4, t4, o4⟩ := h4
  have hp : ∀ (cs : Array Value) (i : Nat) (v : Value), cs[i]? = some v → (part 3 cs i).run Tryd.prog w = .ok v w := by
    intro cs i v hi
    unfold part
    have hagg : (isAgg 3).run Tryd.prog w = .ok false w := by
      unfold isAgg
      rw [Sem.run_bind, run_underlying Tryd.underlying3 w]
      rfl
    rw [Sem.run_bind, hagg]
    simp [hi]
  have hp0 : ∀ a b c d e : Value, (part 3 #[a, b, c, d, e] 0).run Tryd.prog w = .ok a w := fun a b c d e => hp _ 0 _ rfl
  have hp1 : ∀ a b c d e : Value, (part 3 #[a, b, c, d, e] 1).run Tryd.prog w = .ok b w := fun a b c d e => hp _ 1 _ rfl
  have hp2 : ∀ a b c d e : Value, (part 3 #[a, b, c, d, e] 2).run Tryd.prog w = .ok c w := fun a b c d e => hp _ 2 _ rfl
  have hp3 : ∀ a b c d e : Value, (part 3 #[a, b, c, d, e] 3).run Tryd.prog w = .ok d w := fun a b c d e => hp _ 3 _ rfl
  have hp4 : ∀ a b c d e : Value, (part 3 #[a, b, c, d, e] 4).run Tryd.prog w = .ok e w := fun a b c d e => hp _ 4 _ rfl
  have he : ∀ a b : Int, (Op.equalIn 9999 3 (.int .i64 a) (.int .i64 b)).run Tryd.prog w = .ok (a == b) w := fun a b => run_equalIn_int w 9998 3 _ _ a b Tryd.underlying3
  rw [hl]
  simp only [Op.eqFields, n0, n1, n2, n3, n4, t0, t1, t2, t3, t4, o0, o1, o2, o3, o4]
  simp only [show ("Gen" ≠ "_") = True from by simp, show ("Num" ≠ "_") = True from by simp, show ("Part" ≠ "_") = True from by simp, show ("Parts" ≠ "_") = True from by simp, show ("Len" ≠ "_") = True from by simp, if_true, Sem.run_bind, hp0, hp1, hp2, hp3, hp4, Result.andThen_ok, he]
  obtain ⟨xa, xb, xc, xd, xe⟩ := x
  obtain ⟨ya, yb, yc, yd, ye⟩ := y
  unfold tagE
  by_cases e0 : xa = ya
  · by_cases e1 : xb = yb
    · by_cases e2 : xc = yc
      · by_cases e3 : xd = yd
        · by_cases e4 : xe = ye <;> simp [e0, e1, e2, e3, e4, hp0, hp1, hp2, hp3, hp4, he, Sem.run_pure, Sem.run_bind]
        · simp [e0, e1, e2, e3, hp0, hp1, hp2, hp3, hp4, he, Sem.run_pure, Sem.run_bind]
      · simp [e0, e1, e2, hp0, hp1, hp2, hp3, hp4, he, Sem.run_pure, Sem.run_bind]
    · simp [e0, e1, hp0, hp1, hp2, hp3, hp4, he, Sem.run_pure, Sem.run_bind]
  · simp [e0, hp0, hp1, hp2, hp3, hp4, he, Sem.run_pure, Sem.run_bind]
theorem wpList_neq_tag {ops : Array Oper} {rest : List Oper} {o : Oper} {a : Act} {Q : Exit → Act → World → Prop} {w : World} (x y : Operand) (hop : o.op = .binOp .neq 31 x y 31) (hw : Region.wanted o (yielded ops a.tmps) = true) (s t : Int × Int × Int × Int × Int)
    (hx : a.eval x = tv5 s) (hy : a.eval y = tv5 t) {r : Bool} (hr : (!tagE s t) = r) (hK : wpList Tryd.prog ops Q rest (a.put o.dst (.bool r)) w) : wpList Tryd.prog ops Q (o :: rest) a w := by
  refine wpList_ran hw (v := .bool r) (w' := w) ?_ hK
  have hg : (eqGuard .neq 31 x y (tv5 s) (tv5 t)).run Tryd.prog w = .ok () w := by unfold tv5 tv; exact Go.BW.run_eqGuard_agg x y _ _ (by kernel_rfl)
  unfold execOp
  simp only [hop, hx, hy, Sem.run_bind, hg, Result.andThen_ok]
  have hq : (binOp .neq 31 (tv5 s) (tv5 t)).run Tryd.prog w = .ok (.bool (!tagE s t)) w := by
    have he := run_equal_tag (w := w) s t
    unfold tv5 tv at he ⊢
    simp only [binOp]
    simp [he]
  rw [hq, hr]
  simp
/-- one of many sectors -/
def secAt (bs : List UInt8) (k : Nat) : List UInt8 := (bs.drop (k * 64)).take 64
/-- what a part holds -/
def heldL (s : List UInt8) : List UInt8 := (s.drop 11).take (b10 s)
/-- is the sector this part? -/
def fitB (g n : Int) (i N : Nat) (s : List UInt8) : Bool := tagB s && tagE (getL s 4, getL (s.drop 4) 4, b8 s, b9 s, b10 s) (g, n, i, N, b10 s)
/-- the record of the first k sectors of N -/
def joinAcc (g n : Int) (N : Nat) (bs : List UInt8) : Nat → Option (List UInt8)
  | 0 => some []
  | k + 1 => match joinAcc g n N bs k with
    | some x => if fitB g n k N (secAt bs k) then some (x ++ heldL (secAt bs k)) else none
    | none => none
theorem joinAcc_none {g n : Int} {N : Nat} {bs : List UInt8} {k : Nat} (h : joinAcc g n N bs k = none) : ∀ m, k ≤ m → joinAcc g n N bs m = none
  | 0, hm => by rwa [show k = 0 by omega] at h
  | m + 1, hm => by
    rcases Nat.lt_or_ge m k with h1 | h1
    · rwa [show k = m + 1 by omega] at h
    · unfold joinAcc; rw [joinAcc_none h m h1]
def joinL (g n : Int) (N : Nat) (bs : List UInt8) : List UInt8 := (joinAcc g n N bs N).getD []
def joinB (g n : Int) (N : Nat) (bs : List UInt8) : Bool := (joinAcc g n N bs N).isSome && decide (0 < N)
def JoinPost (g n : Int) (N : Nat) (bs : List UInt8) (w : World) (e : Ending) (w' : World) : Prop :=
  ∃ A m c, e = .returned (.tuple #[.slice A m c, .bool (joinB g n N bs)]) ∧ Own w' w.heap.size 5 1 A m c ((joinL g n N bs).map bv) ∧ Nw w w'
theorem joinAcc_len {g n : Int} {N : Nat} {bs : List UInt8} : ∀ {k : Nat} {x : List UInt8}, joinAcc g n N bs k = some x → x.length ≤ k * 64
  | 0, x, h => by unfold joinAcc at h; injection h with h; subst h; simp
  | k + 1, x, h => by
    unfold joinAcc at h
    rcases hk : joinAcc g n N bs k with _ | y
    · rw [hk] at h; cases h
    · rw [hk] at h
      simp only at h
      split at h
      · injection h with h; subst h
        have := joinAcc_len hk
        rw [List.length_append]
        have h2 : (heldL (secAt bs k)).length ≤ 64 := by unfold heldL secAt; simp; omega
        omega
      · cases h
theorem joinAcc_step {g n : Int} {N : Nat} {bs : List UInt8} {k : Nat} {x : List UInt8} (h : joinAcc g n N bs k = some x) :
    (fitB g n k N (secAt bs k) = true → joinAcc g n N bs (k + 1) = some (x ++ heldL (secAt bs k))) ∧ (fitB g n k N (secAt bs k) = false → joinAcc g n N bs (k + 1) = none) := by
  constructor <;> intro hf
  · rw [joinAcc, h]; simp only; rw [if_pos hf]
  · rw [joinAcc, h]; simp only; rw [if_neg (by rw [hf]; decide)]
theorem join_none {g n : Int} {N : Nat} {bs : List UInt8} {k : Nat} (h : joinAcc g n N bs (k + 1) = none) (hk : k < N) : joinL g n N bs = [] ∧ joinB g n N bs = false := by
  have := joinAcc_none h N hk
  unfold joinL joinB; rw [this]; exact ⟨rfl, rfl⟩
theorem join_some {g n : Int} {N : Nat} {bs : List UInt8} {x : List UInt8} (h : joinAcc g n N bs N = some x) : joinL g n N bs = x ∧ joinB g n N bs = decide (0 < N) := by
  unfold joinL joinB; rw [h]; exact ⟨rfl, by simp⟩
theorem heldL_len {s : List UInt8} (hl : s.length = 64) (h : tagB s = true) : (heldL s).length = b10 s ∧ b10 s ≤ 53 := by
  have h2 : okN (b8 s) (b9 s) (b10 s) = true := by unfold tagB at h; rw [Bool.and_eq_true] at h; exact h.1
  have h3 : b10 s ≤ 53 := by unfold okN at h2; rw [decide_eq_true_iff] at h2; exact h2.2.2.2.1
  refine ⟨?_, h3⟩
  unfold heldL; rw [List.length_take, List.length_drop]; omega
end Go.Proofs.YtlfkeohlnhlcoaaDoor

