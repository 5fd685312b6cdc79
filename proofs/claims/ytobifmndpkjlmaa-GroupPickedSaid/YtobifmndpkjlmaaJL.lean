/- Groups that came in. -/
import Derived.Test.YtobifmndpkjlmaaJG
import Derived.Test.YtobifmndpkjlmaaJB
import Derived.Test.YtobifmndpkjlmaaJF
import Derived.Test.YtobifmndpkjlmaaJK
import Derived.Laws.StructEq
set_option linter.unusedVariables false
set_option linter.unusedSimpArgs false
/- Groups that came in. -/
namespace Go.Proofs.Ytobifmndpkjlmaa
open Go.RowKit Go.BW Go.ChangeShapes Go.WideShapes Go.Deep
section
variable {H : Type} {enc : TypeId × Value → H} {w : World} {base : Nat} {spare : Nat → Bool} {held : Bool} {x : DataW H × List MemPlace} {cs : List Value} {n : Nat}
theorem cut2 {l : List Value} {a b : Value} (hl : l.length = 2) (h0 : (l.drop 0).take 1 = [a]) (h1 : (l.drop 1).take 1 = [b]) : l = [a, b] := by
  match l, hl with
  | [x, y], _ => simp at h0 h1; simp [h0, h1]
theorem ext_open (h : DataW.trod enc Try.prog w base spare held n 39 cs = some x) : ∃ o : Et, True ∧ cs = ec o := by
  have hl : cs.length = 2 := (struct_len Try.underlying39 h).trans (by kernel_rfl)
  obtain ⟨_, _, h0⟩ := field_open Try.underlying39 h 0 _ rfl
  obtain ⟨_, _, h1⟩ := field_open Try.underlying39 h 1 _ rfl
  obtain ⟨a, e0, b0⟩ := int_open Try.underlying3 h0
  obtain ⟨b, e1, b1⟩ := int_open Try.underlying3 h1
  exact ⟨⟨a, b⟩, trivial, cut2 hl e0 e1⟩
theorem exts_open (h : DataW.trod enc Try.prog w base spare held n 35 cs = some x) : ∃ A n c, cs = [.slice A n c] ∧ ∃ ms, InL w ec 2 (fun _ : Et => True) A n c ms := by
  rcases open_slice Try.underlying35 h with ⟨hcs, _⟩ | ⟨ad, len', cap', m, n, D, Pl, hcs, _⟩
  · subst hcs
    exact ⟨_, _, _, rfl, inL_open Try.underlying35 (by kernel_rfl) (by omega) (fun _ _ _ h => ext_open h) h⟩
  · subst hcs
    exact ⟨_, _, _, rfl, inL_open Try.underlying35 (by kernel_rfl) (by omega) (fun _ _ _ h => ext_open h) h⟩
def GIn (w : World) (x : Gp) : Prop := GIo w w.heap.size x
theorem group_open (h : DataW.trod enc Try.prog w base spare held n 37 cs = some x) : ∃ o : Gp, GIn w o ∧ cs = gc o := by
  have hl : cs.length = 3 := (struct_len Try.underlying37 h).trans (by kernel_rfl)
  obtain ⟨_, _, h0⟩ := field_open Try.underlying37 h 0 _ rfl
  obtain ⟨_, _, h1⟩ := field_open Try.underlying37 h 1 _ rfl
  obtain ⟨_, _, h2⟩ := field_open Try.underlying37 h 2 _ rfl
  obtain ⟨a, e0, b0⟩ := int_open Try.underlying3 h0
  obtain ⟨b, e1, b1⟩ := int_open Try.underlying3 h1
  obtain ⟨A, n, k, e2, ms, hr, hnc, hcm, _, _⟩ := exts_open h2
  exact ⟨⟨a, b, A, n, k, ms⟩, ⟨hr, hnc, hcm⟩, cut3 hl e0 e1 e2⟩
theorem groups_open {fuel : Nat} {a : Option Addr} {len cap : Nat} (h : DataW.trod enc Try.prog w base spare held fuel 28 [.slice a len cap] = some x) : ∃ os, InL w gc 3 (GIn w) a len cap os :=
  inL_open Try.underlying28 (by kernel_rfl) (by omega) (fun _ _ _ h => group_open h) h
end
theorem InL.gsi {w : World} {a : Option Addr} {len cap : Nat} {gs : List Gp} (h : InL w gc 3 (GIn w) a len cap gs) : GsI w w.heap.size a len gs ∧ len ≤ 9223372036854775807 := by
  obtain ⟨hr, hnc, hcm, _, hall⟩ := h
  exact ⟨⟨hr, hall⟩, by unfold maxLen at hcm; omega⟩
end Go.Proofs.Ytobifmndpkjlmaa


/- Two extents compared; what of groups hangs on their extents alone. -/
namespace Go.Proofs.Ytobifmndpkjlmaa
open Go.RowKit Go.BW

theorem fields39 : (Try.prog.fieldsOf 39).toList.map (fun f => (f.name, f.type, f.offset)) = [("Disk", 3, 0), ("At", 3, 1)] := by kernel_rfl
theorem run_equal_et {w : World} (x y : Et) : (Op.equal 39 (ev x) (ev y)).run Try.prog w = .ok (decide (x = y)) w := by
  show (Op.equalIn 10000 39 _ _).run Try.prog w = _
  unfold ev
  rw [run_equalIn_struct w 9999 39 _ _ (by kernel_rfl) (by kernel_rfl)]
  have hf : ∃ f0 f1 : Field, (Try.prog.fieldsOf 39).toList = [f0, f1] ∧ (f0.name, f0.type, f0.offset) = ("Disk", 3, 0) ∧ (f1.name, f1.type, f1.offset) = ("At", 3, 1) := by
    have h := fields39
    generalize (Try.prog.fieldsOf 39).toList = l at h
    have h3 := congrArg List.length h
    simp only [List.length_map, List.length_cons, List.length_nil] at h3
    match l, h, h3 with
    | [f0, f1], h, _ => simp only [List.map_cons, List.map_nil, List.cons.injEq, and_true] at h; exact ⟨f0, f1, rfl, h.1, h.2⟩
  obtain ⟨f0, f1, hl, h0, h1⟩ := hf
  simp only [Prod.mk.injEq] at h0 h1
  obtain ⟨n0, t0, o0⟩ := h0
  obtain ⟨n1, t1, o1⟩ := h1
  have hp : ∀ (cs : Array Value) (i : Nat) (v : Value), cs[i]? = some v → (part 3 cs i).run Try.prog w = .ok v w := by
    intro cs i v hi
    unfold part
    have hagg : (isAgg 3).run Try.prog w = .ok false w := by
      unfold isAgg
      rw [Sem.run_bind, run_underlying Try.underlying3 w]
      rfl
    rw [Sem.run_bind, hagg]
    simp [hi]
  have hp0 : ∀ a b : Value, (part 3 #[a, b] 0).run Try.prog w = .ok a w := fun a b => hp _ 0 _ rfl
  have hp1 : ∀ a b : Value, (part 3 #[a, b] 1).run Try.prog w = .ok b w := fun a b => hp _ 1 _ rfl
  have he : ∀ a b : Int, (Op.equalIn 9999 3 (.int .i64 a) (.int .i64 b)).run Try.prog w = .ok (a == b) w := fun a b => run_equalIn_int w 9998 3 _ _ a b Try.underlying3
  rw [hl]
  simp only [Op.eqFields, n0, n1, t0, t1, o0, o1]
  simp only [show ("Disk" ≠ "_") = True from by simp, show ("At" ≠ "_") = True from by simp, if_true, Sem.run_bind, hp0, hp1, Result.andThen_ok, he]
  obtain ⟨xt, xg⟩ := x
  obtain ⟨yt, yg⟩ := y
  by_cases e0 : xt = yt <;> by_cases e1 : xg = yg <;> simp [e0, e1, hp0, hp1, he, Sem.run_pure, Sem.run_bind]
theorem run_neq_et {w : World} {a : Act} {o : Oper} (x y : Operand) (t2 : TypeId) (hop : o.op = .binOp .neq 39 x y t2) (p : Et) (hx : a.eval x = .agg (ec p).toArray) (hy : a.eval y = .agg (ec p).toArray) : (execOp a.eval o).run Try.prog w = .ok (.value (.bool false)) w := by
  have hg : (eqGuard .neq 39 x y (ev p) (ev p)).run Try.prog w = .ok () w := Go.BW.run_eqGuard_agg x y _ _ (by kernel_rfl)
  have hn : (binOp .neq 39 (ev p) (ev p)).run Try.prog w = .ok (.bool false) w := by
    have := run_equal_et (w := w) p p
    unfold ev at this ⊢
    simp only [binOp]
    simp [this]
  have hx' : a.eval x = ev p := hx
  have hy' : a.eval y = ev p := hy
  unfold execOp
  simp only [hop, hx', hy', Sem.run_bind, hg, Result.andThen_ok, hn, Sem.run_pure]
theorem wpYield_neq_et {P : Program} {ops : Array Oper} {S : World → Prop} {R : Act → Prop} {rest : List Oper} {o : Oper} {a : Act} (hP : P = Try.prog) (x y : Operand) (t2 : TypeId) (hop : o.op = .binOp .neq 39 x y t2) (hw : Region.wanted o (yielded ops a.tmps) = true) (p : Et)
    (hx : a.eval x = .agg (ec p).toArray) (hy : a.eval y = .agg (ec p).toArray) (hK : wpYield P ops S R rest (a.put o.dst (.bool false))) : wpYield P ops S R (o :: rest) a := by
  subst hP
  exact wpYield_val hw (fun w' _ => run_neq_et x y t2 hop p hx hy) hK
/-! ### groups of the same extents -/
theorem key_es {gs gs' : List Gp} (h : gs.map key = gs'.map key) : gs.map (·.es) = gs'.map (·.es) := by
  have := congrArg (fun l => l.map (fun k : Int × Int × List Et => k.2.2)) h
  simpa [List.map_map, key, Function.comp_def] using this
def hangE (rs : List Int) (lost : Int) (s : Nat) (es : List Et) : Bool := (es.any fun e => e.dk == lost) && hangs s.testBit rs (es.map (·.dk))
theorem needOf_es (gs : List Gp) (rs : List Int) (lost : Int) (s : Nat) : needOf gs rs lost s = (gs.map (·.es)).countP (hangE rs lost s) := by
  unfold needOf
  rw [List.countP_map]
  rfl
theorem hallB_es {gs gs' : List Gp} (h : gs.map (·.es) = gs'.map (·.es)) (rs : List Int) (lost : Int) : hallB gs rs lost = hallB gs' rs lost := by
  unfold hallB
  simp only [needOf_es, h]
theorem allB_es {gs gs' : List Gp} (h : gs.map (·.es) = gs'.map (·.es)) (rs : List Int) : allB gs rs = allB gs' rs := by
  unfold allB
  simp only [hallB_es h]
theorem allE_es {gs gs' : List Gp} (h : gs.map (·.es) = gs'.map (·.es)) : allE gs = allE gs' := by
  unfold allE
  rw [List.flatMap_def, List.flatMap_def, h]
theorem few_es6 {gs gs0 : List Gp} (h : gs.map key = fewP gs0) : ∀ g ∈ gs, g.es.length ≤ 6 := by
  intro g hg
  have h1 : key g ∈ fewP gs0 := by rw [← h]; exact List.mem_map_of_mem hg
  obtain ⟨x, _, e⟩ := List.mem_map.1 h1
  unfold key fewK at e
  simp only [Prod.mk.injEq] at e
  rw [← e.2.2]
  unfold fewE
  simp; omega
theorem few_16 {gs gs0 : List Gp} (h : gs.map key = fewP gs0) : gs.length ≤ 16 := by
  have := congrArg List.length h
  unfold fewP at this
  simp at this; omega
/-- what few leaves, as a row of groups -/
theorem few_gsr {w : World} {base n c : Nat} {A : Option Addr} {gs gs0 : List Gp} (ho : Own w base 37 3 A n c (fl gc gs)) (hg : GsO w base gs) (hk : gs.map key = fewP gs0) : GsR w w.heap.size A n gs ∧ n ≤ 16 ∧ n ≤ c := by
  refine ⟨hg.gsr ho fun g h => ?_, ?_, ho.cap.1⟩
  · have h1 := few_es6 hk g h
    have h2 := (hg.own g h).lenL ec_len (by decide)
    omega
  · have h1 := few_16 hk
    have h2 := ho.lenL gc_len (by decide)
    omega
end Go.Proofs.Ytobifmndpkjlmaa

