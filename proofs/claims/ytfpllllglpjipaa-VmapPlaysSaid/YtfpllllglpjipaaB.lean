/- What vmap's is, the test of Set, IndexFunc and ContainsFunc of it, Clone and may return. -/
import Derived.Test.YtfpllllglpjipaaA
namespace Go.Proofs.Ytfpllllglpjipaa
open Go.RowKit Go.BW

def inB (n : Int) (N : Nat) : Bool := decide (0 ≤ n) && decide (n < N)
theorem is_any {w : World} {g N c : Nat} {A : Option Addr} {m : Value} (h : Obj1 w g 56 #[.slice A N c, m]) (n : Int) : Calls Try.prog 27 #[pv g, .int .i64 n] w fun e w' => e = .returned (.bool (inB n N)) ∧ w = w' := by
  have hc := h.cell 0
  rw [show (#[Value.slice A N c, m])[0]? = some (.slice A N c) from rfl] at hc
  unfold pv
  by_cases h0 : 0 ≤ n
  · by_cases h1 : n < N
    · rw [show inB n N = true from by unfold inB; simp [h0, h1]]
      go_enter Try.func27, Try.ntmps27
      go_wp2
      go_ret
      exact ⟨rfl, rfl⟩
    · rw [show inB n N = false from by unfold inB; simp [h1]]
      go_enter Try.func27, Try.ntmps27
      go_wp2
      go_ret
      exact ⟨rfl, rfl⟩
  · rw [show inB n N = false from by unfold inB; simp [h0]]
    go_enter Try.func27, Try.ntmps27
    go_wp2
    go_ret
    exact ⟨rfl, rfl⟩
/-- the test of Set: is there no such block? -/
theorem test_any {w : World} {g N c bx : Nat} {A : Option Addr} {m : Value} (h : Obj1 w g 56 #[.slice A N c, m]) (hb : Obj1 w bx 24 #[pv g]) (x : Ch) : Calls Try.prog 26 #[cv x, pv bx] w (Ret (.bool (!inB x.b N)) w) := by
  have hi := fun (w1 : World) (n1 : Nw w w1) => is_any (h.nw n1) x.b
  obtain ⟨R, hR⟩ : ∃ R, inB x.b N = R := ⟨_, rfl⟩
  rw [hR]
  rw [hR] at hi
  clear hR
  have hc : ∀ w', Nw w w' → w'.cell? ⟨bx, 0, none⟩ = some (.pointer (some ⟨g, 0, none⟩)) := fun w' k => by rw [(hb.nw k).cell 0]; rfl
  have hcc := hc _ (World.grownBy_alloc w (.cells #[.int .i64 x.b, .int .i64 x.to.t, .int .i64 x.to.g, .int .i64 x.to.s] 33) none)
  unfold pv at hi ⊢
  unfold cv
  have HI := Lib.hid hi; clear hi
  clear hc hb h
  go_enter Try.func26, Try.ntmps26
  go_wp2_with (refine (HI.out _ (World.grownBy_alloc w _ none)).mono ?_; rintro e w2 ⟨rfl, rfl⟩)
  go_ret
  exact ⟨rfl, World.grownBy_alloc w _ none⟩
/-- are all these blocks there? -/
def allIn (N : Nat) (l : List Ch) : Bool := l.all fun x => inB x.b N
def IndexPost (r : Bool) (w : World) (e : Ending) (w' : World) : Prop := ∃ v : Int, e = .returned (.int .i64 v) ∧ decide (0 ≤ v) = r ∧ Nw w w'
theorem index_any {w : World} {B g N c bx : Nat} {A : Option Addr} {m : Value} (h : Obj1 w g 56 #[.slice A N c, m]) (hb : Obj1 w bx 24 #[pv g]) {L : Option Addr} {n d : Nat} {l : List Ch} (hr : Rd w B 4 L n (fl cc l)) (hB : B ≤ w.heap.size) (hn : n ≤ 1000000) :
    Calls Try.prog 31 #[.slice L n d, .func (.func 26) #[] #[pv bx]] w (IndexPost (!allIn N l) w) := by
  have hlen := hr.lenL cc_len (by omega)
  have HR := Lib.hid hr; clear hr
  have HT := Lib.hid (fun (w1 : World) (n1 : Nw w w1) (x : Ch) => test_any (h.nw n1) (hb.nw n1) x)
  clear h hb
  unfold pv cv at HT
  unfold pv
  have HL := Lib.hid hlen; clear hlen
  go_enter Try.func31, Try.ntmps31
  go_wp2_with fail
  go_loopw [8] (fun i wr => ∃ k : Nat, k ≤ n ∧ i = .int .i64 k ∧ allIn N (l.take k) = true ∧ Nw w wr) (fun i _ => n - (intOf i).toNat)
  case atStart => exact ⟨0, Nat.zero_le _, rfl, rfl, Nw.refl w⟩
  case round =>
    obtain ⟨k, hk, rfl, hno, hnw⟩ := hrel
    have HNO := Lib.hid hno; clear hno
    have HNW := Lib.hid hnw; clear hnw
    by_cases hlt : k < n
    · obtain ⟨_, b, off, x, rfl, hb, hx, hc⟩ := (HR.out.nw HNW.out hB).atL cc_len (by omega) hlt
      have HX := Lib.hid hx; clear hx
      have c0 := hc 0 _ rfl; have c1 := hc 1 _ rfl; have c2 := hc 2 _ rfl; have c3 := hc 3 _ rfl
      rw [Nat.add_zero] at c0
      clear hc
      obtain ⟨q, hq⟩ : ∃ q, inB x.b N = q := ⟨_, rfl⟩
      have HQ := Lib.hid hq; clear hq
      have HS : allIn N (l.take (k + 1)) = q := by
        rw [← HQ.out]
        obtain ⟨hkl, e⟩ := List.getElem?_eq_some_iff.1 HX.out
        have := HNO.out
        unfold allIn at this ⊢
        rw [List.take_succ_eq_append_getElem hkl, List.all_append, this, e]
        simp
      have HS' := Lib.hid HS; clear HS
      rcases q with _ | _
      all_goals
        go_wp2_with (refine (HT.out _ HNW.out x).mono ?_; rintro e w2 ⟨rfl, n2⟩; rw [HQ.out]; have N2 := Lib.hid n2; clear n2)
      · go_ret
        refine ⟨_, rfl, ?_, gb_trans HNW.out N2.out⟩
        have : allIn N l = false := by
          have h1 := HS'.out
          unfold allIn at h1 ⊢
          rw [← List.take_append_drop (k + 1) l, List.all_append, h1]
          rfl
        rw [this]
        simp
      · exact ⟨⟨k + 1, hlt, by go_num, HS'.out, gb_trans HNW.out N2.out⟩, by simp [intOf]; omega⟩
    · have hk' : k = n := by omega
      go_wp2
      go_ret
      refine ⟨_, rfl, ?_, HNW.out⟩
      have := HNO.out
      rw [List.take_of_length_le (by have := HL.out; omega)] at this
      rw [this]
      simp
theorem contains_any {w : World} {B g N c bx : Nat} {A : Option Addr} {m : Value} (h : Obj1 w g 56 #[.slice A N c, m]) (hb : Obj1 w bx 24 #[pv g]) {L : Option Addr} {n d : Nat} {l : List Ch} (hr : Rd w B 4 L n (fl cc l)) (hB : B ≤ w.heap.size) (hn : n ≤ 1000000) :
    Calls Try.prog 25 #[.slice L n d, .func (.func 26) #[] #[pv bx]] w (Ret (.bool (!allIn N l)) w) := by
  have HI := index_any (d := d) h hb hr hB hn
  clear h hb hr
  unfold pv at HI ⊢
  have HI' := Lib.hid HI; clear HI
  go_enter Try.func25, Try.ntmps25
  go_wp2_with (refine HI'.out.mono ?_; rintro e w2 ⟨v, rfl, hv, n2⟩; have HV := Lib.hid hv; clear hv; have N2 := Lib.hid n2; clear n2)
  go_ret
  exact ⟨by first | rfl | (rw [HV.out]; rfl), N2.out⟩
/-! the map of a literal: ints to ints -/
def IMap (w : World) (b : Nat) (kv : List (Int × Int)) : Prop :=
  ∃ es clock, w.heap[b]? = some (.map es clock) ∧ es.toList.map (fun e => (e.key, e.val)) = kv.map fun p => (Value.int .i64 p.1, Value.int .i64 p.2)
def ilook (kv : List (Int × Int)) (x : Int) : Option Int := (kv.find? fun p => x == p.1).map (·.2)
theorem IMap.new (w : World) : IMap (w.alloc (.map #[] 0)) w.heap.size [] := ⟨#[], 0, heap_alloc_new w _, rfl⟩
theorem ifind (x : Int) : ∀ (es : List MapEntry) (kv : List (Int × Int)) (i : Nat), es.map (fun e => (e.key, e.val)) = kv.map (fun p => (Value.int .i64 p.1, Value.int .i64 p.2)) →
    ∃ r, Instr.findNow (.int .i64) (.int .i64 x) es i = some r ∧ r.map (·.2) = (ilook kv x).map (.int .i64 ·)
  | [], [], i, _ => ⟨none, rfl, rfl⟩
  | [], _ :: _, _, h => by simp at h
  | _ :: _, [], _, h => by simp at h
  | e :: es, p :: kv, i, h => by
    simp only [List.map_cons, List.cons.injEq, Prod.mk.injEq] at h
    obtain ⟨⟨h1, h2⟩, h3⟩ := h
    unfold Instr.findNow ilook
    rw [h1]
    simp only [Instr.sameNow, if_true]
    by_cases hx : x = p.1
    · simp [hx, h2]
    · obtain ⟨r, h4, h5⟩ := ifind x es kv (i + 1) h3
      have hb : (x == p.1) = false := by rw [beq_eq_false_iff_ne]; exact hx
      rw [hb]
      simp only [List.find?_cons, hb]
      exact ⟨r, h4, h5⟩
theorem run_ifind {w : World} (x : Int) (es : List MapEntry) (kv : List (Int × Int)) (h : es.map (fun e => (e.key, e.val)) = kv.map (fun p => (Value.int .i64 p.1, Value.int .i64 p.2))) :
    ∃ r, (Instr.findKey 3 (.int .i64 x) es).run Try.prog w = .ok r w ∧ r.map (·.2) = (ilook kv x).map (.int .i64 ·) := by
  obtain ⟨r, h1, h2⟩ := ifind x es kv 0 h
  refine ⟨r, ?_, h2⟩
  unfold Instr.findKey
  rw [Sem.run_bind, run_underlying Try.underlying3]
  simp only [Result.andThen_ok, h1]
  rfl
theorem run_checkKeyI {w : World} (em : Bool) (a : Int) : (Instr.checkKey em 10000 3 (.int .i64 a)).run Try.prog w = .ok () w := by
  unfold Instr.checkKey
  rw [Sem.run_bind, run_underlying Try.underlying3 w]
  rfl
theorem run_ilookup {w : World} {b : Nat} {kv : List (Int × Int)} (h : IMap w b kv) (x : Int) :
    (Instr.lookup 62 (.map (some b)) (.int .i64 x) true).run Try.prog w = .ok (.tuple #[.int .i64 ((ilook kv x).getD 0), .bool (ilook kv x).isSome]) w := by
  obtain ⟨es, clock, hb, hk⟩ := h
  obtain ⟨r, h1, h2⟩ := run_ifind (w := w) x es.toList kv hk
  have hz : (zeroValue 3).run Try.prog w = .ok (.int .i64 0) w := by
    obtain ⟨i, hi, hz, _⟩ := T41.info
    simp [zeroValue, typeInfo, hi, hz]
  unfold Instr.lookup
  rw [Sem.run_bind, run_underlying Try.underlying62]
  simp only [Result.andThen_ok, Sem.run_bind, MapKept.run_getObj_map hb, Sem.run_pure, run_checkKeyI, h1]
  rcases r with _ | ⟨j, v⟩
  · have : ilook kv x = none := by cases hl : ilook kv x; rfl; rw [hl] at h2; cases h2
    simp [this, hz, Sem.run_bind, Sem.run_pure]
  · cases hl : ilook kv x with
    | none => rw [hl] at h2; cases h2
    | some a =>
      rw [hl] at h2
      simp only [Option.map_some, Option.some.injEq] at h2
      simp [h2, Sem.run_bind, Sem.run_pure]
theorem run_iupdate {w : World} {b : Nat} {kv : List (Int × Int)} (h : IMap w b kv) (x v : Int) (hn : ilook kv x = none) :
    ∃ w', (Instr.mapUpdate 62 (.map (some b)) (.int .i64 x) (.int .i64 v)).run Try.prog w = .ok () w' ∧ IMap w' b (kv ++ [(x, v)]) ∧ w.grownBy w' (some b) := by
  obtain ⟨es, clock, hb, hk⟩ := h
  obtain ⟨r, h1, h2⟩ := run_ifind (w := w) x es.toList kv hk
  rw [hn] at h2
  have hr : r = none := by cases r; rfl; simp at h2
  subst hr
  have hlt := (Array.getElem?_eq_some_iff.1 hb).1
  refine ⟨{ w with heap := w.heap.setIfInBounds b (.map (es.push { key := .int .i64 x, val := .int .i64 v, born := clock }) (clock + 1)) }, ?_, ⟨es.push { key := .int .i64 x, val := .int .i64 v, born := clock }, clock + 1, ?_, ?_⟩, ⟨rfl, rfl, rfl, by simp, fun k hk hne => ?_⟩⟩
  · unfold Instr.mapUpdate
    rw [Sem.run_bind, run_underlying Try.underlying62]
    simp only [Result.andThen_ok, Sem.run_bind, MapKept.run_getObj_map hb, run_checkKeyI, h1]
    exact MapKept.run_setObj_map _ hb
  · simp [hlt]
  · simp [hk]
  · simp only [Array.getElem?_setIfInBounds]
    rw [if_neg (fun e => hne (by rw [e]))]
section
variable {P : Program} {ops : Array Oper} {rest : List Oper} {o : Oper} {a : Act} {Q : Exit → Act → World → Prop} {w : World}
theorem wpList_mk (t : TypeId) (hop : o.op = .makeMap t none) (hw : Region.wanted o (yielded ops a.tmps) = true) (hK : wpList P ops Q rest (a.put o.dst (.map (some w.heap.size))) (w.alloc (.map #[] 0))) : wpList P ops Q (o :: rest) a w := by
  refine wpList_ran hw (v := .map (some w.heap.size)) (w' := w.alloc (.map #[] 0)) ?_ hK
  unfold execOp
  simp [hop, run_makeMap]
theorem wpList_ilook (hP : P = Try.prog) (m x : Operand) (hop : o.op = .lookup 62 m x true) (hw : Region.wanted o (yielded ops a.tmps) = true) {b : Nat} {kv : List (Int × Int)} (hm : a.eval m = .map (some b)) (y : Int) (hx : a.eval x = .int .i64 y) (h : IMap w b kv) (v : Int) (f : Bool) (hv : (ilook kv y).getD 0 = v) (hf : (ilook kv y).isSome = f)
    (hK : wpList P ops Q rest (a.put o.dst (.tuple #[.int .i64 v, .bool f])) w) : wpList P ops Q (o :: rest) a w := by
  subst hP; subst hv; subst hf
  refine wpList_ran hw (w' := w) ?_ hK
  unfold execOp
  simp [hop, hm, hx, run_ilookup h]
theorem wpList_ins (hP : P = Try.prog) (m x v : Operand) (hop : o.op = .insert 62 m x v) (hw : Region.wanted o (yielded ops a.tmps) = true) {b : Nat} {kv : List (Int × Int)} (hm : a.eval m = .map (some b)) (y : Int) (hx : a.eval x = .int .i64 y) (z : Int) (hv : a.eval v = .int .i64 z) (h : IMap w b kv) (hn : ilook kv y = none)
    (hK : ∀ w', IMap w' b (kv ++ [(y, z)]) → w.grownBy w' (some b) → wpList P ops Q rest (a.put o.dst undef) w') : wpList P ops Q (o :: rest) a w := by
  subst hP
  obtain ⟨w', h1, h2, h3⟩ := run_iupdate h y z hn
  refine wpList_ran_skip hw (w' := w') ?_ (hK w' h2 h3)
  unfold execOp
  simp [hop, hm, hx, hv, h1]
end
def mayB (x : Wh) : Bool :=
  if x.t = 0 then decide (x = w0) else if x.t = 1 then decide (0 ≤ x.s ∧ 0 ≤ x.g ∧ x.s ≤ 7 ∧ x.g ≤ 255) else if x.t = 2 then decide (0 ≤ x.s ∧ 0 ≤ x.g ∧ x.s ≤ 87 ∧ x.g ≤ 255) else false
set_option maxHeartbeats 8000000 in
theorem may_any (x : Wh) (hx : ∀ a, (a = x.t ∨ a = x.g ∨ a = x.s) → -9223372036854775808 ≤ a ∧ a ≤ 9223372036854775807) (w : World) : Calls Try.prog 29 #[wv x] w (Ret (.bool (mayB x)) w) := by
  have ht := hx x.t (.inl rfl); have hg := hx x.g (.inr (.inl rfl)); have hs := hx x.s (.inr (.inr rfl))
  clear hx
  obtain ⟨xt, xg, xs⟩ := x
  simp only at ht hg hs
  unfold wv
  obtain ⟨w1, hw1⟩ : ∃ w1, w1 = w.alloc (.cells #[.int .i64 xt, .int .i64 xg, .int .i64 xs] 31) := ⟨_, rfl⟩
  have n1 : Nw w w1 := by rw [hw1]; exact World.grownBy_alloc w _ none
  have OB := Lib.hid (show Obj1 w1 w.heap.size 31 #[.int .i64 xt, .int .i64 xg, .int .i64 xs] from by rw [hw1]; exact Obj1.new w _ _)
  have N1 := Lib.hid n1; clear n1
  have HW1 := Lib.hid hw1; clear hw1
  have hc0 : ∀ w', Nw w1 w' → w'.cell? ⟨w.heap.size, 0, none⟩ = some (.int .i64 xt) := fun w' k => by rw [(OB.out.nw k).cell 0]; rfl
  have hc1 : ∀ w', Nw w1 w' → w'.cell? ⟨w.heap.size, 1, none⟩ = some (.int .i64 xg) := fun w' k => by rw [(OB.out.nw k).cell 1]; rfl
  have hc2 : ∀ w', Nw w1 w' → w'.cell? ⟨w.heap.size, 2, none⟩ = some (.int .i64 xs) := fun w' k => by rw [(OB.out.nw k).cell 2]; rfl
  have HC := Lib.hid (show ∀ w', Nw w1 w' → w'.cell? ⟨w.heap.size, 0, none⟩ = some (.int .i64 xt) ∧ w'.cell? ⟨w.heap.size, 1, none⟩ = some (.int .i64 xg) ∧ w'.cell? ⟨w.heap.size, 2, none⟩ = some (.int .i64 xs) from fun w' k => ⟨hc0 w' k, hc1 w' k, hc2 w' k⟩)
  clear hc0 hc1 hc2
  obtain ⟨r, hr⟩ : ∃ r, mayB ⟨xt, xg, xs⟩ = r := ⟨_, rfl⟩
  rw [hr]
  have HR := Lib.hid hr; clear hr
  by_cases h0 : xt = 0
  · subst h0
    go_enter Try.func29, Try.ntmps29
    go_wp2_with (first | (rw [← HW1.out]; refine wpList_mk 62 rfl rfl ?_; have I2 := Lib.hid (IMap.new w1); have N2 := Lib.hid (World.grownBy_alloc w1 (.map #[] 0) none)) |
      (refine wpList_ins rfl _ _ _ rfl rfl rfl _ rfl _ rfl I3.out (by decide) ?_; intro w4 i4 g4; have N4 := Lib.hid (nw_of_gb N3.out g4 (by intro x e; injection e with e; omega)); have I4 := Lib.hid i4; clear i4 g4; obtain ⟨k0, k1, k2⟩ := HC.out _ N4.out) |
      (refine wpList_ins rfl _ _ _ rfl rfl rfl _ rfl _ rfl I2.out (by decide) ?_; intro w3 i3 g3; have N3 := Lib.hid (nw_of_gb N2.out g3 (by intro x e; injection e with e; omega)); have I3 := Lib.hid i3; clear i3 g3) |
      (refine wpList_eq_wh rfl false _ _ _ rfl rfl ⟨0, xg, xs⟩ w0 rfl rfl r (by rw [← HR.out]; simp [mayB]) ?_))
    go_ret
    exact ⟨rfl, gb_trans N1.out N4.out⟩
  · rcases (show xt = 1 ∨ xt = 2 ∨ (xt ≠ 0 ∧ xt ≠ 1 ∧ xt ≠ 2) from by omega) with h1 | h1 | ⟨h1, h2, h3⟩
    rotate_right
    · have HLK := Lib.hid (show (ilook ([] ++ [(1, 7)] ++ [(2, 87)]) xt).getD 0 = 0 ∧ (ilook ([] ++ [(1, 7)] ++ [(2, 87)]) xt).isSome = false from by simp [ilook, h2, h3])
      have hr : r = false := by rw [← HR.out]; simp [mayB, h1, h2, h3]
      subst hr
      clear h1 h2 h3
      have h0' : (xt == 0) = false := by rw [beq_eq_false_iff_ne]; exact h0
      go_enter Try.func29, Try.ntmps29
      go_wp2_with (first | (rw [← HW1.out]; refine wpList_mk 62 rfl rfl ?_; have I2 := Lib.hid (IMap.new w1); have N2 := Lib.hid (World.grownBy_alloc w1 (.map #[] 0) none)) |
      (refine wpList_ins rfl _ _ _ rfl rfl rfl _ rfl _ rfl I3.out (by decide) ?_; intro w4 i4 g4; have N4 := Lib.hid (nw_of_gb N3.out g4 (by intro x e; injection e with e; omega)); have I4 := Lib.hid i4; clear i4 g4; obtain ⟨k0, k1, k2⟩ := HC.out _ N4.out) |
      (refine wpList_ins rfl _ _ _ rfl rfl rfl _ rfl _ rfl I2.out (by decide) ?_; intro w3 i3 g3; have N3 := Lib.hid (nw_of_gb N2.out g3 (by intro x e; injection e with e; omega)); have I3 := Lib.hid i3; clear i3 g3) |
      (refine wpList_ilook rfl _ _ rfl rfl rfl _ rfl I4.out 0 false (HLK.out.1) (HLK.out.2) ?_))
      go_ret
      exact ⟨rfl, gb_trans N1.out N4.out⟩
    all_goals
      subst h1
      clear h0
    · have HLK := Lib.hid (show (ilook ([] ++ [(1, 7)] ++ [(2, 87)]) 1).getD 0 = 7 ∧ (ilook ([] ++ [(1, 7)] ++ [(2, 87)]) 1).isSome = true from by decide)
      have hr : r = decide (0 ≤ xs ∧ 0 ≤ xg ∧ xs ≤ 7 ∧ xg ≤ 255) := HR.out.symm
      rcases (show (r = false ∧ (xs < 0 ∨ xg < 0)) ∨ (r = false ∧ 0 ≤ xs ∧ 0 ≤ xg ∧ ¬ xs ≤ 7) ∨ (r = false ∧ 0 ≤ xs ∧ 0 ≤ xg ∧ xs ≤ 7 ∧ ¬ xg ≤ 255) ∨ (r = true ∧ 0 ≤ xs ∧ 0 ≤ xg ∧ xs ≤ 7 ∧ xg ≤ 255) from by
        rw [hr]; simp only [decide_eq_true_eq, decide_eq_false_iff_not]; omega) with ⟨rfl, a⟩ | ⟨rfl, a1, a2, a3⟩ | ⟨rfl, a1, a2, a3, a4⟩ | ⟨rfl, a1, a2, a3, a4⟩
      all_goals clear hr
      all_goals rcases (show (xg < xs ∧ ¬ xs ≤ xg) ∨ (¬ xg < xs ∧ xs ≤ xg) from by omega) with ⟨o1, o2⟩ | ⟨o1, o2⟩
      all_goals try (exfalso; omega)
      rcases (show xg < 0 from by omega) with b1
      rotate_left
      rcases (show xs < 0 from by omega) with b1
      rotate_left
      all_goals
        go_enter Try.func29, Try.ntmps29
        go_wp2_with (first | (rw [← HW1.out]; refine wpList_mk 62 rfl rfl ?_; have I2 := Lib.hid (IMap.new w1); have N2 := Lib.hid (World.grownBy_alloc w1 (.map #[] 0) none)) |
        (refine wpList_ins rfl _ _ _ rfl rfl rfl _ rfl _ rfl I3.out (by decide) ?_; intro w4 i4 g4; have N4 := Lib.hid (nw_of_gb N3.out g4 (by intro x e; injection e with e; omega)); have I4 := Lib.hid i4; clear i4 g4; obtain ⟨k0, k1, k2⟩ := HC.out _ N4.out) |
        (refine wpList_ins rfl _ _ _ rfl rfl rfl _ rfl _ rfl I2.out (by decide) ?_; intro w3 i3 g3; have N3 := Lib.hid (nw_of_gb N2.out g3 (by intro x e; injection e with e; omega)); have I3 := Lib.hid i3; clear i3 g3) |
        (refine wpList_ilook rfl _ _ rfl rfl rfl _ rfl I4.out 7 true (HLK.out.1) (HLK.out.2) ?_))
        go_ret
        exact ⟨by first | rfl | (simp; omega), gb_trans N1.out N4.out⟩
    · have HLK := Lib.hid (show (ilook ([] ++ [(1, 7)] ++ [(2, 87)]) 2).getD 0 = 87 ∧ (ilook ([] ++ [(1, 7)] ++ [(2, 87)]) 2).isSome = true from by decide)
      have hr : r = decide (0 ≤ xs ∧ 0 ≤ xg ∧ xs ≤ 87 ∧ xg ≤ 255) := HR.out.symm
      rcases (show (r = false ∧ (xs < 0 ∨ xg < 0)) ∨ (r = false ∧ 0 ≤ xs ∧ 0 ≤ xg ∧ ¬ xs ≤ 87) ∨ (r = false ∧ 0 ≤ xs ∧ 0 ≤ xg ∧ xs ≤ 87 ∧ ¬ xg ≤ 255) ∨ (r = true ∧ 0 ≤ xs ∧ 0 ≤ xg ∧ xs ≤ 87 ∧ xg ≤ 255) from by
        rw [hr]; simp only [decide_eq_true_eq, decide_eq_false_iff_not]; omega) with ⟨rfl, a⟩ | ⟨rfl, a1, a2, a3⟩ | ⟨rfl, a1, a2, a3, a4⟩ | ⟨rfl, a1, a2, a3, a4⟩
      all_goals clear hr
      all_goals rcases (show (xg < xs ∧ ¬ xs ≤ xg) ∨ (¬ xg < xs ∧ xs ≤ xg) from by omega) with ⟨o1, o2⟩ | ⟨o1, o2⟩
      all_goals try (exfalso; omega)
      rcases (show xg < 0 from by omega) with b1
      rotate_left
      rcases (show xs < 0 from by omega) with b1
      rotate_left
      all_goals
        go_enter Try.func29, Try.ntmps29
        go_wp2_with (first | (rw [← HW1.out]; refine wpList_mk 62 rfl rfl ?_; have I2 := Lib.hid (IMap.new w1); have N2 := Lib.hid (World.grownBy_alloc w1 (.map #[] 0) none)) |
        (refine wpList_ins rfl _ _ _ rfl rfl rfl _ rfl _ rfl I3.out (by decide) ?_; intro w4 i4 g4; have N4 := Lib.hid (nw_of_gb N3.out g4 (by intro x e; injection e with e; omega)); have I4 := Lib.hid i4; clear i4 g4; obtain ⟨k0, k1, k2⟩ := HC.out _ N4.out) |
        (refine wpList_ins rfl _ _ _ rfl rfl rfl _ rfl _ rfl I2.out (by decide) ?_; intro w3 i3 g3; have N3 := Lib.hid (nw_of_gb N2.out g3 (by intro x e; injection e with e; omega)); have I3 := Lib.hid i3; clear i3 g3) |
        (refine wpList_ilook rfl _ _ rfl rfl rfl _ rfl I4.out 87 true (HLK.out.1) (HLK.out.2) ?_))
        go_ret
        exact ⟨by first | rfl | (simp; omega), gb_trans N1.out N4.out⟩
end Go.Proofs.Ytfpllllglpjipaa

