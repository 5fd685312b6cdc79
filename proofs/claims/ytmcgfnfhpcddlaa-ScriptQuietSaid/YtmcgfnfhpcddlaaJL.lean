/- A bank in memory, by its shape: what its blocks hold is left open, only their make is told. -/
import Derived.Test.YtmcgfnfhpcddlaaJE
import Derived.Test.YtmcgfnfhpcddlaaJD
import Derived.Deep.DeepCutAuto
set_option linter.unusedVariables false
set_option linter.unusedSimpArgs false
/- A bank in memory, by its shape: what its blocks hold is left open, only their make is told. -/
namespace Go.Proofs.Ytmcgfnfhpcddlaa
open Go.RowKit Go.BW

def pv (p : Nat) : Value := .pointer (some ⟨p, 0, none⟩)
/-- a block of n sectors; a block of n ints: -/
def C33 (w : World) (r n : Nat) : Prop := ∃ xs : List UInt8, xs.length = 64 * n ∧ Obj1 w r 33 (xs.map bv).toArray
/-- noughts, but for the first one if f -/
def C3 (w : World) (f : Bool) (r n : Nat) : Prop := 1 ≤ n ∧ ∃ z : Int, (f = false → z = 0) ∧ Obj1 w r 3 ((z :: List.replicate (n - 1) (0 : Int)).map iv).toArray
/-- a disk: its object, its rows, how many sectors -/
structure Mem where
  p : Nat
  r1 : Nat
  r2 : Nat
  r3 : Nat
  n : Nat
def memC (m : Mem) (dead : Bool) (fa : Int) : Array Value := #[.slice (some ⟨m.r1, 0, none⟩) m.n m.n, .slice (some ⟨m.r2, 0, none⟩) m.n m.n, .slice (some ⟨m.r3, 0, none⟩) m.n m.n, .bool dead, .int .i64 fa]
def MO (w : World) (m : Mem) : Prop := ∃ dead fa, Obj1 w m.p 114 (memC m dead fa)
/-- whatever has a shape keeps it; x: a row of ints whose first one may change -/
structure Shp (x : Nat) (w w' : World) : Prop where
  c33 : ∀ r n, C33 w r n → C33 w' r n
  c3 : ∀ f r n, C3 w f r n → (f = false → r ≠ x) → C3 w' f r n
  mo : ∀ m, MO w m → MO w' m
theorem Shp.refl (x : Nat) (w : World) : Shp x w w := ⟨fun _ _ h => h, fun _ _ _ h _ => h, fun _ h => h⟩
theorem Shp.trans {y : Nat} {a b c : World} (h : Shp y a b) (k : Shp y b c) : Shp y a c := ⟨fun r n x => k.c33 r n (h.c33 r n x), fun f r n x q => k.c3 f r n (h.c3 f r n x q) q, fun m x => k.mo m (h.mo m x)⟩
theorem C33.eq {w w' : World} {r n : Nat} (h : C33 w r n) (e : w'.heap[r]? = w.heap[r]?) : C33 w' r n := by obtain ⟨xs, h1, h2⟩ := h; exact ⟨xs, h1, h2.eq e⟩
theorem C3.eq {w w' : World} {r n : Nat} {f : Bool} (h : C3 w f r n) (e : w'.heap[r]? = w.heap[r]?) : C3 w' f r n := by obtain ⟨h0, z, h1, h2⟩ := h; exact ⟨h0, z, h1, h2.eq e⟩
theorem C3.any {w : World} {r n : Nat} (h : C3 w false r n) (f : Bool) : C3 w f r n := by obtain ⟨h0, z, h1, h2⟩ := h; exact ⟨h0, z, fun _ => h1 rfl, h2⟩
theorem MO.eq {w w' : World} {m : Mem} (h : MO w m) (e : w'.heap[m.p]? = w.heap[m.p]?) : MO w' m := by obtain ⟨d, f, h2⟩ := h; exact ⟨d, f, h2.eq e⟩
theorem C33.lt {w : World} {r n : Nat} (h : C33 w r n) : r < w.heap.size := by obtain ⟨_, _, h⟩ := h; exact h.lt
theorem C3.obj {w : World} {r n : Nat} {f : Bool} (h : C3 w f r n) : ∃ cs, Obj1 w r 3 cs := by obtain ⟨_, _, _, h⟩ := h; exact ⟨_, h⟩
theorem C3.lt {w : World} {r n : Nat} {f : Bool} (h : C3 w f r n) : r < w.heap.size := by obtain ⟨_, h⟩ := h.obj; exact h.lt
theorem MO.lt {w : World} {m : Mem} (h : MO w m) : m.p < w.heap.size := by obtain ⟨_, _, h⟩ := h; exact h.lt
theorem Shp.nw {x : Nat} {w w' : World} (k : Nw w w') : Shp x w w' :=
  ⟨fun _ _ h => h.eq (k.block _ h.lt (by simp)), fun _ _ _ h _ => h.eq (k.block _ h.lt (by simp)), fun _ h => h.eq (k.block _ h.lt (by simp))⟩
theorem Shp.drew {x : Nat} {w w' : World} (h : Shp x w w') : Shp x w w'.drew := ⟨fun r n x => h.c33 r n x, fun f r n x q => h.c3 f r n x q, fun m x => h.mo m x⟩
theorem Shp.from {x : Nat} {w w' : World} (h : Shp x w.drew w') : Shp x w w' := ⟨fun r n x => h.c33 r n x, fun f r n x q => h.c3 f r n x q, fun m x => h.mo m x⟩
/-- one block alone is changed, of another type -/
theorem Shp.other {x : Nat} {w w' : World} {g : Nat} {t : TypeId} {cs : Array Value} (k : w.grownBy w' (some g)) (h : Obj1 w g t cs) (h1 : t ≠ 33) (h2 : t ≠ 3) (h3 : t ≠ 114) : Shp x w w' :=
  ⟨fun r n x => x.eq (k.block _ x.lt (fun e => by obtain ⟨_, _, y⟩ := x; injection e with e; exact (y.ne h (fun e2 => h1 e2.symm)) e)),
   fun f r n x _ => x.eq (k.block _ x.lt (fun e => by obtain ⟨_, y⟩ := x.obj; injection e with e; exact (y.ne h (fun e2 => h2 e2.symm)) e)),
   fun m x => x.eq (k.block _ x.lt (fun e => by obtain ⟨_, _, y⟩ := x; injection e with e; exact (y.ne h (fun e2 => h3 e2.symm)) e))⟩
/-- one block of sectors, of ints, a disk's object -/
theorem Shp.of33 {x : Nat} {w w' : World} {g : Nat} {xs ys : List UInt8} (k : w.grownBy w' (some g)) (h : Obj1 w g 33 (xs.map bv).toArray) (h' : Obj1 w' g 33 (ys.map bv).toArray) (hl : ys.length = xs.length) : Shp x w w' :=
  ⟨fun r n x => by
    by_cases e : r = g
    · subst e
      obtain ⟨zs, z1, z2⟩ := x
      refine ⟨ys, ?_, h'⟩
      have := Option.some.inj (z2.symm.trans h)
      injection this with this
      have := congrArg Array.size this
      simp at this
      omega
    · exact x.eq (k.block _ x.lt (fun e2 => e (by injection e2)))
   , fun f r n x _ => x.eq (k.block _ x.lt (fun e => by obtain ⟨_, y⟩ := x.obj; injection e with e; exact (y.ne h (by decide)) e)),
   fun m x => x.eq (k.block _ x.lt (fun e => by obtain ⟨_, _, y⟩ := x; injection e with e; exact (y.ne h (by decide)) e))⟩
theorem Shp.of3 {w w' : World} {x n : Nat} {z z' : Int} (k : w.grownBy w' (some x)) (h : Obj1 w x 3 ((z :: List.replicate (n - 1) (0 : Int)).map iv).toArray) (h' : Obj1 w' x 3 ((z' :: List.replicate (n - 1) (0 : Int)).map iv).toArray) (hn : 1 ≤ n) : Shp x w w' :=
  ⟨fun r n x => x.eq (k.block _ x.lt (fun e => by obtain ⟨_, _, y⟩ := x; injection e with e; exact (y.ne h (by decide)) e)),
   fun f r n' q hq => by
    by_cases e : r = x
    · obtain ⟨h0, u, h1, h2⟩ := q
      rw [e] at h2 ⊢
      refine ⟨h0, z', fun hf => absurd e (hq hf), ?_⟩
      have := Option.some.inj (h2.symm.trans h)
      injection this with this
      have := congrArg Array.size this
      simp at this
      have hnn : n' = n := by omega
      rw [hnn]; exact h'
    · exact q.eq (k.block _ q.lt (fun e2 => e (by injection e2)))
   , fun m x => x.eq (k.block _ x.lt (fun e => by obtain ⟨_, _, y⟩ := x; injection e with e; exact (y.ne h (by decide)) e))⟩
theorem Shp.of114 {x : Nat} {w w' : World} {m : Mem} {d d' : Bool} {f f' : Int} (k : w.grownBy w' (some m.p)) (h : Obj1 w m.p 114 (memC m d f)) (h' : Obj1 w' m.p 114 (memC m d' f')) : Shp x w w' :=
  ⟨fun r n x => x.eq (k.block _ x.lt (fun e => by obtain ⟨_, _, y⟩ := x; injection e with e; exact (y.ne h (by decide)) e)),
   fun f r n x _ => x.eq (k.block _ x.lt (fun e => by obtain ⟨_, y⟩ := x.obj; injection e with e; exact (y.ne h (by decide)) e)),
   fun q x => by
    by_cases e : q.p = m.p
    · obtain ⟨dq, fq, z⟩ := x
      rw [e] at z
      have := Option.some.inj (z.symm.trans h)
      injection this with this
      simp only [memC, Array.mk.injEq, List.cons.injEq, Value.slice.injEq, Option.some.injEq, Addr.mk.injEq] at this
      refine ⟨d', f', ?_⟩
      rw [e]
      have hq : memC q d' f' = memC m d' f' := by simp only [memC, this]
      rw [hq]; exact h'
    · exact x.eq (k.block _ x.lt (fun e2 => e (by injection e2)))⟩
/-- a disk with its rows -/
structure MemI (w : World) (f : Bool) (m : Mem) : Prop where
  mo : MO w m
  a : C33 w m.r1 m.n
  b : C33 w m.r2 m.n
  c : C3 w f m.r3 m.n
  small : m.n ≤ 4096
theorem MemI.shp {w w' : World} {f : Bool} {m : Mem} {x : Nat} (h : MemI w f m) (k : Shp x w w') (hx : f = false → m.r3 ≠ x) : MemI w' f m := ⟨k.mo m h.mo, k.c33 _ _ h.a, k.c33 _ _ h.b, k.c3 _ _ _ h.c hx, h.small⟩
/-- the first disk's row of ints -/
def fst3 : List Mem → Nat | m :: _ => m.r3 | [] => 0
def bankC (A : Option Addr) (k c : Nat) (dn : Bool) (ck wr ar : Int) (mk : Nat) : Array Value := #[.slice A k c, .bool dn, .int .i64 ck, .int .i64 wr, .int .i64 ar, .int .u64 (mk : Int)]
/-- a bank at b, down or not, with these disks, its row of them at A -/
structure BankI (w : World) (b : Nat) (dn : Bool) (ar : Int) (A : Option Addr) (c : Nat) (ms : List Mem) : Prop where
  obj : ∃ ck wr mk, Obj1 w b 109 (bankC A ms.length c dn ck wr ar mk)
  row : Own w 0 115 1 A ms.length c (ms.map fun m => pv m.p)
  mem : ∀ i m, ms[i]? = some m → MemI w (decide (i = 0)) m
  sep : ∀ i m, ms[i + 1]? = some m → m.r3 ≠ fst3 ms
/-- all blocks that calls of a bank may change -/
def fpB (b : Nat) (ms : List Mem) : List Nat := b :: ms.flatMap fun m => [m.p, m.r1, m.r2, m.r3]
theorem fpB_b (b : Nat) (ms : List Mem) : b ∈ fpB b ms := List.mem_cons_self ..
theorem fpB_m {b : Nat} {ms : List Mem} {m : Mem} (h : m ∈ ms) : ∀ x ∈ [m.p, m.r1, m.r2, m.r3], x ∈ fpB b ms := fun x hx => List.mem_cons_of_mem _ (List.mem_flatMap.2 ⟨m, h, hx⟩)
theorem fpB_out {b x : Nat} {ms : List Mem} (h : x ∈ fpB b ms) : x = b ∨ ∃ m ∈ ms, x = m.p ∨ x = m.r1 ∨ x = m.r2 ∨ x = m.r3 := by
  rcases List.mem_cons.1 h with h | h
  · exact .inl h
  · obtain ⟨m, hm, hx⟩ := List.mem_flatMap.1 h
    simp at hx
    exact .inr ⟨m, hm, hx⟩
/-- a block of another type is none of the bank's -/
theorem BankI.not {w : World} {b c g : Nat} {dn : Bool} {ar : Int} {A : Option Addr} {ms : List Mem} (h : BankI w b dn ar A c ms) {t : TypeId} {cs : Array Value} (ho : Obj1 w g t cs) (h1 : t ≠ 109) (h2 : t ≠ 114) (h3 : t ≠ 33) (h4 : t ≠ 3) : g ∉ fpB b ms := fun hg => by
  rcases fpB_out hg with rfl | ⟨m, hm, e⟩
  · obtain ⟨_, _, _, y⟩ := h.obj; exact (y.ne ho (fun e => h1 e.symm)) rfl
  · obtain ⟨i, hi⟩ := List.getElem?_of_mem hm
    have hi := h.mem i m hi
    rcases e with rfl | rfl | rfl | rfl
    · obtain ⟨_, _, y⟩ := hi.mo; exact (y.ne ho (fun e => h2 e.symm)) rfl
    · obtain ⟨_, _, y⟩ := hi.a; exact (y.ne ho (fun e => h3 e.symm)) rfl
    · obtain ⟨_, _, y⟩ := hi.b; exact (y.ne ho (fun e => h3 e.symm)) rfl
    · obtain ⟨_, y⟩ := hi.c.obj; exact (y.ne ho (fun e => h4 e.symm)) rfl
theorem BankI.lt {w : World} {b c : Nat} {dn : Bool} {ar : Int} {A : Option Addr} {ms : List Mem} (h : BankI w b dn ar A c ms) : ∀ x ∈ fpB b ms, x < w.heap.size := fun x hx => by
  rcases fpB_out hx with rfl | ⟨m, hm, e⟩
  · obtain ⟨_, _, _, y⟩ := h.obj; exact y.lt
  · obtain ⟨i, hi⟩ := List.getElem?_of_mem hm
    have hi := h.mem i m hi
    rcases e with rfl | rfl | rfl | rfl
    · exact hi.mo.lt
    · exact hi.a.lt
    · exact hi.b.lt
    · exact hi.c.lt
theorem own_chg {w w' : World} {base size n c : Nat} {e : TypeId} {A : Option Addr} {xs : List Value} {F : List Nat} (h : Own w base e size A n c xs) (k : Chg w w' F) (hne : ∀ r, (Value.slice A n c).ownBlock = some r → r ∉ F) : Own w' base e size A n c xs := by
  rcases h.2 with h2 | ⟨g, cap, cur, hv, hb, hg, rest⟩
  · exact ⟨h.1, .inl h2⟩
  · refine ⟨h.1, .inr ⟨g, cap, cur, hv, hb, ?_, rest⟩⟩
    have ho : (Value.slice A n c).ownBlock = some g := by rw [hv]; rfl
    exact (k.block g (Obj1.lt hg) (hne g ho)).trans hg
/-- what calls of a bank's own do to it: its object told apart -/
theorem BankI.step {w w' : World} {b c : Nat} {dn dn' : Bool} {ar ar' : Int} {A : Option Addr} {ms : List Mem} (h : BankI w b dn ar A c ms) (k : Chg w w' (fpB b ms)) (s : Shp (fst3 ms) w w') (ho : ∃ ck wr mk, Obj1 w' b 109 (bankC A ms.length c dn' ck wr ar' mk)) : BankI w' b dn' ar' A c ms := by
  refine ⟨ho, ?_, fun i m hm => (h.mem i m hm).shp s (fun hf => ?_), h.sep⟩
  rotate_left
  · cases i with
    | zero => exact absurd hf (by decide)
    | succ i => exact h.sep i m hm
  refine own_chg h.row k fun r hr => ?_
  obtain ⟨cur, hc⟩ := h.row.rowObj r hr
  exact h.not hc (by decide) (by decide) (by decide) (by decide)
end Go.Proofs.Ytmcgfnfhpcddlaa


/- A bank's small calls: Up, Start, Count, is, Dead, Arm, FailAt. -/
namespace Go.Proofs.Ytmcgfnfhpcddlaa
open Go.RowKit Go.BW

theorem gb_set (w : World) (g i : Nat) (u : Value) : w.grownBy (w.setCell ⟨g, i, none⟩ u) (some g) :=
  ⟨rfl, rfl, rfl, by simp [World.setCell], fun j _ hn => Below.heap_setCell w _ u j (by rintro rfl; exact hn rfl)⟩
/-- a bank behind a call: what may have changed -/
structure BStep (b : Nat) (A : Option Addr) (c : Nat) (ms : List Mem) (dn' : Bool) (ar' : Int) (w w' : World) : Prop where
  chg : Chg w w' (fpB b ms)
  shp : Shp (fst3 ms) w w'
  obj : ∃ ck wr mk, Obj1 w' b 109 (bankC A ms.length c dn' ck wr ar' mk)
def BPost (v : Value) (b : Nat) (A : Option Addr) (c : Nat) (ms : List Mem) (dn' : Bool) (ar' : Int) (w : World) (e : Ending) (w' : World) : Prop := e = .returned v ∧ BStep b A c ms dn' ar' w w'
section
variable {w w' w'' : World} {b c : Nat} {dn dn' dn'' : Bool} {ar ar' ar'' : Int} {A : Option Addr} {ms : List Mem}
theorem BStep.bank (k : BStep b A c ms dn' ar' w w') (h : BankI w b dn ar A c ms) : BankI w' b dn' ar' A c ms := h.step k.chg k.shp k.obj
theorem BStep.trans (k : BStep b A c ms dn' ar' w w') (k' : BStep b A c ms dn'' ar'' w' w'') : BStep b A c ms dn'' ar'' w w'' := ⟨k.chg.trans k'.chg (fun _ h => .inl h), k.shp.trans k'.shp, k'.obj⟩
theorem BankI.refl (h : BankI w b dn ar A c ms) : BStep b A c ms dn ar w w := ⟨Chg.refl _ _, Shp.refl _ _, h.obj⟩
theorem BankI.nw (h : BankI w b dn ar A c ms) (k : Nw w w') : BankI w' b dn ar A c ms :=
  h.step (Chg.of_nw k) (Shp.nw k) (by obtain ⟨a1, a2, a3, h1⟩ := h.obj; exact ⟨a1, a2, a3, h1.nw k⟩)
/-- changes elsewhere -/
theorem BankI.far {F : List Nat} (h : BankI w b dn ar A c ms) (k : Chg w w' F) (hd : ∀ x ∈ fpB b ms, x ∉ F) (hr : ∀ r, (Value.slice A ms.length c).ownBlock = some r → r ∉ F) : BankI w' b dn ar A c ms := by
  have same : ∀ x ∈ fpB b ms, w'.heap[x]? = w.heap[x]? := fun x hx => k.block x (h.lt x hx) (hd x hx)
  refine ⟨by obtain ⟨a1, a2, a3, h1⟩ := h.obj; exact ⟨a1, a2, a3, h1.eq (same b (fpB_b b ms))⟩, own_chg h.row k hr, fun i m hm => ?_, h.sep⟩
  have hi := h.mem i m hm
  have hm' := List.mem_of_getElem? hm
  have hx := fpB_m (b := b) hm'
  exact ⟨hi.mo.eq (same _ (hx _ (by simp))), hi.a.eq (same _ (hx _ (by simp))), hi.b.eq (same _ (hx _ (by simp))), hi.c.eq (same _ (hx _ (by simp))), hi.small⟩
theorem up_any (h : BankI w b dn ar A c ms) : Calls Try.prog 28 #[pv b] w fun e w' => e = .returned (.bool (!dn)) ∧ w = w' := by
  obtain ⟨ck, wr, mk, ho⟩ := h.obj
  have c1 : w.cell? ⟨b, 1, none⟩ = some (.bool dn) := ho.cell 1
  unfold pv
  clear h ho
  go_enter Try.func28, Try.ntmps28
  go_wp2
  go_ret
  exact ⟨rfl, rfl⟩
theorem start_any (h : BankI w b dn ar A c ms) : Calls Try.prog 58 #[pv b] w (BPost (.tuple #[]) b A c ms false ar w) := by
  obtain ⟨ck, wr, mk, ho⟩ := h.obj
  have HO := Lib.hid ho
  have c1 : w.cell? ⟨b, 1, none⟩ = some (.bool dn) := ho.cell 1
  have f1 := ho.frozen 1
  unfold pv
  clear h ho
  go_enter Try.func58, Try.ntmps58
  go_wp2
  go_end0
  exact ⟨rfl, Chg.set w (fpB_b b ms) _, Shp.other (gb_set w b 1 _) HO.out (by decide) (by decide) (by decide), ck, wr, mk, HO.out.set 1 (.bool false)⟩
theorem count_any (h : BankI w b dn ar A c ms) : Calls Try.prog 64 #[pv b] w fun e w' => e = .returned (.int .i64 ms.length) ∧ w = w' := by
  obtain ⟨ck, wr, mk, ho⟩ := h.obj
  obtain ⟨k, hk⟩ : ∃ k, ms.length = k := ⟨_, rfl⟩
  rw [hk] at ho ⊢
  have c0 : w.cell? ⟨b, 0, none⟩ = some (.slice A k c) := ho.cell 0
  unfold pv
  clear h ho hk
  go_enter Try.func64, Try.ntmps64
  go_wp2
  go_ret
  exact ⟨rfl, rfl⟩
def isB (k : Nat) (d : Int) : Bool := decide (0 ≤ d ∧ d < (k : Int))
theorem is_any (h : BankI w b dn ar A c ms) (d : Int) : Calls Try.prog 59 #[pv b, .int .i64 d] w fun e w' => e = .returned (.bool (isB ms.length d)) ∧ w = w' := by
  obtain ⟨ck, wr, mk, ho⟩ := h.obj
  obtain ⟨k, hk⟩ : ∃ k, ms.length = k := ⟨_, rfl⟩
  rw [hk] at ho ⊢
  have c0 : w.cell? ⟨b, 0, none⟩ = some (.slice A k c) := ho.cell 0
  unfold pv
  clear h ho hk
  rcases (show d < 0 ∨ (0 ≤ d ∧ (k : Int) ≤ d) ∨ (0 ≤ d ∧ d < (k : Int)) by omega) with h1 | ⟨h1, h2⟩ | ⟨h1, h2⟩
  · have HV := Lib.hid (show isB k d = false from decide_eq_false (by omega))
    have e1 : decide (0 ≤ d) = false := decide_eq_false (by omega)
    go_enter Try.func59, Try.ntmps59
    go_wp2
    go_ret
    exact ⟨by rw [HV.out]; rfl, rfl⟩
  · have HV := Lib.hid (show isB k d = false from decide_eq_false (by omega))
    have e1 : decide (0 ≤ d) = true := decide_eq_true h1
    have e2 : decide (d < (k : Int)) = false := decide_eq_false (by omega)
    go_enter Try.func59, Try.ntmps59
    go_wp2
    go_ret
    exact ⟨by rw [HV.out]; rfl, rfl⟩
  · have HV := Lib.hid (show isB k d = true from decide_eq_true ⟨h1, h2⟩)
    have e1 : decide (0 ≤ d) = true := decide_eq_true h1
    have e2 : decide (d < (k : Int)) = true := decide_eq_true h2
    go_enter Try.func59, Try.ntmps59
    go_wp2
    go_ret
    exact ⟨by rw [HV.out]; rfl, rfl⟩
/-- a disk of the bank -/
theorem BankI.at (h : BankI w b dn ar A c ms) {d : Int} (hd : isB ms.length d = true) : ∃ (i g : Nat) (m : Mem), d = (i : Int) ∧ i < ms.length ∧ ms[i]? = some m ∧ m ∈ ms ∧ A = some ⟨g, 0, none⟩ ∧ w.cell? ⟨g, i, none⟩ = some (pv m.p) ∧ MemI w (decide (i = 0)) m := by
  have h1 := of_decide_eq_true hd
  obtain ⟨i, rfl⟩ := Int.eq_ofNat_of_zero_le h1.1
  have hi : i < ms.length := by have := h1.2; omega
  obtain ⟨g, hA, _⟩ := h.row.some_ (by omega)
  subst hA
  obtain ⟨u, u1, u2, _⟩ := h.row.cellAt hi
  rw [List.getElem?_map, List.getElem?_eq_getElem hi] at u1
  injection u1 with u1; subst u1
  exact ⟨i, g, ms[i], rfl, hi, List.getElem?_eq_getElem hi, List.getElem_mem hi, rfl, u2, h.mem i _ (List.getElem?_eq_getElem hi)⟩
theorem dead_any (h : BankI w b dn ar A c ms) (d : Int) : Calls Try.prog 30 #[pv b, .int .i64 d] w fun e w' => (∃ q : Bool, e = .returned (.bool q)) ∧ w = w' := by
  have HI := Lib.hid (is_any h d)
  rcases hq : isB ms.length d with _ | _
  · rw [hq] at HI
    unfold pv at HI ⊢
    clear h hq
    go_enter Try.func30, Try.ntmps30
    go_wp2_with ((with_reducible refine HI.out.mono ?_); rintro e w' ⟨rfl, rfl⟩)
    go_ret
    exact ⟨⟨_, rfl⟩, rfl⟩
  · obtain ⟨i, g, m, rfl, hi, _, hm, rfl, cp, hmi⟩ := h.at hq
    obtain ⟨dd, fa, hmo⟩ := hmi.mo
    have c3 : w.cell? ⟨m.p, 3, none⟩ = some (.bool dd) := hmo.cell 3
    obtain ⟨ck, wr, mk, ho⟩ := h.obj
    obtain ⟨k, hk⟩ : ∃ k, ms.length = k := ⟨_, rfl⟩
    rw [hk] at ho hi
    have c0 : w.cell? ⟨b, 0, none⟩ = some (.slice (some ⟨g, 0, none⟩) k c) := ho.cell 0
    have hiz : (i : Int) < (k : Int) := by omega
    rw [hq] at HI
    unfold pv at HI cp ⊢
    clear h hq hk hmo hmi ho hm
    go_enter Try.func30, Try.ntmps30
    go_wp2_with ((with_reducible refine HI.out.mono ?_); rintro e w' ⟨rfl, rfl⟩)
    go_ret
    exact ⟨⟨_, rfl⟩, rfl⟩
theorem arm_any (h : BankI w b dn ar A c ms) (n : Int) (mask : Nat) : Calls Try.prog 56 #[pv b, .int .i64 n, .int .u64 (mask : Int)] w (BPost (.tuple #[]) b A c ms dn (max n 0) w) := by
  obtain ⟨ck, wr, mk, ho⟩ := h.obj
  have HO := Lib.hid ho
  have c1 : w.cell? ⟨b, 4, none⟩ = some (.int .i64 ar) := ho.cell 4
  have f1 := ho.frozen 4
  have o2 := ho.set 4 (.int .i64 (max n 0))
  have c2 : (w.setCell ⟨b, 4, none⟩ (.int .i64 (max n 0))).cell? ⟨b, 5, none⟩ = some (.int .u64 (mk : Int)) := o2.cell 5
  have f2 := o2.frozen 5
  have O2 := Lib.hid o2
  have HMX := Lib.hid (show (if n < (0 : Int) then (0 : Int) else n) = max n 0 from by split <;> omega)
  unfold pv
  clear h ho o2
  go_enter Try.func56, Try.ntmps56
  go_wp2_with ((with_reducible refine wpList_max_int _ _ _ (by with_unfolding_all exact rfl) (by with_unfolding_all exact rfl) n (0 : Int) (by with_unfolding_all exact rfl) (by with_unfolding_all exact rfl) HMX.out ?_))
  go_end0
  refine ⟨rfl, (Chg.set w (fpB_b b ms) _).trans (Chg.set _ (fpB_b b ms) _) (fun _ h => .inl h), (Shp.other (gb_set w b 4 _) HO.out (by decide) (by decide) (by decide)).trans (Shp.other (gb_set _ b 5 _) O2.out (by decide) (by decide) (by decide)), ck, wr, mask, O2.out.set 5 (.int .u64 (mask : Int))⟩
theorem failAt_any (h : BankI w b dn ar A c ms) (d n : Int) : Calls Try.prog 66 #[pv b, .int .i64 d, .int .i64 n] w (BPost (.tuple #[]) b A c ms dn ar w) := by
  have HI := Lib.hid (is_any h d)
  have HB := Lib.hid h
  rcases hq : isB ms.length d with _ | _
  · rw [hq] at HI
    unfold pv at HI ⊢
    clear h hq
    go_enter Try.func66, Try.ntmps66
    go_wp2_with ((with_reducible refine HI.out.mono ?_); rintro e w' ⟨rfl, rfl⟩)
    go_end0
    exact ⟨rfl, HB.out.refl⟩
  · obtain ⟨i, g, m, rfl, hi, _, hm, rfl, cp, hmi⟩ := h.at hq
    obtain ⟨dd, fa, hmo⟩ := hmi.mo
    have HM := Lib.hid hm
    have HMO := Lib.hid hmo
    have c4 : w.cell? ⟨m.p, 4, none⟩ = some (.int .i64 fa) := hmo.cell 4
    have f4 := hmo.frozen 4
    obtain ⟨ck, wr, mk, ho⟩ := h.obj
    have HO := Lib.hid ho
    obtain ⟨k, hk⟩ : ∃ k, ms.length = k := ⟨_, rfl⟩
    have HK := Lib.hid hk
    rw [hk] at ho hi
    have c0 : w.cell? ⟨b, 0, none⟩ = some (.slice (some ⟨g, 0, none⟩) k c) := ho.cell 0
    have hiz : (i : Int) < (k : Int) := by omega
    have HMX := Lib.hid (show (if n < (0 : Int) then (0 : Int) else n) = max n 0 from by split <;> omega)
    rw [hq] at HI
    unfold pv at HI cp ⊢
    clear h hq hk hmo hmi ho hm
    go_enter Try.func66, Try.ntmps66
    go_wp2_with (first | ((with_reducible refine wpList_max_int _ _ _ (by with_unfolding_all exact rfl) (by with_unfolding_all exact rfl) n (0 : Int) (by with_unfolding_all exact rfl) (by with_unfolding_all exact rfl) HMX.out ?_)) | ((with_reducible refine HI.out.mono ?_); rintro e w' ⟨rfl, rfl⟩))
    go_end0
    have hne : b ≠ m.p := HO.out.ne HMO.out (by decide)
    exact ⟨rfl, Chg.set w (fpB_m HM.out m.p (by simp)) _, Shp.of114 (gb_set w m.p 4 _) HMO.out (HMO.out.set 4 (.int .i64 (max n 0))), ck, wr, mk, HO.out.eq ((gb_set w m.p 4 _).block b HO.out.lt (fun e => hne (by injection e)))⟩
end
end Go.Proofs.Ytmcgfnfhpcddlaa

