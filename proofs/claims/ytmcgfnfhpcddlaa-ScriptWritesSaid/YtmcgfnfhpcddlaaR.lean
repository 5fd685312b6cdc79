/- What the reference's act returns, for all acts. -/
import Derived.Test.YtmcgfnfhpcddlaaQ
namespace Go.Proofs.Ytmcgfnfhpcddlaa
open Go.RowKit Go.BW

theorem z64_bv : (z64.map bv).toArray.size = 64 := by simp [z64]
set_option maxRecDepth 100000 in
theorem z33 : (Try.prog.info? 33).map (fun i => (i.zero, i.size)) = some (some (.agg (z64.map bv).toArray), 64) := by kernel_rfl
theorem z33c : (Value.agg (z64.map bv).toArray).cells.size = 64 := z64_bv
theorem i33o (s : List UInt8) (h : s.length = 64) : (Try.prog.info? 33).map (·.size) = some (s.map bv).toArray.size := by rw [List.size_toArray, List.length_map, h]; exact i33
section
variable {ops : Array Oper} {rest : List Oper} {o : Oper} {a : Go.Act} {Q : Exit → Go.Act → World → Prop} {w : World}
theorem wpList_alloc33 (hop : o.op = .alloc 33) (hw : Region.wanted o (yielded ops a.tmps) = true)
    (hK : ∀ g w', Obj1 w' g 33 (z64.map bv).toArray → Nw w w' → w.heap.size ≤ g → wpList Try.prog ops Q rest (a.put o.dst (.pointer (some ⟨g, 0, none⟩))) w') : wpList Try.prog ops Q (o :: rest) a w := by
  obtain ⟨i, hi, hz⟩ := Option.map_eq_some_iff.1 z33
  simp only [Prod.mk.injEq] at hz
  refine wpList_alloc (size := 64) 33 hop hw w.heap.size i hi hz.1 z33c (Nat.le_refl _) fun g w' o1 n1 h1 => hK g w' ?_ n1 h1
  exact o1.row1'
theorem wpList_build33 (hop : o.op = .build 33 #[]) (hw : Region.wanted o (yielded ops a.tmps) = true)
    (hK : wpList Try.prog ops Q rest (a.put o.dst (.agg (z64.map bv).toArray)) w) : wpList Try.prog ops Q (o :: rest) a w := by
  obtain ⟨i, hi, hz⟩ := Option.map_eq_some_iff.1 z33
  simp only [Prod.mk.injEq] at hz
  exact wpList_build0 33 hop hw i _ hi hz.1 64 5 Try.underlying33 (by rw [i5]; rfl) hK
theorem wpList_eql33 (x y : Operand) (hop : o.op = .binOp .eql 33 x y 33) (hw : Region.wanted o (yielded ops a.tmps) = true) {xs ys : List UInt8} (hx : a.eval x = .agg (xs.map bv).toArray) (hy : a.eval y = .agg (ys.map bv).toArray) (hxl : xs.length = 64) (hyl : ys.length = 64) {r : Bool} (hr : decide (xs = ys) = r)
    (hK : wpList Try.prog ops Q rest (a.put o.dst (.bool r)) w) : wpList Try.prog ops Q (o :: rest) a w :=
  wpList_eq_arr false 33 33 5 64 x y hop hw xs ys Try.underlying33 Try.underlying5 i5 (by kernel_rfl) hx hy hxl hyl r (by rw [← hr]; simp) hK
end
theorem bare_eq1 (b : Int) (s : List UInt8) (n t : Int) (m : Nat) : decide (bareA ⟨1, b, s, n, t, m⟩ = ⟨1, b, s, n, t, m⟩) = ((n == 0) && (t == 0) && ((m : Int) == 0)) := by
  rw [Bool.eq_iff_iff]
  unfold bareA
  simp [a0]
  constructor <;> intro h <;> (repeat' apply And.intro) <;> first | omega | (simp_all; done)
theorem bare_eq2 (b : Int) (s : List UInt8) (n t : Int) (m : Nat) : decide (bareA ⟨2, b, s, n, t, m⟩ = ⟨2, b, s, n, t, m⟩) = ((n == 0) && (t == 0) && ((m : Int) == 0) && decide (s = z64)) := by
  rw [Bool.eq_iff_iff]
  unfold bareA
  simp [a0]
  constructor <;> intro h <;> (repeat' apply And.intro) <;> first | omega | (simp_all; done)
theorem bare_eq3 (b : Int) (s : List UInt8) (n t : Int) (m : Nat) : decide (bareA ⟨3, b, s, n, t, m⟩ = ⟨3, b, s, n, t, m⟩) = ((b == 0) && (n == 0) && (t == 0) && ((m : Int) == 0) && decide (s = z64)) := by
  rw [Bool.eq_iff_iff]
  unfold bareA
  simp [a0]
  constructor <;> intro h <;> (repeat' apply And.intro) <;> first | omega | (simp_all; done)
theorem bare_eq4 (b : Int) (s : List UInt8) (n t : Int) (m : Nat) : decide (bareA ⟨4, b, s, n, t, m⟩ = ⟨4, b, s, n, t, m⟩) = ((b == 0) && (t == 0) && ((m : Int) == 0) && decide (s = z64)) := by
  rw [Bool.eq_iff_iff]
  unfold bareA
  simp [a0]
  constructor <;> intro h <;> (repeat' apply And.intro) <;> first | omega | (simp_all; done)
theorem bare_eq5 (b : Int) (s : List UInt8) (n t : Int) (m : Nat) : decide (bareA ⟨5, b, s, n, t, m⟩ = ⟨5, b, s, n, t, m⟩) = ((b == 0) && (t == 0) && ((m : Int) == 0) && decide (s = z64)) := by
  rw [Bool.eq_iff_iff]
  unfold bareA
  simp [a0]
  constructor <;> intro h <;> (repeat' apply And.intro) <;> first | omega | (simp_all; done)
theorem bare_eq6 (b : Int) (s : List UInt8) (n t : Int) (m : Nat) : decide (bareA ⟨6, b, s, n, t, m⟩ = ⟨6, b, s, n, t, m⟩) = ((b == 0) && (t == 0) && ((m : Int) == 0) && decide (s = z64)) := by
  rw [Bool.eq_iff_iff]
  unfold bareA
  simp [a0]
  constructor <;> intro h <;> (repeat' apply And.intro) <;> first | omega | (simp_all; done)
theorem bare_eq7 (b : Int) (s : List UInt8) (n t : Int) (m : Nat) : decide (bareA ⟨7, b, s, n, t, m⟩ = ⟨7, b, s, n, t, m⟩) = ((b == 0) && (t == 0) && decide (s = z64)) := by
  rw [Bool.eq_iff_iff]
  unfold bareA
  simp [a0]
  constructor <;> intro h <;> (repeat' apply And.intro) <;> first | omega | (simp_all; done)
theorem bare_eq8 (b : Int) (s : List UInt8) (n t : Int) (m : Nat) : decide (bareA ⟨8, b, s, n, t, m⟩ = ⟨8, b, s, n, t, m⟩) = ((b == 0) && decide (s = z64)) := by
  rw [Bool.eq_iff_iff]
  unfold bareA
  simp [a0]
  constructor <;> intro h <;> (repeat' apply And.intro) <;> first | omega | (simp_all; done)
theorem bare_eq9 (b : Int) (s : List UInt8) (n t : Int) (m : Nat) : decide (bareA ⟨9, b, s, n, t, m⟩ = ⟨9, b, s, n, t, m⟩) = ((b == 0) && ((m : Int) == 0) && decide (s = z64)) := by
  rw [Bool.eq_iff_iff]
  unfold bareA
  simp [a0]
  constructor <;> intro h <;> (repeat' apply And.intro) <;> first | omega | (simp_all; done)
theorem bare_eq10 (b : Int) (s : List UInt8) (n t : Int) (m : Nat) : decide (bareA ⟨10, b, s, n, t, m⟩ = ⟨10, b, s, n, t, m⟩) = ((b == 0) && (n == 0) && (t == 0) && ((m : Int) == 0) && decide (s = z64)) := by
  rw [Bool.eq_iff_iff]
  unfold bareA
  simp [a0]
  constructor <;> intro h <;> (repeat' apply And.intro) <;> first | omega | (simp_all; done)
set_option maxRecDepth 100000 in
set_option maxHeartbeats 8000000 in
theorem ract_out {a : Act} (hoa : ActOk a) (hkk0 : ¬ (1 ≤ a.k ∧ a.k ≤ 10)) (w : World) : Calls Try.prog 40 #[.agg (actC a).toArray] w (Ret (.bool (rightA a)) w) := by
  have hbx : ActO (w.alloc (.cells (actC a).toArray 44)) w.heap.size a := Obj1.new w 44 (actC a).toArray
  have hg0 := World.grownBy_alloc w (.cells (actC a).toArray 44) none
  obtain ⟨W, hW⟩ : ∃ V, w.alloc (.cells (actC a).toArray 44) = V := ⟨_, rfl⟩
  obtain ⟨y, hy⟩ : ∃ y, w.heap.size = y := ⟨_, rfl⟩
  rw [hW] at hbx hg0
  rw [hy] at hbx
  have BX := Lib.hid hbx; have N0 := Lib.hid hg0
  have hs := hoa.s
  have hz : z64.length = 64 := by simp [z64]
  have P0 := Lib.hid (fun w' => within2_any a.k 1 10 w')
  have P1 := Lib.hid (fun w' => within2_any a.b 0 255 w')
  have P2 := Lib.hid (fun w' => within2_any a.n 0 (mostN a.k) w')
  have P3 := Lib.hid (fun w' => within2_any a.at' 0 255 w')
  have HSS : ∀ (ww : World), ActO ww y a → ∀ j u, (a.s.map bv)[j]? = some u → ww.cell? ⟨y, 2 + j, none⟩ = some u := fun ww h => by have := h.s; rwa [p64_of hs] at this
  have HS2 := Lib.hid HSS
  have hkk := hbx.k; have hbb := hbx.b; have hnn := hbx.n; have htt := hbx.t; have hmm := hbx.m
  obtain ⟨R, hR⟩ : ∃ R, rightA a = R := ⟨_, rfl⟩
  rw [hR]
  have hRR : R = (inR a.k 1 10 && decide (bareA a = a) && inR a.b 0 255 && inR a.n 0 (mostN a.k) && inR a.at' 0 255) := by rw [← hR]; rfl
  have HR := Lib.hid hRR
  clear hbx hg0 HSS hR hRR hoa
  obtain ⟨k, hk⟩ : ∃ k, a.k = k := ⟨_, rfl⟩
  rw [hk] at hkk P0 P2 HR
  have hk10 := hkk0; rw [hk] at hk10; clear hkk0
  have h0 : inR k 1 10 = false := by unfold inR; exact decide_eq_false hk10
  rw [h0] at P0 HR
  have HF := Lib.hid (show R = false by rw [HR.out]; rfl)
  have h5 : k ≠ 5 := by omega
  have hM : mostN k = 255 := by unfold mostN; rw [if_neg h5]
  rw [hM] at P2
  have t1 : (k == 1) = false := by rw [beq_eq_false_iff_ne]; omega
  have t2 : (k == 2) = false := by rw [beq_eq_false_iff_ne]; omega
  have t5 : (k == 5) = false := by rw [beq_eq_false_iff_ne]; omega
  have t7 : (k == 7) = false := by rw [beq_eq_false_iff_ne]; omega
  have t8 : (k == 8) = false := by rw [beq_eq_false_iff_ne]; omega
  have t9 : (k == 9) = false := by rw [beq_eq_false_iff_ne]; omega
  clear HR hM h5 h0
  rcases (show k < 1 ∨ 10 < k by omega) with h | h
  · have d1 : decide ((4 : Int) ≤ k) = false := by simp; omega
    clear hk10 h
    go_enter Try.func40, Try.ntmps40
    go_wp2_with (first | (go_at_call 39; (with_reducible refine (P3.out _).mono ?_); rintro e' w' ⟨rfl, rfl⟩) | (go_at_call 39; (with_reducible refine (P2.out _).mono ?_); rintro e' w' ⟨rfl, rfl⟩) | (go_at_call 39; (with_reducible refine (P1.out _).mono ?_); rintro e' w' ⟨rfl, rfl⟩) | (go_at_call 39; (with_reducible refine (P0.out _).mono ?_); rintro e' w' ⟨rfl, rfl⟩))
    go_ret
    exact ⟨by rw [HF.out]; rfl, N0.out⟩
  · have d1 : decide ((4 : Int) ≤ k) = true := by simp; omega
    have d2 : decide (k ≤ (9 : Int)) = false := by simp; omega
    clear hk10 h
    go_enter Try.func40, Try.ntmps40
    go_wp2_with (first | (go_at_call 39; (with_reducible refine (P3.out _).mono ?_); rintro e' w' ⟨rfl, rfl⟩) | (go_at_call 39; (with_reducible refine (P2.out _).mono ?_); rintro e' w' ⟨rfl, rfl⟩) | (go_at_call 39; (with_reducible refine (P1.out _).mono ?_); rintro e' w' ⟨rfl, rfl⟩) | (go_at_call 39; (with_reducible refine (P0.out _).mono ?_); rintro e' w' ⟨rfl, rfl⟩))
    go_ret
    exact ⟨by rw [HF.out]; rfl, N0.out⟩
end Go.Proofs.Ytmcgfnfhpcddlaa

