/- What TagOf returns, for every sector. -/
import Derived.Test.YtlfkeohlnhlcoaaDoorX
import Derived.Test.YtlfkeohlnhlcoaaDoorRes
import Derived.Test.YtlfkeohlnhlcoaaDoorArr
namespace Go.Proofs.YtlfkeohlnhlcoaaDoor
open Go.RowKit Go.BW

/-- may a part say so? -/
def okN (a b c : Nat) : Bool := decide (1 ≤ b ∧ b ≤ 40 ∧ a < b ∧ c ≤ 53 ∧ (a + 1 = b ∨ c = 53) ∧ ¬ (a + 1 = b ∧ 1 < b ∧ c = 0))
def b8 (bs : List UInt8) : Nat := (bs.getD 8 0).toNat
def b9 (bs : List UInt8) : Nat := (bs.getD 9 0).toNat
def b10 (bs : List UInt8) : Nat := (bs.getD 10 0).toNat
/-- is the sector a part? -/
def tagB (bs : List UInt8) : Bool := okN (b8 bs) (b9 bs) (b10 bs) && !someN (bs.drop (11 + b10 bs))
def tv (g n a b c : Int) : Value := .agg #[.int .i64 g, .int .i64 n, .int .i64 a, .int .i64 b, .int .i64 c]
/-- what the sector says -/
def tagV (bs : List UInt8) : Value := if tagB bs then .tuple #[tv (getL bs 4) (getL (bs.drop 4) 4) (b8 bs) (b9 bs) (b10 bs), .bool true] else .tuple #[tv 0 0 0 0 0, .bool false]
theorem tagV_no {bs : List UInt8} (h : tagB bs = false) : tagV bs = .tuple #[tv 0 0 0 0 0, .bool false] := by unfold tagV; rw [h]; rfl
theorem tagV_yes {bs : List UInt8} (h : tagB bs = true) : tagV bs = .tuple #[tv (getL bs 4) (getL (bs.drop 4) 4) (b8 bs) (b9 bs) (b10 bs), .bool true] := by unfold tagV; rw [h]; rfl
theorem tagB_no {bs : List UInt8} (h : okN (b8 bs) (b9 bs) (b10 bs) = false) : tagB bs = false := by unfold tagB; rw [h]; rfl
theorem byte_at {bs : List UInt8} {k : Nat} (h : k < bs.length) : bv bs[k] = .int .u8 ((bs.getD k 0).toNat : Nat) ∧ (bs.getD k 0).toNat < 256 := by
  have e : bs.getD k 0 = bs[k] := by simp [List.getD_eq_getElem?_getD, h]
  rw [e]
  exact ⟨rfl, bs[k].toNat_lt⟩

theorem obj_mid (w : World) (X Y : Obj) (Z : Array Value) (t : TypeId) : Obj1 (((w.alloc X).alloc (.cells Z t)).alloc Y) (w.heap.size + 1) t Z := by
  have h := heap_alloc_new (w.alloc X) (.cells Z t)
  have h2 := heap_alloc_old ((w.alloc X).alloc (.cells Z t)) Y (r := w.heap.size + 1) (by simp)
  unfold Obj1
  rw [h2]
  simpa using h
set_option maxHeartbeats 1000000 in
theorem tagof_any (bs : List UInt8) (hl : bs.length = 64) (w : World) : Calls Tryd.prog 16 #[.agg (bs.map bv).toArray] w (Ret (tagV bs) w) := by
  have g8 : 8 < bs.length := by omega
  have g9 : 9 < bs.length := by omega
  have g10 : 10 < bs.length := by omega
  obtain ⟨e8, l8⟩ := byte_at g8
  obtain ⟨e9, l9⟩ := byte_at g9
  obtain ⟨e10, l10⟩ := byte_at g10
  have hno := @tagB_no bs
  have hyes : okN (b8 bs) (b9 bs) (b10 bs) = true → tagB bs = !someN (bs.drop (11 + b10 bs)) := by intro h; unfold tagB; rw [h]; rfl
  have hv := @tagV_no bs
  have hv' := @tagV_yes bs
  have hok : okN (b8 bs) (b9 bs) (b10 bs) = true ∨ b9 bs < 1 ∨ (1 ≤ b9 bs ∧ 40 < b9 bs) ∨ (1 ≤ b9 bs ∧ b9 bs ≤ 40 ∧ b9 bs ≤ b8 bs) ∨ (1 ≤ b9 bs ∧ b9 bs ≤ 40 ∧ b8 bs < b9 bs ∧ 53 < b10 bs)
      ∨ (1 ≤ b9 bs ∧ b9 bs ≤ 40 ∧ b8 bs < b9 bs ∧ b10 bs < 53 ∧ b8 bs + 1 ≠ b9 bs) ∨ (1 < b9 bs ∧ b9 bs ≤ 40 ∧ b8 bs < b9 bs ∧ b10 bs = 0 ∧ b8 bs + 1 = b9 bs) := by
    unfold okN; rw [decide_eq_true_iff]; omega
  have hok' : okN (b8 bs) (b9 bs) (b10 bs) = true → 1 ≤ b9 bs ∧ b9 bs ≤ 40 ∧ b8 bs < b9 bs ∧ b10 bs ≤ 53 ∧ (b8 bs + 1 = b9 bs ∨ b10 bs = 53) ∧ ¬ (b8 bs + 1 = b9 bs ∧ 1 < b9 bs ∧ b10 bs = 0) := by unfold okN; rw [decide_eq_true_iff]; exact id
  have hf : (1 ≤ b9 bs ∧ b9 bs ≤ 40 ∧ b8 bs < b9 bs ∧ b10 bs ≤ 53 ∧ (b8 bs + 1 = b9 bs ∨ b10 bs = 53) ∧ ¬ (b8 bs + 1 = b9 bs ∧ 1 < b9 bs ∧ b10 bs = 0) → False) → okN (b8 bs) (b9 bs) (b10 bs) = false := by unfold okN; rw [decide_eq_false_iff_not]; exact id
  change bv bs[8] = .int .u8 (b8 bs) at e8
  change bv bs[9] = .int .u8 (b9 bs) at e9
  change bv bs[10] = .int .u8 (b10 bs) at e10
  change b8 bs < 256 at l8
  change b9 bs < 256 at l9
  change b10 bs < 256 at l10
  generalize b8 bs = a at *
  generalize b9 bs = b at *
  generalize b10 bs = c at *
  have HR := Lib.hid (rd_lit (w0 := w) (bs.map bv) 35 64 (by simpa using hl))
  have hr4 : Rd (w.alloc (.cells (bs.map bv).toArray 35)) (w.heap.size + 1) 1 (some ⟨w.heap.size, 4, none⟩) 60 ((bs.drop 4).map bv) := by
    have h := HR.out.drop (size := 1) (show 4 ≤ 64 by decide) (Nat.le_refl 64)
    rw [Nat.mul_one, ← List.map_drop] at h
    exact h
  have HR4 := Lib.hid hr4; clear hr4
  have HG := Lib.hid (fun (w' : World) (hk : Below (w.heap.size + 1) (w.alloc (.cells (bs.map bv).toArray 35)) w') => get_any (some ⟨w.heap.size, 0, none⟩) 64 64 bs 4 _ _ (HR.out.below hk) (Nat.le_refl _))
  have HG4 := Lib.hid (fun (w' : World) (hk : Below (w.heap.size + 1) (w.alloc (.cells (bs.map bv).toArray 35)) w') => get_any (some ⟨w.heap.size, 4, none⟩) 60 60 (bs.drop 4) 4 _ _ (HR4.out.below hk) (Nat.le_refl _))
  clear HR4
  rcases hok with h | h | h | h | h | h | h
  case inl =>
    obtain ⟨k1, k2, k3, k4, k5, k6⟩ := hok' h
    have h1 : decide ((b : Int) < 1) = false := by simp; omega
    have h2 : decide (40 < (b : Int)) = false := by simp; omega
    have h3 : decide (b ≤ a) = false := by simp; omega
    have h4 : decide (53 < (c : Int)) = false := by simp; omega
    have hx := hyes h
    obtain ⟨A, n, d, hS, hX, hn⟩ : ∃ A n d, (∀ w' : World, (Instr.sliceAt 35 (.pointer (some ⟨w.heap.size, 0, none⟩)) (some (.int .i64 (11 + (c : Int)))) none none).run Tryd.prog w' = .ok (.slice A n d) w') ∧
        (∀ w' : World, Below (w.heap.size + 1) (w.alloc (.cells (bs.map bv).toArray 35)) w' → Rd w' (w.heap.size + 1) 1 A n ((bs.drop (11 + c)).map bv)) ∧ n ≤ 1000000 := by
      refine ⟨_, _, _, run_arr_part 35 5 64 Tryd.underlying35 (by kernel_rfl) w.heap.size (11 + c) 64 _ _ (by omega) (Nat.le_refl _) (.inl (by rw [Int.natCast_add]; rfl)) (.inr ⟨rfl, rfl⟩), ?_, Nat.le_trans (Nat.sub_le _ _) (by decide)⟩
      intro w' hk
      have h := rd_part (l := 11 + c) (HR.out.below hk) (by omega) (Nat.le_refl _)
      rw [List.take_of_length_le (by simp; omega), ← List.map_drop] at h
      exact h
    have HX := Lib.hid (fun (w' : World) (hk : Below (w.heap.size + 1) (w.alloc (.cells (bs.map bv).toArray 35)) w') => contains_any (d := d) (hX w' hk) hn)
    clear hX hno hf hyes hok'
    rcases hb : someN (bs.drop (11 + c)) with _ | _
    all_goals
      rw [hb] at hx HX
    · have H := Lib.hid (hv' (by rw [hx]; rfl))
      clear hv hv' hx hb
      rcases (show (a + 1 = b ∧ b = 1) ∨ (a + 1 = b ∧ 1 < b ∧ c ≠ 0) ∨ (a + 1 ≠ b ∧ c = 53) by omega) with ⟨k8, k7⟩ | ⟨k8, k7, k9⟩ | ⟨k8, k7⟩
      · have h5 : ((a : Int) + 1 == (b : Int)) = true := by simp; omega
        have h6 : decide (1 < (b : Int)) = false := by simp; omega
        clear k7 k8 k1 k2 k3 k4 k5 k6
        (go_enter Tryd.func16, Tryd.ntmps16; go_wp2_with (first | ((with_reducible refine (HX.out _ (by (repeat (first | exact Below.refl _ _ | refine Below.setCell ?_ (by simp) _ | refine Below.alloc ?_ (by simp) _ | refine Below.drew ?_)))).mono ?_); rintro e w' ⟨rfl, rfl⟩) | ((with_reducible refine (HG4.out _ (by (repeat (first | exact Below.refl _ _ | refine Below.setCell ?_ (by simp) _ | refine Below.alloc ?_ (by simp) _ | refine Below.drew ?_)))).mono ?_); rintro e w' ⟨rfl, rfl⟩) | ((with_reducible refine (HG.out _ (by (repeat (first | exact Below.refl _ _ | refine Below.setCell ?_ (by simp) _ | refine Below.alloc ?_ (by simp) _ | refine Below.drew ?_)))).mono ?_); rintro e w' ⟨rfl, rfl⟩)))
        (refine bodyPost_ret (res_cell_tmp rfl _ _ _ 31 _ _ rfl (obj_mid _ _ _ _ _) Tryd.underlying31 rfl (by kernel_rfl)) rfl ?_; exact ⟨by rw [H.out]; rfl, by (repeat (first | exact Nw.refl _ | refine gb_trans ?_ (World.grownBy_alloc _ _ none)))⟩)
      · have h5 : ((a : Int) + 1 == (b : Int)) = true := by simp; omega
        have h6 : decide (1 < (b : Int)) = true := by simp; omega
        have h7 : ((c : Int) == 0) = false := by simp; omega
        clear k7 k8 k9 k1 k2 k3 k4 k5 k6
        (go_enter Tryd.func16, Tryd.ntmps16; go_wp2_with (first | ((with_reducible refine (HX.out _ (by (repeat (first | exact Below.refl _ _ | refine Below.setCell ?_ (by simp) _ | refine Below.alloc ?_ (by simp) _ | refine Below.drew ?_)))).mono ?_); rintro e w' ⟨rfl, rfl⟩) | ((with_reducible refine (HG4.out _ (by (repeat (first | exact Below.refl _ _ | refine Below.setCell ?_ (by simp) _ | refine Below.alloc ?_ (by simp) _ | refine Below.drew ?_)))).mono ?_); rintro e w' ⟨rfl, rfl⟩) | ((with_reducible refine (HG.out _ (by (repeat (first | exact Below.refl _ _ | refine Below.setCell ?_ (by simp) _ | refine Below.alloc ?_ (by simp) _ | refine Below.drew ?_)))).mono ?_); rintro e w' ⟨rfl, rfl⟩)))
        (refine bodyPost_ret (res_cell_tmp rfl _ _ _ 31 _ _ rfl (obj_mid _ _ _ _ _) Tryd.underlying31 rfl (by kernel_rfl)) rfl ?_; exact ⟨by rw [H.out]; rfl, by (repeat (first | exact Nw.refl _ | refine gb_trans ?_ (World.grownBy_alloc _ _ none)))⟩)
      · have h5 : ((a : Int) + 1 == (b : Int)) = false := by simp; omega
        have h6 : decide ((c : Int) < 53) = false := by simp; omega
        clear k7 k8 k1 k2 k3 k4 k5 k6
        (go_enter Tryd.func16, Tryd.ntmps16; go_wp2_with (first | ((with_reducible refine (HX.out _ (by (repeat (first | exact Below.refl _ _ | refine Below.setCell ?_ (by simp) _ | refine Below.alloc ?_ (by simp) _ | refine Below.drew ?_)))).mono ?_); rintro e w' ⟨rfl, rfl⟩) | ((with_reducible refine (HG4.out _ (by (repeat (first | exact Below.refl _ _ | refine Below.setCell ?_ (by simp) _ | refine Below.alloc ?_ (by simp) _ | refine Below.drew ?_)))).mono ?_); rintro e w' ⟨rfl, rfl⟩) | ((with_reducible refine (HG.out _ (by (repeat (first | exact Below.refl _ _ | refine Below.setCell ?_ (by simp) _ | refine Below.alloc ?_ (by simp) _ | refine Below.drew ?_)))).mono ?_); rintro e w' ⟨rfl, rfl⟩)))
        (refine bodyPost_ret (res_cell_tmp rfl _ _ _ 31 _ _ rfl (obj_mid _ _ _ _ _) Tryd.underlying31 rfl (by kernel_rfl)) rfl ?_; exact ⟨by rw [H.out]; rfl, by (repeat (first | exact Nw.refl _ | refine gb_trans ?_ (World.grownBy_alloc _ _ none)))⟩)
    · have H := Lib.hid (hv (by rw [hx]; rfl))
      clear hv hv' hx hb
      rcases (show (a + 1 = b ∧ b = 1) ∨ (a + 1 = b ∧ 1 < b ∧ c ≠ 0) ∨ (a + 1 ≠ b ∧ c = 53) by omega) with ⟨k8, k7⟩ | ⟨k8, k7, k9⟩ | ⟨k8, k7⟩
      · have h5 : ((a : Int) + 1 == (b : Int)) = true := by simp; omega
        have h6 : decide (1 < (b : Int)) = false := by simp; omega
        clear k7 k8 k1 k2 k3 k4 k5 k6
        (go_enter Tryd.func16, Tryd.ntmps16; go_wp2_with (first | ((with_reducible refine (HX.out _ (by (repeat (first | exact Below.refl _ _ | refine Below.setCell ?_ (by simp) _ | refine Below.alloc ?_ (by simp) _ | refine Below.drew ?_)))).mono ?_); rintro e w' ⟨rfl, rfl⟩) | ((with_reducible refine (HG4.out _ (by (repeat (first | exact Below.refl _ _ | refine Below.setCell ?_ (by simp) _ | refine Below.alloc ?_ (by simp) _ | refine Below.drew ?_)))).mono ?_); rintro e w' ⟨rfl, rfl⟩) | ((with_reducible refine (HG.out _ (by (repeat (first | exact Below.refl _ _ | refine Below.setCell ?_ (by simp) _ | refine Below.alloc ?_ (by simp) _ | refine Below.drew ?_)))).mono ?_); rintro e w' ⟨rfl, rfl⟩)))
        (refine bodyPost_ret (res_cell_tmp rfl _ _ _ 31 _ _ rfl (obj_mid _ _ _ _ _) Tryd.underlying31 rfl (by kernel_rfl)) rfl ?_; exact ⟨by rw [H.out]; rfl, by (repeat (first | exact Nw.refl _ | refine gb_trans ?_ (World.grownBy_alloc _ _ none)))⟩)
      · have h5 : ((a : Int) + 1 == (b : Int)) = true := by simp; omega
        have h6 : decide (1 < (b : Int)) = true := by simp; omega
        have h7 : ((c : Int) == 0) = false := by simp; omega
        clear k7 k8 k9 k1 k2 k3 k4 k5 k6
        (go_enter Tryd.func16, Tryd.ntmps16; go_wp2_with (first | ((with_reducible refine (HX.out _ (by (repeat (first | exact Below.refl _ _ | refine Below.setCell ?_ (by simp) _ | refine Below.alloc ?_ (by simp) _ | refine Below.drew ?_)))).mono ?_); rintro e w' ⟨rfl, rfl⟩) | ((with_reducible refine (HG4.out _ (by (repeat (first | exact Below.refl _ _ | refine Below.setCell ?_ (by simp) _ | refine Below.alloc ?_ (by simp) _ | refine Below.drew ?_)))).mono ?_); rintro e w' ⟨rfl, rfl⟩) | ((with_reducible refine (HG.out _ (by (repeat (first | exact Below.refl _ _ | refine Below.setCell ?_ (by simp) _ | refine Below.alloc ?_ (by simp) _ | refine Below.drew ?_)))).mono ?_); rintro e w' ⟨rfl, rfl⟩)))
        (refine bodyPost_ret (res_cell_tmp rfl _ _ _ 31 _ _ rfl (obj_mid _ _ _ _ _) Tryd.underlying31 rfl (by kernel_rfl)) rfl ?_; exact ⟨by rw [H.out]; rfl, by (repeat (first | exact Nw.refl _ | refine gb_trans ?_ (World.grownBy_alloc _ _ none)))⟩)
      · have h5 : ((a : Int) + 1 == (b : Int)) = false := by simp; omega
        have h6 : decide ((c : Int) < 53) = false := by simp; omega
        clear k7 k8 k1 k2 k3 k4 k5 k6
        (go_enter Tryd.func16, Tryd.ntmps16; go_wp2_with (first | ((with_reducible refine (HX.out _ (by (repeat (first | exact Below.refl _ _ | refine Below.setCell ?_ (by simp) _ | refine Below.alloc ?_ (by simp) _ | refine Below.drew ?_)))).mono ?_); rintro e w' ⟨rfl, rfl⟩) | ((with_reducible refine (HG4.out _ (by (repeat (first | exact Below.refl _ _ | refine Below.setCell ?_ (by simp) _ | refine Below.alloc ?_ (by simp) _ | refine Below.drew ?_)))).mono ?_); rintro e w' ⟨rfl, rfl⟩) | ((with_reducible refine (HG.out _ (by (repeat (first | exact Below.refl _ _ | refine Below.setCell ?_ (by simp) _ | refine Below.alloc ?_ (by simp) _ | refine Below.drew ?_)))).mono ?_); rintro e w' ⟨rfl, rfl⟩)))
        (refine bodyPost_ret (res_cell_tmp rfl _ _ _ 31 _ _ rfl (obj_mid _ _ _ _ _) Tryd.underlying31 rfl (by kernel_rfl)) rfl ?_; exact ⟨by rw [H.out]; rfl, by (repeat (first | exact Nw.refl _ | refine gb_trans ?_ (World.grownBy_alloc _ _ none)))⟩)
  all_goals
    have H := Lib.hid (hv (hno (hf (by omega))))
    clear hv hno hf hv' hyes hok'
  case inr.inl =>
    have h1 : decide ((b : Int) < 1) = true := by simp; omega
    (go_enter Tryd.func16, Tryd.ntmps16; go_wp2_with (first | ((with_reducible refine (HX.out _ (by (repeat (first | exact Below.refl _ _ | refine Below.setCell ?_ (by simp) _ | refine Below.alloc ?_ (by simp) _ | refine Below.drew ?_)))).mono ?_); rintro e w' ⟨rfl, rfl⟩) | ((with_reducible refine (HG4.out _ (by (repeat (first | exact Below.refl _ _ | refine Below.setCell ?_ (by simp) _ | refine Below.alloc ?_ (by simp) _ | refine Below.drew ?_)))).mono ?_); rintro e w' ⟨rfl, rfl⟩) | ((with_reducible refine (HG.out _ (by (repeat (first | exact Below.refl _ _ | refine Below.setCell ?_ (by simp) _ | refine Below.alloc ?_ (by simp) _ | refine Below.drew ?_)))).mono ?_); rintro e w' ⟨rfl, rfl⟩)))
    (refine bodyPost_ret (res_cell_tmp rfl _ _ _ 31 _ _ rfl (obj_mid _ _ _ _ _) Tryd.underlying31 rfl (by kernel_rfl)) rfl ?_; exact ⟨by rw [H.out]; rfl, by (repeat (first | exact Nw.refl _ | refine gb_trans ?_ (World.grownBy_alloc _ _ none)))⟩)
  case inr.inr.inl =>
    have h1 : decide ((b : Int) < 1) = false := by simp; omega
    have h2 : decide (40 < (b : Int)) = true := by simp; omega
    (go_enter Tryd.func16, Tryd.ntmps16; go_wp2_with (first | ((with_reducible refine (HX.out _ (by (repeat (first | exact Below.refl _ _ | refine Below.setCell ?_ (by simp) _ | refine Below.alloc ?_ (by simp) _ | refine Below.drew ?_)))).mono ?_); rintro e w' ⟨rfl, rfl⟩) | ((with_reducible refine (HG4.out _ (by (repeat (first | exact Below.refl _ _ | refine Below.setCell ?_ (by simp) _ | refine Below.alloc ?_ (by simp) _ | refine Below.drew ?_)))).mono ?_); rintro e w' ⟨rfl, rfl⟩) | ((with_reducible refine (HG.out _ (by (repeat (first | exact Below.refl _ _ | refine Below.setCell ?_ (by simp) _ | refine Below.alloc ?_ (by simp) _ | refine Below.drew ?_)))).mono ?_); rintro e w' ⟨rfl, rfl⟩)))
    (refine bodyPost_ret (res_cell_tmp rfl _ _ _ 31 _ _ rfl (obj_mid _ _ _ _ _) Tryd.underlying31 rfl (by kernel_rfl)) rfl ?_; exact ⟨by rw [H.out]; rfl, by (repeat (first | exact Nw.refl _ | refine gb_trans ?_ (World.grownBy_alloc _ _ none)))⟩)
  case inr.inr.inr.inl =>
    have h1 : decide ((b : Int) < 1) = false := by simp; omega
    have h2 : decide (40 < (b : Int)) = false := by simp; omega
    have h3 : decide (b ≤ a) = true := by simp; omega
    (go_enter Tryd.func16, Tryd.ntmps16; go_wp2_with (first | ((with_reducible refine (HX.out _ (by (repeat (first | exact Below.refl _ _ | refine Below.setCell ?_ (by simp) _ | refine Below.alloc ?_ (by simp) _ | refine Below.drew ?_)))).mono ?_); rintro e w' ⟨rfl, rfl⟩) | ((with_reducible refine (HG4.out _ (by (repeat (first | exact Below.refl _ _ | refine Below.setCell ?_ (by simp) _ | refine Below.alloc ?_ (by simp) _ | refine Below.drew ?_)))).mono ?_); rintro e w' ⟨rfl, rfl⟩) | ((with_reducible refine (HG.out _ (by (repeat (first | exact Below.refl _ _ | refine Below.setCell ?_ (by simp) _ | refine Below.alloc ?_ (by simp) _ | refine Below.drew ?_)))).mono ?_); rintro e w' ⟨rfl, rfl⟩)))
    (refine bodyPost_ret (res_cell_tmp rfl _ _ _ 31 _ _ rfl (obj_mid _ _ _ _ _) Tryd.underlying31 rfl (by kernel_rfl)) rfl ?_; exact ⟨by rw [H.out]; rfl, by (repeat (first | exact Nw.refl _ | refine gb_trans ?_ (World.grownBy_alloc _ _ none)))⟩)
  case inr.inr.inr.inr.inl =>
    have h1 : decide ((b : Int) < 1) = false := by simp; omega
    have h2 : decide (40 < (b : Int)) = false := by simp; omega
    have h3 : decide (b ≤ a) = false := by simp; omega
    have h4 : decide (53 < (c : Int)) = true := by simp; omega
    (go_enter Tryd.func16, Tryd.ntmps16; go_wp2_with (first | ((with_reducible refine (HX.out _ (by (repeat (first | exact Below.refl _ _ | refine Below.setCell ?_ (by simp) _ | refine Below.alloc ?_ (by simp) _ | refine Below.drew ?_)))).mono ?_); rintro e w' ⟨rfl, rfl⟩) | ((with_reducible refine (HG4.out _ (by (repeat (first | exact Below.refl _ _ | refine Below.setCell ?_ (by simp) _ | refine Below.alloc ?_ (by simp) _ | refine Below.drew ?_)))).mono ?_); rintro e w' ⟨rfl, rfl⟩) | ((with_reducible refine (HG.out _ (by (repeat (first | exact Below.refl _ _ | refine Below.setCell ?_ (by simp) _ | refine Below.alloc ?_ (by simp) _ | refine Below.drew ?_)))).mono ?_); rintro e w' ⟨rfl, rfl⟩)))
    (refine bodyPost_ret (res_cell_tmp rfl _ _ _ 31 _ _ rfl (obj_mid _ _ _ _ _) Tryd.underlying31 rfl (by kernel_rfl)) rfl ?_; exact ⟨by rw [H.out]; rfl, by (repeat (first | exact Nw.refl _ | refine gb_trans ?_ (World.grownBy_alloc _ _ none)))⟩)
  case inr.inr.inr.inr.inr.inl =>
    have h1 : decide ((b : Int) < 1) = false := by simp; omega
    have h2 : decide (40 < (b : Int)) = false := by simp; omega
    have h3 : decide (b ≤ a) = false := by simp; omega
    have h4 : decide (53 < (c : Int)) = false := by simp; omega
    have h5 : ((a : Int) + 1 == (b : Int)) = false := by simp; omega
    have h6 : decide ((c : Int) < 53) = true := by simp; omega
    (go_enter Tryd.func16, Tryd.ntmps16; go_wp2_with (first | ((with_reducible refine (HX.out _ (by (repeat (first | exact Below.refl _ _ | refine Below.setCell ?_ (by simp) _ | refine Below.alloc ?_ (by simp) _ | refine Below.drew ?_)))).mono ?_); rintro e w' ⟨rfl, rfl⟩) | ((with_reducible refine (HG4.out _ (by (repeat (first | exact Below.refl _ _ | refine Below.setCell ?_ (by simp) _ | refine Below.alloc ?_ (by simp) _ | refine Below.drew ?_)))).mono ?_); rintro e w' ⟨rfl, rfl⟩) | ((with_reducible refine (HG.out _ (by (repeat (first | exact Below.refl _ _ | refine Below.setCell ?_ (by simp) _ | refine Below.alloc ?_ (by simp) _ | refine Below.drew ?_)))).mono ?_); rintro e w' ⟨rfl, rfl⟩)))
    (refine bodyPost_ret (res_cell_tmp rfl _ _ _ 31 _ _ rfl (obj_mid _ _ _ _ _) Tryd.underlying31 rfl (by kernel_rfl)) rfl ?_; exact ⟨by rw [H.out]; rfl, by (repeat (first | exact Nw.refl _ | refine gb_trans ?_ (World.grownBy_alloc _ _ none)))⟩)
  case inr.inr.inr.inr.inr.inr =>
    have h1 : decide ((b : Int) < 1) = false := by simp; omega
    have h2 : decide (40 < (b : Int)) = false := by simp; omega
    have h3 : decide (b ≤ a) = false := by simp; omega
    have h4 : decide (53 < (c : Int)) = false := by simp; omega
    have h5 : ((a : Int) + 1 == (b : Int)) = true := by simp; omega
    have h6 : decide (1 < (b : Int)) = true := by simp; omega
    have h7 : ((c : Int) == 0) = true := by simp; omega
    (go_enter Tryd.func16, Tryd.ntmps16; go_wp2_with (first | ((with_reducible refine (HX.out _ (by (repeat (first | exact Below.refl _ _ | refine Below.setCell ?_ (by simp) _ | refine Below.alloc ?_ (by simp) _ | refine Below.drew ?_)))).mono ?_); rintro e w' ⟨rfl, rfl⟩) | ((with_reducible refine (HG4.out _ (by (repeat (first | exact Below.refl _ _ | refine Below.setCell ?_ (by simp) _ | refine Below.alloc ?_ (by simp) _ | refine Below.drew ?_)))).mono ?_); rintro e w' ⟨rfl, rfl⟩) | ((with_reducible refine (HG.out _ (by (repeat (first | exact Below.refl _ _ | refine Below.setCell ?_ (by simp) _ | refine Below.alloc ?_ (by simp) _ | refine Below.drew ?_)))).mono ?_); rintro e w' ⟨rfl, rfl⟩)))
    (refine bodyPost_ret (res_cell_tmp rfl _ _ _ 31 _ _ rfl (obj_mid _ _ _ _ _) Tryd.underlying31 rfl (by kernel_rfl)) rfl ?_; exact ⟨by rw [H.out]; rfl, by (repeat (first | exact Nw.refl _ | refine gb_trans ?_ (World.grownBy_alloc _ _ none)))⟩)
end Go.Proofs.YtlfkeohlnhlcoaaDoor

