/- What pack.may, pack.Put and pack.Get and the reference's Get return, for every number and every slice of at most a thousand million bytes. -/
import Derived.Test.YtlfkeohlnhlcoaaDoorProg
import Derived.Test.YtlfkeohlnhlcoaaDoorLib
namespace Go.Proofs.YtlfkeohlnhlcoaaDoor
open Go.RowKit Go.BW
theorem T22 : El Tryd.prog 22 5 (.int .u8 0) 1 1 := El.mk' Tryd.underlying22 (by kernel_rfl) rfl (by decide)
theorem bv_one (bs : List UInt8) : ∀ u ∈ bs.map bv, u.oneCell' = true := by intro u hu; obtain ⟨x, _, rfl⟩ := List.mem_map.1 hu; rfl
theorem iv_one (bs : List Int) : ∀ u ∈ bs.map iv, u.oneCell' = true := by intro u hu; obtain ⟨x, _, rfl⟩ := List.mem_map.1 hu; rfl

/-- may a number be written so? -/
def mayB (v width : Int) : Bool := decide (1 ≤ width ∧ width ≤ 6 ∧ 0 ≤ v ∧ v < 2 ^ (8 * width).toNat)
theorem mayB_iff {v width : Int} : mayB v width = true ↔ (1 ≤ width ∧ width ≤ 6 ∧ 0 ≤ v ∧ v < 2 ^ (8 * width).toNat) := by unfold mayB; exact decide_eq_true_iff
theorem shr_zero (v : Int) (k : Nat) (h0 : 0 ≤ v) : (v / 2 ^ k == 0) = decide (v < 2 ^ k) := by
  have hp : (0 : Int) < 2 ^ k := Int.pow_pos (by decide)
  rw [Bool.eq_iff_iff]
  simp only [beq_iff_eq, decide_eq_true_eq]
  constructor
  · intro h
    have h1 := Int.emod_add_mul_ediv v (2 ^ k)
    have h2 := Int.emod_lt_of_pos v hp
    rw [h] at h1
    omega
  · intro h; exact Int.ediv_eq_zero_of_lt h0 h
set_option maxHeartbeats 400000 in
theorem may_any (v width : Int) (w : World) (_hv : v ≤ 9223372036854775807) :
    Calls Tryd.prog 34 #[.int .i64 v, .int .i64 width] w fun e w' => e = .returned (.bool (mayB v width)) ∧ w = w' := by
  by_cases h1 : 1 ≤ width
  · by_cases h6 : width ≤ 6
    · by_cases h0 : 0 ≤ v
      · have e : mayB v width = (v / 2 ^ (8 * width).toNat == 0) := by
          rw [shr_zero _ _ h0]; unfold mayB; simp [h1, h6, h0]
        have E := Lib.hid e; clear e
        go_enter Tryd.func34, Tryd.ntmps34
        go_wp2
        go_ret
        rw [E.out]
        exact ⟨rfl, rfl⟩
      · have E := Lib.hid (show mayB v width = false from by unfold mayB; simp [h0])
        go_enter Tryd.func34, Tryd.ntmps34
        go_wp2
        go_ret
        rw [E.out]
        exact ⟨rfl, rfl⟩
    · have E := Lib.hid (show mayB v width = false from by unfold mayB; simp [h6])
      go_enter Tryd.func34, Tryd.ntmps34
      go_wp2
      go_ret
      rw [E.out]
      exact ⟨rfl, rfl⟩
  · have E := Lib.hid (show mayB v width = false from by unfold mayB; simp [h1])
    go_enter Tryd.func34, Tryd.ntmps34
    go_wp2
    go_ret
    rw [E.out]
    exact ⟨rfl, rfl⟩

/-- the bytes of a number, the greatest first -/
def be (v : Int) : Nat → List UInt8
  | 0 => []
  | k + 1 => UInt8.ofNat (v / 2 ^ (8 * k)).toNat :: be v k
def putL (bs : List UInt8) (v width : Int) : List UInt8 := if mayB v width then bs ++ be v width.toNat else bs

theorem take_be (v : Int) : ∀ (wd d : Nat), d < wd → (be v wd).take (d + 1) = (be v wd).take d ++ [UInt8.ofNat (v / 2 ^ (8 * (wd - 1 - d))).toNat]
  | wd + 1, 0, _ => by simp [be]
  | wd + 1, d + 1, h => by
    simp only [be, List.take_succ_cons, List.cons_append]
    rw [take_be v wd d (by omega)]
    rw [show wd + 1 - 1 - (d + 1) = wd - 1 - d from by omega]
theorem byte_of (v : Int) (k : Nat) (h0 : 0 ≤ v) : Value.int .u8 (v / 2 ^ k % 256) = bv (UInt8.ofNat (v / 2 ^ k).toNat) := by
  have h1 : 0 ≤ v / 2 ^ k := Int.ediv_nonneg h0 (Int.le_of_lt (Int.pow_pos (by decide)))
  unfold bv
  simp
  omega
theorem len_be (v : Int) : ∀ k, (be v k).length = k
  | 0 => rfl
  | k + 1 => by simp [be, len_be v k]

theorem put_step {w : World} {base n c : Nat} {A : Option Addr} {bs : List UInt8} {v q : Int} {wd d : Nat} {xs : List Value} (h : Own w base 5 1 A n c (xs ++ [bv (UInt8.ofNat (v / 2 ^ (8 * q).toNat).toNat)])) (hd : d < wd) (hq : q = wd - 1 - d)
  (hx : xs = (bs ++ (be v wd).take d).map bv) : Own w base 5 1 A n c ((bs ++ (be v wd).take (d + 1)).map bv) := by
  rw [take_be v wd d hd, ← List.append_assoc, List.map_append, ← hx]
  rw [show (8 * q).toNat = 8 * (wd - 1 - d) from by omega] at h
  exact h
def OwnB (bs : List UInt8) := RetOwn 5 1 (bs.map bv)
set_option maxHeartbeats 400000 in
theorem put_no (A : Option Addr) (n c : Nat) (bs : List UInt8) (v width : Int) (B : Nat) (w : World) (hr : Rd w B 1 A n (bs.map bv)) (hB : B ≤ w.heap.size) (hn : n ≤ 1000000000) (hc : n ≤ c) (hv : v ≤ 9223372036854775807)
    (hmay : mayB v width = false) : Calls Tryd.prog 29 #[.slice A n c, .int .i64 v, .int .i64 width] w (OwnB bs w) := by
  have Hm := Lib.hid hmay
  clear hmay
  go_enter Tryd.func29, Tryd.ntmps29
  go_wp2_with (first | ((with_reducible refine (may_any _ _ _ hv).mono ?_); rw [Hm.out]; rintro e w' ⟨rfl, rfl⟩) | (at_builtin; refine wpList_app_lit T22 _ _ rfl rfl w.heap.size rfl rfl hr hB (bv_one _) (by unfold maxLen; omega) (Nat.le_refl _) ?_; intro A' c' w' h2 h3))
  go_ret
  exact ⟨A', _, c', rfl, h2, h3⟩

set_option maxHeartbeats 400000 in
theorem put_yes (A : Option Addr) (n c : Nat) (bs : List UInt8) (v width : Int) (B : Nat) (w : World) (hr : Rd w B 1 A n (bs.map bv)) (hB : B ≤ w.heap.size) (hn : n ≤ 1000000000) (hc : n ≤ c) (hv : v ≤ 9223372036854775807)
    (hmay : mayB v width = true) : Calls Tryd.prog 29 #[.slice A n c, .int .i64 v, .int .i64 width] w (OwnB (bs ++ be v width.toNat) w) := by
  obtain ⟨m1, m2, m3, m4⟩ := mayB_iff.1 hmay
  have Hm := Lib.hid hmay
  clear hmay
  obtain ⟨wd, rfl⟩ := Int.eq_ofNat_of_zero_le (show 0 ≤ width by omega)
  have M4 := Lib.hid m4; clear m4
  go_enter Tryd.func29, Tryd.ntmps29
  go_wp2_with (first | ((with_reducible refine (may_any _ _ _ hv).mono ?_); rw [Hm.out]; rintro e w' ⟨rfl, rfl⟩))
  go_loopw [0, 7] (fun s i wr => ∃ (d m : Nat) (q : Int) (A' : Option Addr) (c' : Nat), d ≤ wd ∧ s = .slice A' m c' ∧ i = .int .i64 q ∧ Nw w wr ∧ Hid (m = n + d) ∧ Hid (q = wd - 1 - d) ∧
     ((d = 0 ∧ Hid (c' = m) ∧ Rd wr B 1 A' m (bs.map bv)) ∨ (0 < d ∧ Own wr w.heap.size 5 1 A' m c' ((bs ++ (be v wd).take d).map bv)))) (fun _ i _ => (intOf i + 1).toNat)
  case atStart => 
    exact ⟨0, n, _, A, n, by omega, rfl, rfl, Nw.refl _, rfl, by unfold Hid; omega, .inl ⟨rfl, rfl, hr⟩⟩
  case round =>
    obtain ⟨d, m, q, A', c', hd, rfl, rfl, hnw, hn', hq, hcase⟩ := hrel
    by_cases hq0 : 0 ≤ q
    · have hq5 : q ≤ 5 := by have := hq.out; omega
      have hsm : (m + 1) * 1 ≤ 140737488355328 ∧ m + 1 ≤ maxLen := by have := hn'.out; unfold maxLen; omega
      have hbyte := byte_of v (8 * q).toNat m3
      have Hb := Lib.hid hbyte; clear hbyte
      rcases hcase with ⟨h1, h2, h3⟩ | ⟨h1, h2⟩
      · have e := h2.out; clear h2; subst e
        go_wp2_with (first | (at_builtin; refine wpList_app1_full T22 _ _ rfl rfl w.heap.size rfl rfl h3 (Nat.le_trans hB hnw.size) hsm hnw.size ?_; intro A2 c2 w2 h4 h5))
        go_roundw
        case rel => 
          rw [Hb.out] at h4
          refine ⟨d+1, _, _, A2, c2, ?_, rfl, rfl, gb_trans hnw h5, ?_, ?_, .inr ⟨by omega, ?_⟩⟩
          · have := hq.out; omega
          · have := hn'.out; unfold Hid; omega
          · have := hq.out; unfold Hid; omega
          · exact put_step h4 (by have := hq.out; omega) (by have := hq.out; omega) (by subst h1; simp)
        case measure => simp [intOf]; omega
      · go_wp2_with (first | (at_builtin; refine wpList_app1_own T22 _ _ rfl rfl rfl rfl h2 rfl hsm hnw.size ?_; intro A2 c2 w2 h4 h5 _))
        go_roundw
        case rel => 
          rw [Hb.out] at h4
          refine ⟨d+1, _, _, A2, c2, ?_, rfl, rfl, nw_of_gb hnw h5 h2.blk, ?_, ?_, .inr ⟨by omega, ?_⟩⟩
          · have := hq.out; omega
          · have := hn'.out; unfold Hid; omega
          · have := hq.out; unfold Hid; omega
          · exact put_step h4 (by have := hq.out; omega) (by have := hq.out; omega) rfl
        case measure => simp [intOf]; omega
    · have hd1 : d = wd := by have := hq.out; omega
      rcases hcase with ⟨h1, _⟩ | ⟨_, h2⟩
      · omega
      · subst hd1
        rw [List.take_of_length_le (by rw [len_be]; exact Nat.le_refl _)] at h2
        go_wp2
        go_ret
        exact ⟨A', m, c', rfl, h2, hnw⟩

theorem putL_len (bs : List UInt8) (v width : Int) : (putL bs v width).length ≤ bs.length + 6 := by
  unfold putL
  split
  · next h => obtain ⟨_, h6, _⟩ := mayB_iff.1 h; rw [List.length_append, len_be]; omega
  · omega
theorem put_any (A : Option Addr) (n c : Nat) (bs : List UInt8) (v width : Int) (B : Nat) (w : World) (hr : Rd w B 1 A n (bs.map bv)) (hB : B ≤ w.heap.size) (hn : n ≤ 1000000000) (hc : n ≤ c) (hv : v ≤ 9223372036854775807) :
    Calls Tryd.prog 29 #[.slice A n c, .int .i64 v, .int .i64 width] w (OwnB (putL bs v width) w) := by
  unfold putL
  split
  · next h => exact put_yes A n c bs v width B w hr hB hn hc hv h
  · next h => exact put_no A n c bs v width B w hr hB hn hc hv (by simpa using h)

attribute [irreducible] mayB
/-- the number that bytes are -/
def beV (l : List UInt8) : Int := l.foldl (fun v c => v * 256 + (c.toNat : Int)) 0
theorem beV_snoc (l : List UInt8) (c : UInt8) : beV (l ++ [c]) = beV l * 256 + c.toNat := by simp [beV]
theorem beV_le (l : List UInt8) : 0 ≤ beV l ∧ beV l < 256 ^ l.length := by
  have h : ∀ l : List UInt8, 0 ≤ beV l.reverse ∧ beV l.reverse < 256 ^ l.length := by
    intro l
    induction l with
    | nil => simp [beV]
    | cons c l ih =>
      rw [List.reverse_cons, beV_snoc, List.length_cons, Int.pow_succ]
      have := c.toNat_lt
      omega
  have := h l.reverse
  simpa using this
theorem beV_lt5 (l : List UInt8) (h : l.length ≤ 5) : beV l < 1099511627776 := by
  have h1 := (beV_le l).2
  have h2 : (256 : Int) ^ l.length ≤ 256 ^ 5 := by
    have := Nat.pow_le_pow_right (show 0 < 256 by decide) h
    have e : ((256 ^ l.length : Nat) : Int) ≤ ((256 ^ 5 : Nat) : Int) := by omega
    simpa using e
  have : (256 : Int) ^ 5 = 1099511627776 := by decide
  omega
theorem beV_take (bs : List UInt8) (k : Nat) (h : k < bs.length) : beV (bs.take (k + 1)) = beV (bs.take k) * 256 + bs[k].toNat := by
  rw [List.take_succ_eq_append_getElem h, beV_snoc]
def getB (n : Nat) (width : Int) : Bool := decide (1 ≤ width ∧ width ≤ 6 ∧ width ≤ n)
def getL (bs : List UInt8) (width : Int) : Int := if getB bs.length width then beV (bs.take width.toNat) else 0

set_option maxHeartbeats 400000 in
theorem get_no (A : Option Addr) (n c : Nat) (width : Int) (w : World) (h : getB n width = false) :
    Calls Tryd.prog 23 #[.slice A n c, .int .i64 width] w fun e w' => e = .returned (.tuple #[.int .i64 0, .bool false]) ∧ w = w' := by
  by_cases h1 : 1 ≤ width
  · by_cases h6 : width ≤ 6
    · have h7 : (n : Int) < width := by
        rcases Int.lt_or_le (n : Int) width with h' | h'
        · exact h'
        · exfalso; unfold getB at h; simp [h1, h6, h'] at h
      have H := Lib.hid h; clear h
      go_enter Tryd.func23, Tryd.ntmps23
      go_wp2
      go_ret2
      exact ⟨rfl, rfl⟩
    · have H := Lib.hid h; clear h
      go_enter Tryd.func23, Tryd.ntmps23
      go_wp2
      go_ret2
      exact ⟨rfl, rfl⟩
  · have H := Lib.hid h; clear h
    go_enter Tryd.func23, Tryd.ntmps23
    go_wp2
    go_ret2
    exact ⟨rfl, rfl⟩
set_option maxHeartbeats 400000 in
theorem get_yes (A : Option Addr) (n c : Nat) (bs : List UInt8) (wd : Nat) (B : Nat) (w : World) (hr : Rd w B 1 A n (bs.map bv)) (hc : n ≤ c) (h : getB n wd = true) :
    Calls Tryd.prog 23 #[.slice A n c, .int .i64 wd] w fun e w' => e = .returned (.tuple #[.int .i64 (beV (bs.take wd)), .bool true]) ∧ w = w' := by
  obtain ⟨h1, h2, h3⟩ : 1 ≤ (wd : Int) ∧ (wd : Int) ≤ 6 ∧ (wd : Int) ≤ n := by unfold getB at h; simpa using h
  have b1 : decide ((wd : Int) < 1) = false := by simp; omega
  have b2 : decide (6 < (wd : Int)) = false := by simp; omega
  have b3 : decide ((n : Int) < (wd : Int)) = false := by simp; omega
  have H := Lib.hid h; clear h
  go_enter Tryd.func23, Tryd.ntmps23
  go_wp2
  go_loop [25, 6] (fun i v => ∃ (k : Nat) (q : Int), k ≤ wd ∧ i = .int .i64 k ∧ v = .int .i64 q ∧ 0 ≤ q ∧ Hid (q = beV (bs.take k))) (fun i _ => wd - (intOf i).toNat)
  case atStart => 
    exact ⟨0, _, by omega, rfl, rfl, by omega, rfl⟩
  case round =>
    obtain ⟨k, q, hk, rfl, rfl, q0, hq⟩ := hrel
    by_cases hlt : k < wd
    · obtain ⟨b, off, rfl, hz, hcell⟩ := hr.atB (show k < n by omega)
      have hb := bs[k].toNat_lt
      have hq2 : q < 1099511627776 := by rw [hq.out]; exact beV_lt5 _ (by rw [List.length_take]; omega)
      have Ho := Lib.hid (or_byte q bs[k].toNat q0 hq2 hb)
      go_wp2
      go_round
      case rel => exact ⟨k + 1, _, by omega, by go_num, rfl, by rw [Ho.out]; omega, by unfold Hid; rw [Ho.out, beV_take _ _ hz, hq.out]⟩
      case measure => simp [intOf]; omega
    · have hk' : k = wd := by omega
      go_wp2
      go_ret2
      exact ⟨by rw [← hk', ← hq.out]; rfl, rfl⟩
theorem get_any (A : Option Addr) (n c : Nat) (bs : List UInt8) (width : Int) (B : Nat) (w : World) (hr : Rd w B 1 A n (bs.map bv)) (hc : n ≤ c) :
    Calls Tryd.prog 23 #[.slice A n c, .int .i64 width] w fun e w' => e = .returned (.tuple #[.int .i64 (getL bs width), .bool (getB bs.length width)]) ∧ w = w' := by
  have hl : bs.length = n := by have := hr.1; simpa using this
  unfold getL
  rw [hl]
  split
  · next h =>
    rw [h]
    obtain ⟨wd, rfl⟩ := Int.eq_ofNat_of_zero_le (show 0 ≤ width by unfold getB at h; simp at h; omega)
    exact get_yes A n c bs wd B w hr hc h
  · next h => rw [show getB n width = false from by simpa using h]; exact get_no A n c width w (by simpa using h)

theorem pow_pos' (k : Nat) : (0 : Int) < 2 ^ k := Int.pow_pos (by decide)
theorem beV_cons (c : UInt8) (l : List UInt8) : beV (c :: l) = c.toNat * 256 ^ l.length + beV l := by
  have h : ∀ (l : List UInt8) (a : Int), l.foldl (fun v c => v * 256 + (c.toNat : Int)) a = a * 256 ^ l.length + l.foldl (fun v c => v * 256 + (c.toNat : Int)) 0 := by
    intro l
    induction l with
    | nil => intro a; simp
    | cons d l ih =>
      intro a
      rw [List.foldl_cons, List.foldl_cons, ih, ih (0 * 256 + (d.toNat : Int)), List.length_cons, Int.pow_succ]
      rw [Int.add_mul, Int.mul_assoc, Int.mul_comm 256]
      simp only [Int.zero_mul, Int.zero_add]
      omega
  unfold beV
  rw [List.foldl_cons, h]
  simp
theorem beV_be (v : Int) (h0 : 0 ≤ v) : ∀ k, beV (be v k) = v % 256 ^ k
  | 0 => by simp [be, beV, Int.emod_one]
  | k + 1 => by
    rw [be, beV_cons, len_be, beV_be v h0 k]
    obtain ⟨n, rfl⟩ := Int.eq_ofNat_of_zero_le h0
    have e : ((256 : Int) ^ k) = ((256 ^ k : Nat) : Int) := by rw [Int.natCast_pow]; rfl
    have e1 : ((256 : Int) ^ (k + 1)) = ((256 ^ (k + 1) : Nat) : Int) := by rw [Int.natCast_pow]; rfl
    have e2 : ((2 : Int) ^ (8 * k)) = ((256 ^ k : Nat) : Int) := by rw [Int.pow_mul, Int.natCast_pow]; rfl
    rw [e, e1, e2, ← Int.natCast_ediv, Int.toNat_natCast, ← Int.natCast_emod, ← Int.natCast_emod, ← Int.natCast_mul, ← Int.natCast_add, Nat.pow_succ, Nat.mod_mul]
    congr 1
    rw [show (UInt8.ofNat (n / 256 ^ k)).toNat = n / 256 ^ k % 256 from by simp, Nat.mul_comm, Nat.add_comm]
theorem bytesLess_beV : ∀ (x y : List UInt8), x.length = y.length → Op.bytesLess x y = decide (beV x < beV y)
  | [], [], _ => by simp [Op.bytesLess, beV]
  | [], _ :: _, h => by simp at h
  | _ :: _, [], h => by simp at h
  | a :: x, b :: y, h => by
    have hl : x.length = y.length := by simpa using h
    rw [beV_cons, beV_cons, hl, Op.bytesLess, bytesLess_beV x y hl]
    have hx := beV_le x
    have hy := beV_le y
    rw [hl] at hx
    have hP : (0 : Int) < 256 ^ y.length := Int.pow_pos (by decide)
    generalize (256 : Int) ^ y.length = P at *
    rw [Bool.eq_iff_iff]
    simp only [Bool.or_eq_true, Bool.and_eq_true, decide_eq_true_eq, beq_iff_eq, UInt8.lt_iff_toNat_lt]
    rcases Nat.lt_trichotomy a.toNat b.toNat with h1 | h1 | h1
    · have : ((a.toNat : Int) + 1) * P ≤ b.toNat * P := Int.mul_le_mul_of_nonneg_right (by omega) (by omega)
      rw [Int.add_mul, Int.one_mul] at this
      constructor
      · intro _; omega
      · intro _; exact .inl h1
    · have hab : a = b := UInt8.toNat_inj.1 h1
      subst hab
      constructor
      · rintro (h | ⟨_, h⟩) <;> omega
      · intro h; exact .inr ⟨rfl, by omega⟩
    · have : ((b.toNat : Int) + 1) * P ≤ a.toNat * P := Int.mul_le_mul_of_nonneg_right (by omega) (by omega)
      rw [Int.add_mul, Int.one_mul] at this
      constructor
      · rintro (h | ⟨h, _⟩)
        · omega
        · rw [h] at h1; omega
      · intro h; omega
theorem beV_inj : ∀ (x y : List UInt8), x.length = y.length → beV x = beV y → x = y
  | [], [], _, _ => rfl
  | [], _ :: _, h, _ => by simp at h
  | _ :: _, [], h, _ => by simp at h
  | a :: x, b :: y, h, he => by
    have hl : x.length = y.length := by simpa using h
    rw [beV_cons, beV_cons, hl] at he
    have hx := beV_le x
    have hy := beV_le y
    rw [hl] at hx
    have hP : (0 : Int) < 256 ^ y.length := Int.pow_pos (by decide)
    generalize (256 : Int) ^ y.length = P at *
    have hab : a.toNat = b.toNat := by
      rcases Nat.lt_trichotomy a.toNat b.toNat with h1 | h1 | h1
      · have : ((a.toNat : Int) + 1) * P ≤ b.toNat * P := Int.mul_le_mul_of_nonneg_right (by omega) (by omega)
        rw [Int.add_mul, Int.one_mul] at this
        omega
      · exact h1
      · have : ((b.toNat : Int) + 1) * P ≤ a.toNat * P := Int.mul_le_mul_of_nonneg_right (by omega) (by omega)
        rw [Int.add_mul, Int.one_mul] at this
        omega
    have := UInt8.toNat_inj.1 hab
    subst this
    rw [beV_inj x y hl (by omega)]

/-! the widths and masks of the laws -/
theorem wid_of (width : Int) : ∃ (m : Int) (wd : Nat), bits .and .i64 width 15 = m ∧ 0 ≤ m ∧ m ≤ 15 ∧ 1 + m % 6 = (wd : Int) ∧ 1 ≤ wd ∧ wd ≤ 6 := by
  have h := and_mask width 4 (by decide)
  have e : (2 : Int) ^ 4 = 16 := by decide
  rw [e, show (16 : Int) - 1 = 15 from by decide] at h
  refine ⟨width % 16, (1 + width % 16 % 6).toNat, h, by omega, by omega, by omega, by omega, by omega⟩
theorem mask_of (wd : Nat) (_h1 : 1 ≤ wd) (h6 : wd ≤ 6) : ∃ p : Int, wrap64 (2 ^ (8 * wd)) = p ∧ 2 ≤ p ∧ p ≤ 281474976710656 ∧ Hid (p = 2 ^ (8 * wd)) := by
  have hp : (2 : Nat) ^ (8 * wd) ≤ 2 ^ 48 := Nat.pow_le_pow_right (by decide) (by omega)
  have hp1 : (2 : Nat) ^ 8 ≤ 2 ^ (8 * wd) := Nat.pow_le_pow_right (by decide) (by omega)
  have e : (2 : Int) ^ (8 * wd) = ((2 ^ (8 * wd) : Nat) : Int) := by rw [Int.natCast_pow]; rfl
  refine ⟨2 ^ (8 * wd), ?_, ?_, ?_, rfl⟩ <;> rw [e]
  · unfold wrap64; omega
  · omega
  · omega
theorem cut_of (v p : Int) (wd : Nat) (h1 : 1 ≤ wd) (h6 : wd ≤ 6) (hp : p = 2 ^ (8 * wd)) : bits .and .i64 v (p - 1) = v % p ∧ 0 ≤ v % p ∧ v % p < p ∧ mayB (v % p) wd = true := by
  subst hp
  have h0 := pow_pos' (8 * wd)
  have h2 := Int.emod_nonneg v (show (2 : Int) ^ (8 * wd) ≠ 0 by omega)
  have h3 := Int.emod_lt_of_pos v h0
  refine ⟨and_mask v (8 * wd) (by omega), h2, h3, mayB_iff.2 ⟨by omega, by omega, h2, ?_⟩⟩
  rw [show (8 * (wd : Int)).toNat = 8 * wd from by omega]
  exact h3

/-! the reference's, over a string -/
set_option maxHeartbeats 400000 in
theorem rget_no (s : List UInt8) (width : Int) (w : World) (h : getB s.length width = false) :
    Calls Tryd.prog 26 #[.string ⟨s.toArray⟩, .int .i64 width] w fun e w' => e = .returned (.tuple #[.int .i64 0, .bool false]) ∧ w = w' := by
  by_cases h1 : 1 ≤ width
  · by_cases h6 : width ≤ 6
    · have h7 : (s.length : Int) < width := by
        rcases Int.lt_or_le (s.length : Int) width with h' | h'
        · exact h'
        · exfalso; unfold getB at h; simp [h1, h6, h'] at h
      have H := Lib.hid h; clear h
      go_enter Tryd.func26, Tryd.ntmps26
      go_wp2
      go_ret2
      exact ⟨rfl, rfl⟩
    · have H := Lib.hid h; clear h
      go_enter Tryd.func26, Tryd.ntmps26
      go_wp2
      go_ret2
      exact ⟨rfl, rfl⟩
  · have H := Lib.hid h; clear h
    go_enter Tryd.func26, Tryd.ntmps26
    go_wp2
    go_ret2
    exact ⟨rfl, rfl⟩
set_option maxHeartbeats 400000 in
theorem rget_yes (s : List UInt8) (wd : Nat) (w : World) (h : getB s.length wd = true) :
    Calls Tryd.prog 26 #[.string ⟨s.toArray⟩, .int .i64 wd] w fun e w' => e = .returned (.tuple #[.int .i64 (beV (s.take wd)), .bool true]) ∧ w = w' := by
  obtain ⟨h1, h2, h3⟩ : 1 ≤ (wd : Int) ∧ (wd : Int) ≤ 6 ∧ (wd : Int) ≤ s.length := by unfold getB at h; simpa using h
  have b1 : decide ((wd : Int) < 1) = false := by simp; omega
  have b2 : decide (6 < (wd : Int)) = false := by simp; omega
  have b3 : decide ((s.length : Int) < (wd : Int)) = false := by simp; omega
  have H := Lib.hid h; clear h
  go_enter Tryd.func26, Tryd.ntmps26
  go_wp2
  go_loop [7, 6] (fun i v => ∃ (k : Nat) (q : Int), k ≤ wd ∧ i = .int .i64 k ∧ v = .int .i64 q ∧ 0 ≤ q ∧ Hid (q = beV (s.take k))) (fun i _ => wd - (intOf i).toNat)
  case atStart => 
    exact ⟨0, _, by omega, rfl, rfl, by omega, rfl⟩
  case round =>
    obtain ⟨k, q, hk, rfl, rfl, q0, hq⟩ := hrel
    by_cases hlt : k < wd
    · have hz : k < s.length := by omega
      have hb : s[k].toNat < 256 := s[k].toNat_lt
      have hq2 : q < 1099511627776 := by rw [hq.out]; exact beV_lt5 _ (by rw [List.length_take]; omega)
      have hs : (ByteArray.mk s.toArray)[k] = s[k] := rfl
      go_wp2
      go_round
      case rel => exact ⟨k + 1, _, by omega, by go_num, rfl, by omega, by unfold Hid; rw [beV_take _ _ hz, hq.out]; omega⟩
      case measure => simp [intOf]; omega
    · have hk' : k = wd := by omega
      go_wp2
      go_ret2
      exact ⟨by rw [← hk', ← hq.out]; rfl, rfl⟩
theorem rget_any (s : List UInt8) (width : Int) (w : World) :
    Calls Tryd.prog 26 #[.string ⟨s.toArray⟩, .int .i64 width] w fun e w' => e = .returned (.tuple #[.int .i64 (getL s width), .bool (getB s.length width)]) ∧ w = w' := by
  unfold getL
  split
  · next h =>
    rw [h]
    obtain ⟨wd, rfl⟩ := Int.eq_ofNat_of_zero_le (show 0 ≤ width by unfold getB at h; simp at h; omega)
    exact rget_yes s wd w h
  · next h => rw [show getB s.length width = false from by simpa using h]; exact rget_no s width w (by simpa using h)

end Go.Proofs.YtlfkeohlnhlcoaaDoor

