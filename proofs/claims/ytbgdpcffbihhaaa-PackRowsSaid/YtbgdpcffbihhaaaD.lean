/- What pack.Row and the reference's Row and SameInts return, for every slice and string of at most a hundred million bytes. -/
import Derived.Test.YtbgdpcffbihhaaaB
namespace Go.Proofs.Ytbgdpcffbihhaaa
open Go.RowKit Go.BW

theorem eq_snoc {α} (xs ys : List α) (k : Nat) (h1 : k < xs.length) (h2 : k < ys.length) (h : xs.take k = ys.take k) (he : xs[k] = ys[k]) : xs.take (k + 1) = ys.take (k + 1) := by
  rw [List.take_succ_eq_append_getElem h1, List.take_succ_eq_append_getElem h2, h, he]
def sameB (xs ys : List Int) : Bool := decide (xs = ys)
set_option maxHeartbeats 1000000 in
theorem same_any (A A' : Option Addr) (n m c c' : Nat) (xs ys : List Int) (B : Nat) (w : World) (hm : n ≤ 9223372036854775807) (hm' : m ≤ 9223372036854775807)
    (hx : Rd w B 1 A n (xs.map iv)) (hy : Rd w B 1 A' m (ys.map iv)) :
    Calls Try.prog 23 #[.slice A n c, .slice A' m c'] w fun e w' => e = .returned (.bool (sameB xs ys)) ∧ ∃ n, w' = w.drewN n := by
  have hlx : xs.length = n := by have := hx.1; simpa using this
  have hly : ys.length = m := by have := hy.1; simpa using this
  by_cases hl : n = m
  · subst hl
    have Hlx := Lib.hid hlx; clear hlx
    have Hly := Lib.hid hly; clear hly
    go_enter Try.func23, Try.ntmps23
    go_wp2
    go_loopw [5] (fun i wr => ∃ k : Nat, k ≤ n ∧ i = .int .i64 k ∧ Hid (xs.take k = ys.take k) ∧ ∃ n, wr = w.drewN n) (fun i _ => n - (intOf i).toNat)
    case atStart => exact ⟨0, Nat.zero_le _, rfl, rfl, 0, rfl⟩
    case round =>
      obtain ⟨k, hk, rfl, ht, nd, rfl⟩ := hrel
      by_cases hlt : k < n
      · obtain ⟨b, off, rfl, hz, hcu⟩ := hx.atI hlt
        obtain ⟨b', off', rfl, hz', hcu'⟩ := hy.atI hlt
        by_cases he : xs[k] = ys[k]
        · have hne : ((xs[k] : Int) != (ys[k] : Int)) = false := by rw [he]; simp
          have He := Lib.hid he; clear he
          go_wp2
          go_quiet (fail)
          go_wp2
          go_roundw
          case rel => exact ⟨k+1, by omega, by go_num, eq_snoc _ _ _ _ _ ht.out He.out, _, by first | rfl | simp⟩
          case measure => simp [intOf]; omega
        · have hne : ((xs[k] : Int) != (ys[k] : Int)) = true := by simpa using he
          have hno : sameB xs ys = false := by
            unfold sameB
            rw [decide_eq_false_iff_not]
            intro e
            apply he
            subst e
            rfl
          have He := Lib.hid he; clear he
          have Hno := Lib.hid hno; clear hno
          go_wp2
          go_quiet (fail)
          go_wp2
          go_ret
          exact ⟨by rw [Hno.out]; rfl, nd + nq, by rw [World.drewN_drewN]⟩
      · have hyes : sameB xs ys = true := by
          have : k = n := by omega
          unfold sameB
          rw [decide_eq_true_iff]
          have h := ht.out
          rwa [List.take_of_length_le (by rw [Hlx.out]; omega), List.take_of_length_le (by rw [Hly.out]; omega)] at h
        have Hyes := Lib.hid hyes; clear hyes
        go_wp2
        go_ret
        exact ⟨by rw [Hyes.out]; rfl, _, rfl⟩
  · have hno : sameB xs ys = false := by
      unfold sameB
      rw [decide_eq_false_iff_not]
      intro e
      apply hl
      rw [← hlx, ← hly, e]
    have hne : ((n : Int) != (m : Int)) = true := by rw [bne_iff_ne]; omega
    have Hno := Lib.hid hno; clear hno
    have Hl := Lib.hid hl; clear hl
    clear hlx hly
    go_enter Try.func23, Try.ntmps23
    go_wp2
    go_ret
    exact ⟨by rw [Hno.out]; rfl, 0, rfl⟩

/-- the numbers of a row -/
def rowZ (bs : List UInt8) (width : Int) (k : Nat) : List Int := (List.range k).map fun i => getL (bs.drop (2 + i * width.toNat)) width
def rowN (bs : List UInt8) : Int := getL bs 2
def rowB (bs : List UInt8) (width : Int) : Bool := decide (2 ≤ bs.length ∧ 1 ≤ width ∧ width ≤ 6 ∧ 2 + rowN bs * width ≤ bs.length)
theorem rowN_bd (bs : List UInt8) : 0 ≤ rowN bs ∧ rowN bs ≤ 65535 := by
  unfold rowN getL
  split
  · have h := beV_le (bs.take (2 : Int).toNat)
    have hl : (bs.take (2 : Int).toNat).length ≤ 2 := by rw [List.length_take]; show min 2 _ ≤ 2; omega
    have : (256 : Int) ^ (bs.take (2 : Int).toNat).length ≤ 256 ^ 2 := by
      have := Nat.pow_le_pow_right (show 0 < 256 by decide) hl
      have e : ((256 ^ (bs.take (2 : Int).toNat).length : Nat) : Int) ≤ ((256 ^ 2 : Nat) : Int) := by omega
      simpa using e
    have e2 : (256 : Int) ^ 2 = 65536 := by decide
    omega
  · omega
theorem rowZ_snoc (bs : List UInt8) (width : Int) (k : Nat) : rowZ bs width (k + 1) = rowZ bs width k ++ [getL (bs.drop (2 + k * width.toNat)) width] := by
  simp [rowZ, List.range_succ]
theorem rowZ_len (bs : List UInt8) (width : Int) (k : Nat) : (rowZ bs width k).length = k := by simp [rowZ]
/-- what Row leaves -/
def RetRow (bs : List UInt8) (width : Int) (w : World) (e : Ending) (w' : World) : Prop :=
  (rowB bs width = false ∧ e = .returned (.tuple #[.slice none 0 0, .int .i64 0, .bool false]) ∧ Nw w w') ∨
  (rowB bs width = true ∧ ∃ A' n' c', e = .returned (.tuple #[.slice A' n' c', .int .i64 (2 + rowN bs * width), .bool true]) ∧ Own w' w.heap.size 3 1 A' n' c' ((rowZ bs width (rowN bs).toNat).map iv) ∧ Nw w w')
def rowL (bs : List UInt8) (width : Int) : List Int := if rowB bs width then rowZ bs width (rowN bs).toNat else []
def rowM (bs : List UInt8) (width : Int) : Int := if rowB bs width then 2 + rowN bs * width else 0
/-- the same, in one form -/
def RetRow1 (bs : List UInt8) (width : Int) (w : World) (e : Ending) (w' : World) : Prop :=
  ∃ A' n' c', e = .returned (.tuple #[.slice A' n' c', .int .i64 (rowM bs width), .bool (rowB bs width)]) ∧ Own w' w.heap.size 3 1 A' n' c' ((rowL bs width).map iv) ∧ Nw w w'
theorem RetRow.uni {bs : List UInt8} {width : Int} {w : World} {e : Ending} {w' : World} (h : RetRow bs width w e w') : RetRow1 bs width w e w' := by
  rcases h with ⟨h, he, hn⟩ | ⟨h, A', n', c', he, ho, hn⟩
  · exact ⟨none, 0, 0, by rw [he]; simp [rowM, h], by simp only [rowL, h]; exact Own.nil, hn⟩
  · exact ⟨A', n', c', by rw [he]; simp [rowM, h], by simp only [rowL, h, if_true]; exact ho, hn⟩
theorem getB2 (bs : List UInt8) : getB bs.length 2 = decide (2 ≤ bs.length) := by
  unfold getB
  rw [Bool.eq_iff_iff]
  simp only [decide_eq_true_eq]
  omega

theorem mul_bd (q w : Int) (h0 : 0 ≤ q) (h1 : q ≤ 65535) (a : 1 ≤ w) (b : w ≤ 6) : 0 ≤ q * w ∧ q * w ≤ 393210 := by
  constructor
  · exact Int.mul_nonneg h0 (by omega)
  · have h2 : q * w ≤ q * 6 := Int.mul_le_mul_of_nonneg_left b h0
    omega
set_option maxHeartbeats 2000000 in
theorem row_no (A : Option Addr) (n c : Nat) (bs : List UInt8) (width : Int) (B : Nat) (w : World) (hr : Rd w B 1 A n (bs.map bv)) (hc : n ≤ c) (h : rowB bs width = false) :
    Calls Try.prog 21 #[.slice A n c, .int .i64 width] w (RetRow bs width w) := by
  have hl : bs.length = n := by have := hr.1; simpa using this
  have hN := rowN_bd bs
  have hcase : (¬ 2 ≤ n) ∨ (2 ≤ n ∧ width < 1) ∨ (2 ≤ n ∧ 1 ≤ width ∧ 6 < width) ∨ (2 ≤ n ∧ 1 ≤ width ∧ width ≤ 6 ∧ (n : Int) < 2 + rowN bs * width) := by
    unfold rowB at h
    rw [decide_eq_false_iff_not, hl] at h
    by_cases h1 : 2 ≤ n
    · by_cases h2 : 1 ≤ width
      · by_cases h3 : width ≤ 6
        · refine .inr (.inr (.inr ⟨h1, h2, h3, ?_⟩))
          rcases Int.lt_or_le (n : Int) (2 + rowN bs * width) with h' | h'
          · exact h'
          · exact absurd ⟨h1, h2, h3, h'⟩ h
        · exact .inr (.inr (.inl ⟨h1, h2, by omega⟩))
      · exact .inr (.inl ⟨h1, by omega⟩)
    · exact .inl h1
  have Hl := Lib.hid hl; clear hl
  have H := Lib.hid h; clear h
  have G := get_any A n c bs 2 B w hr hc
  rw [getB2, Hl.out] at G
  change Calls _ _ _ _ fun e w' => e = .returned (.tuple #[.int .i64 (rowN bs), _]) ∧ _ at G
  generalize rowN bs = q at *
  have hqw : 1 ≤ width → width ≤ 6 → 0 ≤ q * width ∧ q * width ≤ 393210 := fun a b => mul_bd q width hN.1 hN.2 a b
  obtain ⟨qw, eqw⟩ : ∃ qw, q * width = qw := ⟨_, rfl⟩
  rw [eqw] at hcase hqw
  rcases hcase with h1 | ⟨h1, h2⟩ | ⟨h1, h2, h3⟩ | ⟨h1, h2, h3, h4⟩
  · rw [show decide (2 ≤ n) = false from by simpa using h1] at G
    have HG := Lib.hid G; clear G
    go_enter Try.func21, Try.ntmps21
    go_wp2_with fail
    refine HG.out.mono ?_
    rintro e w1 ⟨rfl, rfl⟩
    go_wp2
    go_ret3
    exact .inl ⟨H.out, rfl, Nw.refl _⟩
  · skip
    have HQ := Lib.hid hqw; clear hqw
    rw [show decide (2 ≤ n) = true from by simpa using h1] at G
    have HG := Lib.hid G; clear G
    go_enter Try.func21, Try.ntmps21
    go_wp2_with fail
    refine HG.out.mono ?_
    rintro e w1 ⟨rfl, rfl⟩
    go_wp2
    go_ret3
    exact .inl ⟨H.out, rfl, Nw.refl _⟩
  · skip
    have HQ := Lib.hid hqw; clear hqw
    rw [show decide (2 ≤ n) = true from by simpa using h1] at G
    have HG := Lib.hid G; clear G
    go_enter Try.func21, Try.ntmps21
    go_wp2_with fail
    refine HG.out.mono ?_
    rintro e w1 ⟨rfl, rfl⟩
    go_wp2
    go_ret3
    exact .inl ⟨H.out, rfl, Nw.refl _⟩
  · have hb := hqw h2 h3
    have b1 : decide (width < 1) = false := by simp; omega
    have b2 : decide (6 < width) = false := by simp; omega
    have HQ := Lib.hid hqw; clear hqw
    rw [show decide (2 ≤ n) = true from by simpa using h1] at G
    have HG := Lib.hid G; clear G
    go_enter Try.func21, Try.ntmps21
    go_wp2_with fail
    refine HG.out.mono ?_
    rintro e w1 ⟨rfl, rfl⟩
    go_wp2
    go_ret3
    exact .inl ⟨H.out, rfl, Nw.refl _⟩

theorem rowZ_set (bs : List UInt8) (width : Int) (N k : Nat) (hk : k < N) :
    ((rowZ bs width k ++ List.replicate (N - k) 0).map iv).set k (.int .i64 (getL (bs.drop (2 + k * width.toNat)) width)) = (rowZ bs width (k + 1) ++ List.replicate (N - (k + 1)) 0).map iv := by
  obtain ⟨d, hd⟩ : ∃ d, N - k = d + 1 := ⟨N - k - 1, by omega⟩
  rw [hd, show N - (k + 1) = d from by omega, List.replicate_succ, rowZ_snoc, List.map_append, List.map_append, List.map_append, List.set_append, if_neg (by rw [List.length_map, rowZ_len]; omega), List.length_map, rowZ_len, Nat.sub_self, List.map_cons, List.set_cons_zero, List.append_assoc]
  rfl
set_option maxHeartbeats 2000000 in
theorem row_yes (A : Option Addr) (n c : Nat) (bs : List UInt8) (wd : Nat) (B : Nat) (w : World) (hr : Rd w B 1 A n (bs.map bv)) (hB : B ≤ w.heap.size) (hc : n ≤ c) (_hcm : c ≤ maxLen) (h : rowB bs wd = true) :
    Calls Try.prog 21 #[.slice A n c, .int .i64 wd] w (RetRow bs wd w) := by
  have hl : bs.length = n := by have := hr.1; simpa using this
  have hN := rowN_bd bs
  obtain ⟨h1, h2, h3, h4⟩ : 2 ≤ n ∧ 1 ≤ (wd : Int) ∧ (wd : Int) ≤ 6 ∧ 2 + rowN bs * wd ≤ n := by
    unfold rowB at h
    rw [decide_eq_true_iff, hl] at h
    exact h
  have Hl := Lib.hid hl; clear hl
  have H := Lib.hid h; clear h
  have G := get_any A n c bs 2 B w hr hc
  rw [getB2, Hl.out] at G
  change Calls _ _ _ _ fun e w' => e = .returned (.tuple #[.int .i64 (rowN bs), _]) ∧ _ at G
  obtain ⟨N, eN⟩ := Int.eq_ofNat_of_zero_le hN.1
  rw [eN] at hN h4 G
  have hbd := mul_bd N wd (by omega) (by omega) h2 h3
  obtain ⟨qw, eqw⟩ : ∃ qw : Nat, (N : Int) * wd = (qw : Int) := ⟨N * wd, by rw [Int.natCast_mul]⟩
  have eqn : N * wd = qw := by rw [← Int.natCast_mul] at eqw; omega
  rw [eqw] at h4 hbd
  have b1 : decide ((wd : Int) < 1) = false := by simp; omega
  have b2 : decide (6 < (wd : Int)) = false := by simp; omega
  have b3 : decide ((n : Int) < 2 + (qw : Int)) = false := by simp; omega
  rw [show decide (2 ≤ n) = true from by simpa using h1] at G
  have HG := Lib.hid G; clear G
  have HeN := Lib.hid eN; clear eN
  have Heqn := Lib.hid eqn; clear eqn
  go_enter Try.func21, Try.ntmps21
  go_wp2_with fail
  refine HG.out.mono ?_
  rintro e w1 ⟨rfl, rfl⟩
  go_wp2_with (first | (at_make; refine wpList_make T27 _ _ rfl rfl w.heap.size _ _ _ _ N rfl rfl rfl rfl (by unfold maxLen; omega) (Nat.le_refl _) ?_; intro g w1 g1 g2 g3))
  go_loopw [39] (fun i wr => ∃ (k : Nat), k ≤ N ∧ i = .int .i64 k ∧ Nw w wr ∧ Own wr w.heap.size 3 1 (some ⟨g, 0, none⟩) N N ((rowZ bs wd k ++ List.replicate (N - k) 0).map iv)) (fun i _ => N - (intOf i).toNat)
  case atStart =>
    refine ⟨0, by omega, rfl, g2, ?_⟩
    have := g1
    rw [show (Value.int .i64 0).cells = #[Value.int .i64 0] from rfl, toList_madeCells_one, Nat.mul_one] at this
    simpa [rowZ, iv] using this
  case round =>
    obtain ⟨k, hk, rfl, hnw, hown⟩ := hrel
    by_cases hlt : k < N
    · obtain ⟨u, hu, hcell, hfz⟩ := hown.cellAt hlt
      obtain ⟨kw, ekw⟩ : ∃ kw : Nat, (k : Int) * wd = (kw : Int) := ⟨k * wd, by rw [Int.natCast_mul]⟩
      have ekn : k * wd = kw := by rw [← Int.natCast_mul] at ekw; omega
      have hkw : kw ≤ qw := by rw [← ekn, ← Heqn.out]; exact Nat.mul_le_mul_right _ (by omega)
      have hdr := (hr.nw hnw hB).drop (size := 1) (show 2 + kw ≤ n by omega) hc
      have e2 : (2 + (kw : Int)).toNat = 2 + kw := by omega
      rw [Nat.mul_one, ← List.map_drop] at hdr
      have Hekn := Lib.hid ekn; clear ekn
      have hcN : n - (2 + kw) ≤ c - (2 + kw) := by omega
      go_wp2_with (first | ((with_reducible refine (get_any _ _ _ _ _ _ _ hdr hcN).mono ?_); rintro e w' ⟨rfl, rfl⟩))
      obtain ⟨s1, s2⟩ := hown.set k (.int .i64 (getL (bs.drop (2 + kw)) wd))
      have hz := rowZ_set bs wd N k hlt
      rw [Int.toNat_natCast, Hekn.out] at hz
      go_roundw
      case rel => exact ⟨k + 1, by omega, by go_num, nw_of_gb hnw s2 (by intro g' e; cases e; exact g3), by rw [← hz]; exact s1⟩
      case measure => simp [intOf]; omega
    · have hkN : k = N := by omega
      subst hkN
      rw [Nat.sub_self, List.replicate_zero, List.append_nil] at hown
      go_wp2
      go_ret3
      refine .inr ⟨H.out, _, _, _, ?_, by rw [HeN.out]; exact hown, hnw⟩
      rw [HeN.out, eqw]
      rfl
theorem row_any (A : Option Addr) (n c : Nat) (bs : List UInt8) (width : Int) (B : Nat) (w : World) (hr : Rd w B 1 A n (bs.map bv)) (hB : B ≤ w.heap.size) (hc : n ≤ c) (hcm : c ≤ maxLen) :
    Calls Try.prog 21 #[.slice A n c, .int .i64 width] w (RetRow bs width w) := by
  cases h : rowB bs width with
  | false => exact row_no A n c bs width B w hr hc h
  | true =>
    obtain ⟨wd, rfl⟩ := Int.eq_ofNat_of_zero_le (show 0 ≤ width by unfold rowB at h; rw [decide_eq_true_iff] at h; omega)
    exact row_yes A n c bs wd B w hr hB hc hcm h

/-! the reference's Row, over a string -/
set_option maxHeartbeats 2000000 in
theorem rrow_no (bs : List UInt8) (width : Int) (w : World) (h : rowB bs width = false) :
    Calls Try.prog 22 #[.string ⟨bs.toArray⟩, .int .i64 width] w (RetRow bs width w) := by
  obtain ⟨n, hl⟩ : ∃ n, bs.length = n := ⟨_, rfl⟩
  have hN := rowN_bd bs
  have hcase : (¬ 2 ≤ n) ∨ (2 ≤ n ∧ width < 1) ∨ (2 ≤ n ∧ 1 ≤ width ∧ 6 < width) ∨ (2 ≤ n ∧ 1 ≤ width ∧ width ≤ 6 ∧ (n : Int) < 2 + rowN bs * width) := by
    unfold rowB at h
    rw [decide_eq_false_iff_not, hl] at h
    by_cases h1 : 2 ≤ n
    · by_cases h2 : 1 ≤ width
      · by_cases h3 : width ≤ 6
        · refine .inr (.inr (.inr ⟨h1, h2, h3, ?_⟩))
          rcases Int.lt_or_le (n : Int) (2 + rowN bs * width) with h' | h'
          · exact h'
          · exact absurd ⟨h1, h2, h3, h'⟩ h
        · exact .inr (.inr (.inl ⟨h1, h2, by omega⟩))
      · exact .inr (.inl ⟨h1, by omega⟩)
    · exact .inl h1
  have H := Lib.hid h; clear h
  have G := rget_any bs 2 w
  rw [getB2, hl] at G
  change Calls _ _ _ _ fun e w' => e = .returned (.tuple #[.int .i64 (rowN bs), _]) ∧ _ at G
  generalize rowN bs = q at *
  have hqw : 1 ≤ width → width ≤ 6 → 0 ≤ q * width ∧ q * width ≤ 393210 := fun a b => mul_bd q width hN.1 hN.2 a b
  obtain ⟨qw, eqw⟩ : ∃ qw, q * width = qw := ⟨_, rfl⟩
  rw [eqw] at hcase hqw
  rcases hcase with h1 | ⟨h1, h2⟩ | ⟨h1, h2, h3⟩ | ⟨h1, h2, h3, h4⟩
  · rw [show decide (2 ≤ n) = false from by simpa using h1] at G
    have HG := Lib.hid G; clear G
    go_enter Try.func22, Try.ntmps22
    go_wp2_with fail
    refine HG.out.mono ?_
    rintro e w1 ⟨rfl, rfl⟩
    go_wp2
    go_ret3
    exact .inl ⟨H.out, rfl, Nw.refl _⟩
  · have HQ := Lib.hid hqw; clear hqw
    rw [show decide (2 ≤ n) = true from by simpa using h1] at G
    have HG := Lib.hid G; clear G
    go_enter Try.func22, Try.ntmps22
    go_wp2_with fail
    refine HG.out.mono ?_
    rintro e w1 ⟨rfl, rfl⟩
    go_wp2
    go_ret3
    exact .inl ⟨H.out, rfl, Nw.refl _⟩
  · have HQ := Lib.hid hqw; clear hqw
    rw [show decide (2 ≤ n) = true from by simpa using h1] at G
    have HG := Lib.hid G; clear G
    go_enter Try.func22, Try.ntmps22
    go_wp2_with fail
    refine HG.out.mono ?_
    rintro e w1 ⟨rfl, rfl⟩
    go_wp2
    go_ret3
    exact .inl ⟨H.out, rfl, Nw.refl _⟩
  · have hb := hqw h2 h3
    have b1 : decide (width < 1) = false := by simp; omega
    have b2 : decide (6 < width) = false := by simp; omega
    have HQ := Lib.hid hqw; clear hqw
    rw [show decide (2 ≤ n) = true from by simpa using h1] at G
    have HG := Lib.hid G; clear G
    go_enter Try.func22, Try.ntmps22
    go_wp2_with fail
    refine HG.out.mono ?_
    rintro e w1 ⟨rfl, rfl⟩
    go_wp2
    go_ret3
    exact .inl ⟨H.out, rfl, Nw.refl _⟩

set_option maxHeartbeats 2000000 in
theorem rrow_yes (bs : List UInt8) (wd : Nat) (w : World) (h : rowB bs wd = true) :
    Calls Try.prog 22 #[.string ⟨bs.toArray⟩, .int .i64 wd] w (RetRow bs wd w) := by
  obtain ⟨n, hl⟩ : ∃ n, bs.length = n := ⟨_, rfl⟩
  have hN := rowN_bd bs
  obtain ⟨h1, h2, h3, h4⟩ : 2 ≤ n ∧ 1 ≤ (wd : Int) ∧ (wd : Int) ≤ 6 ∧ 2 + rowN bs * wd ≤ n := by
    unfold rowB at h
    rw [decide_eq_true_iff, hl] at h
    exact h
  have H := Lib.hid h; clear h
  have G := rget_any bs 2 w
  rw [getB2, hl] at G
  change Calls _ _ _ _ fun e w' => e = .returned (.tuple #[.int .i64 (rowN bs), _]) ∧ _ at G
  obtain ⟨N, eN⟩ := Int.eq_ofNat_of_zero_le hN.1
  rw [eN] at hN h4 G
  have hbd := mul_bd N wd (by omega) (by omega) h2 h3
  obtain ⟨qw, eqw⟩ : ∃ qw : Nat, (N : Int) * wd = (qw : Int) := ⟨N * wd, by rw [Int.natCast_mul]⟩
  have eqn : N * wd = qw := by rw [← Int.natCast_mul] at eqw; omega
  rw [eqw] at h4 hbd
  have b1 : decide ((wd : Int) < 1) = false := by simp; omega
  have b2 : decide (6 < (wd : Int)) = false := by simp; omega
  have b3 : decide ((n : Int) < 2 + (qw : Int)) = false := by simp; omega
  rw [show decide (2 ≤ n) = true from by simpa using h1] at G
  have HG := Lib.hid G; clear G
  have HeN := Lib.hid eN; clear eN
  have Heqn := Lib.hid eqn; clear eqn
  go_enter Try.func22, Try.ntmps22
  go_wp2_with fail
  refine HG.out.mono ?_
  rintro e w1 ⟨rfl, rfl⟩
  go_wp2
  go_loopw [9, 10] (fun s i wr => ∃ (k p : Nat) (A' : Option Addr) (c' : Nat), k ≤ N ∧ s = .slice A' p c' ∧ i = .int .i64 k ∧ Nw w wr ∧ Own wr w.heap.size 3 1 A' p c' ((rowZ bs wd k).map iv)) (fun _ i _ => N - (intOf i).toNat)
  case atStart => exact ⟨0, 0, none, 0, by omega, rfl, rfl, Nw.refl _, Own.nil⟩
  case round =>
    obtain ⟨k, p, A', c', hk, rfl, rfl, hnw, hown⟩ := hrel
    by_cases hlt : k < N
    · obtain ⟨kw, ekw⟩ : ∃ kw : Nat, (k : Int) * wd = (kw : Int) := ⟨k * wd, by rw [Int.natCast_mul]⟩
      have ekn : k * wd = kw := by rw [← Int.natCast_mul] at ekw; omega
      have hkw : kw ≤ qw := by rw [← ekn, ← Heqn.out]; exact Nat.mul_le_mul_right _ (by omega)
      have hp : p = k := by have := hown.len; rw [List.length_map, rowZ_len] at this; omega
      have hsm : (p + 1) * 8 ≤ 140737488355328 ∧ p + 1 ≤ maxLen := by unfold maxLen; omega
      have e2 : (2 + (kw : Int)).toNat = 2 + kw := by omega
      have hz := rowZ_snoc bs wd k
      rw [Int.toNat_natCast, ekn] at hz
      have Hz := Lib.hid hz; clear hz
      have Hekn := Lib.hid ekn; clear ekn
      have Hp := Lib.hid hp; clear hp
      go_wp2_with (first | ((with_reducible refine (rget_any _ _ _).mono ?_); rintro e w' ⟨rfl, rfl⟩) | (at_builtin; refine wpList_app1_own T27 _ _ rfl rfl rfl rfl hown rfl hsm hnw.size ?_; intro A2 c2 w2 h4 h5 _))
      have e3 : List.take (n - (2 + kw)) (List.drop (2 + kw) bs) = List.drop (2 + kw) bs := List.take_of_length_le (by rw [List.length_drop]; omega)
      rw [e3] at h4
      go_roundw
      case rel => exact ⟨k + 1, _, A2, c2, by omega, rfl, by go_num, nw_of_gb hnw h5 hown.blk, by rw [Hz.out, List.map_append]; exact h4⟩
      case measure => simp [intOf]; omega
    · have hkN : k = N := by omega
      subst hkN
      go_wp2
      go_ret3
      refine .inr ⟨H.out, A', p, c', ?_, by rw [HeN.out]; exact hown, hnw⟩
      rw [HeN.out, eqw]
      rfl
theorem rrow_any (bs : List UInt8) (width : Int) (w : World) : Calls Try.prog 22 #[.string ⟨bs.toArray⟩, .int .i64 width] w (RetRow bs width w) := by
  cases h : rowB bs width with
  | false => exact rrow_no bs width w h
  | true =>
    obtain ⟨wd, rfl⟩ := Int.eq_ofNat_of_zero_le (show 0 ≤ width by unfold rowB at h; rw [decide_eq_true_iff] at h; omega)
    exact rrow_yes bs wd w h
theorem row_one (A : Option Addr) (n c : Nat) (bs : List UInt8) (width : Int) (B : Nat) (w : World) (hr : Rd w B 1 A n (bs.map bv)) (hB : B ≤ w.heap.size) (hc : n ≤ c) (hcm : c ≤ maxLen) :
    Calls Try.prog 21 #[.slice A n c, .int .i64 width] w (RetRow1 bs width w) := (row_any A n c bs width B w hr hB hc hcm).mono fun _ _ h => h.uni
theorem rrow_one (bs : List UInt8) (width : Int) (w : World) : Calls Try.prog 22 #[.string ⟨bs.toArray⟩, .int .i64 width] w (RetRow1 bs width w) := (rrow_any bs width w).mono fun _ _ h => h.uni
end Go.Proofs.Ytbgdpcffbihhaaa
