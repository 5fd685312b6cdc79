/- group.Safe and AllSafe, and the document's AllSafe; the two answers are one. -/
import Derived.Test.YtobifmndpkjlmaaI
import Derived.Test.YtobifmndpkjlmaaJ
import Derived.Test.YtobifmndpkjlmaaE
namespace Go.Proofs.Ytobifmndpkjlmaa
open Go.RowKit Go.BW

theorem GsR_needs {w w' : World} {B m n : Nat} {A A' : Option Addr} {gs : List Gp} {lost : Int} (hg : GsR w B A m gs) (hk : Nw w w') (hB : B ≤ w.heap.size) {base c : Nat} (ho : Own w' base 37 3 A' n c (fl gc (needs gs lost))) : GsR w' w'.heap.size A' n (needs gs lost) :=
  ⟨ho.rd, fun g h => ((hg.all g (List.mem_filter.1 h).1).nw hk hB).more (Nat.le_trans hB hk.size)⟩
/-- what Safe tells -/
def SafePost (gs : List Gp) (rs : List Int) (lost : Int) (w : World) (e : Ending) (w' : World) : Prop :=
  ∃ b : Bool, e = .returned (.bool b) ∧ (b = true → Mt (lks (needs gs lost)) rs) ∧ (b = false → Short (lks (needs gs lost)) rs) ∧ Nw w w'
theorem safe_any {w : World} {B n c m c2 : Nat} {A A2 : Option Addr} {rs : List Int} {gs : List Gp} (hg : GsR w B A2 m gs) (hr : Rd w B 1 A n (rs.map iv)) (hB : B ≤ w.heap.size) (hn : n ≤ 1000000) (hm : m ≤ 1000000)
    (hM : ∀ r ∈ rs, r ≤ 1000000) (lost : Int) : Calls Try.prog 19 #[.slice A2 m c2, .slice A n c, .int .i64 lost] w (SafePost gs rs lost w) := by
  have HNE := Lib.hid (needing_any (c2 := c2) hg hB hm lost)
  have HMA := Lib.hid (show ∀ w' A' n' c', Own w' w.heap.size 37 3 A' n' c' (fl gc (needs gs lost)) → Nw w w' → Calls Try.prog 36 #[.slice A' n' c', .slice A n c] w' (MatchPost (needs gs lost) rs w') from fun w' A' n' c' ho hk =>
    matched_any (GsR_needs hg hk hB ho) ((hr.nw hk hB).more (Nat.le_trans hB hk.size)) (Nat.le_refl _) hn (by
      have h1 := (GsR_needs hg hk hB ho).len
      have h2 : (needs gs lost).length ≤ gs.length := List.length_filter_le _ _
      have h3 := hg.len
      omega) hM)
  clear hg hr
  unfold RetOwn at HNE
  unfold MatchPost at HMA
  go_enter Try.func19, Try.ntmps19
  go_wp2_with (first
    | ((with_reducible refine (HMA.out _ _ _ _ o1 n1).mono ?_); rintro e w2 ⟨b, rfl, hb1, hb2, n2⟩)
    | ((with_reducible refine HNE.out.mono ?_); rintro e w1 ⟨A', n', c', rfl, o1, n1⟩))
  go_ret
  exact ⟨b, rfl, hb1, hb2, gb_trans n1 n2⟩
theorem roomS_congr (S S' : Nat → Bool) : ∀ (rs : List Int) (k : Nat), (∀ d, k ≤ d → d < k + rs.length → S d = S' d) → roomS S rs k = roomS S' rs k
  | [], _, _ => rfl
  | r :: rs, k, h => by
    rw [roomS, roomS, h k (Nat.le_refl _) (by simp), roomS_congr S S' rs (k + 1) fun d h1 h2 => h d (by omega) (by simp; omega)]
theorem hangs_congr {S S' : Nat → Bool} {rs g : List Int} (h : ∀ d, d < rs.length → S d = S' d) : hangs S rs g = hangs S' rs g := by
  rw [Bool.eq_iff_iff, hangs_iff, hangs_iff]
  constructor
  · intro k d h1 h2 h3; rw [← h d h1]; exact k d h1 h2 h3
  · intro k d h1 h2 h3; rw [h d h1]; exact k d h1 h2 h3
/-- a set of disks as the bits of a number -/
theorem bits_of (S : Nat → Bool) : ∀ n, ∃ s, s < 2 ^ n ∧ ∀ d, d < n → s.testBit d = S d
  | 0 => ⟨0, by decide, fun d h => absurd h (by omega)⟩
  | n + 1 => by
    obtain ⟨s, h1, h2⟩ := bits_of S n
    have hp : 2 ^ (n + 1) = 2 ^ n + 2 ^ n := by rw [Nat.pow_succ]; omega
    cases hS : S n
    · refine ⟨s, by omega, fun d hd => ?_⟩
      by_cases hdn : d = n
      · subst hdn; rw [hS]; exact Nat.testBit_lt_two_pow h1
      · exact h2 d (by omega)
    · refine ⟨2 ^ n + s, by omega, fun d hd => ?_⟩
      by_cases hdn : d = n
      · subst hdn; rw [hS, Nat.testBit_two_pow_add_eq, Nat.testBit_lt_two_pow h1]; rfl
      · rw [Nat.testBit_two_pow_add_gt (by omega)]; exact h2 d (by omega)
theorem needOf_eq (gs : List Gp) (rs : List Int) (lost : Int) (s : Nat) : needOf gs rs lost s = (lks (needs gs lost)).countP (hangs s.testBit rs) := by
  unfold needOf lks needs hangB
  rw [List.countP_map, List.countP_filter]
  refine List.countP_congr fun x _ => ?_
  simp [Bool.and_comm]
/-- the document's condition: a disk for each, or a set that is short -/
theorem hallB_true {gs : List Gp} {rs : List Int} {lost : Int} (h : Mt (lks (needs gs lost)) rs) : hallB gs rs lost = true := by
  refine hallB_yes fun s _ => ?_
  rw [needOf_eq]
  exact Mt_hall _ _ _ h
theorem hallB_false {gs : List Gp} {rs : List Int} {lost : Int} (h : Short (lks (needs gs lost)) rs) : hallB gs rs lost = false := by
  obtain ⟨S, hS⟩ := h
  obtain ⟨s, h1, h2⟩ := bits_of S rs.length
  refine hallB_no h1 ?_
  rw [needOf_eq, roomS_congr s.testBit S rs 0 fun d _ hd => h2 d (by omega)]
  refine Nat.lt_of_lt_of_le hS (List.countP_mono_left fun x _ hx => ?_)
  rw [hangs_congr h2]; exact hx
theorem safe_same {gs : List Gp} {rs : List Int} {lost : Int} {b : Bool} (h1 : b = true → Mt (lks (needs gs lost)) rs) (h2 : b = false → Short (lks (needs gs lost)) rs) : b = hallB gs rs lost := by
  cases b
  · rw [hallB_false (h2 rfl)]
  · rw [hallB_true (h1 rfl)]
/-- Safe answers as the document's -/
theorem safe_hall {w : World} {B n c m c2 : Nat} {A A2 : Option Addr} {rs : List Int} {gs : List Gp} (hg : GsR w B A2 m gs) (hr : Rd w B 1 A n (rs.map iv)) (hB : B ≤ w.heap.size) (hn : n ≤ 1000000) (hm : m ≤ 1000000)
    (hM : ∀ r ∈ rs, r ≤ 1000000) (lost : Int) : Calls Try.prog 19 #[.slice A2 m c2, .slice A n c, .int .i64 lost] w (Ret (.bool (hallB gs rs lost)) w) :=
  (safe_any hg hr hB hn hm hM lost).mono fun e w' ⟨b, h, h1, h2, h3⟩ => ⟨by rw [h, safe_same h1 h2], h3⟩
theorem MatchPost.hall {gs : List Gp} {rs : List Int} {w w' : World} {e : Ending} {lost : Int} (h : MatchPost (needs gs lost) rs w e w') : Ret (.bool (hallB gs rs lost)) w e w' := by
  obtain ⟨b, h, h1, h2, h3⟩ := h
  exact ⟨by rw [h, safe_same h1 h2], h3⟩
def allB (gs : List Gp) (rs : List Int) : Bool := (List.range rs.length).all fun (d : Nat) => hallB gs rs (d : Int)
theorem allB_no {gs : List Gp} {rs : List Int} {d : Nat} (hd : d < rs.length) (h : hallB gs rs (d : Int) = false) : allB gs rs = false := by
  unfold allB
  rw [← Bool.not_eq_true, List.all_eq_true]
  intro h2
  have := h2 d (List.mem_range.2 hd)
  rw [h] at this; cases this
theorem allB_yes {gs : List Gp} {rs : List Int} (h : ∀ d : Nat, d < rs.length → hallB gs rs (d : Int) = true) : allB gs rs = true := by
  unfold allB
  rw [List.all_eq_true]
  exact fun d hd => h d (List.mem_range.1 hd)
end Go.Proofs.Ytobifmndpkjlmaa

