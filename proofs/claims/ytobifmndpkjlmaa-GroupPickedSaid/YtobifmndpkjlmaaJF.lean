/- group.needing: the groups that have a disk. -/
import Derived.Test.YtobifmndpkjlmaaJD
import Derived.Test.YtobifmndpkjlmaaJE
set_option linter.unusedVariables false
set_option linter.unusedSimpArgs false
/- group.needing: the groups that have a disk. -/
namespace Go.Proofs.Ytobifmndpkjlmaa
open Go.RowKit Go.BW

theorem gc_one1 (i k : Int) (A : Option Addr) (n c : Nat) : ∀ u ∈ [Value.int .i64 i, .int .i64 k, .slice A n c], u.oneCell' = true := by
  intro u hu; simp at hu; rcases hu with rfl | rfl | rfl <;> rfl
/-- the groups that have a disk -/
def needs (gs : List Gp) (lost : Int) : List Gp := gs.filter fun g => hasD g lost
theorem filter_snoc {α : Type} (p : α → Bool) {l : List α} {k : Nat} {x : α} (h : l[k]? = some x) : (l.take (k + 1)).filter p = (l.take k).filter p ++ if p x then [x] else [] := by
  obtain ⟨hk, rfl⟩ := List.getElem?_eq_some_iff.1 h
  rw [List.take_succ_eq_append_getElem hk, List.filter_append]
  cases h : p l[k] <;> simp [h]
theorem fl_one' (i k : Int) (A : Option Addr) (n c : Nat) (es : List Et) : fl gc [⟨i, k, A, n, c, es⟩] = [.int .i64 i, .int .i64 k, .slice A n c] := by simp [fl, gc]
set_option maxHeartbeats 4000000 in
theorem needing_any {w : World} {B m c2 : Nat} {A2 : Option Addr} {gs : List Gp} (hg : GsR w B A2 m gs) (hB : B ≤ w.heap.size) (hm : m ≤ 1000000) (lost : Int) :
    Calls Try.prog 33 #[.slice A2 m c2, .int .i64 lost] w (RetOwn 37 3 (fl gc (needs gs lost)) w) := by
  have hglen := hg.len
  have HG := Lib.hid hg; have HBW := Lib.hid hB; have HGL := Lib.hid hglen
  clear hg hB hglen
  go_enter Try.func33, Try.ntmps33
  go_wp2_with fail
  go_loopw [5, 10] (fun s v wr => ∃ (k : Nat) (A' : Option Addr) (n' c' : Nat), v = .int .i64 k ∧ s = .slice A' n' c' ∧ k ≤ m ∧ n' ≤ k ∧ Hid (Own wr w.heap.size 37 3 A' n' c' (fl gc ((gs.take k).filter fun g => hasD g lost))) ∧ Nw w wr) (fun _ v _ => m - (intOf v).toNat)
  case atStart => exact ⟨0, none, 0, 0, rfl, rfl, Nat.zero_le _, Nat.le_refl _, Lib.hid Own.nil, Nw.refl _⟩
  case round =>
    obtain ⟨k, A', n', c', rfl, rfl, hk, hnk, ho, hnw⟩ := hrel
    by_cases hlt : k < m
    · have hltz : (k : Int) < (m : Int) := by omega
      have HG3 := Lib.hid (HG.out.nw hnw HBW.out)
      have HB3 := Lib.hid (Nat.le_trans HBW.out hnw.size)
      obtain ⟨_, b, off, x, hA, _, hx, hc⟩ := HG3.out.rd.atL gc_len (by decide) hlt
      subst hA
      have HS := Lib.hid (filter_snoc (fun g => hasD g lost) hx)
      have hok := HG3.out.all x (List.mem_of_getElem? hx)
      obtain ⟨q, hq⟩ : ∃ q, hasD x lost = q := ⟨_, rfl⟩
      have HH := Lib.hid (fun (o : Obj) => has_any (hok.nw (World.grownBy_alloc wr o none) HB3.out) (Nat.le_trans HB3.out (World.grownBy_alloc wr o none).size) lost)
      rw [hq] at HH
      have HQ := Lib.hid hq
      unfold Ret gv at HH
      have HC := Lib.hid hc
      obtain ⟨xi, xk, xA, xn, xc, xe⟩ := x
      change Hid (∀ j u, [Value.int .i64 xi, .int .i64 xk, .slice xA xn xc][j]? = some u → _) at HC
      simp only at HH
      clear hx hok hq hc
      have hbx := Obj1.new wr 37 #[.int .i64 xi, .int .i64 xk, .slice xA xn xc]
      have HN1 := Lib.hid (World.grownBy_alloc wr (.cells #[.int .i64 xi, .int .i64 xk, .slice xA xn xc] 37) none)
      have HBX := Lib.hid hbx
      clear hbx
      rcases q with _ | _
      · have HO := Lib.hid (show (gs.take (k + 1)).filter (fun g => hasD g lost) = (gs.take k).filter (fun g => hasD g lost) by rw [HS.out, HQ.out]; simp)
        go_wp2_with (first
          | ((with_reducible refine (HH.out _).mono ?_); rintro e w2 ⟨rfl, n2⟩)
          | ((with_reducible refine wpList_load_agg 37 _ (by with_unfolding_all exact rfl) (by with_unfolding_all exact rfl) (by with_unfolding_all exact rfl) [Value.int .i64 xi, .int .i64 xk, .slice xA xn xc] HC.out _ Try.underlying37 (by with_unfolding_all exact rfl) (by kernel_rfl) ?_))
          | ((with_reducible refine wpList_load_obj 37 _ (by with_unfolding_all exact rfl) (by with_unfolding_all exact rfl) (by with_unfolding_all exact rfl) HBX.out _ Try.underlying37 (by with_unfolding_all exact rfl) (by kernel_rfl) ?_)))
        go_roundw
        case rel => exact ⟨k + 1, A', n', c', by go_num, rfl, by omega, by omega, Lib.hid (by rw [HO.out]; exact (ho.out.nw HN1.out).nw n2), gb_trans hnw (gb_trans HN1.out n2)⟩
        case measure => simp only [intOf]; omega
      · have HO := Lib.hid (show fl gc ((gs.take (k + 1)).filter (fun g => hasD g lost)) = fl gc ((gs.take k).filter (fun g => hasD g lost)) ++ [.int .i64 xi, .int .i64 xk, .slice xA xn xc] by rw [HS.out, HQ.out, if_pos rfl, fl_app, fl_one'])
        have hsm : (n' + 1) * 40 ≤ 140737488355328 ∧ n' + 1 ≤ maxLen := by unfold maxLen; omega
        go_wp2_with (first
          | (at_builtin; (with_reducible refine wpList_appN_own T28 _ _ (by with_unfolding_all exact rfl) (by with_unfolding_all exact rfl) (by with_unfolding_all exact rfl) (by with_unfolding_all exact rfl) ((ho.out.nw HN1.out).nw n2) (by with_unfolding_all exact rfl) (gc_one1 _ _ _ _ _) hsm HSZ.out ?_); intro A'' c'' w3 h2 h3 h4)
          | ((with_reducible refine wpList_load_obj 37 _ (by with_unfolding_all exact rfl) (by with_unfolding_all exact rfl) (by with_unfolding_all exact rfl) HB2.out _ Try.underlying37 (by with_unfolding_all exact rfl) (by kernel_rfl) ?_))
          | ((with_reducible refine (HH.out _).mono ?_); rintro e w2 ⟨rfl, n2⟩; have HB2 := Lib.hid (HBX.out.nw n2); have HSZ := Lib.hid (Nat.le_trans hnw.size (Nat.le_trans HN1.out.size n2.size)))
          | ((with_reducible refine wpList_load_agg 37 _ (by with_unfolding_all exact rfl) (by with_unfolding_all exact rfl) (by with_unfolding_all exact rfl) [Value.int .i64 xi, .int .i64 xk, .slice xA xn xc] HC.out _ Try.underlying37 (by with_unfolding_all exact rfl) (by kernel_rfl) ?_))
          | ((with_reducible refine wpList_load_obj 37 _ (by with_unfolding_all exact rfl) (by with_unfolding_all exact rfl) (by with_unfolding_all exact rfl) HBX.out _ Try.underlying37 (by with_unfolding_all exact rfl) (by kernel_rfl) ?_)))
        go_roundw
        case rel => exact ⟨k + 1, A'', n' + 1, c'', by go_num, rfl, by omega, by omega, Lib.hid (by rw [HO.out]; exact h2), nw_of_gb (gb_trans hnw (gb_trans HN1.out n2)) h3 (fun g hg => ho.out.blk g hg)⟩
        case measure => simp only [intOf]; omega
    · have hkm : k = m := by omega
      have HF := Lib.hid (show (gs.take k).filter (fun g => hasD g lost) = needs gs lost by rw [List.take_of_length_le (by rw [HGL.out]; omega)]; rfl)
      have HO := Lib.hid ho.out
      rw [HF.out] at HO
      clear hkm
      go_wp2
      go_ret
      exact ⟨A', n', c', rfl, HO.out, hnw⟩
end Go.Proofs.Ytobifmndpkjlmaa


/- group.Safe and AllSafe, and the document's AllSafe; the two answers are one. -/
namespace Go.Proofs.Ytobifmndpkjlmaa
open Go.RowKit Go.BW

theorem GsR_needs {w w' : World} {B m n : Nat} {A A' : Option Addr} {gs : List Gp} {lost : Int} (hg : GsR w B A m gs) (hk : Nw w w') (hB : B ≤ w.heap.size) {base c : Nat} (ho : Own w' base 37 3 A' n c (fl gc (needs gs lost))) : GsR w' w'.heap.size A' n (needs gs lost) :=
  ⟨ho.rd, fun g h => ((hg.all g (List.mem_filter.1 h).1).nw hk hB).more (Nat.le_trans hB hk.size)⟩
/-- what Safe tells -/
def SafePost (gs : List Gp) (rs : List Int) (lost : Int) (w : World) (e : Ending) (w' : World) : Prop :=
  ∃ b : Bool, e = .returned (.bool b) ∧ (b = true → Mt (lks (needs gs lost)) rs) ∧ (b = false → Short (lks (needs gs lost)) rs) ∧ Nw w w'
theorem safe_any {w : World} {B n c m c2 : Nat} {A A2 : Option Addr} {rs : List Int} {gs : List Gp} (hg : GsR w B A2 m gs) (hr : Rd w B 1 A n (rs.map iv)) (hB : B ≤ w.heap.size) (hn : n ≤ 1000000) (hm : m ≤ 1000000)
    (hM : ∀ r ∈ rs, r ≤ 1000000) (lost : Int) : Calls Try.prog 19 #[.slice A2 m c2, .slice A n c, .int .i64 lost] w (SafePost gs rs lost w) := by
  have HNE := Lib.hid (needing_any (c2 := c2) hg hB hm lost)
  have HMA := Lib.hid (show ∀ w' A' n' c', Own w' w.heap.size 37 3 A' n' c' (fl gc (needs gs lost)) → Nw w w' → Calls Try.prog 36 #[.slice A' n' c', .slice A n c] w' (MatchPost (needs gs lost) rs w') from fun w' A' n' c' ho hk =>
    matched_any (GsR_needs hg hk hB ho) ((hr.nw hk hB).more (Nat.le_trans hB hk.size)) (Nat.le_refl _) hn (by
      have h1 := (GsR_needs hg hk hB ho).len
      have h2 : (needs gs lost).length ≤ gs.length := List.length_filter_le _ _
      have h3 := hg.len
      omega) hM)
  clear hg hr
  unfold RetOwn at HNE
  unfold MatchPost at HMA
  go_enter Try.func19, Try.ntmps19
  go_wp2_with (first
    | ((with_reducible refine (HMA.out _ _ _ _ o1 n1).mono ?_); rintro e w2 ⟨b, rfl, hb1, hb2, n2⟩)
    | ((with_reducible refine HNE.out.mono ?_); rintro e w1 ⟨A', n', c', rfl, o1, n1⟩))
  go_ret
  exact ⟨b, rfl, hb1, hb2, gb_trans n1 n2⟩
theorem roomS_congr (S S' : Nat → Bool) : ∀ (rs : List Int) (k : Nat), (∀ d, k ≤ d → d < k + rs.length → S d = S' d) → roomS S rs k = roomS S' rs k
  | [], _, _ => rfl
  | r :: rs, k, h => by
    rw [roomS, roomS, h k (Nat.le_refl _) (by simp), roomS_congr S S' rs (k + 1) fun d h1 h2 => h d (by omega) (by simp; omega)]
theorem hangs_congr {S S' : Nat → Bool} {rs g : List Int} (h : ∀ d, d < rs.length → S d = S' d) : hangs S rs g = hangs S' rs g := by
  rw [Bool.eq_iff_iff, hangs_iff, hangs_iff]
  constructor
  · intro k d h1 h2 h3; rw [← h d h1]; exact k d h1 h2 h3
  · intro k d h1 h2 h3; rw [h d h1]; exact k d h1 h2 h3
/-- a set of disks as the bits of a number -/
theorem bits_of (S : Nat → Bool) : ∀ n, ∃ s, s < 2 ^ n ∧ ∀ d, d < n → s.testBit d = S d
  | 0 => ⟨0, by decide, fun d h => absurd h (by omega)⟩
  | n + 1 => by
    obtain ⟨s, h1, h2⟩ := bits_of S n
    have hp : 2 ^ (n + 1) = 2 ^ n + 2 ^ n := by rw [Nat.pow_succ]; omega
    cases hS : S n
    · refine ⟨s, by omega, fun d hd => ?_⟩
      by_cases hdn : d = n
      · subst hdn; rw [hS]; exact Nat.testBit_lt_two_pow h1
      · exact h2 d (by omega)
    · refine ⟨2 ^ n + s, by omega, fun d hd => ?_⟩
      by_cases hdn : d = n
      · subst hdn; rw [hS, Nat.testBit_two_pow_add_eq, Nat.testBit_lt_two_pow h1]; rfl
      · rw [Nat.testBit_two_pow_add_gt (by omega)]; exact h2 d (by omega)
theorem needOf_eq (gs : List Gp) (rs : List Int) (lost : Int) (s : Nat) : needOf gs rs lost s = (lks (needs gs lost)).countP (hangs s.testBit rs) := by
  unfold needOf lks needs hangB
  rw [List.countP_map, List.countP_filter]
  refine List.countP_congr fun x _ => ?_
  simp [Bool.and_comm]
/-- the document's condition: a disk for each, or a set that is short -/
theorem hallB_true {gs : List Gp} {rs : List Int} {lost : Int} (h : Mt (lks (needs gs lost)) rs) : hallB gs rs lost = true := by
  refine hallB_yes fun s _ => ?_
  rw [needOf_eq]
  exact Mt_hall _ _ _ h
theorem hallB_false {gs : List Gp} {rs : List Int} {lost : Int} (h : Short (lks (needs gs lost)) rs) : hallB gs rs lost = false := by
  obtain ⟨S, hS⟩ := h
  obtain ⟨s, h1, h2⟩ := bits_of S rs.length
  refine hallB_no h1 ?_
  rw [needOf_eq, roomS_congr s.testBit S rs 0 fun d _ hd => h2 d (by omega)]
  refine Nat.lt_of_lt_of_le hS (List.countP_mono_left fun x _ hx => ?_)
  rw [hangs_congr h2]; exact hx
theorem safe_same {gs : List Gp} {rs : List Int} {lost : Int} {b : Bool} (h1 : b = true → Mt (lks (needs gs lost)) rs) (h2 : b = false → Short (lks (needs gs lost)) rs) : b = hallB gs rs lost := by
  cases b
  · rw [hallB_false (h2 rfl)]
  · rw [hallB_true (h1 rfl)]
/-- Safe answers as the document's -/
theorem safe_hall {w : World} {B n c m c2 : Nat} {A A2 : Option Addr} {rs : List Int} {gs : List Gp} (hg : GsR w B A2 m gs) (hr : Rd w B 1 A n (rs.map iv)) (hB : B ≤ w.heap.size) (hn : n ≤ 1000000) (hm : m ≤ 1000000)
    (hM : ∀ r ∈ rs, r ≤ 1000000) (lost : Int) : Calls Try.prog 19 #[.slice A2 m c2, .slice A n c, .int .i64 lost] w (Ret (.bool (hallB gs rs lost)) w) :=
  (safe_any hg hr hB hn hm hM lost).mono fun e w' ⟨b, h, h1, h2, h3⟩ => ⟨by rw [h, safe_same h1 h2], h3⟩
theorem MatchPost.hall {gs : List Gp} {rs : List Int} {w w' : World} {e : Ending} {lost : Int} (h : MatchPost (needs gs lost) rs w e w') : Ret (.bool (hallB gs rs lost)) w e w' := by
  obtain ⟨b, h, h1, h2, h3⟩ := h
  exact ⟨by rw [h, safe_same h1 h2], h3⟩
def allB (gs : List Gp) (rs : List Int) : Bool := (List.range rs.length).all fun (d : Nat) => hallB gs rs (d : Int)
theorem allB_no {gs : List Gp} {rs : List Int} {d : Nat} (hd : d < rs.length) (h : hallB gs rs (d : Int) = false) : allB gs rs = false := by
  unfold allB
  rw [← Bool.not_eq_true, List.all_eq_true]
  intro h2
  have := h2 d (List.mem_range.2 hd)
  rw [h] at this; cases this
theorem allB_yes {gs : List Gp} {rs : List Int} (h : ∀ d : Nat, d < rs.length → hallB gs rs (d : Int) = true) : allB gs rs = true := by
  unfold allB
  rw [List.all_eq_true]
  exact fun d hd => h d (List.mem_range.1 hd)
end Go.Proofs.Ytobifmndpkjlmaa


/- group.AllSafe and the document's; the statements' numbers and small. -/
namespace Go.Proofs.Ytobifmndpkjlmaa
open Go.RowKit Go.BW

set_option maxHeartbeats 1000000 in
theorem allsafe_any {w : World} {B n c m c2 : Nat} {A A2 : Option Addr} {rs : List Int} {gs : List Gp} (hg : GsR w B A2 m gs) (hr : Rd w B 1 A n (rs.map iv)) (hB : B ≤ w.heap.size) (hn : n ≤ 1000000) (hm : m ≤ 1000000)
    (hM : ∀ r ∈ rs, r ≤ 1000000) : Calls Try.prog 22 #[.slice A2 m c2, .slice A n c] w (Ret (.bool (allB gs rs)) w) := by
  have hlen : rs.length = n := by have := hr.1; simpa using this
  have HS := Lib.hid (fun (w' : World) (hw : Nw w w') (d : Nat) => safe_hall (c := c) (c2 := c2) (hg.nw hw hB) (hr.nw hw hB) (Nat.le_trans hB hw.size) hn hm hM (d : Int))
  have HL := Lib.hid hlen
  unfold Ret at HS
  clear hg hr hlen hM
  go_enter Try.func22, Try.ntmps22
  go_wp2_with fail
  go_loopw [8] (fun v wr => ∃ k : Nat, k ≤ n ∧ v = .int .i64 k ∧ Hid (∀ d : Nat, d < k → hallB gs rs (d : Int) = true) ∧ Nw w wr) (fun v _ => n - (intOf v).toNat)
  case atStart => exact ⟨0, Nat.zero_le _, rfl, Lib.hid (fun d hd => absurd hd (by omega)), Nw.refl _⟩
  case round =>
    obtain ⟨k, hk, rfl, hall, hnw⟩ := hrel
    by_cases hlt : k < n
    · have hltz : (k : Int) < (n : Int) := by omega
      have HC := Lib.hid (HS.out wr hnw k)
      obtain ⟨q, hq⟩ : ∃ q, hallB gs rs (k : Int) = q := ⟨_, rfl⟩
      rw [hq] at HC
      have HQ := Lib.hid hq
      clear hq
      rcases q with _ | _
      · have HF := Lib.hid (allB_no (by rw [HL.out]; exact hlt) HQ.out)
        go_wp2_with ((with_reducible refine HC.out.mono ?_); rintro e w2 ⟨rfl, n2⟩)
        go_ret
        exact ⟨by rw [HF.out]; rfl, gb_trans hnw n2⟩
      · go_wp2_with ((with_reducible refine HC.out.mono ?_); rintro e w2 ⟨rfl, n2⟩)
        go_roundw
        case rel => exact ⟨k + 1, by omega, by go_num, Lib.hid (fun d hd => by
          by_cases hdk : d = k
          · subst hdk; exact HQ.out
          · exact hall.out d (by omega)), gb_trans hnw n2⟩
        case measure => simp only [intOf]; omega
    · have HF := Lib.hid (show allB gs rs = true from allB_yes fun d hd => hall.out d (by rw [HL.out] at hd; omega))
      go_wp2
      go_ret
      exact ⟨by rw [HF.out]; rfl, hnw⟩
set_option maxHeartbeats 1000000 in
theorem rallsafe_any {w : World} {B n c m c2 : Nat} {A A2 : Option Addr} {rs : List Int} {gs : List Gp} (hg : GsR w B A2 m gs) (hr : Rd w B 1 A n (rs.map iv)) (hB : B ≤ w.heap.size) (h8 : n ≤ 8) (hm : m ≤ 1000000)
    (hM : ∀ r ∈ rs, r ≤ ((1000000 : Nat) : Int)) : Calls Try.prog 23 #[.slice A2 m c2, .slice A n c] w (Ret (.bool (allB gs rs)) w) := by
  have hlen : rs.length = n := by have := hr.1; simpa using this
  have HS := Lib.hid (fun (w' : World) (hw : Nw w w') (d : Nat) => rsafe_any (c := c) (c2 := c2) (hg.nw hw hB) (hr.nw hw hB) (Nat.le_trans hB hw.size) h8 hm hM (d : Int))
  have HL := Lib.hid hlen
  unfold Ret at HS
  clear hg hr hlen hM
  go_enter Try.func23, Try.ntmps23
  go_wp2_with fail
  go_loopw [5] (fun v wr => ∃ k : Nat, k ≤ n ∧ v = .int .i64 k ∧ Hid (∀ d : Nat, d < k → hallB gs rs (d : Int) = true) ∧ Nw w wr) (fun v _ => n - (intOf v).toNat)
  case atStart => exact ⟨0, Nat.zero_le _, rfl, Lib.hid (fun d hd => absurd hd (by omega)), Nw.refl _⟩
  case round =>
    obtain ⟨k, hk, rfl, hall, hnw⟩ := hrel
    by_cases hlt : k < n
    · have hltz : (k : Int) < (n : Int) := by omega
      have HC := Lib.hid (HS.out wr hnw k)
      obtain ⟨q, hq⟩ : ∃ q, hallB gs rs (k : Int) = q := ⟨_, rfl⟩
      rw [hq] at HC
      have HQ := Lib.hid hq
      clear hq
      rcases q with _ | _
      · have HF := Lib.hid (allB_no (by rw [HL.out]; exact hlt) HQ.out)
        go_wp2_with ((with_reducible refine HC.out.mono ?_); rintro e w2 ⟨rfl, n2⟩)
        go_ret
        exact ⟨by rw [HF.out]; rfl, gb_trans hnw n2⟩
      · go_wp2_with ((with_reducible refine HC.out.mono ?_); rintro e w2 ⟨rfl, n2⟩)
        go_roundw
        case rel => exact ⟨k + 1, by omega, by go_num, Lib.hid (fun d hd => by
          by_cases hdk : d = k
          · subst hdk; exact HQ.out
          · exact hall.out d (by omega)), gb_trans hnw n2⟩
        case measure => simp only [intOf]; omega
    · have HF := Lib.hid (show allB gs rs = true from allB_yes fun d hd => hall.out d (by rw [HL.out] at hd; omega))
      go_wp2
      go_ret
      exact ⟨by rw [HF.out]; rfl, hnw⟩
def numB (a b : List Int) : Bool := decide (a = b)
theorem numB_iff {a b : List Int} : numB a b = true ↔ a = b := by unfold numB; simp
set_option maxHeartbeats 1000000 in
theorem numbers_any {w : World} {B B' n n' c c' : Nat} {A A' : Option Addr} {xs ys : List Int} (hx : Rd w B 1 A n (xs.map iv)) (hy : Rd w B' 1 A' n' (ys.map iv)) (hs : n ≤ 9223372036854775807) :
    Calls Try.prog 13 #[.slice A n c, .slice A' n' c'] w (Ret (.bool (numB xs ys)) w) := by
  have hlx : xs.length = n := by have := hx.1; simpa using this
  have hly : ys.length = n' := by have := hy.1; simpa using this
  have HX := Lib.hid hx; have HY := Lib.hid hy; have LX := Lib.hid hlx; have LY := Lib.hid hly
  clear hx hy hlx hly
  by_cases hnn : n = n'
  · subst hnn
    go_enter Try.func13, Try.ntmps13
    go_wp2_with fail
    go_loopw [5] (fun i wr => ∃ k : Nat, k ≤ n ∧ i = .int .i64 k ∧ Hid (xs.take k = ys.take k) ∧ ∃ n, wr = w.drewN n) (fun i _ => n - (intOf i).toNat)
    case atStart => exact ⟨0, Nat.zero_le _, rfl, Lib.hid rfl, 0, rfl⟩
    case round =>
      obtain ⟨k, hk, rfl, ht, nd, rfl⟩ := hrel
      by_cases hlt : k < n
      · have hltz : (k : Int) < (n : Int) := by omega
        obtain ⟨b, off, hA, hcu⟩ := atD HX.out hlt
        obtain ⟨b', off', hA', hcu'⟩ := atD HY.out hlt
        subst hA; subst hA'
        obtain ⟨x, hx⟩ : ∃ x, xs.getD k 0 = x := ⟨_, rfl⟩
        obtain ⟨y, hy⟩ : ∃ y, ys.getD k 0 = y := ⟨_, rfl⟩
        rw [hx] at hcu
        rw [hy] at hcu'
        have HX1 := Lib.hid (show xs.take (k + 1) = xs.take k ++ [x] by rw [List.take_succ_eq_append_getElem (by rw [LX.out]; exact hlt), getD_at, hx])
        have HY1 := Lib.hid (show ys.take (k + 1) = ys.take k ++ [y] by rw [List.take_succ_eq_append_getElem (by rw [LY.out]; exact hlt), getD_at, hy])
        clear hx hy
        by_cases he : x = y
        · have hne : ((x : Int) != (y : Int)) = false := by rw [he]; simp
          have He := Lib.hid he; clear he
          go_wp2
          go_quiet (fail)
          go_wp2
          go_roundw
          case rel => exact ⟨k + 1, by omega, by go_num, Lib.hid (by rw [HX1.out, HY1.out, ht.out, He.out]), _, by first | rfl | simp⟩
          case measure => simp only [intOf]; omega
        · have hne : ((x : Int) != (y : Int)) = true := by simpa using he
          have Hno := Lib.hid (show numB xs ys = false by
            unfold numB
            rw [decide_eq_false_iff_not]
            intro e
            apply he
            have h1 := HX1.out
            rw [e, HY1.out] at h1
            have := List.append_inj_right h1 (by simp [LY.out])
            simpa using this.symm)
          clear he
          go_wp2
          go_quiet (fail)
          go_wp2
          go_ret
          exact ⟨by rw [Hno.out]; rfl, gb_drewN (gb_drewN (Nw.refl w) _) _⟩
      · have Hyes := Lib.hid (show numB xs ys = true by
          have h := ht.out
          rw [List.take_of_length_le (by rw [LX.out]; omega), List.take_of_length_le (by rw [LY.out]; omega)] at h
          exact numB_iff.2 h)
        go_wp2
        go_ret
        exact ⟨by rw [Hyes.out]; rfl, gb_drewN (Nw.refl w) _⟩
  · have Hno := Lib.hid (show numB xs ys = false by
      unfold numB
      rw [decide_eq_false_iff_not]
      intro e
      rw [e, LY.out] at LX
      exact hnn LX.out.symm)
    have hne : ((n : Int) != (n' : Int)) = true := by rw [bne_iff_ne]; omega
    go_enter Try.func13, Try.ntmps13
    go_wp2
    go_ret
    exact ⟨by rw [Hno.out]; rfl, Nw.refl w⟩
/-- at most eight rooms, none above a thousand -/
def smallP (rs : List Int) : List Int := (rs.take 8).map fun r => min r 1000
theorem smallP_len (rs : List Int) : (smallP rs).length ≤ 8 := by unfold smallP; simp; omega
theorem smallP_le (rs : List Int) : ∀ r ∈ smallP rs, r ≤ 1000 := by
  intro r hr
  obtain ⟨x, _, rfl⟩ := List.mem_map.1 hr
  omega
set_option maxHeartbeats 1000000 in
theorem small_any {w : World} {B n c : Nat} {A : Option Addr} {rs : List Int} (hr : Rd w B 1 A n (rs.map iv)) (hB : B ≤ w.heap.size) (hs : n ≤ 9223372036854775807) : Calls Try.prog 15 #[.slice A n c] w (RetOwn 3 1 ((smallP rs).map iv) w) := by
  have hlen : rs.length = n := by have := hr.1; simpa using this
  have HR := Lib.hid hr; have HBW := Lib.hid hB; have HL := Lib.hid hlen
  have H0 := Lib.hid (show Own (w.alloc (.cells #[] 3)) w.heap.size 3 1 (some ⟨w.heap.size, 0, none⟩) 0 0 [] from World.ownsRow_made w #[] 0 (Nat.le_refl _) (by simp) (by simp))
  clear hr hB hlen
  go_enter Try.func15, Try.ntmps15
  go_wp2_with fail
  go_loopw [3, 4] (fun s v wr => ∃ (k : Nat) (A' : Option Addr) (c' : Nat), v = .int .i64 k ∧ s = .slice A' k c' ∧ k ≤ 8 ∧ k ≤ n ∧ Hid (Own wr w.heap.size 3 1 A' k c' (((rs.take k).map fun r => min r 1000).map iv)) ∧ Nw w wr) (fun _ v _ => n - (intOf v).toNat)
  case atStart => exact ⟨0, some ⟨w.heap.size, 0, none⟩, 0, rfl, rfl, Nat.zero_le _, Nat.zero_le _, Lib.hid H0.out, World.grownBy_alloc w _ none⟩
  case round =>
    obtain ⟨k, A', c', rfl, rfl, hk, hkn, ho, hnw⟩ := hrel
    by_cases hlt : k < n
    · have hltz : (k : Int) < (n : Int) := by omega
      by_cases h8 : k < 8
      · have h8z : (k : Int) < 8 := by omega
        obtain ⟨b, off, hA, hc⟩ := atD (HR.out.nw hnw HBW.out) hlt
        subst hA
        obtain ⟨x, hx⟩ : ∃ x, rs.getD k 0 = x := ⟨_, rfl⟩
        rw [hx] at hc
        have HX1 := Lib.hid (show ((rs.take (k + 1)).map fun r => min r 1000).map iv = ((rs.take k).map fun r => min r 1000).map iv ++ [.int .i64 (min x 1000)] by
          rw [List.take_succ_eq_append_getElem (by rw [HL.out]; exact hlt), getD_at, hx]; simp [iv])
        have HMI := Lib.hid (show (if (1000 : Int) < x then (1000 : Int) else x) = min x 1000 by split <;> omega)
        have hsz := Nat.le_trans (Nat.le_refl _) hnw.size
        clear hx
        obtain ⟨z, hz⟩ : ∃ z, min x 1000 = z := ⟨_, rfl⟩
        rw [hz] at HX1 HMI
        clear hz
        have hsm : (k + 1) * 8 ≤ 140737488355328 ∧ k + 1 ≤ maxLen := by unfold maxLen; omega
        go_wp2_with (first
          | (at_builtin; (with_reducible refine wpList_app1_own T22 _ _ (by with_unfolding_all exact rfl) (by with_unfolding_all exact rfl) (by with_unfolding_all exact rfl) (by with_unfolding_all exact rfl) ho.out (by with_unfolding_all exact rfl) hsm hsz ?_); intro A'' c'' w3 h2 h3 h4)
          | ((with_reducible refine wpList_min_int _ _ _ (by with_unfolding_all exact rfl) (by with_unfolding_all exact rfl) x 1000 (by with_unfolding_all exact rfl) (by with_unfolding_all exact rfl) HMI.out ?_)))
        go_roundw
        case rel => exact ⟨k + 1, A'', c'', by go_num, rfl, by omega, by omega, Lib.hid (by rw [HX1.out]; exact h2), nw_of_gb hnw h3 (fun g hg => ho.out.blk g hg)⟩
        case measure => simp only [intOf]; omega
      · have hk8 : k = 8 := by omega
        have HF := Lib.hid (show ((rs.take k).map fun r => min r 1000).map iv = (smallP rs).map iv by rw [hk8]; rfl)
        have HO := Lib.hid ho.out
        rw [HF.out] at HO
        have d8 : decide ((k : Int) < 8) = false := decide_eq_false (by omega)
        clear hk8
        go_wp2
        go_ret
        exact ⟨A', k, c', rfl, HO.out, hnw⟩
    · have hkn' : k = n := by omega
      have HF := Lib.hid (show ((rs.take k).map fun r => min r 1000).map iv = (smallP rs).map iv by
        unfold smallP
        rw [List.take_of_length_le (show rs.length ≤ k by rw [HL.out]; omega), List.take_of_length_le (show rs.length ≤ 8 by rw [HL.out]; omega)])
      have HO := Lib.hid ho.out
      rw [HF.out] at HO
      clear hkn'
      go_wp2
      go_ret
      exact ⟨A', k, c', rfl, HO.out, hnw⟩
end Go.Proofs.Ytobifmndpkjlmaa

