/- slices.IndexFunc and ContainsFunc over labels, once for each closure that the program hands them; under a premise on the closure. Printed by gen_idx.py. -/
import Derived.Test.YtkkkhkkjdjnfhaaJD
set_option linter.unusedVariables false
set_option linter.unusedSimpArgs false
/- slices.IndexFunc and ContainsFunc over labels, once for each closure that the program hands them; under a premise on the closure. Printed by gen_idx.py. -/
namespace Go.Proofs.Ytkkkhkkjdjnfhaa
open Go.RowKit Go.BW

theorem index25_any {w : World} {B n d : Nat} {L : Option Addr} {ms : List Lb} (hr : Rd w B 5 L n (fl lc ms)) (hB : B ≤ w.heap.size) (hn : n ≤ 1000000) (p : Lb → Bool)
    (HF : ∀ m ∈ ms, ∀ w', Nw w w' → Calls Try.prog 25 #[lv m] w' (Ret (.bool (p m)) w')) :
    Calls Try.prog 33 #[.slice L n d, .func (.func 25) #[] #[]] w (IdxPost (idxZ p ms) w) := by
  have HF' := Lib.hid HF
  clear HF
  go_enter Try.func33, Try.ntmps33
  go_wp2_with fail
  go_loopw [8] (fun i wr => ∃ k : Nat, k ≤ n ∧ i = .int .i64 k ∧ Hid ((ms.take k).any p = false) ∧ Nw w wr) (fun i _ => n - (intOf i).toNat)
  case atStart => exact ⟨0, Nat.zero_le _, rfl, Lib.hid rfl, Nw.refl _⟩
  case round =>
    obtain ⟨k, hk, rfl, hno, hnw⟩ := hrel
    by_cases hlt : k < n
    · obtain ⟨hln, b', off, x, rfl, _, hx, hc⟩ := (hr.nw hnw hB).atL lc_len (by decide) hlt
      have hlt' : (k : Int) < (n : Int) := by omega
      have HC := Lib.hid hc
      have HX := Lib.hid hx
      have HT := HF'.out x (List.mem_of_getElem? hx) wr hnw
      obtain ⟨q, hq⟩ : ∃ q, p x = q := ⟨_, rfl⟩
      rw [hq] at HT
      have HQ := Lib.hid hq
      have HT' := Lib.hid (show Calls Try.prog 25 #[.agg (lc x).toArray] wr (fun e w' => e = .returned (.bool q) ∧ Nw wr w') from HT)
      clear hc hx hq HT
      rcases q with _ | _
      · go_wp2_with (first | ((with_reducible refine HT'.out.mono ?_); rintro e w2 ⟨rfl, n2⟩) | refine wpList_load_agg 24 _ rfl rfl rfl (lc x) HC.out _ Try.underlying24 rfl (by rw [lc_len]; kernel_rfl) ?_)
        go_roundw
        case rel => exact ⟨k + 1, by omega, by go_num, Lib.hid (by rw [any_snoc hno.out HX.out]; exact HQ.out), gb_trans hnw n2⟩
        case measure => simp only [intOf]; omega
      · go_wp2_with (first | ((with_reducible refine HT'.out.mono ?_); rintro e w2 ⟨rfl, n2⟩) | refine wpList_load_agg 24 _ rfl rfl rfl (lc x) HC.out _ Try.underlying24 rfl (by rw [lc_len]; kernel_rfl) ?_)
        go_ret
        exact ⟨by rw [idxZ_at hno.out HX.out HQ.out]; rfl, gb_trans hnw n2⟩
    · have hk' : k = n := by omega
      subst hk'
      have hf : ms.any p = false := by
        have h1 := hno.out
        rwa [List.take_of_length_le (by have := hr.lenL lc_len (by decide); omega)] at h1
      have H := Lib.hid (idxZ_no hf)
      clear hf
      go_wp2
      go_ret
      exact ⟨by rw [H.out]; rfl, hnw⟩
theorem has25_any {w : World} {B n d : Nat} {L : Option Addr} {ms : List Lb} (hr : Rd w B 5 L n (fl lc ms)) (hB : B ≤ w.heap.size) (hn : n ≤ 1000000) (p : Lb → Bool)
    (HF : ∀ m ∈ ms, ∀ w', Nw w w' → Calls Try.prog 25 #[lv m] w' (Ret (.bool (p m)) w')) :
    Calls Try.prog 28 #[.slice L n d, .func (.func 25) #[] #[]] w (Ret (.bool (ms.any p)) w) := by
  have HI := Lib.hid (index25_any (d := d) hr hB hn  p HF)
  have hv := idxZ_nn p ms
  unfold IdxPost at HI
  obtain ⟨v, hvv⟩ : ∃ v, idxZ p ms = v := ⟨_, rfl⟩
  rw [hvv] at HI hv
  have HV := Lib.hid hv
  clear hr HF hvv hv
  go_enter Try.func28, Try.ntmps28
  go_wp2_with ((with_reducible refine HI.out.mono ?_); rintro e w2 ⟨rfl, n2⟩)
  go_ret
  exact ⟨by rw [← HV.out]; rfl, n2⟩


theorem index29_any {w : World} {B n d : Nat} {L : Option Addr} {ms : List Lb} (hr : Rd w B 5 L n (fl lc ms)) (hB : B ≤ w.heap.size) (hn : n ≤ 1000000) (c1 : Value) (p : Lb → Bool)
    (HF : ∀ m ∈ ms, ∀ w', Nw w w' → Calls Try.prog 29 #[lv m, c1] w' (Ret (.bool (p m)) w')) :
    Calls Try.prog 33 #[.slice L n d, .func (.func 29) #[] #[c1]] w (IdxPost (idxZ p ms) w) := by
  have HF' := Lib.hid HF
  clear HF
  go_enter Try.func33, Try.ntmps33
  go_wp2_with fail
  go_loopw [8] (fun i wr => ∃ k : Nat, k ≤ n ∧ i = .int .i64 k ∧ Hid ((ms.take k).any p = false) ∧ Nw w wr) (fun i _ => n - (intOf i).toNat)
  case atStart => exact ⟨0, Nat.zero_le _, rfl, Lib.hid rfl, Nw.refl _⟩
  case round =>
    obtain ⟨k, hk, rfl, hno, hnw⟩ := hrel
    by_cases hlt : k < n
    · obtain ⟨hln, b', off, x, rfl, _, hx, hc⟩ := (hr.nw hnw hB).atL lc_len (by decide) hlt
      have hlt' : (k : Int) < (n : Int) := by omega
      have HC := Lib.hid hc
      have HX := Lib.hid hx
      have HT := HF'.out x (List.mem_of_getElem? hx) wr hnw
      obtain ⟨q, hq⟩ : ∃ q, p x = q := ⟨_, rfl⟩
      rw [hq] at HT
      have HQ := Lib.hid hq
      have HT' := Lib.hid (show Calls Try.prog 29 #[.agg (lc x).toArray, c1] wr (fun e w' => e = .returned (.bool q) ∧ Nw wr w') from HT)
      clear hc hx hq HT
      rcases q with _ | _
      · go_wp2_with (first | ((with_reducible refine HT'.out.mono ?_); rintro e w2 ⟨rfl, n2⟩) | refine wpList_load_agg 24 _ rfl rfl rfl (lc x) HC.out _ Try.underlying24 rfl (by rw [lc_len]; kernel_rfl) ?_)
        go_roundw
        case rel => exact ⟨k + 1, by omega, by go_num, Lib.hid (by rw [any_snoc hno.out HX.out]; exact HQ.out), gb_trans hnw n2⟩
        case measure => simp only [intOf]; omega
      · go_wp2_with (first | ((with_reducible refine HT'.out.mono ?_); rintro e w2 ⟨rfl, n2⟩) | refine wpList_load_agg 24 _ rfl rfl rfl (lc x) HC.out _ Try.underlying24 rfl (by rw [lc_len]; kernel_rfl) ?_)
        go_ret
        exact ⟨by rw [idxZ_at hno.out HX.out HQ.out]; rfl, gb_trans hnw n2⟩
    · have hk' : k = n := by omega
      subst hk'
      have hf : ms.any p = false := by
        have h1 := hno.out
        rwa [List.take_of_length_le (by have := hr.lenL lc_len (by decide); omega)] at h1
      have H := Lib.hid (idxZ_no hf)
      clear hf
      go_wp2
      go_ret
      exact ⟨by rw [H.out]; rfl, hnw⟩
theorem has29_any {w : World} {B n d : Nat} {L : Option Addr} {ms : List Lb} (hr : Rd w B 5 L n (fl lc ms)) (hB : B ≤ w.heap.size) (hn : n ≤ 1000000) (c1 : Value) (p : Lb → Bool)
    (HF : ∀ m ∈ ms, ∀ w', Nw w w' → Calls Try.prog 29 #[lv m, c1] w' (Ret (.bool (p m)) w')) :
    Calls Try.prog 28 #[.slice L n d, .func (.func 29) #[] #[c1]] w (Ret (.bool (ms.any p)) w) := by
  have HI := Lib.hid (index29_any (d := d) hr hB hn c1 p HF)
  have hv := idxZ_nn p ms
  unfold IdxPost at HI
  obtain ⟨v, hvv⟩ : ∃ v, idxZ p ms = v := ⟨_, rfl⟩
  rw [hvv] at HI hv
  have HV := Lib.hid hv
  clear hr HF hvv hv
  go_enter Try.func28, Try.ntmps28
  go_wp2_with ((with_reducible refine HI.out.mono ?_); rintro e w2 ⟨rfl, n2⟩)
  go_ret
  exact ⟨by rw [← HV.out]; rfl, n2⟩


theorem index31_any {w : World} {B n d : Nat} {L : Option Addr} {ms : List Lb} (hr : Rd w B 5 L n (fl lc ms)) (hB : B ≤ w.heap.size) (hn : n ≤ 1000000) (c1 c2 : Value) (p : Lb → Bool)
    (HF : ∀ m ∈ ms, ∀ w', Nw w w' → Calls Try.prog 31 #[lv m, c1, c2] w' (Ret (.bool (p m)) w')) :
    Calls Try.prog 33 #[.slice L n d, .func (.func 31) #[] #[c1, c2]] w (IdxPost (idxZ p ms) w) := by
  have HF' := Lib.hid HF
  clear HF
  go_enter Try.func33, Try.ntmps33
  go_wp2_with fail
  go_loopw [8] (fun i wr => ∃ k : Nat, k ≤ n ∧ i = .int .i64 k ∧ Hid ((ms.take k).any p = false) ∧ Nw w wr) (fun i _ => n - (intOf i).toNat)
  case atStart => exact ⟨0, Nat.zero_le _, rfl, Lib.hid rfl, Nw.refl _⟩
  case round =>
    obtain ⟨k, hk, rfl, hno, hnw⟩ := hrel
    by_cases hlt : k < n
    · obtain ⟨hln, b', off, x, rfl, _, hx, hc⟩ := (hr.nw hnw hB).atL lc_len (by decide) hlt
      have hlt' : (k : Int) < (n : Int) := by omega
      have HC := Lib.hid hc
      have HX := Lib.hid hx
      have HT := HF'.out x (List.mem_of_getElem? hx) wr hnw
      obtain ⟨q, hq⟩ : ∃ q, p x = q := ⟨_, rfl⟩
      rw [hq] at HT
      have HQ := Lib.hid hq
      have HT' := Lib.hid (show Calls Try.prog 31 #[.agg (lc x).toArray, c1, c2] wr (fun e w' => e = .returned (.bool q) ∧ Nw wr w') from HT)
      clear hc hx hq HT
      rcases q with _ | _
      · go_wp2_with (first | ((with_reducible refine HT'.out.mono ?_); rintro e w2 ⟨rfl, n2⟩) | refine wpList_load_agg 24 _ rfl rfl rfl (lc x) HC.out _ Try.underlying24 rfl (by rw [lc_len]; kernel_rfl) ?_)
        go_roundw
        case rel => exact ⟨k + 1, by omega, by go_num, Lib.hid (by rw [any_snoc hno.out HX.out]; exact HQ.out), gb_trans hnw n2⟩
        case measure => simp only [intOf]; omega
      · go_wp2_with (first | ((with_reducible refine HT'.out.mono ?_); rintro e w2 ⟨rfl, n2⟩) | refine wpList_load_agg 24 _ rfl rfl rfl (lc x) HC.out _ Try.underlying24 rfl (by rw [lc_len]; kernel_rfl) ?_)
        go_ret
        exact ⟨by rw [idxZ_at hno.out HX.out HQ.out]; rfl, gb_trans hnw n2⟩
    · have hk' : k = n := by omega
      subst hk'
      have hf : ms.any p = false := by
        have h1 := hno.out
        rwa [List.take_of_length_le (by have := hr.lenL lc_len (by decide); omega)] at h1
      have H := Lib.hid (idxZ_no hf)
      clear hf
      go_wp2
      go_ret
      exact ⟨by rw [H.out]; rfl, hnw⟩
theorem has31_any {w : World} {B n d : Nat} {L : Option Addr} {ms : List Lb} (hr : Rd w B 5 L n (fl lc ms)) (hB : B ≤ w.heap.size) (hn : n ≤ 1000000) (c1 c2 : Value) (p : Lb → Bool)
    (HF : ∀ m ∈ ms, ∀ w', Nw w w' → Calls Try.prog 31 #[lv m, c1, c2] w' (Ret (.bool (p m)) w')) :
    Calls Try.prog 28 #[.slice L n d, .func (.func 31) #[] #[c1, c2]] w (Ret (.bool (ms.any p)) w) := by
  have HI := Lib.hid (index31_any (d := d) hr hB hn c1 c2 p HF)
  have hv := idxZ_nn p ms
  unfold IdxPost at HI
  obtain ⟨v, hvv⟩ : ∃ v, idxZ p ms = v := ⟨_, rfl⟩
  rw [hvv] at HI hv
  have HV := Lib.hid hv
  clear hr HF hvv hv
  go_enter Try.func28, Try.ntmps28
  go_wp2_with ((with_reducible refine HI.out.mono ?_); rintro e w2 ⟨rfl, n2⟩)
  go_ret
  exact ⟨by rw [← HV.out]; rfl, n2⟩

end Go.Proofs.Ytkkkhkkjdjnfhaa


/- Choose's closures, slices.Clone and DeleteFunc over labels. -/
namespace Go.Proofs.Ytkkkhkkjdjnfhaa
open Go.RowKit Go.BW

theorem wrong_any {w : World} {B : Nat} {x : Lb} (h : LOk w B x) (hB : B ≤ w.heap.size) (hn : x.n ≤ 1000000) : Calls Try.prog 25 #[lv x] w (Ret (.bool (!rightB x)) w) := by
  have hr := right_any (h.nw (World.grownBy_alloc w (.cells #[.int .i64 x.a, .int .i64 x.g, .int .i64 x.m, .int .i64 x.b, .slice x.A x.n x.c] 24) none) hB) (Nat.le_trans hB (World.grownBy_alloc w _ none).size) hn
  obtain ⟨q, hq⟩ : ∃ q, rightB x = q := ⟨_, rfl⟩
  rw [hq] at hr ⊢
  unfold lv Ret at hr
  unfold lv
  have HR := Lib.hid hr
  clear hr
  go_enter Try.func25, Try.ntmps25
  go_wp2_with ((with_reducible refine HR.out.mono ?_); rintro e w2 ⟨rfl, n2⟩)
  go_ret
  exact ⟨rfl, gb_trans (World.grownBy_alloc w _ none) n2⟩
theorem newer_any {w : World} {x y : Lb} (hx : 1 ≤ x.g ∧ x.g ≤ 4294967295) (hy : 1 ≤ y.g ∧ y.g ≤ 4294967295) : Calls Try.prog 27 #[lv x, lv y] w (Ret (.int .i64 (x.g - y.g)) w) := by
  unfold lv
  obtain ⟨h1, h2⟩ := hx
  obtain ⟨h3, h4⟩ := hy
  go_enter Try.func27, Try.ntmps27
  go_wp2
  go_ret
  exact ⟨rfl, gb_trans (World.grownBy_alloc w _ none) (World.grownBy_alloc _ _ none)⟩
/-- a label of the newest that is not the same as the one chosen -/
def clash (y x : Lb) : Bool := x.g == y.g && !sameB x y
set_option maxHeartbeats 1000000 in
theorem clash_any {w : World} {B B' b : Nat} {x y : Lb} (hx : LOk w B x) (hy : LOk w B' y) (hB : B ≤ w.heap.size) (hB' : B' ≤ w.heap.size) (hn : x.n ≤ 1000000) (hm : y.n ≤ 1000000) (ho : Obj1 w b 24 (lc y).toArray) :
    Calls Try.prog 29 #[lv x, .pointer (some ⟨b, 0, none⟩)] w (Ret (.bool (clash y x)) w) := by
  have hq := same_any (w := w.alloc (.cells #[.int .i64 x.a, .int .i64 x.g, .int .i64 x.m, .int .i64 x.b, .slice x.A x.n x.c] 24)) (hx.nw (World.grownBy_alloc w _ none) hB) (hy.nw (World.grownBy_alloc w _ none) hB') (Nat.le_trans hB (World.grownBy_alloc w _ none).size) (Nat.le_trans hB' (World.grownBy_alloc w _ none).size) hn hm
  have hcl : clash y x = (x.g == y.g && !sameB x y) := rfl
  obtain ⟨R, hR⟩ : ∃ R, clash y x = R := ⟨_, rfl⟩
  obtain ⟨q, hqq⟩ : ∃ q, sameB x y = q := ⟨_, rfl⟩
  rw [hR] at hcl ⊢
  rw [hqq] at hq hcl
  unfold lv Ret at hq
  unfold lv
  change Calls Try.prog 30 #[.agg #[.int .i64 x.a, .int .i64 x.g, .int .i64 x.m, .int .i64 x.b, .slice x.A x.n x.c], .agg (lc y).toArray] _ _ at hq
  have HQ := Lib.hid hq; have H := Lib.hid hcl
  have ho' := ho.nw (World.grownBy_alloc w (.cells #[.int .i64 x.a, .int .i64 x.g, .int .i64 x.m, .int .i64 x.b, .slice x.A x.n x.c] 24) none)
  have hbn : b ≠ w.heap.size := by have := ho.lt; omega
  have k1 : (w.alloc (.cells #[.int .i64 x.a, .int .i64 x.g, .int .i64 x.m, .int .i64 x.b, .slice x.A x.n x.c] 24)).cell? ⟨b, 1, none⟩ = some (.int .i64 y.g) := ho'.cell 1
  have HO := Lib.hid ho'
  clear hq hcl hR hqq ho ho' hx hy
  rcases eg : (x.g == y.g) with _ | _
  · have HF := Lib.hid (show R = false by rw [H.out, eg]; rfl)
    go_enter Try.func29, Try.ntmps29
    go_wp2
    go_ret
    exact ⟨by rw [HF.out]; rfl, World.grownBy_alloc w _ none⟩
  · have HF := Lib.hid (show R = !q by rw [H.out, eg]; rfl)
    go_enter Try.func29, Try.ntmps29
    go_wp2_with (first | (refine wpList_load_obj 24 _ rfl rfl rfl HO.out _ Try.underlying24 rfl (by kernel_rfl) ?_) | ((with_reducible refine HQ.out.mono ?_); rintro e w2 ⟨rfl, n2⟩))
    go_ret
    exact ⟨by rw [HF.out]; rfl, gb_trans (World.grownBy_alloc w _ none) n2⟩
/-- whose label it is -/
def ofM (id arr : Int) (x : Lb) : Bool := x.m == id && x.a == arr
theorem ofM_any {w : World} {x : Lb} {p b : Nat} {id arr : Int} (h1 : w.cell? ⟨p, 0, none⟩ = some (.int .i64 id)) (h2 : w.cell? ⟨b, 0, none⟩ = some (.int .i64 arr)) :
    Calls Try.prog 31 #[lv x, .pointer (some ⟨p, 0, none⟩), .pointer (some ⟨b, 0, none⟩)] w (Ret (.bool (ofM id arr x)) w) := by
  have hcl : ofM id arr x = (x.m == id && x.a == arr) := rfl
  obtain ⟨R, hR⟩ : ∃ R, ofM id arr x = R := ⟨_, rfl⟩
  rw [hR] at hcl ⊢
  have k1 := fun o => cell_alloc (o := o) h1
  have k2 := fun o => cell_alloc (o := o) h2
  have H := Lib.hid hcl
  unfold lv
  clear hR hcl
  rcases e : (x.m == id) with _ | _
  · have HF := Lib.hid (show R = false by rw [H.out, e]; rfl)
    go_enter Try.func31, Try.ntmps31
    go_wp2
    go_ret
    exact ⟨by rw [HF.out]; rfl, World.grownBy_alloc w _ none⟩
  · have HF := Lib.hid (show R = (x.a == arr) by rw [H.out, e]; rfl)
    obtain ⟨q, hq⟩ : ∃ q, (x.a == arr) = q := ⟨_, rfl⟩
    rw [hq] at HF
    go_enter Try.func31, Try.ntmps31
    go_wp2
    go_ret
    exact ⟨by rw [HF.out]; rfl, World.grownBy_alloc w _ none⟩
theorem cloneL_any {w : World} {B n c : Nat} {A : Option Addr} {ls : List Lb} (hr : Rd w B 5 A n (fl lc ls)) (hB : B ≤ w.heap.size) (hn : n ≤ 1000000) : Calls Try.prog 24 #[.slice A n c] w (RetOwn 24 5 (fl lc ls) w) := by
  have h1 := lc_one ls
  have hs : n * 56 ≤ 140737488355328 ∧ n ≤ maxLen := by unfold maxLen; omega
  have qn := fun (w : World) (A : Option Addr) => Lib.run_eql_slice_nil (P := Try.prog) w 33 24 A n c 0 0 Try.underlying33
  rcases A with _ | a
  · have h0 : n = 0 := by
      rcases Nat.eq_zero_or_pos n with h | h
      · exact h
      · obtain ⟨_, _, h, _⟩ := hr.2 h; cases h
    subst h0
    have e : fl lc ls = [] := List.eq_nil_of_length_eq_zero (by simpa using hr.1)
    rw [e]
    go_enter Try.func24, Try.ntmps24
    go_wp2
    go_ret
    exact ⟨none, 0, 0, rfl, Own.nil, Nw.refl _⟩
  · go_enter Try.func24, Try.ntmps24
    go_wp2_with (at_builtin; refine wpList_app_lit T33 _ _ rfl rfl w.heap.size rfl rfl hr hB h1 hs (Nat.le_refl _) ?_; intro A' c' w' h2 h3)
    go_ret
    exact ⟨_, _, _, rfl, h2, h3⟩
end Go.Proofs.Ytkkkhkkjdjnfhaa


/- What slices.DeleteFunc leaves of the call's own labels: those that are right. -/
namespace Go.Proofs.Ytkkkhkkjdjnfhaa
open Go.RowKit Go.BW

def DelPost (base : Nat) (A : Option Addr) (n c : Nat) (ls : List Lb) (w : World) (e : Ending) (w' : World) : Prop :=
  ∃ A' n' c', e = .returned (.slice A' n' c') ∧ Own w' base 24 5 A' n' c' (fl lc (ls.filter rightB)) ∧ w.grownBy w' (Value.slice A n c).ownBlock
theorem filter_first {ls : List Lb} {i : Nat} (h : idxZ (fun x => !rightB x) ls = (i : Int)) : i < ls.length ∧ ls.take i = (ls.take (i + 1)).filter rightB := by
  unfold idxZ at h
  rcases h2 : ls.findIdx? (fun x => !rightB x) with _ | k
  · rw [h2] at h; simp at h
  · rw [h2] at h
    have hk : k = i := by simp at h; omega
    subst hk
    rw [List.findIdx?_eq_some_iff_getElem] at h2
    obtain ⟨hi, hp, hno⟩ := h2
    refine ⟨hi, ?_⟩
    rw [List.take_succ_eq_append_getElem hi, List.filter_append]
    have h3 : [ls[k]].filter rightB = [] := by
      rw [List.filter_cons_of_neg (by simpa using hp)]; rfl
    rw [h3, List.append_nil]
    symm
    rw [List.filter_eq_self]
    intro x hx
    rw [List.mem_take_iff_getElem] at hx
    obtain ⟨j, hj, rfl⟩ := hx
    simpa using hno j (by omega)
theorem filter_all {ls : List Lb} (h : idxZ (fun x => !rightB x) ls = -1) : ls.filter rightB = ls := by
  rw [List.filter_eq_self]
  intro x hx
  unfold idxZ at h
  rcases h2 : ls.findIdx? (fun x => !rightB x) with _ | k
  · rw [List.findIdx?_eq_none_iff] at h2
    simpa using h2 x hx
  · rw [h2] at h; simp at h
theorem filter_step {ls : List Lb} {j : Nat} {x : Lb} (hx : ls[j]? = some x) : (ls.take (j + 1)).filter rightB = (ls.take j).filter rightB ++ (if rightB x then [x] else []) := by
  obtain ⟨hj, rfl⟩ := List.getElem?_eq_some_iff.1 hx
  rw [List.take_succ_eq_append_getElem hj, List.filter_append, List.filter_cons]
  split <;> simp
theorem splice_pre {α : Type} (L : List α) (k : Nat) (cs : List α) (h : k ≤ L.length) : (splice L k cs).take k = L.take k := by
  unfold splice
  rw [List.take_append_of_le_length (by rw [List.length_take]; omega), List.take_take, Nat.min_self]
theorem lv_one (x : Lb) : ∀ u ∈ lc x, u.oneCell' = true := by have := lc_one [x]; rwa [fl_one] at this
set_option maxRecDepth 100000 in
set_option maxHeartbeats 8000000 in
theorem delete_any {w : World} {B base n c : Nat} {A : Option Addr} {ls : List Lb} (ho : Own w base 24 5 A n c (fl lc ls)) (hok : ∀ x ∈ ls, LOk w B x) (hB : B ≤ base) (hbw : base ≤ w.heap.size) (hn : n ≤ 1000000) (hms : ∀ x ∈ ls, x.n ≤ 1000000) :
    Calls Try.prog 23 #[.slice A n c, .func (.func 25) #[] #[]] w (DelPost base A n c ls w) := by
  have hBw : B ≤ w.heap.size := Nat.le_trans hB hbw
  have hlen := ho.lenL lc_len (by decide)
  have HI := Lib.hid (index25_any (d := c) ho.rd (Nat.le_refl _) hn (fun x => !rightB x) (fun x hx w' k => wrong_any ((hok x hx).nw k hBw) (Nat.le_trans hBw k.size) (hms x hx)))
  have hfirst := @filter_first ls
  have hall := @filter_all ls
  obtain ⟨iz, hiz⟩ : ∃ iz, idxZ (fun x => !rightB x) ls = iz := ⟨_, rfl⟩
  rw [hiz] at HI hfirst hall
  have hcase : iz = -1 ∨ ∃ i : Nat, iz = i := by
    rw [← hiz]; unfold idxZ; split
    · exact .inr ⟨_, rfl⟩
    · exact .inl rfl
  unfold IdxPost at HI
  clear hiz
  rcases hcase with rfl | ⟨i0, rfl⟩
  · have H := Lib.hid (hall rfl)
    clear hfirst hall hok hms
    go_enter Try.func23, Try.ntmps23
    go_wp2_with ((with_reducible refine HI.out.mono ?_); rintro e w2 ⟨rfl, n2⟩)
    go_ret
    exact ⟨A, n, c, rfl, by rw [H.out]; exact ho.nw n2, gb_nw n2⟩
  · obtain ⟨hi0, hf0⟩ := hfirst rfl
    obtain ⟨g, rfl, hg⟩ := ho.some_ (by omega)
    have hgrow : (Value.slice (some ⟨g, 0, none⟩) n c).ownBlock = some g := rfl
    unfold DelPost
    rw [hgrow]
    have HOK := Lib.hid hok; have HMS := Lib.hid hms; have HF0 := Lib.hid hf0; have HLEN := Lib.hid hlen
    have hcap := ho.cap.1
    have hi0n : i0 < n := by omega
    have hb0 : ((i0 : Int) == -1) = false := by rw [beq_eq_false_iff_ne]; omega
    clear hall hok hms hf0 hlen hi0 hfirst
    go_enter Try.func23, Try.ntmps23
    go_wp2_with ((with_reducible refine HI.out.mono ?_); rintro e w2 ⟨rfl, n2⟩)
    have HO2 := Lib.hid (ho.nw n2)
    have HN2 := Lib.hid n2
    clear n2 ho
    go_loopw [5, 6] (fun iv jv wr => ∃ (i j : Nat) (cur : List Lb), i < j ∧ j ≤ n ∧ iv = .int .i64 i ∧ jv = .int .i64 j ∧ Own wr base 24 5 (some ⟨g, 0, none⟩) n c (fl lc cur) ∧ Hid (cur.take i = (ls.take j).filter rightB) ∧ Hid (cur.drop j = ls.drop j) ∧ w.grownBy wr (some g)) (fun _ jv _ => n - (intOf jv).toNat)
    case atStart => exact ⟨i0, i0 + 1, ls, by omega, by omega, rfl, by go_num, HO2.out, HF0, Lib.hid rfl, gb_nw HN2.out⟩
    case round =>
      obtain ⟨i, j, cur, hij, hj, rfl, rfl, hown, htk, hdr, hgb⟩ := hrel
      by_cases hlt : j < n
      · have hln := hown.lenL lc_len (by decide)
        obtain ⟨x, hxc⟩ : ∃ x, cur[j]? = some x := ⟨cur[j]'(by omega), List.getElem?_eq_getElem _⟩
        have hxl : ls[j]? = some x := by
          have h1 := congrArg (fun l : List Lb => l[0]?) hdr.out
          simp only [List.getElem?_drop, Nat.add_zero] at h1
          rw [← h1]; exact hxc
        have hmem := List.mem_of_getElem? hxl
        have HC := Lib.hid (show ∀ u v, [Value.int .i64 x.a, .int .i64 x.g, .int .i64 x.m, .int .i64 x.b, .slice x.A x.n x.c][u]? = some v → wr.cell? ⟨g, j * 5 + u, none⟩ = some v from hown.atL lc_len (by decide) hxc)
        have HWR := Lib.hid (fun w' (k : w.grownBy w' (some g)) => wrong_any (w := w') (B := B) (x := x) ⟨(HOK.out x hmem).rd.gb k hBw (by intro r hr; injection hr with hr; omega), (HOK.out x hmem).nc, (HOK.out x hmem).cm⟩ (Nat.le_trans hBw k.size) (HMS.out x hmem))
        obtain ⟨q, hq⟩ : ∃ q, rightB x = q := ⟨_, rfl⟩
        rw [hq] at HWR
        unfold lv Ret at HWR
        have hstep := filter_step hxl
        rw [hq] at hstep
        have HST := Lib.hid hstep; have HQ := Lib.hid hq
        have hsz : (Try.prog.info? 24).map (·.size) = some [Value.int .i64 x.a, .int .i64 x.g, .int .i64 x.m, .int .i64 x.b, .slice x.A x.n x.c].length := by kernel_rfl
        have hdr2 : cur.drop (j + 1) = ls.drop (j + 1) := by
          have h1 := congrArg (List.drop 1) hdr.out
          rwa [List.drop_drop, List.drop_drop] at h1
        have HDR := Lib.hid hdr2
        have hjn : (j : Int) < (n : Int) := by omega
        have hin : (i : Int) < (n : Int) := by omega
        have HLC := Lib.hid hln
        clear hstep hq hdr hdr2 hxl hmem hln
        rcases q with _ | _
        · go_wp2_with (first | ((with_reducible refine (HWR.out _ (gb_alloc hgb _)).mono ?_); rintro e w3 ⟨rfl, n3⟩) | refine wpList_load_agg 24 _ rfl rfl rfl [Value.int .i64 x.a, .int .i64 x.g, .int .i64 x.m, .int .i64 x.b, .slice x.A x.n x.c] HC.out _ Try.underlying24 rfl hsz ?_)
          go_roundw
          case rel => exact ⟨i, j + 1, cur, by omega, by omega, rfl, by go_num, (hown.nw (World.grownBy_alloc wr _ none)).nw n3, Lib.hid (by rw [HST.out, htk.out]; simp), HDR, gb_trans (gb_alloc hgb _) (gb_nw n3)⟩
          case measure => simp only [intOf]; omega
        · go_wp2_with (first
            | (refine wpList_store_own (cs := lc x) (off := i * 5) 24 _ _ rfl rfl rfl rfl rfl (by kernel_rfl) (lv_one x) O3.out (by show i * 5 + 5 ≤ n * 5; omega) ?_; intro w4 o4 m4)
            | (refine wpList_load_obj 24 _ rfl rfl rfl V3.out _ Try.underlying24 rfl (by kernel_rfl) ?_)
            | ((with_reducible refine (HWR.out _ (gb_alloc hgb _)).mono ?_); rintro e w3 ⟨rfl, n3⟩; have O3 := Lib.hid ((hown.nw (World.grownBy_alloc wr _ none)).nw n3); have V3 := Lib.hid ((Obj1.new wr 24 #[.int .i64 x.a, .int .i64 x.g, .int .i64 x.m, .int .i64 x.b, .slice x.A x.n x.c]).nw n3))
            | refine wpList_load_agg 24 _ rfl rfl rfl [Value.int .i64 x.a, .int .i64 x.g, .int .i64 x.m, .int .i64 x.b, .slice x.A x.n x.c] HC.out _ Try.underlying24 rfl hsz ?_)
          rw [fl_set lc_len (show i < cur.length by rw [HLC.out]; omega) x] at o4
          go_roundw
          case rel =>
            refine ⟨i + 1, j + 1, cur.set i x, by omega, by omega, by go_num, by go_num, o4, Lib.hid ?_, Lib.hid ?_, gb_trans (gb_trans (gb_alloc hgb _) (gb_nw n3)) m4⟩
            · rw [HST.out, if_pos trivial, ← htk.out, List.take_succ_eq_append_getElem (by rw [List.length_set, HLC.out]; omega), List.getElem_set_self, List.take_set_of_le (Nat.le_refl i)]
            · rw [List.drop_set_of_lt (by omega)]; exact HDR.out
          case measure => simp only [intOf]; omega
      · have hjn : j = n := by omega
        subst hjn
        have hic : i < c := by omega
        have hA := cutA_own (g := g) (size := 5) hic
        have hm0 : 0 < j - i := by omega
        have hone := lv_one l0
        have HTK := Lib.hid (show cur.take i = ls.filter rightB by rw [htk.out, List.take_of_length_le (by rw [HLEN.out]; exact Nat.le_refl _)])
        have hin : (i : Int) < (j : Int) := by omega
        clear htk hdr
        go_wp2_with (first
          | (refine wpList_slice_hi' 33 24 Try.underlying33 (size := 5) (by kernel_rfl) _ _ rfl rfl (some ⟨g, 0, none⟩) j c i _ rfl rfl rfl (by omega) ?_)
          | (refine wpList_clear_own T33 _ rfl rfl rfl hone hm0 hown (by omega) ?_; intro w4 o4 m4)
          | (refine wpList_slice_lo 33 24 Try.underlying33 5 (by kernel_rfl) _ _ rfl rfl (some ⟨g, 0, none⟩) j c i _ rfl rfl rfl (by omega) hcap hA rfl rfl ?_))
        go_ret
        have o5 := o4.front' (k := i) (by omega)
        rw [splice_pre _ _ _ (by have := hown.len; omega), fl_take lc_len, HTK.out] at o5
        exact ⟨_, _, _, rfl, o5, gb_trans hgb m4⟩
end Go.Proofs.Ytkkkhkkjdjnfhaa

