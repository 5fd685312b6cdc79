/- Members: the data's words, label.in, label.may, for all numbers. -/
import Derived.Test.YtkkkhkkjdjnfhaaProg
import Derived.Test.YtkkkhkkjdjnfhaaJA
set_option linter.unusedVariables false
set_option linter.unusedSimpArgs false
/- Members: the data's words, label.in, label.may, for all numbers. -/
namespace Go.Proofs.Ytkkkhkkjdjnfhaa
open Go.RowKit Go.BW

structure Mem where
  id : Int
  sec : Int
  st : Int
  deriving DecidableEq
def mc (m : Mem) : List Value := [.int .i64 m.id, .int .i64 m.sec, .int .i64 m.st]
def mv (m : Mem) : Value := .agg #[.int .i64 m.id, .int .i64 m.sec, .int .i64 m.st]
theorem mc_len (m : Mem) : (mc m).length = 3 := rfl
theorem mc_one (ms : List Mem) : ∀ u ∈ fl mc ms, u.oneCell' = true := by
  intro u hu
  unfold fl at hu
  rw [List.mem_flatten] at hu
  obtain ⟨l, hl, hu⟩ := hu
  obtain ⟨m, _, rfl⟩ := List.mem_map.1 hl
  simp [mc] at hu
  rcases hu with rfl | rfl | rfl <;> rfl
theorem T22 : El Try.prog 22 28 (mv ⟨0, 0, 0⟩) 3 24 := El.mk' Try.underlying22 (by kernel_rfl) rfl (by decide)
def inB (n a b : Int) : Bool := decide (a ≤ n ∧ n ≤ b)
theorem in_any (n a b : Int) (w : World) : Calls Try.prog 15 #[.int .i64 n, .int .i64 a, .int .i64 b] w fun e w' => e = .returned (.bool (inB n a b)) ∧ w = w' := by
  by_cases h1 : a ≤ n
  · by_cases h2 : n ≤ b
    · have H := Lib.hid (show inB n a b = true by unfold inB; simp [h1, h2])
      go_enter Try.func15, Try.ntmps15
      go_wp2
      go_ret
      exact ⟨by rw [H.out]; rfl, rfl⟩
    · have H := Lib.hid (show inB n a b = false by unfold inB; simp [h2])
      go_enter Try.func15, Try.ntmps15
      go_wp2
      go_ret
      exact ⟨by rw [H.out]; rfl, rfl⟩
  · have H := Lib.hid (show inB n a b = false by unfold inB; simp [h1])
    go_enter Try.func15, Try.ntmps15
    go_wp2
    go_ret
    exact ⟨by rw [H.out]; rfl, rfl⟩
/-- may a member be? -/
def mayM (m : Mem) : Bool := inB m.id 0 31 && inB m.sec 160 4096 && inB m.st 0 2
theorem may_any (m : Mem) (w : World) : Calls Try.prog 16 #[mv m] w (Ret (.bool (mayM m)) w) := by
  have h1 := Lib.hid (fun w' => in_any m.id 0 31 w')
  have h2 := Lib.hid (fun w' => in_any m.sec 160 4096 w')
  have h3 := Lib.hid (fun w' => in_any m.st 0 2 w')
  have hm : mayM m = (inB m.id 0 31 && inB m.sec 160 4096 && inB m.st 0 2) := rfl
  unfold mv
  obtain ⟨b1, e1⟩ : ∃ b, inB m.id 0 31 = b := ⟨_, rfl⟩
  obtain ⟨b2, e2⟩ : ∃ b, inB m.sec 160 4096 = b := ⟨_, rfl⟩
  obtain ⟨b3, e3⟩ : ∃ b, inB m.st 0 2 = b := ⟨_, rfl⟩
  rw [e1, e2, e3] at hm
  rw [e1] at h1
  rw [e2] at h2
  rw [e3] at h3
  have H := Lib.hid hm
  clear e1 e2 e3 hm
  rcases b1 with _ | _
  · go_enter Try.func16, Try.ntmps16
    go_wp2_with (first | ((with_reducible refine (h1.out _).mono ?_); rintro e w' ⟨rfl, rfl⟩))
    go_ret
    exact ⟨by rw [H.out]; rfl, World.grownBy_alloc w _ none⟩
  rcases b2 with _ | _
  · go_enter Try.func16, Try.ntmps16
    go_wp2_with (first | ((with_reducible refine (h1.out _).mono ?_); rintro e w' ⟨rfl, rfl⟩) | ((with_reducible refine (h2.out _).mono ?_); rintro e w' ⟨rfl, rfl⟩))
    go_ret
    exact ⟨by rw [H.out]; rfl, World.grownBy_alloc w _ none⟩
  rcases b3 with _ | _
  all_goals
    go_enter Try.func16, Try.ntmps16
    go_wp2_with (first | ((with_reducible refine (h1.out _).mono ?_); rintro e w' ⟨rfl, rfl⟩) | ((with_reducible refine (h2.out _).mono ?_); rintro e w' ⟨rfl, rfl⟩) | ((with_reducible refine (h3.out _).mono ?_); rintro e w' ⟨rfl, rfl⟩))
    go_ret
    exact ⟨by rw [H.out]; rfl, World.grownBy_alloc w _ none⟩
theorem cell_alloc {w : World} {p : Addr} {v : Value} {o : Obj} (h : w.cell? p = some v) : (w.alloc o).cell? p = some v :=
  (World.cell?_of_block ((World.grownBy_alloc w o none).block p.block (World.block_lt_of_cell? w p h) (by simp))).trans h
/-- Right's closure -/
theorem own_any (m : Mem) (b : Nat) (x : Int) (w : World) (h : w.cell? ⟨b, 2, none⟩ = some (.int .i64 x)) : Calls Try.prog 18 #[mv m, .pointer (some ⟨b, 0, none⟩)] w (Ret (.bool (m.id == x)) w) := by
  unfold mv
  have h2 := fun o => cell_alloc (o := o) h
  go_enter Try.func18, Try.ntmps18
  go_wp2
  go_ret
  exact ⟨rfl, World.grownBy_alloc w _ none⟩
/-- the first that is so, or -1 -/
def idxZ {α : Type} (p : α → Bool) (l : List α) : Int := match l.findIdx? p with | some i => i | none => -1
theorem idxZ_at {α : Type} {p : α → Bool} {l : List α} {k : Nat} {x : α} (hno : (l.take k).any p = false) (hx : l[k]? = some x) (hp : p x = true) : idxZ p l = k := by
  have h : l.findIdx? p = some k := by
    obtain ⟨hk, rfl⟩ := List.getElem?_eq_some_iff.1 hx
    rw [List.findIdx?_eq_some_iff_getElem]
    refine ⟨hk, hp, fun j hj => ?_⟩
    have := List.any_eq_false.1 hno l[j] (by rw [List.mem_take_iff_getElem]; exact ⟨j, by omega, rfl⟩)
    simpa using this
  unfold idxZ; rw [h]
theorem idxZ_no {α : Type} {p : α → Bool} {l : List α} (h : l.any p = false) : idxZ p l = -1 := by
  have : l.findIdx? p = none := by rw [List.findIdx?_eq_none_iff]; intro x hx; simpa using List.any_eq_false.1 h x hx
  unfold idxZ; rw [this]
theorem idxZ_nn {α : Type} (p : α → Bool) (l : List α) : decide (0 ≤ idxZ p l) = l.any p := by
  rcases h : l.any p with _ | _
  · rw [idxZ_no h]; decide
  · unfold idxZ
    rcases h2 : l.findIdx? p with _ | i
    · exfalso
      rw [List.findIdx?_eq_none_iff] at h2
      obtain ⟨x, hx, hp⟩ := List.any_eq_true.1 h
      have := h2 x hx; rw [hp] at this; cases this
    · simp
theorem any_snoc {α : Type} {p : α → Bool} {l : List α} {k : Nat} {x : α} (hno : (l.take k).any p = false) (hx : l[k]? = some x) : (l.take (k + 1)).any p = p x := by
  obtain ⟨hk, rfl⟩ := List.getElem?_eq_some_iff.1 hx
  rw [List.take_succ_eq_append_getElem hk, List.any_append, hno]; simp
def IdxPost (v : Int) (w : World) (e : Ending) (w' : World) : Prop := e = .returned (.int .i64 v) ∧ Nw w w'
end Go.Proofs.Ytkkkhkkjdjnfhaa


/- slices.IndexFunc and ContainsFunc over members, once for each closure that the program hands them; under a premise on the closure. Printed by gen_idx.py. -/
namespace Go.Proofs.Ytkkkhkkjdjnfhaa
open Go.RowKit Go.BW

theorem index18_any {w : World} {B n d : Nat} {L : Option Addr} {ms : List Mem} (hr : Rd w B 3 L n (fl mc ms)) (hB : B ≤ w.heap.size) (hn : n ≤ 1000000) (c1 : Value) (p : Mem → Bool)
    (HF : ∀ m ∈ ms, ∀ w', Nw w w' → Calls Try.prog 18 #[mv m, c1] w' (Ret (.bool (p m)) w')) :
    Calls Try.prog 19 #[.slice L n d, .func (.func 18) #[] #[c1]] w (IdxPost (idxZ p ms) w) := by
  have HF' := Lib.hid HF
  clear HF
  go_enter Try.func19, Try.ntmps19
  go_wp2_with fail
  go_loopw [8] (fun i wr => ∃ k : Nat, k ≤ n ∧ i = .int .i64 k ∧ Hid ((ms.take k).any p = false) ∧ Nw w wr) (fun i _ => n - (intOf i).toNat)
  case atStart => exact ⟨0, Nat.zero_le _, rfl, Lib.hid rfl, Nw.refl _⟩
  case round =>
    obtain ⟨k, hk, rfl, hno, hnw⟩ := hrel
    by_cases hlt : k < n
    · obtain ⟨hln, b', off, x, rfl, _, hx, hc⟩ := (hr.nw hnw hB).atL mc_len (by decide) hlt
      have hlt' : (k : Int) < (n : Int) := by omega
      have HC := Lib.hid hc
      have HX := Lib.hid hx
      have HT := HF'.out x (List.mem_of_getElem? hx) wr hnw
      obtain ⟨q, hq⟩ : ∃ q, p x = q := ⟨_, rfl⟩
      rw [hq] at HT
      have HQ := Lib.hid hq
      have HT' := Lib.hid (show Calls Try.prog 18 #[.agg (mc x).toArray, c1] wr (fun e w' => e = .returned (.bool q) ∧ Nw wr w') from HT)
      clear hc hx hq HT
      rcases q with _ | _
      · go_wp2_with (first | ((with_reducible refine HT'.out.mono ?_); rintro e w2 ⟨rfl, n2⟩) | refine wpList_load_agg 28 _ rfl rfl rfl (mc x) HC.out _ Try.underlying28 rfl (by rw [mc_len]; kernel_rfl) ?_)
        go_roundw
        case rel => exact ⟨k + 1, by omega, by go_num, Lib.hid (by rw [any_snoc hno.out HX.out]; exact HQ.out), gb_trans hnw n2⟩
        case measure => simp only [intOf]; omega
      · go_wp2_with (first | ((with_reducible refine HT'.out.mono ?_); rintro e w2 ⟨rfl, n2⟩) | refine wpList_load_agg 28 _ rfl rfl rfl (mc x) HC.out _ Try.underlying28 rfl (by rw [mc_len]; kernel_rfl) ?_)
        go_ret
        exact ⟨by rw [idxZ_at hno.out HX.out HQ.out]; rfl, gb_trans hnw n2⟩
    · have hk' : k = n := by omega
      subst hk'
      have hf : ms.any p = false := by
        have h1 := hno.out
        rwa [List.take_of_length_le (by have := hr.lenL mc_len (by decide); omega)] at h1
      have H := Lib.hid (idxZ_no hf)
      clear hf
      go_wp2
      go_ret
      exact ⟨by rw [H.out]; rfl, hnw⟩
theorem has18_any {w : World} {B n d : Nat} {L : Option Addr} {ms : List Mem} (hr : Rd w B 3 L n (fl mc ms)) (hB : B ≤ w.heap.size) (hn : n ≤ 1000000) (c1 : Value) (p : Mem → Bool)
    (HF : ∀ m ∈ ms, ∀ w', Nw w w' → Calls Try.prog 18 #[mv m, c1] w' (Ret (.bool (p m)) w')) :
    Calls Try.prog 17 #[.slice L n d, .func (.func 18) #[] #[c1]] w (Ret (.bool (ms.any p)) w) := by
  have HI := Lib.hid (index18_any (d := d) hr hB hn c1 p HF)
  have hv := idxZ_nn p ms
  unfold IdxPost at HI
  obtain ⟨v, hvv⟩ : ∃ v, idxZ p ms = v := ⟨_, rfl⟩
  rw [hvv] at HI hv
  have HV := Lib.hid hv
  clear hr HF hvv hv
  go_enter Try.func17, Try.ntmps17
  go_wp2_with ((with_reducible refine HI.out.mono ?_); rintro e w2 ⟨rfl, n2⟩)
  go_ret
  exact ⟨by rw [← HV.out]; rfl, n2⟩


theorem index20_any {w : World} {B n d : Nat} {L : Option Addr} {ms : List Mem} (hr : Rd w B 3 L n (fl mc ms)) (hB : B ≤ w.heap.size) (hn : n ≤ 1000000) (c1 : Value) (p : Mem → Bool)
    (HF : ∀ m ∈ ms, ∀ w', Nw w w' → Calls Try.prog 20 #[mv m, c1] w' (Ret (.bool (p m)) w')) :
    Calls Try.prog 19 #[.slice L n d, .func (.func 20) #[] #[c1]] w (IdxPost (idxZ p ms) w) := by
  have HF' := Lib.hid HF
  clear HF
  go_enter Try.func19, Try.ntmps19
  go_wp2_with fail
  go_loopw [8] (fun i wr => ∃ k : Nat, k ≤ n ∧ i = .int .i64 k ∧ Hid ((ms.take k).any p = false) ∧ Nw w wr) (fun i _ => n - (intOf i).toNat)
  case atStart => exact ⟨0, Nat.zero_le _, rfl, Lib.hid rfl, Nw.refl _⟩
  case round =>
    obtain ⟨k, hk, rfl, hno, hnw⟩ := hrel
    by_cases hlt : k < n
    · obtain ⟨hln, b', off, x, rfl, _, hx, hc⟩ := (hr.nw hnw hB).atL mc_len (by decide) hlt
      have hlt' : (k : Int) < (n : Int) := by omega
      have HC := Lib.hid hc
      have HX := Lib.hid hx
      have HT := HF'.out x (List.mem_of_getElem? hx) wr hnw
      obtain ⟨q, hq⟩ : ∃ q, p x = q := ⟨_, rfl⟩
      rw [hq] at HT
      have HQ := Lib.hid hq
      have HT' := Lib.hid (show Calls Try.prog 20 #[.agg (mc x).toArray, c1] wr (fun e w' => e = .returned (.bool q) ∧ Nw wr w') from HT)
      clear hc hx hq HT
      rcases q with _ | _
      · go_wp2_with (first | ((with_reducible refine HT'.out.mono ?_); rintro e w2 ⟨rfl, n2⟩) | refine wpList_load_agg 28 _ rfl rfl rfl (mc x) HC.out _ Try.underlying28 rfl (by rw [mc_len]; kernel_rfl) ?_)
        go_roundw
        case rel => exact ⟨k + 1, by omega, by go_num, Lib.hid (by rw [any_snoc hno.out HX.out]; exact HQ.out), gb_trans hnw n2⟩
        case measure => simp only [intOf]; omega
      · go_wp2_with (first | ((with_reducible refine HT'.out.mono ?_); rintro e w2 ⟨rfl, n2⟩) | refine wpList_load_agg 28 _ rfl rfl rfl (mc x) HC.out _ Try.underlying28 rfl (by rw [mc_len]; kernel_rfl) ?_)
        go_ret
        exact ⟨by rw [idxZ_at hno.out HX.out HQ.out]; rfl, gb_trans hnw n2⟩
    · have hk' : k = n := by omega
      subst hk'
      have hf : ms.any p = false := by
        have h1 := hno.out
        rwa [List.take_of_length_le (by have := hr.lenL mc_len (by decide); omega)] at h1
      have H := Lib.hid (idxZ_no hf)
      clear hf
      go_wp2
      go_ret
      exact ⟨by rw [H.out]; rfl, hnw⟩
theorem has20_any {w : World} {B n d : Nat} {L : Option Addr} {ms : List Mem} (hr : Rd w B 3 L n (fl mc ms)) (hB : B ≤ w.heap.size) (hn : n ≤ 1000000) (c1 : Value) (p : Mem → Bool)
    (HF : ∀ m ∈ ms, ∀ w', Nw w w' → Calls Try.prog 20 #[mv m, c1] w' (Ret (.bool (p m)) w')) :
    Calls Try.prog 17 #[.slice L n d, .func (.func 20) #[] #[c1]] w (Ret (.bool (ms.any p)) w) := by
  have HI := Lib.hid (index20_any (d := d) hr hB hn c1 p HF)
  have hv := idxZ_nn p ms
  unfold IdxPost at HI
  obtain ⟨v, hvv⟩ : ∃ v, idxZ p ms = v := ⟨_, rfl⟩
  rw [hvv] at HI hv
  have HV := Lib.hid hv
  clear hr HF hvv hv
  go_enter Try.func17, Try.ntmps17
  go_wp2_with ((with_reducible refine HI.out.mono ?_); rintro e w2 ⟨rfl, n2⟩)
  go_ret
  exact ⟨by rw [← HV.out]; rfl, n2⟩


theorem index21_any {w : World} {B n d : Nat} {L : Option Addr} {ms : List Mem} (hr : Rd w B 3 L n (fl mc ms)) (hB : B ≤ w.heap.size) (hn : n ≤ 1000000) (p : Mem → Bool)
    (HF : ∀ m ∈ ms, ∀ w', Nw w w' → Calls Try.prog 21 #[mv m] w' (Ret (.bool (p m)) w')) :
    Calls Try.prog 19 #[.slice L n d, .func (.func 21) #[] #[]] w (IdxPost (idxZ p ms) w) := by
  have HF' := Lib.hid HF
  clear HF
  go_enter Try.func19, Try.ntmps19
  go_wp2_with fail
  go_loopw [8] (fun i wr => ∃ k : Nat, k ≤ n ∧ i = .int .i64 k ∧ Hid ((ms.take k).any p = false) ∧ Nw w wr) (fun i _ => n - (intOf i).toNat)
  case atStart => exact ⟨0, Nat.zero_le _, rfl, Lib.hid rfl, Nw.refl _⟩
  case round =>
    obtain ⟨k, hk, rfl, hno, hnw⟩ := hrel
    by_cases hlt : k < n
    · obtain ⟨hln, b', off, x, rfl, _, hx, hc⟩ := (hr.nw hnw hB).atL mc_len (by decide) hlt
      have hlt' : (k : Int) < (n : Int) := by omega
      have HC := Lib.hid hc
      have HX := Lib.hid hx
      have HT := HF'.out x (List.mem_of_getElem? hx) wr hnw
      obtain ⟨q, hq⟩ : ∃ q, p x = q := ⟨_, rfl⟩
      rw [hq] at HT
      have HQ := Lib.hid hq
      have HT' := Lib.hid (show Calls Try.prog 21 #[.agg (mc x).toArray] wr (fun e w' => e = .returned (.bool q) ∧ Nw wr w') from HT)
      clear hc hx hq HT
      rcases q with _ | _
      · go_wp2_with (first | ((with_reducible refine HT'.out.mono ?_); rintro e w2 ⟨rfl, n2⟩) | refine wpList_load_agg 28 _ rfl rfl rfl (mc x) HC.out _ Try.underlying28 rfl (by rw [mc_len]; kernel_rfl) ?_)
        go_roundw
        case rel => exact ⟨k + 1, by omega, by go_num, Lib.hid (by rw [any_snoc hno.out HX.out]; exact HQ.out), gb_trans hnw n2⟩
        case measure => simp only [intOf]; omega
      · go_wp2_with (first | ((with_reducible refine HT'.out.mono ?_); rintro e w2 ⟨rfl, n2⟩) | refine wpList_load_agg 28 _ rfl rfl rfl (mc x) HC.out _ Try.underlying28 rfl (by rw [mc_len]; kernel_rfl) ?_)
        go_ret
        exact ⟨by rw [idxZ_at hno.out HX.out HQ.out]; rfl, gb_trans hnw n2⟩
    · have hk' : k = n := by omega
      subst hk'
      have hf : ms.any p = false := by
        have h1 := hno.out
        rwa [List.take_of_length_le (by have := hr.lenL mc_len (by decide); omega)] at h1
      have H := Lib.hid (idxZ_no hf)
      clear hf
      go_wp2
      go_ret
      exact ⟨by rw [H.out]; rfl, hnw⟩
theorem has21_any {w : World} {B n d : Nat} {L : Option Addr} {ms : List Mem} (hr : Rd w B 3 L n (fl mc ms)) (hB : B ≤ w.heap.size) (hn : n ≤ 1000000) (p : Mem → Bool)
    (HF : ∀ m ∈ ms, ∀ w', Nw w w' → Calls Try.prog 21 #[mv m] w' (Ret (.bool (p m)) w')) :
    Calls Try.prog 17 #[.slice L n d, .func (.func 21) #[] #[]] w (Ret (.bool (ms.any p)) w) := by
  have HI := Lib.hid (index21_any (d := d) hr hB hn  p HF)
  have hv := idxZ_nn p ms
  unfold IdxPost at HI
  obtain ⟨v, hvv⟩ : ∃ v, idxZ p ms = v := ⟨_, rfl⟩
  rw [hvv] at HI hv
  have HV := Lib.hid hv
  clear hr HF hvv hv
  go_enter Try.func17, Try.ntmps17
  go_wp2_with ((with_reducible refine HI.out.mono ?_); rintro e w2 ⟨rfl, n2⟩)
  go_ret
  exact ⟨by rw [← HV.out]; rfl, n2⟩

end Go.Proofs.Ytkkkhkkjdjnfhaa


/- Labels: the data's words. -/
namespace Go.Proofs.Ytkkkhkkjdjnfhaa
open Go.RowKit Go.BW

/-- a label: its numbers, where its members lie, and what they are -/
structure Lb where
  a : Int
  g : Int
  m : Int
  b : Int
  A : Option Addr
  n : Nat
  c : Nat
  ms : List Mem
def lc (x : Lb) : List Value := [.int .i64 x.a, .int .i64 x.g, .int .i64 x.m, .int .i64 x.b, .slice x.A x.n x.c]
def lv (x : Lb) : Value := .agg #[.int .i64 x.a, .int .i64 x.g, .int .i64 x.m, .int .i64 x.b, .slice x.A x.n x.c]
theorem lc_len (x : Lb) : (lc x).length = 5 := rfl
theorem lc_one (xs : List Lb) : ∀ u ∈ fl lc xs, u.oneCell' = true := by
  intro u hu
  unfold fl at hu
  rw [List.mem_flatten] at hu
  obtain ⟨l, hl, hu⟩ := hu
  obtain ⟨m, _, rfl⟩ := List.mem_map.1 hl
  simp [lc] at hu
  rcases hu with rfl | rfl | rfl | rfl | rfl <;> rfl
def l0 : Lb := ⟨0, 0, 0, 0, none, 0, 0, []⟩
theorem T33 : El Try.prog 33 24 (lv l0) 5 56 := El.mk' Try.underlying33 (by kernel_rfl) rfl (by decide)
/-- its members lie below B -/
structure LOk (w : World) (B : Nat) (x : Lb) : Prop where
  rd : Rd w B 3 x.A x.n (fl mc x.ms)
  nc : x.n ≤ x.c
  cm : x.c ≤ maxLen
section
variable {w w' : World} {B B' : Nat} {x : Lb}
theorem LOk.len (h : LOk w B x) : x.ms.length = x.n := h.rd.lenL mc_len (by decide)
theorem LOk.nw (h : LOk w B x) (k : Nw w w') (hB : B ≤ w.heap.size) : LOk w' B x := ⟨h.rd.nw k hB, h.nc, h.cm⟩
theorem LOk.more (h : LOk w B x) (hB : B ≤ B') : LOk w B' x := ⟨h.rd.more hB, h.nc, h.cm⟩
end
/-- members rising, each of which may be -/
def goodFrom : Int → List Mem → Bool
  | _, [] => true
  | last, m :: ms => mayM m && decide (last < m.id) && goodFrom m.id ms
/-- is a label right? -/
def rightB (x : Lb) : Bool := inB x.a 0 4294967295 && inB x.g 1 4294967295 && inB x.b 1 96 && inB x.n 3 12 && goodFrom (-1) x.ms && x.ms.any (fun m => m.id == x.m)
set_option maxHeartbeats 4000000 in
theorem right_any {w : World} {B : Nat} {x : Lb} (h : LOk w B x) (hB : B ≤ w.heap.size) (hn : x.n ≤ 1000000) : Calls Try.prog 10 #[lv x] w (Ret (.bool (rightB x)) w) := by
  have h1 := Lib.hid (fun w' => in_any x.a 0 4294967295 w')
  have h2 := Lib.hid (fun w' => in_any x.g 1 4294967295 w')
  have h3 := Lib.hid (fun w' => in_any x.b 1 96 w')
  have h4 := Lib.hid (fun w' => in_any (x.n : Int) 3 12 w')
  have hm : rightB x = (inB x.a 0 4294967295 && inB x.g 1 4294967295 && inB x.b 1 96 && inB x.n 3 12 && goodFrom (-1) x.ms && x.ms.any (fun m => m.id == x.m)) := rfl
  have hbox := Obj1.new w 24 #[.int .i64 x.a, .int .i64 x.g, .int .i64 x.m, .int .i64 x.b, .slice x.A x.n x.c]
  have hlen := h.len
  obtain ⟨hr, hnc, hcm⟩ := h
  unfold lv
  obtain ⟨a, g, m, b, A, n, c, ms⟩ := x
  simp only at h1 h2 h3 h4 hm hr hnc hcm hbox hlen hn ⊢
  obtain ⟨b1, e1⟩ : ∃ q, inB a 0 4294967295 = q := ⟨_, rfl⟩
  obtain ⟨b2, e2⟩ : ∃ q, inB g 1 4294967295 = q := ⟨_, rfl⟩
  obtain ⟨b3, e3⟩ : ∃ q, inB b 1 96 = q := ⟨_, rfl⟩
  obtain ⟨b4, e4⟩ : ∃ q, inB n 3 12 = q := ⟨_, rfl⟩
  rw [e1, e2, e3, e4] at hm
  rw [e1] at h1
  rw [e2] at h2
  rw [e3] at h3
  rw [e4] at h4
  have H := Lib.hid hm
  obtain ⟨R, hR⟩ : ∃ R, rightB ⟨a, g, m, b, A, n, c, ms⟩ = R := ⟨_, rfl⟩
  rw [hR] at H ⊢
  clear e1 e2 e3 e4 hm hR
  rcases b1 with _ | _
  · go_enter Try.func10, Try.ntmps10
    go_wp2_with (first | ((with_reducible refine (h1.out _).mono ?_); rintro e w' ⟨rfl, rfl⟩) | ((with_reducible refine (h2.out _).mono ?_); rintro e w' ⟨rfl, rfl⟩) | ((with_reducible refine (h3.out _).mono ?_); rintro e w' ⟨rfl, rfl⟩) | ((with_reducible refine (h4.out _).mono ?_); rintro e w' ⟨rfl, rfl⟩))
    go_ret
    exact ⟨by rw [H.out]; rfl, World.grownBy_alloc w _ none⟩
  rcases b2 with _ | _
  · go_enter Try.func10, Try.ntmps10
    go_wp2_with (first | ((with_reducible refine (h1.out _).mono ?_); rintro e w' ⟨rfl, rfl⟩) | ((with_reducible refine (h2.out _).mono ?_); rintro e w' ⟨rfl, rfl⟩) | ((with_reducible refine (h3.out _).mono ?_); rintro e w' ⟨rfl, rfl⟩) | ((with_reducible refine (h4.out _).mono ?_); rintro e w' ⟨rfl, rfl⟩))
    go_ret
    exact ⟨by rw [H.out]; rfl, World.grownBy_alloc w _ none⟩
  rcases b3 with _ | _
  · go_enter Try.func10, Try.ntmps10
    go_wp2_with (first | ((with_reducible refine (h1.out _).mono ?_); rintro e w' ⟨rfl, rfl⟩) | ((with_reducible refine (h2.out _).mono ?_); rintro e w' ⟨rfl, rfl⟩) | ((with_reducible refine (h3.out _).mono ?_); rintro e w' ⟨rfl, rfl⟩) | ((with_reducible refine (h4.out _).mono ?_); rintro e w' ⟨rfl, rfl⟩))
    go_ret
    exact ⟨by rw [H.out]; rfl, World.grownBy_alloc w _ none⟩
  rcases b4 with _ | _
  · go_enter Try.func10, Try.ntmps10
    go_wp2_with (first | ((with_reducible refine (h1.out _).mono ?_); rintro e w' ⟨rfl, rfl⟩) | ((with_reducible refine (h2.out _).mono ?_); rintro e w' ⟨rfl, rfl⟩) | ((with_reducible refine (h3.out _).mono ?_); rintro e w' ⟨rfl, rfl⟩) | ((with_reducible refine (h4.out _).mono ?_); rintro e w' ⟨rfl, rfl⟩))
    go_ret
    exact ⟨by rw [H.out]; rfl, World.grownBy_alloc w _ none⟩
  go_enter Try.func10, Try.ntmps10
  go_wp2_with (first | ((with_reducible refine (h1.out _).mono ?_); rintro e w' ⟨rfl, rfl⟩) | ((with_reducible refine (h2.out _).mono ?_); rintro e w' ⟨rfl, rfl⟩) | ((with_reducible refine (h3.out _).mono ?_); rintro e w' ⟨rfl, rfl⟩) | ((with_reducible refine (h4.out _).mono ?_); rintro e w' ⟨rfl, rfl⟩))
  have HBX := Lib.hid hbox
  have N0 := Lib.hid (World.grownBy_alloc w (.cells #[.int .i64 a, .int .i64 g, .int .i64 m, .int .i64 b, .slice A n c] 24) none)
  obtain ⟨W, hW⟩ : ∃ W, w.alloc (.cells #[.int .i64 a, .int .i64 g, .int .i64 m, .int .i64 b, .slice A n c] 24) = W := ⟨_, rfl⟩
  rw [hW] at HBX N0 ⊢
  have HR := Lib.hid (hr.nw N0.out hB)
  have HBW := Lib.hid (show B ≤ W.heap.size from Nat.le_trans hB N0.out.size)
  have hbw : w.heap.size < W.heap.size := HBX.out.lt
  obtain ⟨y, hy⟩ : ∃ y, w.heap.size = y := ⟨_, rfl⟩
  rw [hy] at HBX hbw ⊢
  have HLN := Lib.hid hlen
  clear hbox hW hr hy hlen
  go_loopw [3, 32] (fun last i wr => ∃ (k : Nat) (lz : Int), k ≤ n ∧ i = .int .i64 k ∧ last = .int .i64 lz ∧ Hid (goodFrom (-1) ms = goodFrom lz (ms.drop k)) ∧ Nw W wr) (fun _ i _ => n - (intOf i).toNat)
  case atStart => exact ⟨0, -1, Nat.zero_le _, rfl, rfl, Lib.hid rfl, Nw.refl _⟩
  case round =>
    obtain ⟨k, lz, hk, rfl, rfl, hgo, hnw⟩ := hrel
    by_cases hlt : k < n
    · obtain ⟨_, b', off, x, rfl, _, hx, hc⟩ := (HR.out.nw hnw HBW.out).atL mc_len (by decide) hlt
      have hlt' : (k : Int) < (n : Int) := by omega
      have hg2 : goodFrom lz (ms.drop k) = (mayM x && decide (lz < x.id) && goodFrom x.id (ms.drop (k + 1))) := by
        obtain ⟨hk2, rfl⟩ := List.getElem?_eq_some_iff.1 hx
        rw [List.drop_eq_getElem_cons hk2]; rfl
      have HM := Lib.hid (fun w' => may_any x w')
      obtain ⟨q, hq⟩ : ∃ q, mayM x = q := ⟨_, rfl⟩
      rw [hq] at HM hg2
      have HC := Lib.hid hc
      obtain ⟨xi, xs, xt⟩ := x
      change Hid (∀ j u, [Value.int .i64 xi, .int .i64 xs, .int .i64 xt][j]? = some u → _) at HC
      simp only at hg2
      unfold mv Ret at HM
      simp only at HM
      have HG := Lib.hid (hgo.out.trans hg2)
      clear hc hx hq hg2 hgo
      rcases q with _ | _
      · have HF := Lib.hid (show R = false by rw [H.out, HG.out]; simp)
        clear HG H
        go_wp2_with (first | ((with_reducible refine (HM.out _).mono ?_); rintro e w2 ⟨rfl, n2⟩; have hcl : w2.cell? ⟨wr.heap.size, 0, none⟩ = some (.int .i64 xi) := ((Obj1.new wr 28 #[.int .i64 xi, .int .i64 xs, .int .i64 xt]).nw n2).cell 0) | refine wpList_load_agg 28 _ rfl rfl rfl [.int .i64 xi, .int .i64 xs, .int .i64 xt] HC.out _ Try.underlying28 rfl (by kernel_rfl) ?_)
        go_ret
        exact ⟨by rw [HF.out]; rfl, gb_trans N0.out (gb_trans hnw (gb_trans (World.grownBy_alloc wr _ none) n2))⟩
      · rcases (show xi ≤ lz ∨ lz < xi by omega) with h5 | h5
        · have HF := Lib.hid (show R = false by rw [H.out, HG.out, decide_eq_false (show ¬ lz < xi by omega)]; simp)
          clear HG H
          go_wp2_with (first | ((with_reducible refine (HM.out _).mono ?_); rintro e w2 ⟨rfl, n2⟩; have hcl : w2.cell? ⟨wr.heap.size, 0, none⟩ = some (.int .i64 xi) := ((Obj1.new wr 28 #[.int .i64 xi, .int .i64 xs, .int .i64 xt]).nw n2).cell 0) | refine wpList_load_agg 28 _ rfl rfl rfl [.int .i64 xi, .int .i64 xs, .int .i64 xt] HC.out _ Try.underlying28 rfl (by kernel_rfl) ?_)
          go_ret
          exact ⟨by rw [HF.out]; rfl, gb_trans N0.out (gb_trans hnw (gb_trans (World.grownBy_alloc wr _ none) n2))⟩
        · have HF := Lib.hid (show goodFrom (-1) ms = goodFrom xi (ms.drop (k + 1)) by rw [HG.out, decide_eq_true h5]; simp)
          clear HG
          go_wp2_with (first | ((with_reducible refine (HM.out _).mono ?_); rintro e w2 ⟨rfl, n2⟩; have hcl : w2.cell? ⟨wr.heap.size, 0, none⟩ = some (.int .i64 xi) := ((Obj1.new wr 28 #[.int .i64 xi, .int .i64 xs, .int .i64 xt]).nw n2).cell 0) | refine wpList_load_agg 28 _ rfl rfl rfl [.int .i64 xi, .int .i64 xs, .int .i64 xt] HC.out _ Try.underlying28 rfl (by kernel_rfl) ?_)
          go_roundw
          case rel => exact ⟨k + 1, xi, by omega, by go_num, rfl, HF, gb_trans hnw (gb_trans (World.grownBy_alloc wr _ none) n2)⟩
          case measure => simp only [intOf]; omega
    · have hkn : k = n := by omega
      subst hkn
      have hg : goodFrom (-1) ms = true := by rw [hgo.out, List.drop_of_length_le (by rw [HLN.out]; exact Nat.le_refl _)]; rfl
      have HF := Lib.hid (show R = ms.any fun q => q.id == m by rw [H.out, hg]; simp)
      have hb2 := HBX.out.nw hnw
      have k4 : wr.cell? ⟨y, 4, none⟩ = some (.slice A k c) := hb2.cell 4
      have HH := Lib.hid (has18_any (d := c) (HR.out.nw hnw HBW.out) (Nat.le_trans HBW.out hnw.size) hn (.pointer (some ⟨y, 0, none⟩)) (fun q => q.id == m) (fun q _ w' hw' => own_any q y m w' ((hb2.nw hw').cell 2)))
      rw [← HF.out] at HH
      unfold Ret at HH
      clear hg H hgo hb2
      go_wp2_with (first | ((with_reducible refine HH.out.mono ?_); rintro e w2 ⟨rfl, n2⟩))
      go_ret
      exact ⟨rfl, gb_trans N0.out (gb_trans hnw n2)⟩
end Go.Proofs.Ytkkkhkkjdjnfhaa

