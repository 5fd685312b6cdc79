/- What slices.Clone of members returns, and the statements' cut and three. -/
import Derived.Test.YtkkkhkkjdjnfhaaJC
import Derived.Test.YtkkkhkkjdjnfhaaJA
import Derived.Lib.SliceRun
import Derived.Deep.DeepCutAuto
set_option linter.unusedVariables false
set_option linter.unusedSimpArgs false
/- What slices.Clone of members returns, and the statements' cut and three. -/
namespace Go.Proofs.Ytkkkhkkjdjnfhaa
open Go.RowKit Go.BW

theorem clone_any {w : World} {B n c : Nat} {A : Option Addr} {ms : List Mem} (hr : Rd w B 3 A n (fl mc ms)) (hB : B ≤ w.heap.size) (hn : n ≤ 1000000) : Calls Try.prog 22 #[.slice A n c] w (RetOwn 28 3 (fl mc ms) w) := by
  have h1 := mc_one ms
  have hs : n * 24 ≤ 140737488355328 ∧ n ≤ maxLen := by unfold maxLen; omega
  have qn := fun (w : World) (A : Option Addr) => Lib.run_eql_slice_nil (P := Try.prog) w 22 28 A n c 0 0 Try.underlying22
  rcases A with _ | a
  · have h0 : n = 0 := by
      rcases Nat.eq_zero_or_pos n with h | h
      · exact h
      · obtain ⟨_, _, h, _⟩ := hr.2 h; cases h
    subst h0
    have e : fl mc ms = [] := List.eq_nil_of_length_eq_zero (by simpa using hr.1)
    rw [e]
    go_enter Try.func22, Try.ntmps22
    go_wp2
    go_ret
    exact ⟨none, 0, 0, rfl, Own.nil, Nw.refl _⟩
  · go_enter Try.func22, Try.ntmps22
    go_wp2_with (at_builtin; refine wpList_app_lit T22 _ _ rfl rfl w.heap.size rfl rfl hr hB h1 hs (Nat.le_refl _) ?_; intro A' c' w' h2 h3)
    go_ret
    exact ⟨_, _, _, rfl, h2, h3⟩
theorem lc_one1 (a g m b : Int) (A : Option Addr) (n c : Nat) : ∀ u ∈ [Value.int .i64 a, .int .i64 g, .int .i64 m, .int .i64 b, .slice A n c], u.oneCell' = true := by
  intro u hu; simp at hu; rcases hu with rfl | rfl | rfl | rfl | rfl <;> rfl
theorem cut_len (n M : Nat) : ∃ k : Nat, (if (M : Int) < (n : Int) then (M : Int) else n) = (k : Int) ∧ k = min n M := by
  refine ⟨min n M, ?_, rfl⟩
  split <;> omega
def CutPost (x : Lb) (w : World) (e : Ending) (w' : World) : Prop :=
  ∃ A' n' c', e = .returned (lv ⟨x.a, x.g, x.m, x.b, A', n', c', x.ms.take 20⟩) ∧ Own w' w.heap.size 28 3 A' n' c' (fl mc (x.ms.take 20)) ∧ Nw w w'
set_option maxHeartbeats 4000000 in
theorem cut_any {w : World} {B : Nat} {x : Lb} (h : LOk w B x) (hB : B ≤ w.heap.size) : Calls Try.prog 9 #[lv x] w (CutPost x w) := by
  obtain ⟨i0, hi0, hz0, hs0, _⟩ := T33.info
  have H0 := Lib.hid hi0; have HZ := Lib.hid hz0
  obtain ⟨k, hk, hkm⟩ := cut_len x.n 20
  have HK := Lib.hid (show (if (20 : Int) < (x.n : Int) then (20 : Int) else (x.n : Int)) = (k : Int) from hk)
  have hlen := h.len
  obtain ⟨hr, hnc, hcm⟩ := h
  have hrk := hr.takeL mc_len (k := k) (by omega)
  have hms : x.ms.take k = x.ms.take 20 := by
    rcases Nat.le_total x.n 20 with h | h
    · rw [List.take_of_length_le (by omega), List.take_of_length_le (by omega)]
    · rw [show k = 20 by omega]
  rw [hms] at hrk
  have hkc : k ≤ x.c := by omega
  have h1 := mc_one (x.ms.take 20)
  have hs : k * 24 ≤ 140737488355328 ∧ k ≤ maxLen := by unfold maxLen; omega
  have hbox := Obj1.new w 24 #[.int .i64 x.a, .int .i64 x.g, .int .i64 x.m, .int .i64 x.b, .slice x.A x.n x.c]
  unfold lv
  have hP : ∀ A' n' c' w', CutPost x w (.returned (.agg #[.int .i64 x.a, .int .i64 x.g, .int .i64 x.m, .int .i64 x.b, .slice A' n' c'])) w' ↔ (Own w' w.heap.size 28 3 A' n' c' (fl mc (x.ms.take 20)) ∧ Nw w w') := by
    intro A' n' c' w'
    constructor
    · rintro ⟨A2, n2, c2, e, h1, h2⟩
      unfold lv at e
      simp only [Ending.returned.injEq, Value.agg.injEq, Array.mk.injEq, List.cons.injEq, Value.slice.injEq, and_true, true_and] at e
      obtain ⟨rfl, rfl, rfl⟩ := e
      exact ⟨h1, h2⟩
    · rintro ⟨h1, h2⟩; exact ⟨_, _, _, rfl, h1, h2⟩
  have HP := Lib.hid hP
  obtain ⟨a, g, m, b, A, n, c, ms⟩ := x
  simp only at HK hr hnc hcm hrk hkc h1 hbox HP ⊢
  have HR := Lib.hid hrk
  generalize ms.take 20 = mt at *
  clear hi0 hz0 hs0 hk hkm hms hr hlen hrk hP
  obtain ⟨X, hX⟩ : ∃ X : Lb, X = ⟨a, g, m, b, A, n, c, ms⟩ := ⟨_, rfl⟩
  rw [← hX] at HP ⊢
  clear hX
  have ho1 := obj_fst w 24 #[.int .i64 a, .int .i64 g, .int .i64 m, .int .i64 b, .slice A n c] (.cells #[.int .i64 0, .int .i64 0, .int .i64 0, .int .i64 0, .slice none 0 0] 24)
  have ho2 := obj_snd w (.cells #[.int .i64 a, .int .i64 g, .int .i64 m, .int .i64 b, .slice A n c] 24) 24 #[.int .i64 0, .int .i64 0, .int .i64 0, .int .i64 0, .slice none 0 0]
  have hn2 := gb_trans (World.grownBy_alloc w (.cells #[.int .i64 a, .int .i64 g, .int .i64 m, .int .i64 b, .slice A n c] 24) none) (World.grownBy_alloc _ (.cells #[.int .i64 0, .int .i64 0, .int .i64 0, .int .i64 0, .slice none 0 0] 24) none)
  have HO1 := Lib.hid ho1; have HO2 := Lib.hid ho2; have N2 := Lib.hid hn2
  clear hbox
  go_enter Try.func9, Try.ntmps9
  go_upto_region 1 with fail
  obtain ⟨W, hW⟩ : ∃ W, (w.alloc (.cells #[.int .i64 a, .int .i64 g, .int .i64 m, .int .i64 b, .slice A n c] 24)).alloc (.cells #[.int .i64 0, .int .i64 0, .int .i64 0, .int .i64 0, .slice none 0 0] 24) = W := ⟨_, rfl⟩
  obtain ⟨y, hy⟩ : ∃ y, w.heap.size = y := ⟨_, rfl⟩
  rw [hW] at ho1 ho2 hn2 ⊢
  have hyz : y ≠ y + 1 := by omega
  rw [hy] at ho1 ho2 ⊢
  have HO1 := Lib.hid ho1; have HO2 := Lib.hid ho2; have N2 := Lib.hid hn2
  have hc4 := fun o => cell_alloc (o := o) (show W.cell? ⟨y, 4, none⟩ = some (.slice A n c) from ho1.cell 4)
  obtain ⟨z, hz⟩ : ∃ z, y + 1 = z := ⟨_, rfl⟩
  rw [hz] at HO2 hyz ⊢
  have hyw : w.heap.size ≤ y := by omega
  have hzw : w.heap.size ≤ z := by omega
  clear ho1 ho2 hn2 hW hz hy
  go_wp2_with (first
    | (refine wpList_store_obj 24 _ _ rfl rfl [.int .i64 a, .int .i64 g, .int .i64 m, .int .i64 b, .slice A' k c'] rfl rfl rfl (by kernel_rfl) (lc_one1 a g m b A' k c') Q2.out rfl ?_; intro w4 s1 s2)
    | (refine wpList_load_obj 24 _ rfl rfl rfl Q1.out _ Try.underlying24 rfl (by kernel_rfl) ?_)
    | (at_builtin; refine wpList_app_lit T22 _ _ rfl rfl w.heap.size rfl rfl (HR.out.nw N2.out hB) (Nat.le_trans hB N2.out.size) h1 hs N2.out.size ?_; intro A' c' w3 h2 h3; have P1 := Lib.hid (HO1.out.nw h3); have P2 := Lib.hid (HO2.out.nw h3); have N3 := Lib.hid (gb_trans N2.out h3); have hcell := P1.out.cell 4; have hfz := P1.out.frozen 4; have Q1 := Lib.hid (show Obj1 (w3.setCell ⟨y, 4, none⟩ (.slice A' k c')) y 24 #[.int .i64 a, .int .i64 g, .int .i64 m, .int .i64 b, .slice A' k c'] from P1.out.set 4 _); have Q2 := Lib.hid (P2.out.chg (Chg.set w3 (p := ⟨y, 4, none⟩) (F := [y]) (by simp) (.slice A' k c')) (by simpa using Ne.symm hyz)))
    | (refine wpList_slice_hi 22 28 Try.underlying22 (size := 3) (by kernel_rfl) _ _ rfl rfl A n c k rfl rfl hkc ?_)
    | (refine wpList_min_int _ _ _ rfl rfl (n : Int) 20 rfl rfl HK.out ?_))
  refine bodyPost_ret (res_cell rfl _ _ _ 24 _ _ rfl s1 Try.underlying24 rfl (by kernel_rfl)) rfl ?_
  have g1 : w3.grownBy (w3.setCell ⟨y, 4, none⟩ (.slice A' k c')) (some y) := gb_set (gb_nw (Nw.refl w3)) (.inl rfl) _
  have o1 := h2.kept g1 (fun r hr e => by injection hr with hr; subst hr; obtain ⟨cur, ho⟩ := h2.rowObj _ e; exact ho.ne P1.out (by decide) rfl)
  have o2 := o1.kept s2 (fun r hr e => by injection hr with hr; subst hr; obtain ⟨cur, ho⟩ := o1.rowObj _ e; exact ho.ne Q2.out (by decide) rfl)
  exact (HP.out A' k c' w4).2 ⟨o2, nw_of_gb (nw_of_gb N3.out g1 (fun r hr => by injection hr with hr; omega)) s2 (fun r hr => by injection hr with hr; omega)⟩
theorem three_any (g m : Int) (w : World) : Calls Try.prog 14 #[.int .i64 g, .int .i64 m] w
    (fun e w' => ∃ A n c, e = .returned (lv ⟨9, g, m, 16, A, n, c, [⟨0, 200, 0⟩, ⟨1, 300, 0⟩, ⟨2, 160, 0⟩]⟩) ∧ Own w' w.heap.size 28 3 A n c (fl mc [⟨0, 200, 0⟩, ⟨1, 300, 0⟩, ⟨2, 160, 0⟩]) ∧ Nw w w') := by
  unfold lv
  go_enter Try.func14, Try.ntmps14
  go_wp2
  refine bodyPost_ret (res_cell rfl _ _ _ 24 _ _ rfl (obj_fst _ _ _ _) Try.underlying24 rfl (by kernel_rfl)) rfl ?_
  exact ⟨_, _, _, rfl, (obj_snd w _ 28 _).ownN rfl (by omega) (by unfold maxLen; decide), gb_trans (World.grownBy_alloc w _ none) (World.grownBy_alloc _ _ none)⟩
end Go.Proofs.Ytkkkhkkjdjnfhaa


/- What quorum.Lost returns, for every label. -/
namespace Go.Proofs.Ytkkkhkkjdjnfhaa
open Go.RowKit Go.BW

theorem lost1_any (m : Mem) (b : Nat) (x : Int) (w : World) (h : w.cell? ⟨b, 0, none⟩ = some (.int .i64 x)) : Calls Try.prog 20 #[mv m, .pointer (some ⟨b, 0, none⟩)] w (Ret (.bool (m.id == x)) w) := by
  unfold mv
  have h2 := fun o => cell_alloc (o := o) h
  go_enter Try.func20, Try.ntmps20
  go_wp2
  go_ret
  exact ⟨rfl, World.grownBy_alloc w _ none⟩
theorem lost2_any (m : Mem) (w : World) : Calls Try.prog 21 #[mv m] w (Ret (.bool (m.st == 1)) w) := by
  unfold mv
  go_enter Try.func21, Try.ntmps21
  go_wp2
  go_ret
  exact ⟨rfl, World.grownBy_alloc w _ none⟩
def failed (m : Mem) : Mem := ⟨m.id, m.sec, 1⟩
/-- the members with one that has failed -/
def lostM (ms : List Mem) (id : Int) : List Mem := match ms.findIdx? (fun m => m.id == id) with | some i => ms.modify i failed | none => ms
def lostL (x : Lb) (id : Int) : Lb := ⟨x.a, x.g + 1, x.m, x.b, x.A, x.n, x.c, lostM x.ms id⟩
/-- what Lost answers beside the label -/
def lostE (x : Lb) (id : Int) : Int :=
  if rightB x = false then 1 else
  match x.ms.find? (fun m => m.id == id) with
  | none => 1
  | some m => if m.st ≠ 0 then 9 else if x.ms.any (fun m => m.st == 1) then 5 else if rightB (lostL x id) then 0 else 3
def LostPost (x : Lb) (id : Int) (w : World) (e : Ending) (w' : World) : Prop :=
  Nw w w' ∧ ((lostE x id ≠ 0 ∧ e = .returned (.tuple #[lv l0, .int .i64 (lostE x id)])) ∨
    (lostE x id = 0 ∧ ∃ A n c, e = .returned (.tuple #[lv ⟨x.a, x.g + 1, x.m, x.b, A, n, c, lostM x.ms id⟩, .int .i64 0]) ∧ Own w' w.heap.size 28 3 A n c (fl mc (lostM x.ms id))))
theorem modify_set {ms : List Mem} {i : Nat} {q : Mem} (h : ms[i]? = some q) (f : Mem → Mem) : ms.modify i f = ms.set i (f q) := by
  obtain ⟨hi, hq⟩ := List.getElem?_eq_some_iff.1 h
  apply List.ext_getElem?
  intro j
  rw [List.getElem?_modify, List.getElem?_set]
  by_cases e : i = j
  · subst e; simp [hi, hq]
  · simp [e]
theorem find_of_idx {p : Mem → Bool} {ms : List Mem} : (idxZ p ms = -1 ∧ ms.find? p = none ∧ ms.findIdx? p = none) ∨ ∃ (i : Nat) (m : Mem), idxZ p ms = i ∧ ms[i]? = some m ∧ p m = true ∧ ms.find? p = some m ∧ ms.findIdx? p = some i := by
  unfold idxZ
  rcases h : ms.findIdx? p with _ | i
  · refine .inl ⟨rfl, ?_, rfl⟩
    rw [List.findIdx?_eq_none_iff] at h
    rw [List.find?_eq_none]
    intro x hx; simpa using h x hx
  · right
    have h2 := h
    rw [List.findIdx?_eq_some_iff_getElem] at h2
    obtain ⟨hi, hp, hno⟩ := h2
    refine ⟨i, ms[i], rfl, List.getElem?_eq_getElem hi, hp, ?_, rfl⟩
    rw [List.find?_eq_some_iff_getElem]
    exact ⟨hp, i, hi, rfl, fun j hj => by simpa using hno j hj⟩
theorem lost_err {X : Lb} {id v : Int} {w w' : World} (h : lostE X id = v) (hv : v ≠ 0) (hw : Nw w w') : LostPost X id w (.returned (.tuple #[.agg #[.int .i64 0, .int .i64 0, .int .i64 0, .int .i64 0, .slice none 0 0], .int .i64 v])) w' := by
  subst h; exact ⟨hw, .inl ⟨hv, rfl⟩⟩
theorem lost_ok {X : Lb} {id : Int} {A : Option Addr} {n c : Nat} {w w' : World} (h : lostE X id = 0) (hw : Nw w w') (ho : Own w' w.heap.size 28 3 A n c (fl mc (lostM X.ms id))) :
    LostPost X id w (.returned (.tuple #[.agg #[.int .i64 X.a, .int .i64 (X.g + 1), .int .i64 X.m, .int .i64 X.b, .slice A n c], .int .i64 0])) w' := ⟨hw, .inr ⟨h, A, n, c, rfl, ho⟩⟩
/-- the first steps' worlds: three new variables -/
theorem three_new (w : World) (t0 t1 t2 : TypeId) (c0 c1 c2 : Array Value) : ∃ W, ((w.alloc (.cells c0 t0)).alloc (.cells c1 t1)).alloc (.cells c2 t2) = W ∧ Obj1 W w.heap.size t0 c0 ∧ Obj1 W (w.heap.size + 1) t1 c1 ∧ Obj1 W (w.heap.size + 1 + 1) t2 c2 ∧ Nw w W := by
  refine ⟨_, rfl, ?_, ?_, ?_, ?_⟩
  · exact (obj_fst w t0 c0 _).nw (World.grownBy_alloc _ _ none)
  · exact (obj_snd w _ t1 c1).nw (World.grownBy_alloc _ _ none)
  · have h := Obj1.new ((w.alloc (.cells c0 t0)).alloc (.cells c1 t1)) t2 c2
    simpa using h
  · exact gb_trans (gb_trans (World.grownBy_alloc w _ none) (World.grownBy_alloc _ _ none)) (World.grownBy_alloc _ _ none)
theorem zero5_one : ∀ u ∈ [Value.int .i64 0, .int .i64 0, .int .i64 0, .int .i64 0, .slice none 0 0], u.oneCell' = true := lc_one1 0 0 0 0 none 0 0
set_option maxRecDepth 100000 in
set_option maxHeartbeats 8000000 in
theorem lost_go {w : World} {B : Nat} {X : Lb} {id a g m b : Int} {A : Option Addr} {n c : Nat} {ms : List Mem} (hX : X = ⟨a, g, m, b, A, n, c, ms⟩) (h : LOk w B X) (hB : B ≤ w.heap.size) (hn : n ≤ 1000000) :
    Calls Try.prog 11 #[.agg #[.int .i64 a, .int .i64 g, .int .i64 m, .int .i64 b, .slice A n c], .int .i64 id] w (LostPost X id w) := by
  have HRT := Lib.hid (fun w' (k : Nw w w') => show Calls Try.prog 10 #[.agg #[.int .i64 a, .int .i64 g, .int .i64 m, .int .i64 b, .slice A n c]] w' (Ret (.bool (rightB X)) w') from by
    have h1 := right_any (h.nw k hB) (Nat.le_trans hB k.size) (by rw [hX]; exact hn)
    unfold lv at h1; rw [hX] at h1 ⊢; exact h1)
  have HE := Lib.hid (fun v (hv : v ≠ 0) (he : lostE X id = v) w' (hw : Nw w w') => lost_err he hv hw)
  have hle : lostE X id = (if rightB X = false then 1 else match ms.find? (fun q => q.id == id) with | none => 1 | some q => if q.st ≠ 0 then 9 else if ms.any (fun q => q.st == 1) then 5 else if rightB (lostL X id) then 0 else 3) := by rw [hX]; rfl
  have hfi := @find_of_idx (fun q => q.id == id) ms
  have hr : Rd w B 3 A n (fl mc ms) := by have := h.rd; rw [hX] at this; exact this
  have HGB := Lib.hid (show rightB X = true → 1 ≤ g ∧ g ≤ 4294967295 by rw [hX]; intro h; unfold rightB inB at h; simp at h; omega)
  obtain ⟨rb, hrb⟩ : ∃ rb, rightB X = rb := ⟨_, rfl⟩
  obtain ⟨iz, hiz⟩ : ∃ iz, idxZ (fun q : Mem => q.id == id) ms = iz := ⟨_, rfl⟩
  rw [hrb] at HRT hle HGB
  rw [hiz] at hfi
  have HLE := Lib.hid hle; have HFI := Lib.hid hfi; have HIZ := Lib.hid hiz; have HXX := Lib.hid hX
  unfold Ret at HRT
  clear hle hfi hrb hiz
  obtain ⟨W, hW, o0, o1, o2, nW⟩ := three_new w 24 3 24 #[.int .i64 a, .int .i64 g, .int .i64 m, .int .i64 b, .slice A n c] #[.int .i64 id] #[.int .i64 0, .int .i64 0, .int .i64 0, .int .i64 0, .slice none 0 0]
  go_enter Try.func11, Try.ntmps11
  go_upto_region 1 with fail
  try rw [hW]
  obtain ⟨y0, h0⟩ : ∃ y, w.heap.size = y := ⟨_, rfl⟩
  obtain ⟨y1, h1⟩ : ∃ y, w.heap.size + 1 = y := ⟨_, rfl⟩
  obtain ⟨y2, h2⟩ : ∃ y, w.heap.size + 1 + 1 = y := ⟨_, rfl⟩
  rw [h2] at o2 ⊢
  rw [h1] at o1 ⊢
  rw [h0] at o0 ⊢
  have d02 : y0 ≠ y2 := by omega
  have hy0 : w.heap.size ≤ y0 := by omega
  have hy2 : w.heap.size ≤ y2 := by omega
  have O0 := Lib.hid o0; have O1 := Lib.hid o1; have O2 := Lib.hid o2; have N0 := Lib.hid nW
  have k4 : W.cell? ⟨y0, 4, none⟩ = some (.slice A n c) := o0.cell 4
  have HR := Lib.hid hr
  have HI := Lib.hid (index20_any (d := c) (hr.nw nW hB) (Nat.le_trans hB nW.size) hn (.pointer (some ⟨y1, 0, none⟩)) (fun q => q.id == id) (fun q _ w' hw' => lost1_any q y1 id w' ((o1.nw hw').cell 0)))
  rw [HIZ.out] at HI
  unfold IdxPost at HI
  clear hX h hr o0 o1 o2 nW hW h0 h1 h2
  rcases rb with _ | _
  · have HV := Lib.hid (HE.out 1 (by decide) (by rw [HLE.out]; rfl))
    go_wp2_with (first | (refine wpList_store_obj 24 _ _ rfl rfl [.int .i64 0, .int .i64 0, .int .i64 0, .int .i64 0, .slice none 0 0] rfl rfl rfl (by kernel_rfl) zero5_one O2b.out rfl ?_; intro w4 s1 s2) | ((with_reducible refine (HRT.out _ N1.out).mono ?_); rintro e w2 ⟨rfl, n2⟩; have O0b := Lib.hid (O0a.out.nw n2); have O2b := Lib.hid (O2a.out.nw n2); have N2 := Lib.hid (gb_trans N1.out n2); clear n2) | (refine wpList_load_obj 24 _ rfl rfl rfl O0a.out _ Try.underlying24 rfl (by kernel_rfl) ?_) | ((with_reducible refine HI.out.mono ?_); rintro e w1 ⟨rfl, n1⟩; have O0a := Lib.hid (O0.out.nw n1); have O2a := Lib.hid (O2.out.nw n1); have N1 := Lib.hid (gb_trans N0.out n1); clear n1))
    (refine bodyPost_ret (res_cell_tmp rfl _ _ _ 24 _ _ rfl s1 Try.underlying24 rfl (by kernel_rfl)) rfl ?_)
    exact HV.out w4 (nw_of_gb N2.out s2 (fun r hr => by injection hr with hr; omega))
  rcases HFI.out with ⟨hi, hf, _⟩ | ⟨i, q, hi, hget, hp, hf, hix⟩
  · subst hi
    have HV := Lib.hid (HE.out 1 (by decide) (by rw [HLE.out, hf]; rfl))
    clear hf HFI
    go_wp2_with (first | (refine wpList_store_obj 24 _ _ rfl rfl [.int .i64 0, .int .i64 0, .int .i64 0, .int .i64 0, .slice none 0 0] rfl rfl rfl (by kernel_rfl) zero5_one O2b.out rfl ?_; intro w4 s1 s2) | ((with_reducible refine (HRT.out _ N1.out).mono ?_); rintro e w2 ⟨rfl, n2⟩; have O0b := Lib.hid (O0a.out.nw n2); have O2b := Lib.hid (O2a.out.nw n2); have N2 := Lib.hid (gb_trans N1.out n2); clear n2) | (refine wpList_load_obj 24 _ rfl rfl rfl O0a.out _ Try.underlying24 rfl (by kernel_rfl) ?_) | ((with_reducible refine HI.out.mono ?_); rintro e w1 ⟨rfl, n1⟩; have O0a := Lib.hid (O0.out.nw n1); have O2a := Lib.hid (O2.out.nw n1); have N1 := Lib.hid (gb_trans N0.out n1); clear n1))
    (refine bodyPost_ret (res_cell_tmp rfl _ _ _ 24 _ _ rfl s1 Try.underlying24 rfl (by kernel_rfl)) rfl ?_)
    exact HV.out w4 (nw_of_gb N2.out s2 (fun r hr => by injection hr with hr; omega))
  subst hi
  have HIX := Lib.hid hix; have HGET := Lib.hid hget
  have hin : i < n := by have h1 := (List.getElem?_eq_some_iff.1 hget).1; have h2 := HR.out.lenL mc_len (by decide); omega
  obtain ⟨_, b', off, q', rfl, _, hq', hc⟩ := HR.out.atL mc_len (by decide) hin
  rw [hget] at hq'
  injection hq' with hq'
  subst hq'
  have hrn : ∀ w', Nw W w' → Rd w' B 3 (some ⟨b', off, none⟩) n (fl mc ms) := fun w' k => HR.out.nw (gb_trans N0.out k) hB
  have HCQ := Lib.hid (fun w' (k : Nw W w') => show w'.cell? ⟨b', off + i * 3 + 2, none⟩ = some (.int .i64 q.st) from by
    obtain ⟨_, b2, off2, q2, e, _, hq2, hc2⟩ := (hrn w' k).atL mc_len (by decide) hin
    injection e with e; injection e with e1 e2; subst e1; subst e2
    rw [hget] at hq2; injection hq2 with hq2; subst hq2
    exact hc2 2 _ rfl)
  have HH := Lib.hid (fun w' (k : Nw W w') => has21_any (d := c) (hrn w' k) (Nat.le_trans hB (gb_trans N0.out k).size) hn (fun q => q.st == 1) (fun q _ w'' _ => lost2_any q w''))
  have HCL := Lib.hid (fun w' (k : Nw W w') => clone_any (c := c) (hrn w' k) (Nat.le_trans hB (gb_trans N0.out k).size) hn)
  have hin' : (i : Int) < (n : Int) := by omega
  obtain ⟨st, hst⟩ : ∃ st, q.st = st := ⟨_, rfl⟩
  obtain ⟨an, han⟩ : ∃ an, (ms.any fun q => q.st == 1) = an := ⟨_, rfl⟩
  rw [hst] at HCQ
  rw [han] at HH
  unfold Ret at HH
  have HST := Lib.hid hst
  have HLE2 := Lib.hid (show lostE X id = if st ≠ 0 then 9 else if an = true then 5 else if rightB (lostL X id) then 0 else 3 by rw [HLE.out, hf, ← hst, ← han]; rfl)
  clear hget hp hf hix hc hrn hst han HFI HLE
  rcases (show st ≠ 0 ∨ st = 0 by omega) with hst0 | hst0
  · have HV := Lib.hid (HE.out 9 (by decide) (by rw [HLE2.out, if_pos hst0]))
    have hb : (st != 0) = true := by simpa using hst0
    clear hst0
    go_wp2_with (first | (refine wpList_store_obj 24 _ _ rfl rfl [.int .i64 0, .int .i64 0, .int .i64 0, .int .i64 0, .slice none 0 0] rfl rfl rfl (by kernel_rfl) zero5_one O2b.out rfl ?_; intro w4 s1 s2) | ((with_reducible refine (HRT.out _ N1.out).mono ?_); rintro e w2 ⟨rfl, n2⟩; have O0b := Lib.hid (O0a.out.nw n2); have O2b := Lib.hid (O2a.out.nw n2); have N2 := Lib.hid (gb_trans N1.out n2); have M2 := Lib.hid (gb_trans M1.out n2); have k4b : w2.cell? ⟨y0, 4, none⟩ = some (.slice (some ⟨b', off, none⟩) n c) := O0b.out.cell 4; have kst := HCQ.out w2 M2.out; clear n2) | (refine wpList_load_obj 24 _ rfl rfl rfl O0a.out _ Try.underlying24 rfl (by kernel_rfl) ?_) | ((with_reducible refine HI.out.mono ?_); rintro e w1 ⟨rfl, n1⟩; have O0a := Lib.hid (O0.out.nw n1); have O2a := Lib.hid (O2.out.nw n1); have N1 := Lib.hid (gb_trans N0.out n1); have M1 := Lib.hid n1; clear n1))
    (refine bodyPost_ret (res_cell_tmp rfl _ _ _ 24 _ _ rfl s1 Try.underlying24 rfl (by kernel_rfl)) rfl ?_)
    exact HV.out w4 (nw_of_gb N2.out s2 (fun r hr => by injection hr with hr; omega))
  subst hst0
  rcases an with _ | _
  case true =>
    have HV := Lib.hid (HE.out 5 (by decide) (by rw [HLE2.out]; rfl))
    go_wp2_with (first | (refine wpList_store_obj 24 _ _ rfl rfl [.int .i64 0, .int .i64 0, .int .i64 0, .int .i64 0, .slice none 0 0] rfl rfl rfl (by kernel_rfl) zero5_one O2c.out rfl ?_; intro w4 s1 s2) | ((with_reducible refine (HH.out _ M2.out).mono ?_); rintro e w3 ⟨rfl, n3⟩; have O0c := Lib.hid (O0b.out.nw n3); have O2c := Lib.hid (O2b.out.nw n3); have N3 := Lib.hid (gb_trans N2.out n3); have M3 := Lib.hid (gb_trans M2.out n3); have k4c : w3.cell? ⟨y0, 4, none⟩ = some (.slice (some ⟨b', off, none⟩) n c) := O0c.out.cell 4; clear n3) | ((with_reducible refine (HRT.out _ N1.out).mono ?_); rintro e w2 ⟨rfl, n2⟩; have O0b := Lib.hid (O0a.out.nw n2); have O2b := Lib.hid (O2a.out.nw n2); have N2 := Lib.hid (gb_trans N1.out n2); have M2 := Lib.hid (gb_trans M1.out n2); have k4b : w2.cell? ⟨y0, 4, none⟩ = some (.slice (some ⟨b', off, none⟩) n c) := O0b.out.cell 4; have kst := HCQ.out w2 M2.out; clear n2) | (refine wpList_load_obj 24 _ rfl rfl rfl O0a.out _ Try.underlying24 rfl (by kernel_rfl) ?_) | ((with_reducible refine HI.out.mono ?_); rintro e w1 ⟨rfl, n1⟩; have O0a := Lib.hid (O0.out.nw n1); have O2a := Lib.hid (O2.out.nw n1); have N1 := Lib.hid (gb_trans N0.out n1); have M1 := Lib.hid n1; clear n1))
    (refine bodyPost_ret (res_cell_tmp rfl _ _ _ 24 _ _ rfl s1 Try.underlying24 rfl (by kernel_rfl)) rfl ?_)
    exact HV.out w4 (nw_of_gb N3.out s2 (fun r hr => by injection hr with hr; omega))
  go_upto_region 8 with (first | (refine wpList_store_obj 24 _ _ rfl rfl [.int .i64 0, .int .i64 0, .int .i64 0, .int .i64 0, .slice none 0 0] rfl rfl rfl (by kernel_rfl) zero5_one O2c.out rfl ?_; intro w4 s1 s2) | ((with_reducible refine (HH.out _ M2.out).mono ?_); rintro e w3 ⟨rfl, n3⟩; have O0c := Lib.hid (O0b.out.nw n3); have O2c := Lib.hid (O2b.out.nw n3); have N3 := Lib.hid (gb_trans N2.out n3); have M3 := Lib.hid (gb_trans M2.out n3); have k4c : w3.cell? ⟨y0, 4, none⟩ = some (.slice (some ⟨b', off, none⟩) n c) := O0c.out.cell 4; clear n3) | ((with_reducible refine (HRT.out _ N1.out).mono ?_); rintro e w2 ⟨rfl, n2⟩; have O0b := Lib.hid (O0a.out.nw n2); have O2b := Lib.hid (O2a.out.nw n2); have N2 := Lib.hid (gb_trans N1.out n2); have M2 := Lib.hid (gb_trans M1.out n2); have k4b : w2.cell? ⟨y0, 4, none⟩ = some (.slice (some ⟨b', off, none⟩) n c) := O0b.out.cell 4; have kst := HCQ.out w2 M2.out; clear n2) | (refine wpList_load_obj 24 _ rfl rfl rfl O0a.out _ Try.underlying24 rfl (by kernel_rfl) ?_) | ((with_reducible refine HI.out.mono ?_); rintro e w1 ⟨rfl, n1⟩; have O0a := Lib.hid (O0.out.nw n1); have O2a := Lib.hid (O2.out.nw n1); have N1 := Lib.hid (gb_trans N0.out n1); have M1 := Lib.hid n1; clear n1))
  have f4c : ∀ (w4 : World), Nw w3 w4 → w4.cell? ⟨y0, 4, none⟩ = some (.slice (some ⟨b', off, none⟩) n c) ∧ w4.frozen? ⟨y0, 4, none⟩ = false := fun w4 k => ⟨(O0c.out.nw k).cell 4, (O0c.out.nw k).frozen 4⟩
  have F4 := Lib.hid f4c
  clear f4c
  have hlm : ms.length = n := HR.out.lenL mc_len (by decide)
  have HLM := Lib.hid hlm
  clear hlm
  go_upto_region 9 with ((with_reducible refine (HCL.out _ M3.out).mono ?_); rintro e w4 ⟨A4, n4, c4, rfl, o4, nw4⟩; have e4 : n = n4 := (by have h1 := o4.lenL mc_len (by decide); have h2 := HLM.out; omega); subst e4; obtain ⟨g4, rfl, hg4⟩ := o4.some_ (Nat.lt_of_le_of_lt (Nat.zero_le i) hin); obtain ⟨k4d, f4d⟩ := F4.out _ nw4)
  obtain ⟨cur4, q4⟩ := o4.obj
  have d4 : y0 ≠ g4 := (O0c.out.nw nw4).ne q4 (by decide)
  have gV : w4.grownBy (w4.setCell ⟨y0, 4, none⟩ (.slice (some ⟨g4, 0, none⟩) n c4)) (some y0) := gb_set (gb_nw (Nw.refl w4)) (.inl rfl) _
  have oV := o4.kept gV (fun r hr e => by injection hr with hr; have e2 : g4 = r := by simpa [Value.ownBlock] using e
                                          omega)
  have O0d : Obj1 (w4.setCell ⟨y0, 4, none⟩ (.slice (some ⟨g4, 0, none⟩) n c4)) y0 24 #[.int .i64 a, .int .i64 g, .int .i64 m, .int .i64 b, .slice (some ⟨g4, 0, none⟩) n c4] := (O0c.out.nw nw4).set 4 _
  have O2d := (O2c.out.nw nw4).chg (Chg.set w4 (p := ⟨y0, 4, none⟩) (F := [y0]) (by simp) (.slice (some ⟨g4, 0, none⟩) n c4)) (by simpa using Ne.symm d02)
  have nV := nw_of_gb (gb_trans N3.out nw4) gV (fun r hr => by injection hr with hr; omega)
  have hb3 : w.heap.size ≤ w3.heap.size := N3.out.size
  obtain ⟨V, hV⟩ : ∃ V, w4.setCell ⟨y0, 4, none⟩ (.slice (some ⟨g4, 0, none⟩) n c4) = V := ⟨_, rfl⟩
  rw [hV] at oV O0d O2d nV ⊢
  clear gV hV o4 q4 k4d f4d HCL HH HI HRT HCQ kst k4b k4c k4
  have oV' := oV.more hb3
  obtain ⟨u9, hu9, c9, f9⟩ := oV'.cellN (k := i * 3 + 2) (by omega)
  have k9 : V.cell? ⟨y0, 4, none⟩ = some (.slice (some ⟨g4, 0, none⟩) n c4) := O0d.cell 4
  go_upto_region 10 with fail
  obtain ⟨s5, gU⟩ := oV'.set (i * 3 + 2) (.int .i64 1)
  rw [fl_set1 mc_len (x := q) (y := failed q) (by decide) rfl ms i HGET.out] at s5
  have O0e := O0d.chg (Chg.of_gb (F := [g4]) gU (by intro r hr; injection hr with hr; simp [hr])) (by simpa using d4)
  obtain ⟨cur5, q5⟩ := oV'.obj
  have d24 : y2 ≠ g4 := O2d.ne q5 (by decide)
  have O2e := O2d.chg (Chg.of_gb (F := [g4]) gU (by intro r hr; injection hr with hr; simp [hr])) (by simpa using d24)
  have nU := nw_of_gb nV gU (fun r hr => by injection hr with hr; omega)
  obtain ⟨U, hU⟩ : ∃ U, V.setCell ⟨g4, i * 3 + 2, none⟩ (.int .i64 1) = U := ⟨_, rfl⟩
  rw [hU] at s5 gU O0e O2e nU ⊢
  clear c9 f9 k9 hu9 gU hU oV oV' O0d O2d q5
  have k10 : U.cell? ⟨y0, 1, none⟩ = some (.int .i64 g) := O0e.cell 1
  have f10 := O0e.frozen 1
  obtain ⟨hg1, hg2⟩ := HGB.out trivial
  go_upto_region 11 with fail
  have gT : U.grownBy (U.setCell ⟨y0, 1, none⟩ (.int .i64 (g + 1))) (some y0) := gb_set (gb_nw (Nw.refl U)) (.inl rfl) _
  have s6 := s5.kept gT (fun r hr e => by injection hr with hr; have e2 : g4 = r := by simpa [Value.ownBlock] using e
                                          omega)
  have O0f : Obj1 (U.setCell ⟨y0, 1, none⟩ (.int .i64 (g + 1))) y0 24 #[.int .i64 a, .int .i64 (g + 1), .int .i64 m, .int .i64 b, .slice (some ⟨g4, 0, none⟩) n c4] := O0e.set 1 _
  have O2f := O2e.chg (Chg.of_gb (F := [y0]) gT (by intro r hr; injection hr with hr; simp [hr])) (by simpa using Ne.symm d02)
  have nT := nw_of_gb nU gT (fun r hr => by injection hr with hr; omega)
  obtain ⟨T, hT⟩ : ∃ T, U.setCell ⟨y0, 1, none⟩ (.int .i64 (g + 1)) = T := ⟨_, rfl⟩
  rw [hT] at s6 gT O0f O2f nT ⊢
  clear gT hT s5 O0e O2e k10 f10
  have hlm2 : ms.set i (failed q) = lostM X.ms id := by
    rw [HXX.out]; unfold lostM; simp only; rw [HIX.out]; simp only
    exact (modify_set HGET.out failed).symm
  rw [hlm2] at s6
  have hok2 : LOk T T.heap.size ⟨a, g + 1, m, b, some ⟨g4, 0, none⟩, n, c4, lostM X.ms id⟩ := ⟨s6.rd, s6.cap.1, s6.cap.2⟩
  have hr2 := right_any hok2 (Nat.le_refl _) hn
  unfold lv at hr2
  have hrl : rightB ⟨a, g + 1, m, b, some ⟨g4, 0, none⟩, n, c4, lostM X.ms id⟩ = rightB (lostL X id) := by rw [HXX.out]; rfl
  rw [hrl] at hr2
  simp only at hr2
  obtain ⟨r2, hr2b⟩ : ∃ r2, rightB (lostL X id) = r2 := ⟨_, rfl⟩
  rw [hr2b] at hr2
  have HR2 := Lib.hid hr2; have HRB := Lib.hid hr2b
  unfold Ret at HR2
  have O0g := Lib.hid O0f; have O2g := Lib.hid O2f; have NT := Lib.hid nT; have S6 := Lib.hid s6
  clear hok2 hr2 hrl hr2b O0f O2f nT s6 hlm2
  rcases r2 with _ | _
  · have HV := Lib.hid (HE.out 3 (by decide) (by rw [HLE2.out]; simp [HRB.out]))
    go_wp2_with (first
      | (refine wpList_store_obj 24 _ _ rfl rfl [.int .i64 0, .int .i64 0, .int .i64 0, .int .i64 0, .slice none 0 0] rfl rfl rfl (by kernel_rfl) zero5_one O2h.out rfl ?_; intro w8 s1 s2)
      | ((with_reducible refine HR2.out.mono ?_); rintro e w7 ⟨rfl, n7⟩; have O2h := Lib.hid (O2g.out.nw n7))
      | (refine wpList_load_obj 24 _ rfl rfl rfl O0g.out _ Try.underlying24 rfl (by kernel_rfl) ?_))
    (refine bodyPost_ret (res_cell_tmp rfl _ _ _ 24 _ _ rfl s1 Try.underlying24 rfl (by kernel_rfl)) rfl ?_)
    exact HV.out w8 (nw_of_gb (gb_trans NT.out n7) s2 (fun r hr => by injection hr with hr; omega))
  · have HV := Lib.hid (show lostE X id = 0 by rw [HLE2.out]; simp [HRB.out])
    go_wp2_with (first
      | (refine wpList_store_obj 24 _ _ rfl rfl [.int .i64 a, .int .i64 (g + 1), .int .i64 m, .int .i64 b, .slice (some ⟨g4, 0, none⟩) n c4] rfl rfl rfl (by kernel_rfl) (lc_one1 _ _ _ _ _ _ _) O2h.out rfl ?_; intro w8 s1 s2)
      | (refine wpList_load_obj 24 _ rfl rfl rfl O0h.out _ Try.underlying24 rfl (by kernel_rfl) ?_)
      | ((with_reducible refine HR2.out.mono ?_); rintro e w7 ⟨rfl, n7⟩; have O2h := Lib.hid (O2g.out.nw n7); have O0h := Lib.hid (O0g.out.nw n7); have S7 := Lib.hid (S6.out.nw n7))
      | (refine wpList_load_obj 24 _ rfl rfl rfl O0g.out _ Try.underlying24 rfl (by kernel_rfl) ?_))
    (refine bodyPost_ret (res_cell_tmp rfl _ _ _ 24 _ _ rfl s1 Try.underlying24 rfl (by kernel_rfl)) rfl ?_)
    have h8 := S7.out.kept s2 (fun r hr e => by
      injection hr with hr; have e2 : g4 = r := by simpa [Value.ownBlock] using e
      obtain ⟨cur8, q8⟩ := S7.out.obj
      exact O2h.out.ne q8 (by decide) (by omega))
    have hfin := lost_ok (X := X) (id := id) (A := some ⟨g4, 0, none⟩) (n := n) (c := c4) HV.out (nw_of_gb (gb_trans NT.out n7) s2 (fun r hr => by injection hr with hr; omega)) h8
    rw [HXX.out] at hfin ⊢
    exact hfin
theorem lost_any {w : World} {B : Nat} {x : Lb} {id : Int} (h : LOk w B x) (hB : B ≤ w.heap.size) (hn : x.n ≤ 1000000) : Calls Try.prog 11 #[lv x, .int .i64 id] w (LostPost x id w) :=
  lost_go (X := x) rfl h hB hn
end Go.Proofs.Ytkkkhkkjdjnfhaa


/- Equality of members and of lists of members, for all of them: slices.Equal, the reference's SameMembers and Same, quorum.same. -/
namespace Go.Proofs.Ytkkkhkkjdjnfhaa
open Go.RowKit Go.BW

theorem fields28 : (Try.prog.fieldsOf 28).toList.map (fun f => (f.name, f.type, f.offset)) = [("ID", 3, 0), ("Sectors", 3, 1), ("State", 3, 2)] := by kernel_rfl
theorem run_equal_mem {w : World} (x y : Mem) : (Op.equal 28 (mv x) (mv y)).run Try.prog w = .ok (decide (x = y)) w := by
  show (Op.equalIn 10000 28 _ _).run Try.prog w = _
  unfold mv
  rw [run_equalIn_struct w 9999 28 _ _ (by kernel_rfl) (by kernel_rfl)]
  have hf : ∃ f0 f1 f2 : Field, (Try.prog.fieldsOf 28).toList = [f0, f1, f2] ∧ (f0.name, f0.type, f0.offset) = ("ID", 3, 0) ∧ (f1.name, f1.type, f1.offset) = ("Sectors", 3, 1) ∧ (f2.name, f2.type, f2.offset) = ("State", 3, 2) := by
    have h := fields28
    generalize (Try.prog.fieldsOf 28).toList = l at h
    have h3 := congrArg List.length h
    simp only [List.length_map, List.length_cons, List.length_nil] at h3
    match l, h, h3 with
    | [f0, f1, f2], h, _ => simp only [List.map_cons, List.map_nil, List.cons.injEq, and_true] at h; exact ⟨f0, f1, f2, rfl, h.1, h.2.1, h.2.2⟩
  obtain ⟨f0, f1, f2, hl, h0, h1, h2⟩ := hf
  simp only [Prod.mk.injEq] at h0 h1 h2
  obtain ⟨n0, t0, o0⟩ := h0
  obtain ⟨n1, t1, o1⟩ := h1
  obtain ⟨n2, t2, o2⟩ := h2
  have hp : ∀ (cs : Array Value) (i : Nat) (v : Value), cs[i]? = some v → (part 3 cs i).run Try.prog w = .ok v w := by
    intro cs i v hi
    unfold part
    have hagg : (isAgg 3).run Try.prog w = .ok false w := by
      unfold isAgg
      rw [Sem.run_bind, run_underlying Try.underlying3 w]
      rfl
    rw [Sem.run_bind, hagg]
    simp [hi]
  have hp0 : ∀ a b c : Value, (part 3 #[a, b, c] 0).run Try.prog w = .ok a w := fun a b c => hp _ 0 _ rfl
  have hp1 : ∀ a b c : Value, (part 3 #[a, b, c] 1).run Try.prog w = .ok b w := fun a b c => hp _ 1 _ rfl
  have hp2 : ∀ a b c : Value, (part 3 #[a, b, c] 2).run Try.prog w = .ok c w := fun a b c => hp _ 2 _ rfl
  have he : ∀ a b : Int, (Op.equalIn 9999 3 (.int .i64 a) (.int .i64 b)).run Try.prog w = .ok (a == b) w := fun a b => run_equalIn_int w 9998 3 _ _ a b Try.underlying3
  rw [hl]
  simp only [Op.eqFields, n0, n1, n2, t0, t1, t2, o0, o1, o2]
  simp only [show ("ID" ≠ "_") = True from by simp, show ("Sectors" ≠ "_") = True from by simp, show ("State" ≠ "_") = True from by simp, if_true, Sem.run_bind, hp0, hp1, hp2, Result.andThen_ok, he]
  obtain ⟨xt, xg, xs⟩ := x
  obtain ⟨yt, yg, ys⟩ := y
  by_cases e0 : xt = yt <;> by_cases e1 : xg = yg <;> by_cases e2 : xs = ys <;> simp [e0, e1, e2, hp0, hp1, hp2, he, Sem.run_pure, Sem.run_bind]
theorem wpYield_neq_mem {ops : Array Oper} {S : World → Prop} {R : Act → Prop} {rest : List Oper} {o : Oper} {a : Act} (x y : Operand) (hop : o.op = .binOp .neq 28 x y 28) (hw : Region.wanted o (yielded ops a.tmps) = true) (s t : Mem)
    (hx : a.eval x = .agg (mc s).toArray) (hy : a.eval y = .agg (mc t).toArray) {r : Bool} (hr : (!decide (s = t)) = r) (hK : wpYield Try.prog ops S R rest (a.put o.dst (.bool r))) : wpYield Try.prog ops S R (o :: rest) a := by
  refine wpYield_val hw (v := .bool r) (fun w _ => ?_) hK
  have hx' : a.eval x = mv s := hx
  have hy' : a.eval y = mv t := hy
  have hg : (eqGuard .neq 28 x y (mv s) (mv t)).run Try.prog w = .ok () w := by unfold mv; exact Go.BW.run_eqGuard_agg x y _ _ (by kernel_rfl)
  unfold execOp
  simp only [hop, hx', hy', Sem.run_bind, hg, Result.andThen_ok]
  have hq : (binOp .neq 28 (mv s) (mv t)).run Try.prog w = .ok (.bool (!decide (s = t))) w := by
    have he := run_equal_mem (w := w) s t
    unfold mv at he ⊢
    simp only [binOp]
    simp [he]
  rw [hq, hr]
  simp
theorem take_snoc_eq {α : Type} {xs ys : List α} {k : Nat} {x y : α} (h : xs.take k = ys.take k) (hx : xs[k]? = some x) (hy : ys[k]? = some y) (e : x = y) : xs.take (k + 1) = ys.take (k + 1) := by
  obtain ⟨h1, rfl⟩ := List.getElem?_eq_some_iff.1 hx
  obtain ⟨h2, rfl⟩ := List.getElem?_eq_some_iff.1 hy
  rw [List.take_succ_eq_append_getElem h1, List.take_succ_eq_append_getElem h2, h, e]
theorem ne_of_at {α : Type} {xs ys : List α} {k : Nat} {x y : α} (hx : xs[k]? = some x) (hy : ys[k]? = some y) (e : x ≠ y) : ¬ xs = ys := by
  rintro rfl; rw [hx] at hy; injection hy with hy; exact e hy
def eqM (xs ys : List Mem) : Bool := decide (xs = ys)
set_option maxHeartbeats 1000000 in
theorem equal_any {w : World} {B B' n m c d : Nat} {A A' : Option Addr} {xs ys : List Mem} (hx : Rd w B 3 A n (fl mc xs)) (hy : Rd w B' 3 A' m (fl mc ys)) (hB : B ≤ w.heap.size) (hB' : B' ≤ w.heap.size) (hn : n ≤ 1000000) (hm : m ≤ 1000000) :
    Calls Try.prog 34 #[.slice A n c, .slice A' m d] w (Ret (.bool (eqM xs ys)) w) := by
  have hlx := hx.lenL mc_len (by decide)
  have hly := hy.lenL mc_len (by decide)
  by_cases hl : n = m
  · subst hl
    have HX := Lib.hid hx; have HY := Lib.hid hy; have HLX := Lib.hid hlx; have HLY := Lib.hid hly
    clear hlx hly
    go_enter Try.func34, Try.ntmps34
    go_wp2
    go_loopw [13] (fun i wr => ∃ k : Nat, k ≤ n ∧ i = .int .i64 k ∧ Hid (xs.take k = ys.take k) ∧ Nw w wr) (fun i _ => n - (intOf i).toNat)
    case atStart => exact ⟨0, Nat.zero_le _, rfl, Lib.hid rfl, Nw.refl _⟩
    case round =>
      obtain ⟨k, hk, rfl, ht, hnw⟩ := hrel
      by_cases hlt : k < n
      · obtain ⟨_, b, off, x, rfl, _, ax, cx⟩ := (hx.nw hnw hB).atL mc_len (by decide) hlt
        obtain ⟨_, b', off', y, rfl, _, ay, cy⟩ := (hy.nw hnw hB').atL mc_len (by decide) hlt
        have HCX := Lib.hid (fun w' (h : Nw wr w') => show ∀ j u, (mc x)[j]? = some u → w'.cell? ⟨b, off + k * 3 + j, none⟩ = some u from by
          intro j u hu
          obtain ⟨_, b2, o2, x2, e, _, a2, c2⟩ := (hx.nw (gb_trans hnw h) hB).atL mc_len (by decide) hlt
          injection e with e; injection e with e1 e2; subst e1; subst e2
          rw [ax] at a2; injection a2 with a2; subst a2
          exact c2 j u hu)
        have HCY := Lib.hid (fun w' (h : Nw wr w') => show ∀ j u, (mc y)[j]? = some u → w'.cell? ⟨b', off' + k * 3 + j, none⟩ = some u from by
          intro j u hu
          obtain ⟨_, b2, o2, x2, e, _, a2, c2⟩ := (hy.nw (gb_trans hnw h) hB').atL mc_len (by decide) hlt
          injection e with e; injection e with e1 e2; subst e1; subst e2
          rw [ay] at a2; injection a2 with a2; subst a2
          exact c2 j u hu)
        have hlt' : (k : Int) < (n : Int) := by omega
        have AX := Lib.hid ax; have AY := Lib.hid ay
        clear ax ay cx cy
        have hs3 : (Try.prog.info? 28).map (·.size) = some (mc x).length := by kernel_rfl
        have hs4 : (Try.prog.info? 28).map (·.size) = some (mc y).length := by kernel_rfl
        by_cases he : x = y
        · have hr : (!decide (x = y)) = false := by simp [he]
          have HE := Lib.hid he
          clear he
          go_wp2
          refine wp_region_held (S := (fun w' => Nw wr w')) (by kernel_rfl) ?_
          change wpAnyH _ _ _ _ _ _ _ _ (World.drew wr)
          refine held_seg' (l := [0, 1, 2, 3, 4, 5, 6, 7, 8]) (fuel := 0) rfl (by kernel_rfl) (by kernel_rfl) (by simp only [List.filterMap_cons, List.filterMap_nil, List.getElem?_toArray, List.getElem?_cons_succ, List.getElem?_cons_zero]; rfl) (fun _ _ d _ _ h => by cases d <;> exact h) (gb_drew (Nw.refl wr)) ?_
          iterate 3 (refine wpYield_step rfl (fun K hK => ?_)
                     apply Exists.intro
                     refine ⟨fun w' hw' => ?_, ?_⟩
                     · (go_simp; try with_reducible rfl)
                     go_simp
                     refine hK _ ?_
                     clear hK K)
          refine wpYield_load_agg 28 _ rfl rfl rfl (mc x) (fun w' hw' => HCX.out w' hw') _ Try.underlying28 rfl hs3 ?_
          iterate 3 (refine wpYield_step rfl (fun K hK => ?_)
                     apply Exists.intro
                     refine ⟨fun w' hw' => ?_, ?_⟩
                     · (go_simp; try with_reducible rfl)
                     go_simp
                     refine hK _ ?_
                     clear hK K)
          refine wpYield_load_agg 28 _ rfl rfl rfl (mc y) (fun w' hw' => HCY.out w' hw') _ Try.underlying28 rfl hs4 ?_
          refine wpYield_neq_mem _ _ rfl rfl x y rfl rfl hr ?_
          refine wpYield_nil ?_
          refine wpAnyH_done (by kernel_rfl) ?_ _
          go_wp2
          go_roundw
          case rel => exact ⟨k + 1, by omega, by go_num, Lib.hid (take_snoc_eq ht.out AX.out AY.out HE.out), gb_drew hnw⟩
          case measure => simp only [intOf]; omega
        · have hr : (!decide (x = y)) = true := by simp [he]
          have HF := Lib.hid (show eqM xs ys = false from decide_eq_false (ne_of_at AX.out AY.out he))
          clear he
          go_wp2
          refine wp_region_held (S := (fun w' => Nw wr w')) (by kernel_rfl) ?_
          change wpAnyH _ _ _ _ _ _ _ _ (World.drew wr)
          refine held_seg' (l := [0, 1, 2, 3, 4, 5, 6, 7, 8]) (fuel := 0) rfl (by kernel_rfl) (by kernel_rfl) (by simp only [List.filterMap_cons, List.filterMap_nil, List.getElem?_toArray, List.getElem?_cons_succ, List.getElem?_cons_zero]; rfl) (fun _ _ d _ _ h => by cases d <;> exact h) (gb_drew (Nw.refl wr)) ?_
          iterate 3 (refine wpYield_step rfl (fun K hK => ?_)
                     apply Exists.intro
                     refine ⟨fun w' hw' => ?_, ?_⟩
                     · (go_simp; try with_reducible rfl)
                     go_simp
                     refine hK _ ?_
                     clear hK K)
          refine wpYield_load_agg 28 _ rfl rfl rfl (mc x) (fun w' hw' => HCX.out w' hw') _ Try.underlying28 rfl hs3 ?_
          iterate 3 (refine wpYield_step rfl (fun K hK => ?_)
                     apply Exists.intro
                     refine ⟨fun w' hw' => ?_, ?_⟩
                     · (go_simp; try with_reducible rfl)
                     go_simp
                     refine hK _ ?_
                     clear hK K)
          refine wpYield_load_agg 28 _ rfl rfl rfl (mc y) (fun w' hw' => HCY.out w' hw') _ Try.underlying28 rfl hs4 ?_
          refine wpYield_neq_mem _ _ rfl rfl x y rfl rfl hr ?_
          refine wpYield_nil ?_
          refine wpAnyH_done (by kernel_rfl) ?_ _
          go_wp2
          go_ret
          exact ⟨by rw [HF.out]; rfl, gb_drew hnw⟩
      · have hkn : k = n := by omega
        subst hkn
        have HF := Lib.hid (show eqM xs ys = true from decide_eq_true (by
          have h := ht.out
          rwa [List.take_of_length_le (by rw [HLX.out]; exact Nat.le_refl _), List.take_of_length_le (by rw [HLY.out]; exact Nat.le_refl _)] at h))
        go_wp2
        go_ret
        exact ⟨by rw [HF.out]; rfl, hnw⟩
  · have HF := Lib.hid (show eqM xs ys = false from decide_eq_false (by rintro rfl; omega))
    have hb : ((n : Int) != (m : Int)) = true := by simp; omega
    clear hlx hly hl
    go_enter Try.func34, Try.ntmps34
    go_wp2
    go_ret
    exact ⟨by rw [HF.out]; rfl, Nw.refl _⟩
set_option maxHeartbeats 1000000 in
theorem samem_any {w : World} {B B' n m c d : Nat} {A A' : Option Addr} {xs ys : List Mem} (hx : Rd w B 3 A n (fl mc xs)) (hy : Rd w B' 3 A' m (fl mc ys)) (hB : B ≤ w.heap.size) (hB' : B' ≤ w.heap.size) (hn : n ≤ 1000000) (hm : m ≤ 1000000) :
    Calls Try.prog 32 #[.slice A n c, .slice A' m d] w (Ret (.bool (eqM xs ys)) w) := by
  have hlx := hx.lenL mc_len (by decide)
  have hly := hy.lenL mc_len (by decide)
  by_cases hl : n = m
  · subst hl
    have HX := Lib.hid hx; have HY := Lib.hid hy; have HLX := Lib.hid hlx; have HLY := Lib.hid hly
    clear hlx hly
    go_enter Try.func32, Try.ntmps32
    go_wp2
    go_loopw [5] (fun i wr => ∃ k : Nat, k ≤ n ∧ i = .int .i64 k ∧ Hid (xs.take k = ys.take k) ∧ Nw w wr) (fun i _ => n - (intOf i).toNat)
    case atStart => exact ⟨0, Nat.zero_le _, rfl, Lib.hid rfl, Nw.refl _⟩
    case round =>
      obtain ⟨k, hk, rfl, ht, hnw⟩ := hrel
      by_cases hlt : k < n
      · obtain ⟨_, b, off, x, rfl, _, ax, cx⟩ := (hx.nw hnw hB).atL mc_len (by decide) hlt
        obtain ⟨_, b', off', y, rfl, _, ay, cy⟩ := (hy.nw hnw hB').atL mc_len (by decide) hlt
        have HCX := Lib.hid (fun w' (h : Nw wr w') => show ∀ j u, (mc x)[j]? = some u → w'.cell? ⟨b, off + k * 3 + j, none⟩ = some u from by
          intro j u hu
          obtain ⟨_, b2, o2, x2, e, _, a2, c2⟩ := (hx.nw (gb_trans hnw h) hB).atL mc_len (by decide) hlt
          injection e with e; injection e with e1 e2; subst e1; subst e2
          rw [ax] at a2; injection a2 with a2; subst a2
          exact c2 j u hu)
        have HCY := Lib.hid (fun w' (h : Nw wr w') => show ∀ j u, (mc y)[j]? = some u → w'.cell? ⟨b', off' + k * 3 + j, none⟩ = some u from by
          intro j u hu
          obtain ⟨_, b2, o2, x2, e, _, a2, c2⟩ := (hy.nw (gb_trans hnw h) hB').atL mc_len (by decide) hlt
          injection e with e; injection e with e1 e2; subst e1; subst e2
          rw [ay] at a2; injection a2 with a2; subst a2
          exact c2 j u hu)
        have hlt' : (k : Int) < (n : Int) := by omega
        have AX := Lib.hid ax; have AY := Lib.hid ay
        clear ax ay cx cy
        have hs3 : (Try.prog.info? 28).map (·.size) = some (mc x).length := by kernel_rfl
        have hs4 : (Try.prog.info? 28).map (·.size) = some (mc y).length := by kernel_rfl
        by_cases he : x = y
        · have hr : (!decide (x = y)) = false := by simp [he]
          have HE := Lib.hid he
          clear he
          go_wp2
          refine wp_region_held (S := (fun w' => Nw wr w')) (by kernel_rfl) ?_
          change wpAnyH _ _ _ _ _ _ _ _ (World.drew wr)
          refine held_seg' (l := [0, 1, 2, 3, 4, 5, 6, 7, 8]) (fuel := 0) rfl (by kernel_rfl) (by kernel_rfl) (by simp only [List.filterMap_cons, List.filterMap_nil, List.getElem?_toArray, List.getElem?_cons_succ, List.getElem?_cons_zero]; rfl) (fun _ _ d _ _ h => by cases d <;> exact h) (gb_drew (Nw.refl wr)) ?_
          iterate 3 (refine wpYield_step rfl (fun K hK => ?_)
                     apply Exists.intro
                     refine ⟨fun w' hw' => ?_, ?_⟩
                     · (go_simp; try with_reducible rfl)
                     go_simp
                     refine hK _ ?_
                     clear hK K)
          refine wpYield_load_agg 28 _ rfl rfl rfl (mc x) (fun w' hw' => HCX.out w' hw') _ Try.underlying28 rfl hs3 ?_
          iterate 3 (refine wpYield_step rfl (fun K hK => ?_)
                     apply Exists.intro
                     refine ⟨fun w' hw' => ?_, ?_⟩
                     · (go_simp; try with_reducible rfl)
                     go_simp
                     refine hK _ ?_
                     clear hK K)
          refine wpYield_load_agg 28 _ rfl rfl rfl (mc y) (fun w' hw' => HCY.out w' hw') _ Try.underlying28 rfl hs4 ?_
          refine wpYield_neq_mem _ _ rfl rfl x y rfl rfl hr ?_
          refine wpYield_nil ?_
          refine wpAnyH_done (by kernel_rfl) ?_ _
          go_wp2
          go_roundw
          case rel => exact ⟨k + 1, by omega, by go_num, Lib.hid (take_snoc_eq ht.out AX.out AY.out HE.out), gb_drew hnw⟩
          case measure => simp only [intOf]; omega
        · have hr : (!decide (x = y)) = true := by simp [he]
          have HF := Lib.hid (show eqM xs ys = false from decide_eq_false (ne_of_at AX.out AY.out he))
          clear he
          go_wp2
          refine wp_region_held (S := (fun w' => Nw wr w')) (by kernel_rfl) ?_
          change wpAnyH _ _ _ _ _ _ _ _ (World.drew wr)
          refine held_seg' (l := [0, 1, 2, 3, 4, 5, 6, 7, 8]) (fuel := 0) rfl (by kernel_rfl) (by kernel_rfl) (by simp only [List.filterMap_cons, List.filterMap_nil, List.getElem?_toArray, List.getElem?_cons_succ, List.getElem?_cons_zero]; rfl) (fun _ _ d _ _ h => by cases d <;> exact h) (gb_drew (Nw.refl wr)) ?_
          iterate 3 (refine wpYield_step rfl (fun K hK => ?_)
                     apply Exists.intro
                     refine ⟨fun w' hw' => ?_, ?_⟩
                     · (go_simp; try with_reducible rfl)
                     go_simp
                     refine hK _ ?_
                     clear hK K)
          refine wpYield_load_agg 28 _ rfl rfl rfl (mc x) (fun w' hw' => HCX.out w' hw') _ Try.underlying28 rfl hs3 ?_
          iterate 3 (refine wpYield_step rfl (fun K hK => ?_)
                     apply Exists.intro
                     refine ⟨fun w' hw' => ?_, ?_⟩
                     · (go_simp; try with_reducible rfl)
                     go_simp
                     refine hK _ ?_
                     clear hK K)
          refine wpYield_load_agg 28 _ rfl rfl rfl (mc y) (fun w' hw' => HCY.out w' hw') _ Try.underlying28 rfl hs4 ?_
          refine wpYield_neq_mem _ _ rfl rfl x y rfl rfl hr ?_
          refine wpYield_nil ?_
          refine wpAnyH_done (by kernel_rfl) ?_ _
          go_wp2
          go_ret
          exact ⟨by rw [HF.out]; rfl, gb_drew hnw⟩
      · have hkn : k = n := by omega
        subst hkn
        have HF := Lib.hid (show eqM xs ys = true from decide_eq_true (by
          have h := ht.out
          rwa [List.take_of_length_le (by rw [HLX.out]; exact Nat.le_refl _), List.take_of_length_le (by rw [HLY.out]; exact Nat.le_refl _)] at h))
        go_wp2
        go_ret
        exact ⟨by rw [HF.out]; rfl, hnw⟩
  · have HF := Lib.hid (show eqM xs ys = false from decide_eq_false (by rintro rfl; omega))
    have hb : ((n : Int) != (m : Int)) = true := by simp; omega
    clear hlx hly hl
    go_enter Try.func32, Try.ntmps32
    go_wp2
    go_ret
    exact ⟨by rw [HF.out]; rfl, Nw.refl _⟩
end Go.Proofs.Ytkkkhkkjdjnfhaa


/- Whether two labels are the same: quorum.same and the reference's Same. -/
namespace Go.Proofs.Ytkkkhkkjdjnfhaa
open Go.RowKit Go.BW
def sameB (x y : Lb) : Bool := x.a == y.a && x.g == y.g && x.b == y.b && eqM x.ms y.ms
set_option maxHeartbeats 1000000 in
theorem same_any {w : World} {B B' : Nat} {x y : Lb} (hx : LOk w B x) (hy : LOk w B' y) (hB : B ≤ w.heap.size) (hB' : B' ≤ w.heap.size) (hn : x.n ≤ 1000000) (hm : y.n ≤ 1000000) :
    Calls Try.prog 30 #[lv x, lv y] w (Ret (.bool (sameB x y)) w) := by
  have HQ := Lib.hid (fun w' (k : Nw w w') => equal_any (c := x.c) (d := y.c) (hx.rd.nw k hB) (hy.rd.nw k hB') (Nat.le_trans hB k.size) (Nat.le_trans hB' k.size) hn hm)
  have hr : sameB x y = (x.a == y.a && x.g == y.g && x.b == y.b && eqM x.ms y.ms) := rfl
  obtain ⟨R, hR⟩ : ∃ R, sameB x y = R := ⟨_, rfl⟩
  rw [hR] at hr ⊢
  obtain ⟨q, hq⟩ : ∃ q, eqM x.ms y.ms = q := ⟨_, rfl⟩
  rw [hq] at HQ hr
  unfold Ret at HQ
  have H := Lib.hid hr
  unfold lv
  clear hR hq hr hx hy
  rcases ea : (x.a == y.a) with _ | _
  · have HF := Lib.hid (show R = false by rw [H.out, ea]; simp)
    go_enter Try.func30, Try.ntmps30
    go_wp2_with (first | ((with_reducible refine (HQ.out _ (gb_trans (World.grownBy_alloc _ _ none) (World.grownBy_alloc _ _ none))).mono ?_); rintro e w2 ⟨rfl, n2⟩))
    go_ret
    exact ⟨by rw [HF.out]; rfl, gb_trans (World.grownBy_alloc _ _ none) (World.grownBy_alloc _ _ none)⟩
  rcases eg : (x.g == y.g) with _ | _
  · have HF := Lib.hid (show R = false by rw [H.out, eg]; simp)
    go_enter Try.func30, Try.ntmps30
    go_wp2_with (first | ((with_reducible refine (HQ.out _ (gb_trans (World.grownBy_alloc _ _ none) (World.grownBy_alloc _ _ none))).mono ?_); rintro e w2 ⟨rfl, n2⟩))
    go_ret
    exact ⟨by rw [HF.out]; rfl, gb_trans (World.grownBy_alloc _ _ none) (World.grownBy_alloc _ _ none)⟩
  rcases eb : (x.b == y.b) with _ | _
  · have HF := Lib.hid (show R = false by rw [H.out, eb]; simp)
    go_enter Try.func30, Try.ntmps30
    go_wp2_with (first | ((with_reducible refine (HQ.out _ (gb_trans (World.grownBy_alloc _ _ none) (World.grownBy_alloc _ _ none))).mono ?_); rintro e w2 ⟨rfl, n2⟩))
    go_ret
    exact ⟨by rw [HF.out]; rfl, gb_trans (World.grownBy_alloc _ _ none) (World.grownBy_alloc _ _ none)⟩
  have HF := Lib.hid (show R = q by rw [H.out, ea, eg, eb]; simp)
  go_enter Try.func30, Try.ntmps30
  go_wp2_with (first | ((with_reducible refine (HQ.out _ (gb_trans (World.grownBy_alloc _ _ none) (World.grownBy_alloc _ _ none))).mono ?_); rintro e w2 ⟨rfl, n2⟩))
  go_ret
  exact ⟨by rw [HF.out]; rfl, gb_trans (gb_trans (World.grownBy_alloc _ _ none) (World.grownBy_alloc _ _ none)) n2⟩
def sameL (x y : Lb) : Bool := x.a == y.a && x.g == y.g && x.m == y.m && x.b == y.b && eqM x.ms y.ms
set_option maxHeartbeats 1000000 in
theorem rsame_any {w : World} {B B' : Nat} {x y : Lb} (hx : LOk w B x) (hy : LOk w B' y) (hB : B ≤ w.heap.size) (hB' : B' ≤ w.heap.size) (hn : x.n ≤ 1000000) (hm : y.n ≤ 1000000) :
    Calls Try.prog 13 #[lv x, lv y] w (Ret (.bool (sameL x y)) w) := by
  have HQ := Lib.hid (fun w' (k : Nw w w') => samem_any (c := x.c) (d := y.c) (hx.rd.nw k hB) (hy.rd.nw k hB') (Nat.le_trans hB k.size) (Nat.le_trans hB' k.size) hn hm)
  have hr : sameL x y = (x.a == y.a && x.g == y.g && x.m == y.m && x.b == y.b && eqM x.ms y.ms) := rfl
  obtain ⟨R, hR⟩ : ∃ R, sameL x y = R := ⟨_, rfl⟩
  rw [hR] at hr ⊢
  obtain ⟨q, hq⟩ : ∃ q, eqM x.ms y.ms = q := ⟨_, rfl⟩
  rw [hq] at HQ hr
  unfold Ret at HQ
  have H := Lib.hid hr
  unfold lv
  clear hR hq hr hx hy
  rcases ea : (x.a == y.a) with _ | _
  · have HF := Lib.hid (show R = false by rw [H.out, ea]; simp)
    go_enter Try.func13, Try.ntmps13
    go_wp2_with (first | ((with_reducible refine (HQ.out _ (gb_trans (World.grownBy_alloc _ _ none) (World.grownBy_alloc _ _ none))).mono ?_); rintro e w2 ⟨rfl, n2⟩))
    go_ret
    exact ⟨by rw [HF.out]; rfl, gb_trans (World.grownBy_alloc _ _ none) (World.grownBy_alloc _ _ none)⟩
  rcases eg : (x.g == y.g) with _ | _
  · have HF := Lib.hid (show R = false by rw [H.out, eg]; simp)
    go_enter Try.func13, Try.ntmps13
    go_wp2_with (first | ((with_reducible refine (HQ.out _ (gb_trans (World.grownBy_alloc _ _ none) (World.grownBy_alloc _ _ none))).mono ?_); rintro e w2 ⟨rfl, n2⟩))
    go_ret
    exact ⟨by rw [HF.out]; rfl, gb_trans (World.grownBy_alloc _ _ none) (World.grownBy_alloc _ _ none)⟩
  rcases em : (x.m == y.m) with _ | _
  · have HF := Lib.hid (show R = false by rw [H.out, em]; simp)
    go_enter Try.func13, Try.ntmps13
    go_wp2_with (first | ((with_reducible refine (HQ.out _ (gb_trans (World.grownBy_alloc _ _ none) (World.grownBy_alloc _ _ none))).mono ?_); rintro e w2 ⟨rfl, n2⟩))
    go_ret
    exact ⟨by rw [HF.out]; rfl, gb_trans (World.grownBy_alloc _ _ none) (World.grownBy_alloc _ _ none)⟩
  rcases eb : (x.b == y.b) with _ | _
  · have HF := Lib.hid (show R = false by rw [H.out, eb]; simp)
    go_enter Try.func13, Try.ntmps13
    go_wp2_with (first | ((with_reducible refine (HQ.out _ (gb_trans (World.grownBy_alloc _ _ none) (World.grownBy_alloc _ _ none))).mono ?_); rintro e w2 ⟨rfl, n2⟩))
    go_ret
    exact ⟨by rw [HF.out]; rfl, gb_trans (World.grownBy_alloc _ _ none) (World.grownBy_alloc _ _ none)⟩
  have HF := Lib.hid (show R = q by rw [H.out, ea, eg, em, eb]; simp)
  go_enter Try.func13, Try.ntmps13
  go_wp2_with (first | ((with_reducible refine (HQ.out _ (gb_trans (World.grownBy_alloc _ _ none) (World.grownBy_alloc _ _ none))).mono ?_); rintro e w2 ⟨rfl, n2⟩))
  go_ret
  exact ⟨by rw [HF.out]; rfl, gb_trans (gb_trans (World.grownBy_alloc _ _ none) (World.grownBy_alloc _ _ none)) n2⟩
end Go.Proofs.Ytkkkhkkjdjnfhaa

