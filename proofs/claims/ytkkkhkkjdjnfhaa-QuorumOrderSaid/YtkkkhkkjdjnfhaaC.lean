/- What quorum.Lost returns, for every label. -/
import Derived.Test.YtkkkhkkjdjnfhaaB
namespace Go.Proofs.Ytkkkhkkjdjnfhaa
open Go.RowKit Go.BW

theorem lost1_any (m : Mem) (b : Nat) (x : Int) (w : World) (h : w.cell? ⟨b, 0, none⟩ = some (.int .i64 x)) : Calls Try.prog 20 #[mv m, .pointer (some ⟨b, 0, none⟩)] w (Ret (.bool (m.id == x)) w) := by
  unfold mv
  have h2 := fun o => cell_alloc (o := o) h
  go_enter Try.func20, Try.ntmps20
  go_wp2
  go_ret
  exact ⟨rfl, World.grownBy_alloc w _ none⟩
theorem lost2_any (m : Mem) (w : World) : Calls Try.prog 21 #[mv m] w (Ret (.bool (m.st == 1)) w) := by
  unfold mv
  go_enter Try.func21, Try.ntmps21
  go_wp2
  go_ret
  exact ⟨rfl, World.grownBy_alloc w _ none⟩
def failed (m : Mem) : Mem := ⟨m.id, m.sec, 1⟩
/-- the members with one that has failed -/
def lostM (ms : List Mem) (id : Int) : List Mem := match ms.findIdx? (fun m => m.id == id) with | some i => ms.modify i failed | none => ms
def lostL (x : Lb) (id : Int) : Lb := ⟨x.a, x.g + 1, x.m, x.b, x.A, x.n, x.c, lostM x.ms id⟩
/-- what Lost answers beside the label -/
def lostE (x : Lb) (id : Int) : Int :=
  if rightB x = false then 1 else
  match x.ms.find? (fun m => m.id == id) with
  | none => 1
  | some m => if m.st ≠ 0 then 9 else if x.ms.any (fun m => m.st == 1) then 5 else if rightB (lostL x id) then 0 else 3
def LostPost (x : Lb) (id : Int) (w : World) (e : Ending) (w' : World) : Prop :=
  Nw w w' ∧ ((lostE x id ≠ 0 ∧ e = .returned (.tuple #[lv l0, .int .i64 (lostE x id)])) ∨
    (lostE x id = 0 ∧ ∃ A n c, e = .returned (.tuple #[lv ⟨x.a, x.g + 1, x.m, x.b, A, n, c, lostM x.ms id⟩, .int .i64 0]) ∧ Own w' w.heap.size 28 3 A n c (fl mc (lostM x.ms id))))
theorem modify_set {ms : List Mem} {i : Nat} {q : Mem} (h : ms[i]? = some q) (f : Mem → Mem) : ms.modify i f = ms.set i (f q) := by
  obtain ⟨hi, hq⟩ := List.getElem?_eq_some_iff.1 h
  apply List.ext_getElem?
  intro j
  rw [List.getElem?_modify, List.getElem?_set]
  by_cases e : i = j
  · subst e; simp [hi, hq]
  · simp [e]
theorem find_of_idx {p : Mem → Bool} {ms : List Mem} : (idxZ p ms = -1 ∧ ms.find? p = none ∧ ms.findIdx? p = none) ∨ ∃ (i : Nat) (m : Mem), idxZ p ms = i ∧ ms[i]? = some m ∧ p m = true ∧ ms.find? p = some m ∧ ms.findIdx? p = some i := by
  unfold idxZ
  rcases h : ms.findIdx? p with _ | i
  · refine .inl ⟨rfl, ?_, rfl⟩
    rw [List.findIdx?_eq_none_iff] at h
    rw [List.find?_eq_none]
    intro x hx; simpa using h x hx
  · right
    have h2 := h
    rw [List.findIdx?_eq_some_iff_getElem] at h2
    obtain ⟨hi, hp, hno⟩ := h2
    refine ⟨i, ms[i], rfl, List.getElem?_eq_getElem hi, hp, ?_, rfl⟩
    rw [List.find?_eq_some_iff_getElem]
    exact ⟨hp, i, hi, rfl, fun j hj => by simpa using hno j hj⟩
theorem lost_err {X : Lb} {id v : Int} {w w' : World} (h : lostE X id = v) (hv : v ≠ 0) (hw : Nw w w') : LostPost X id w (.returned (.tuple #[.agg #[.int .i64 0, .int .i64 0, .int .i64 0, .int .i64 0, .slice none 0 0], .int .i64 v])) w' := by
  subst h; exact ⟨hw, .inl ⟨hv, rfl⟩⟩
theorem lost_ok {X : Lb} {id : Int} {A : Option Addr} {n c : Nat} {w w' : World} (h : lostE X id = 0) (hw : Nw w w') (ho : Own w' w.heap.size 28 3 A n c (fl mc (lostM X.ms id))) :
    LostPost X id w (.returned (.tuple #[.agg #[.int .i64 X.a, .int .i64 (X.g + 1), .int .i64 X.m, .int .i64 X.b, .slice A n c], .int .i64 0])) w' := ⟨hw, .inr ⟨h, A, n, c, rfl, ho⟩⟩
/-- the first steps' worlds: three new variables -/
theorem three_new (w : World) (t0 t1 t2 : TypeId) (c0 c1 c2 : Array Value) : ∃ W, ((w.alloc (.cells c0 t0)).alloc (.cells c1 t1)).alloc (.cells c2 t2) = W ∧ Obj1 W w.heap.size t0 c0 ∧ Obj1 W (w.heap.size + 1) t1 c1 ∧ Obj1 W (w.heap.size + 1 + 1) t2 c2 ∧ Nw w W := by
  refine ⟨_, rfl, ?_, ?_, ?_, ?_⟩
  · exact (obj_fst w t0 c0 _).nw (World.grownBy_alloc _ _ none)
  · exact (obj_snd w _ t1 c1).nw (World.grownBy_alloc _ _ none)
  · have h := Obj1.new ((w.alloc (.cells c0 t0)).alloc (.cells c1 t1)) t2 c2
    simpa using h
  · exact gb_trans (gb_trans (World.grownBy_alloc w _ none) (World.grownBy_alloc _ _ none)) (World.grownBy_alloc _ _ none)
theorem zero5_one : ∀ u ∈ [Value.int .i64 0, .int .i64 0, .int .i64 0, .int .i64 0, .slice none 0 0], u.oneCell' = true := lc_one1 0 0 0 0 none 0 0
set_option maxRecDepth 100000 in
set_option maxHeartbeats 8000000 in
theorem lost_go {w : World} {B : Nat} {X : Lb} {id a g m b : Int} {A : Option Addr} {n c : Nat} {ms : List Mem} (hX : X = ⟨a, g, m, b, A, n, c, ms⟩) (h : LOk w B X) (hB : B ≤ w.heap.size) (hn : n ≤ 1000000) :
    Calls Try.prog 11 #[.agg #[.int .i64 a, .int .i64 g, .int .i64 m, .int .i64 b, .slice A n c], .int .i64 id] w (LostPost X id w) := by
  have HRT := Lib.hid (fun w' (k : Nw w w') => show Calls Try.prog 10 #[.agg #[.int .i64 a, .int .i64 g, .int .i64 m, .int .i64 b, .slice A n c]] w' (Ret (.bool (rightB X)) w') from by
    have h1 := right_any (h.nw k hB) (Nat.le_trans hB k.size) (by rw [hX]; exact hn)
    unfold lv at h1; rw [hX] at h1 ⊢; exact h1)
  have HE := Lib.hid (fun v (hv : v ≠ 0) (he : lostE X id = v) w' (hw : Nw w w') => lost_err he hv hw)
  have hle : lostE X id = (if rightB X = false then 1 else match ms.find? (fun q => q.id == id) with | none => 1 | some q => if q.st ≠ 0 then 9 else if ms.any (fun q => q.st == 1) then 5 else if rightB (lostL X id) then 0 else 3) := by rw [hX]; rfl
  have hfi := @find_of_idx (fun q => q.id == id) ms
  have hr : Rd w B 3 A n (fl mc ms) := by have := h.rd; rw [hX] at this; exact this
  have HGB := Lib.hid (show rightB X = true → 1 ≤ g ∧ g ≤ 4294967295 by rw [hX]; intro h; unfold rightB inB at h; simp at h; omega)
  obtain ⟨rb, hrb⟩ : ∃ rb, rightB X = rb := ⟨_, rfl⟩
  obtain ⟨iz, hiz⟩ : ∃ iz, idxZ (fun q : Mem => q.id == id) ms = iz := ⟨_, rfl⟩
  rw [hrb] at HRT hle HGB
  rw [hiz] at hfi
  have HLE := Lib.hid hle; have HFI := Lib.hid hfi; have HIZ := Lib.hid hiz; have HXX := Lib.hid hX
  unfold Ret at HRT
  clear hle hfi hrb hiz
  obtain ⟨W, hW, o0, o1, o2, nW⟩ := three_new w 24 3 24 #[.int .i64 a, .int .i64 g, .int .i64 m, .int .i64 b, .slice A n c] #[.int .i64 id] #[.int .i64 0, .int .i64 0, .int .i64 0, .int .i64 0, .slice none 0 0]
  go_enter Try.func11, Try.ntmps11
  go_upto_region 1 with fail
  try rw [hW]
  obtain ⟨y0, h0⟩ : ∃ y, w.heap.size = y := ⟨_, rfl⟩
  obtain ⟨y1, h1⟩ : ∃ y, w.heap.size + 1 = y := ⟨_, rfl⟩
  obtain ⟨y2, h2⟩ : ∃ y, w.heap.size + 1 + 1 = y := ⟨_, rfl⟩
  rw [h2] at o2 ⊢
  rw [h1] at o1 ⊢
  rw [h0] at o0 ⊢
  have d02 : y0 ≠ y2 := by omega
  have hy0 : w.heap.size ≤ y0 := by omega
  have hy2 : w.heap.size ≤ y2 := by omega
  have O0 := Lib.hid o0; have O1 := Lib.hid o1; have O2 := Lib.hid o2; have N0 := Lib.hid nW
  have k4 : W.cell? ⟨y0, 4, none⟩ = some (.slice A n c) := o0.cell 4
  have HR := Lib.hid hr
  have HI := Lib.hid (index20_any (d := c) (hr.nw nW hB) (Nat.le_trans hB nW.size) hn (.pointer (some ⟨y1, 0, none⟩)) (fun q => q.id == id) (fun q _ w' hw' => lost1_any q y1 id w' ((o1.nw hw').cell 0)))
  rw [HIZ.out] at HI
  unfold IdxPost at HI
  clear hX h hr o0 o1 o2 nW hW h0 h1 h2
  rcases rb with _ | _
  · have HV := Lib.hid (HE.out 1 (by decide) (by rw [HLE.out]; rfl))
    go_wp2_with (first | (refine wpList_store_obj 24 _ _ rfl rfl [.int .i64 0, .int .i64 0, .int .i64 0, .int .i64 0, .slice none 0 0] rfl rfl rfl (by kernel_rfl) zero5_one O2b.out rfl ?_; intro w4 s1 s2) | ((with_reducible refine (HRT.out _ N1.out).mono ?_); rintro e w2 ⟨rfl, n2⟩; have O0b := Lib.hid (O0a.out.nw n2); have O2b := Lib.hid (O2a.out.nw n2); have N2 := Lib.hid (gb_trans N1.out n2); clear n2) | (refine wpList_load_obj 24 _ rfl rfl rfl O0a.out _ Try.underlying24 rfl (by kernel_rfl) ?_) | ((with_reducible refine HI.out.mono ?_); rintro e w1 ⟨rfl, n1⟩; have O0a := Lib.hid (O0.out.nw n1); have O2a := Lib.hid (O2.out.nw n1); have N1 := Lib.hid (gb_trans N0.out n1); clear n1))
    (refine bodyPost_ret (res_cell_tmp rfl _ _ _ 24 _ _ rfl s1 Try.underlying24 rfl (by kernel_rfl)) rfl ?_)
    exact HV.out w4 (nw_of_gb N2.out s2 (fun r hr => by injection hr with hr; omega))
  rcases HFI.out with ⟨hi, hf, _⟩ | ⟨i, q, hi, hget, hp, hf, hix⟩
  · subst hi
    have HV := Lib.hid (HE.out 1 (by decide) (by rw [HLE.out, hf]; rfl))
    clear hf HFI
    go_wp2_with (first | (refine wpList_store_obj 24 _ _ rfl rfl [.int .i64 0, .int .i64 0, .int .i64 0, .int .i64 0, .slice none 0 0] rfl rfl rfl (by kernel_rfl) zero5_one O2b.out rfl ?_; intro w4 s1 s2) | ((with_reducible refine (HRT.out _ N1.out).mono ?_); rintro e w2 ⟨rfl, n2⟩; have O0b := Lib.hid (O0a.out.nw n2); have O2b := Lib.hid (O2a.out.nw n2); have N2 := Lib.hid (gb_trans N1.out n2); clear n2) | (refine wpList_load_obj 24 _ rfl rfl rfl O0a.out _ Try.underlying24 rfl (by kernel_rfl) ?_) | ((with_reducible refine HI.out.mono ?_); rintro e w1 ⟨rfl, n1⟩; have O0a := Lib.hid (O0.out.nw n1); have O2a := Lib.hid (O2.out.nw n1); have N1 := Lib.hid (gb_trans N0.out n1); clear n1))
    (refine bodyPost_ret (res_cell_tmp rfl _ _ _ 24 _ _ rfl s1 Try.underlying24 rfl (by kernel_rfl)) rfl ?_)
    exact HV.out w4 (nw_of_gb N2.out s2 (fun r hr => by injection hr with hr; omega))
  subst hi
  have HIX := Lib.hid hix; have HGET := Lib.hid hget
  have hin : i < n := by have h1 := (List.getElem?_eq_some_iff.1 hget).1; have h2 := HR.out.lenL mc_len (by decide); omega
  obtain ⟨_, b', off, q', rfl, _, hq', hc⟩ := HR.out.atL mc_len (by decide) hin
  rw [hget] at hq'
  injection hq' with hq'
  subst hq'
  have hrn : ∀ w', Nw W w' → Rd w' B 3 (some ⟨b', off, none⟩) n (fl mc ms) := fun w' k => HR.out.nw (gb_trans N0.out k) hB
  have HCQ := Lib.hid (fun w' (k : Nw W w') => show w'.cell? ⟨b', off + i * 3 + 2, none⟩ = some (.int .i64 q.st) from by
    obtain ⟨_, b2, off2, q2, e, _, hq2, hc2⟩ := (hrn w' k).atL mc_len (by decide) hin
    injection e with e; injection e with e1 e2; subst e1; subst e2
    rw [hget] at hq2; injection hq2 with hq2; subst hq2
    exact hc2 2 _ rfl)
  have HH := Lib.hid (fun w' (k : Nw W w') => has21_any (d := c) (hrn w' k) (Nat.le_trans hB (gb_trans N0.out k).size) hn (fun q => q.st == 1) (fun q _ w'' _ => lost2_any q w''))
  have HCL := Lib.hid (fun w' (k : Nw W w') => clone_any (c := c) (hrn w' k) (Nat.le_trans hB (gb_trans N0.out k).size) hn)
  have hin' : (i : Int) < (n : Int) := by omega
  obtain ⟨st, hst⟩ : ∃ st, q.st = st := ⟨_, rfl⟩
  obtain ⟨an, han⟩ : ∃ an, (ms.any fun q => q.st == 1) = an := ⟨_, rfl⟩
  rw [hst] at HCQ
  rw [han] at HH
  unfold Ret at HH
  have HST := Lib.hid hst
  have HLE2 := Lib.hid (show lostE X id = if st ≠ 0 then 9 else if an = true then 5 else if rightB (lostL X id) then 0 else 3 by rw [HLE.out, hf, ← hst, ← han]; rfl)
  clear hget hp hf hix hc hrn hst han HFI HLE
  rcases (show st ≠ 0 ∨ st = 0 by omega) with hst0 | hst0
  · have HV := Lib.hid (HE.out 9 (by decide) (by rw [HLE2.out, if_pos hst0]))
    have hb : (st != 0) = true := by simpa using hst0
    clear hst0
    go_wp2_with (first | (refine wpList_store_obj 24 _ _ rfl rfl [.int .i64 0, .int .i64 0, .int .i64 0, .int .i64 0, .slice none 0 0] rfl rfl rfl (by kernel_rfl) zero5_one O2b.out rfl ?_; intro w4 s1 s2) | ((with_reducible refine (HRT.out _ N1.out).mono ?_); rintro e w2 ⟨rfl, n2⟩; have O0b := Lib.hid (O0a.out.nw n2); have O2b := Lib.hid (O2a.out.nw n2); have N2 := Lib.hid (gb_trans N1.out n2); have M2 := Lib.hid (gb_trans M1.out n2); have k4b : w2.cell? ⟨y0, 4, none⟩ = some (.slice (some ⟨b', off, none⟩) n c) := O0b.out.cell 4; have kst := HCQ.out w2 M2.out; clear n2) | (refine wpList_load_obj 24 _ rfl rfl rfl O0a.out _ Try.underlying24 rfl (by kernel_rfl) ?_) | ((with_reducible refine HI.out.mono ?_); rintro e w1 ⟨rfl, n1⟩; have O0a := Lib.hid (O0.out.nw n1); have O2a := Lib.hid (O2.out.nw n1); have N1 := Lib.hid (gb_trans N0.out n1); have M1 := Lib.hid n1; clear n1))
    (refine bodyPost_ret (res_cell_tmp rfl _ _ _ 24 _ _ rfl s1 Try.underlying24 rfl (by kernel_rfl)) rfl ?_)
    exact HV.out w4 (nw_of_gb N2.out s2 (fun r hr => by injection hr with hr; omega))
  subst hst0
  rcases an with _ | _
  case true =>
    have HV := Lib.hid (HE.out 5 (by decide) (by rw [HLE2.out]; rfl))
    go_wp2_with (first | (refine wpList_store_obj 24 _ _ rfl rfl [.int .i64 0, .int .i64 0, .int .i64 0, .int .i64 0, .slice none 0 0] rfl rfl rfl (by kernel_rfl) zero5_one O2c.out rfl ?_; intro w4 s1 s2) | ((with_reducible refine (HH.out _ M2.out).mono ?_); rintro e w3 ⟨rfl, n3⟩; have O0c := Lib.hid (O0b.out.nw n3); have O2c := Lib.hid (O2b.out.nw n3); have N3 := Lib.hid (gb_trans N2.out n3); have M3 := Lib.hid (gb_trans M2.out n3); have k4c : w3.cell? ⟨y0, 4, none⟩ = some (.slice (some ⟨b', off, none⟩) n c) := O0c.out.cell 4; clear n3) | ((with_reducible refine (HRT.out _ N1.out).mono ?_); rintro e w2 ⟨rfl, n2⟩; have O0b := Lib.hid (O0a.out.nw n2); have O2b := Lib.hid (O2a.out.nw n2); have N2 := Lib.hid (gb_trans N1.out n2); have M2 := Lib.hid (gb_trans M1.out n2); have k4b : w2.cell? ⟨y0, 4, none⟩ = some (.slice (some ⟨b', off, none⟩) n c) := O0b.out.cell 4; have kst := HCQ.out w2 M2.out; clear n2) | (refine wpList_load_obj 24 _ rfl rfl rfl O0a.out _ Try.underlying24 rfl (by kernel_rfl) ?_) | ((with_reducible refine HI.out.mono ?_); rintro e w1 ⟨rfl, n1⟩; have O0a := Lib.hid (O0.out.nw n1); have O2a := Lib.hid (O2.out.nw n1); have N1 := Lib.hid (gb_trans N0.out n1); have M1 := Lib.hid n1; clear n1))
    (refine bodyPost_ret (res_cell_tmp rfl _ _ _ 24 _ _ rfl s1 Try.underlying24 rfl (by kernel_rfl)) rfl ?_)
    exact HV.out w4 (nw_of_gb N3.out s2 (fun r hr => by injection hr with hr; omega))
  go_upto_region 8 with (first | (refine wpList_store_obj 24 _ _ rfl rfl [.int .i64 0, .int .i64 0, .int .i64 0, .int .i64 0, .slice none 0 0] rfl rfl rfl (by kernel_rfl) zero5_one O2c.out rfl ?_; intro w4 s1 s2) | ((with_reducible refine (HH.out _ M2.out).mono ?_); rintro e w3 ⟨rfl, n3⟩; have O0c := Lib.hid (O0b.out.nw n3); have O2c := Lib.hid (O2b.out.nw n3); have N3 := Lib.hid (gb_trans N2.out n3); have M3 := Lib.hid (gb_trans M2.out n3); have k4c : w3.cell? ⟨y0, 4, none⟩ = some (.slice (some ⟨b', off, none⟩) n c) := O0c.out.cell 4; clear n3) | ((with_reducible refine (HRT.out _ N1.out).mono ?_); rintro e w2 ⟨rfl, n2⟩; have O0b := Lib.hid (O0a.out.nw n2); have O2b := Lib.hid (O2a.out.nw n2); have N2 := Lib.hid (gb_trans N1.out n2); have M2 := Lib.hid (gb_trans M1.out n2); have k4b : w2.cell? ⟨y0, 4, none⟩ = some (.slice (some ⟨b', off, none⟩) n c) := O0b.out.cell 4; have kst := HCQ.out w2 M2.out; clear n2) | (refine wpList_load_obj 24 _ rfl rfl rfl O0a.out _ Try.underlying24 rfl (by kernel_rfl) ?_) | ((with_reducible refine HI.out.mono ?_); rintro e w1 ⟨rfl, n1⟩; have O0a := Lib.hid (O0.out.nw n1); have O2a := Lib.hid (O2.out.nw n1); have N1 := Lib.hid (gb_trans N0.out n1); have M1 := Lib.hid n1; clear n1))
  have f4c : ∀ (w4 : World), Nw w3 w4 → w4.cell? ⟨y0, 4, none⟩ = some (.slice (some ⟨b', off, none⟩) n c) ∧ w4.frozen? ⟨y0, 4, none⟩ = false := fun w4 k => ⟨(O0c.out.nw k).cell 4, (O0c.out.nw k).frozen 4⟩
  have F4 := Lib.hid f4c
  clear f4c
  have hlm : ms.length = n := HR.out.lenL mc_len (by decide)
  have HLM := Lib.hid hlm
  clear hlm
  go_upto_region 9 with ((with_reducible refine (HCL.out _ M3.out).mono ?_); rintro e w4 ⟨A4, n4, c4, rfl, o4, nw4⟩; have e4 : n = n4 := (by have h1 := o4.lenL mc_len (by decide); have h2 := HLM.out; omega); subst e4; obtain ⟨g4, rfl, hg4⟩ := o4.some_ (Nat.lt_of_le_of_lt (Nat.zero_le i) hin); obtain ⟨k4d, f4d⟩ := F4.out _ nw4)
  obtain ⟨cur4, q4⟩ := o4.obj
  have d4 : y0 ≠ g4 := (O0c.out.nw nw4).ne q4 (by decide)
  have gV : w4.grownBy (w4.setCell ⟨y0, 4, none⟩ (.slice (some ⟨g4, 0, none⟩) n c4)) (some y0) := gb_set (gb_nw (Nw.refl w4)) (.inl rfl) _
  have oV := o4.kept gV (fun r hr e => by injection hr with hr; have e2 : g4 = r := by simpa [Value.ownBlock] using e
                                          omega)
  have O0d : Obj1 (w4.setCell ⟨y0, 4, none⟩ (.slice (some ⟨g4, 0, none⟩) n c4)) y0 24 #[.int .i64 a, .int .i64 g, .int .i64 m, .int .i64 b, .slice (some ⟨g4, 0, none⟩) n c4] := (O0c.out.nw nw4).set 4 _
  have O2d := (O2c.out.nw nw4).chg (Chg.set w4 (p := ⟨y0, 4, none⟩) (F := [y0]) (by simp) (.slice (some ⟨g4, 0, none⟩) n c4)) (by simpa using Ne.symm d02)
  have nV := nw_of_gb (gb_trans N3.out nw4) gV (fun r hr => by injection hr with hr; omega)
  have hb3 : w.heap.size ≤ w3.heap.size := N3.out.size
  obtain ⟨V, hV⟩ : ∃ V, w4.setCell ⟨y0, 4, none⟩ (.slice (some ⟨g4, 0, none⟩) n c4) = V := ⟨_, rfl⟩
  rw [hV] at oV O0d O2d nV ⊢
  clear gV hV o4 q4 k4d f4d HCL HH HI HRT HCQ kst k4b k4c k4
  have oV' := oV.more hb3
  obtain ⟨u9, hu9, c9, f9⟩ := oV'.cellN (k := i * 3 + 2) (by omega)
  have k9 : V.cell? ⟨y0, 4, none⟩ = some (.slice (some ⟨g4, 0, none⟩) n c4) := O0d.cell 4
  go_upto_region 10 with fail
  obtain ⟨s5, gU⟩ := oV'.set (i * 3 + 2) (.int .i64 1)
  rw [fl_set1 mc_len (x := q) (y := failed q) (by decide) rfl ms i HGET.out] at s5
  have O0e := O0d.chg (Chg.of_gb (F := [g4]) gU (by intro r hr; injection hr with hr; simp [hr])) (by simpa using d4)
  obtain ⟨cur5, q5⟩ := oV'.obj
  have d24 : y2 ≠ g4 := O2d.ne q5 (by decide)
  have O2e := O2d.chg (Chg.of_gb (F := [g4]) gU (by intro r hr; injection hr with hr; simp [hr])) (by simpa using d24)
  have nU := nw_of_gb nV gU (fun r hr => by injection hr with hr; omega)
  obtain ⟨U, hU⟩ : ∃ U, V.setCell ⟨g4, i * 3 + 2, none⟩ (.int .i64 1) = U := ⟨_, rfl⟩
  rw [hU] at s5 gU O0e O2e nU ⊢
  clear c9 f9 k9 hu9 gU hU oV oV' O0d O2d q5
  have k10 : U.cell? ⟨y0, 1, none⟩ = some (.int .i64 g) := O0e.cell 1
  have f10 := O0e.frozen 1
  obtain ⟨hg1, hg2⟩ := HGB.out trivial
  go_upto_region 11 with fail
  have gT : U.grownBy (U.setCell ⟨y0, 1, none⟩ (.int .i64 (g + 1))) (some y0) := gb_set (gb_nw (Nw.refl U)) (.inl rfl) _
  have s6 := s5.kept gT (fun r hr e => by injection hr with hr; have e2 : g4 = r := by simpa [Value.ownBlock] using e
                                          omega)
  have O0f : Obj1 (U.setCell ⟨y0, 1, none⟩ (.int .i64 (g + 1))) y0 24 #[.int .i64 a, .int .i64 (g + 1), .int .i64 m, .int .i64 b, .slice (some ⟨g4, 0, none⟩) n c4] := O0e.set 1 _
  have O2f := O2e.chg (Chg.of_gb (F := [y0]) gT (by intro r hr; injection hr with hr; simp [hr])) (by simpa using Ne.symm d02)
  have nT := nw_of_gb nU gT (fun r hr => by injection hr with hr; omega)
  obtain ⟨T, hT⟩ : ∃ T, U.setCell ⟨y0, 1, none⟩ (.int .i64 (g + 1)) = T := ⟨_, rfl⟩
  rw [hT] at s6 gT O0f O2f nT ⊢
  clear gT hT s5 O0e O2e k10 f10
  have hlm2 : ms.set i (failed q) = lostM X.ms id := by
    rw [HXX.out]; unfold lostM; simp only; rw [HIX.out]; simp only
    exact (modify_set HGET.out failed).symm
  rw [hlm2] at s6
  have hok2 : LOk T T.heap.size ⟨a, g + 1, m, b, some ⟨g4, 0, none⟩, n, c4, lostM X.ms id⟩ := ⟨s6.rd, s6.cap.1, s6.cap.2⟩
  have hr2 := right_any hok2 (Nat.le_refl _) hn
  unfold lv at hr2
  have hrl : rightB ⟨a, g + 1, m, b, some ⟨g4, 0, none⟩, n, c4, lostM X.ms id⟩ = rightB (lostL X id) := by rw [HXX.out]; rfl
  rw [hrl] at hr2
  simp only at hr2
  obtain ⟨r2, hr2b⟩ : ∃ r2, rightB (lostL X id) = r2 := ⟨_, rfl⟩
  rw [hr2b] at hr2
  have HR2 := Lib.hid hr2; have HRB := Lib.hid hr2b
  unfold Ret at HR2
  have O0g := Lib.hid O0f; have O2g := Lib.hid O2f; have NT := Lib.hid nT; have S6 := Lib.hid s6
  clear hok2 hr2 hrl hr2b O0f O2f nT s6 hlm2
  rcases r2 with _ | _
  · have HV := Lib.hid (HE.out 3 (by decide) (by rw [HLE2.out]; simp [HRB.out]))
    go_wp2_with (first
      | (refine wpList_store_obj 24 _ _ rfl rfl [.int .i64 0, .int .i64 0, .int .i64 0, .int .i64 0, .slice none 0 0] rfl rfl rfl (by kernel_rfl) zero5_one O2h.out rfl ?_; intro w8 s1 s2)
      | ((with_reducible refine HR2.out.mono ?_); rintro e w7 ⟨rfl, n7⟩; have O2h := Lib.hid (O2g.out.nw n7))
      | (refine wpList_load_obj 24 _ rfl rfl rfl O0g.out _ Try.underlying24 rfl (by kernel_rfl) ?_))
    (refine bodyPost_ret (res_cell_tmp rfl _ _ _ 24 _ _ rfl s1 Try.underlying24 rfl (by kernel_rfl)) rfl ?_)
    exact HV.out w8 (nw_of_gb (gb_trans NT.out n7) s2 (fun r hr => by injection hr with hr; omega))
  · have HV := Lib.hid (show lostE X id = 0 by rw [HLE2.out]; simp [HRB.out])
    go_wp2_with (first
      | (refine wpList_store_obj 24 _ _ rfl rfl [.int .i64 a, .int .i64 (g + 1), .int .i64 m, .int .i64 b, .slice (some ⟨g4, 0, none⟩) n c4] rfl rfl rfl (by kernel_rfl) (lc_one1 _ _ _ _ _ _ _) O2h.out rfl ?_; intro w8 s1 s2)
      | (refine wpList_load_obj 24 _ rfl rfl rfl O0h.out _ Try.underlying24 rfl (by kernel_rfl) ?_)
      | ((with_reducible refine HR2.out.mono ?_); rintro e w7 ⟨rfl, n7⟩; have O2h := Lib.hid (O2g.out.nw n7); have O0h := Lib.hid (O0g.out.nw n7); have S7 := Lib.hid (S6.out.nw n7))
      | (refine wpList_load_obj 24 _ rfl rfl rfl O0g.out _ Try.underlying24 rfl (by kernel_rfl) ?_))
    (refine bodyPost_ret (res_cell_tmp rfl _ _ _ 24 _ _ rfl s1 Try.underlying24 rfl (by kernel_rfl)) rfl ?_)
    have h8 := S7.out.kept s2 (fun r hr e => by
      injection hr with hr; have e2 : g4 = r := by simpa [Value.ownBlock] using e
      obtain ⟨cur8, q8⟩ := S7.out.obj
      exact O2h.out.ne q8 (by decide) (by omega))
    have hfin := lost_ok (X := X) (id := id) (A := some ⟨g4, 0, none⟩) (n := n) (c := c4) HV.out (nw_of_gb (gb_trans NT.out n7) s2 (fun r hr => by injection hr with hr; omega)) h8
    rw [HXX.out] at hfin ⊢
    exact hfin
theorem lost_any {w : World} {B : Nat} {x : Lb} {id : Int} (h : LOk w B x) (hB : B ≤ w.heap.size) (hn : x.n ≤ 1000000) : Calls Try.prog 11 #[lv x, .int .i64 id] w (LostPost x id w) :=
  lost_go (X := x) rfl h hB hn
end Go.Proofs.Ytkkkhkkjdjnfhaa

