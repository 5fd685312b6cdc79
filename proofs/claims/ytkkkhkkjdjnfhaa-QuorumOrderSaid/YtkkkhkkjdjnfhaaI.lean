/- What quorum.Choose returns, for every slice of labels of moderate size. -/
import Derived.Test.YtkkkhkkjdjnfhaaH
namespace Go.Proofs.Ytkkkhkkjdjnfhaa
open Go.RowKit Go.BW

theorem T35 : El Try.prog 35 3 (.int .i64 0) 1 8 := El.mk' Try.underlying35 (by kernel_rfl) rfl (by decide)
/-- is it a member that is missed? -/
def missB (r : List Lb) (arr : Int) (m : Mem) : Bool := m.st == 0 && !r.any (ofM m.id arr)
def missL (r : List Lb) (y : Lb) : List Int := (y.ms.filter (missB r y.a)).map (·.id)
/-- what Choose answers beside the label and the missing -/
def chooseE (ls : List Lb) : Int :=
  let r := ls.filter rightB
  if r = [] then 8 else if r.any (clash (maxOf r)) then 2 else if 1 < (missL r (maxOf r)).length then 5 else 0
def ChoosePost (ls : List Lb) (w : World) (e : Ending) (w' : World) : Prop :=
  Nw w w' ∧ ((chooseE ls ≠ 0 ∧ e = .returned (.tuple #[lv l0, .slice none 0 0, .int .i64 (chooseE ls)])) ∨
    (chooseE ls = 0 ∧ ∃ A n c M k d, e = .returned (.tuple #[lv ⟨(maxOf (ls.filter rightB)).a, (maxOf (ls.filter rightB)).g, (maxOf (ls.filter rightB)).m, (maxOf (ls.filter rightB)).b, A, n, c, (maxOf (ls.filter rightB)).ms⟩, .slice M k d, .int .i64 0]) ∧
      Own w' w.heap.size 28 3 A n c (fl mc (maxOf (ls.filter rightB)).ms) ∧ Own w' w.heap.size 3 1 M k d ((missL (ls.filter rightB) (maxOf (ls.filter rightB))).map iv)))
theorem res_cell_two {P : Program} {fn : Func} {p u v : Tmp} {ty : TypeId} (h : fn.results = #[.cell p ty, .tmp u, .tmp v]) (tmps : Array Value) (w : World) (g : Nat) (t : TypeId) (cs : Array Value) (d : TypeDesc)
    (hp : tmps.getD p undef = .pointer (some ⟨g, 0, none⟩)) (hg : Obj1 w g t cs) (hu : P.underlying ty = some d) (hd : (match d with | .struct _ | .array _ _ => true | _ => false) = true) (hi : (P.info? ty).map (·.size) = some cs.size) :
    (results fn tmps).run P w = .ok (.tuple #[.agg cs, tmps.getD u undef, tmps.getD v undef]) w := by
  simp only [results, h]
  rw [Array.getD_eq_getD_getElem?] at hp
  simp [Sem.run_bind, hp, asAddr, run_loadVar_row w g t ty cs (0, 0) d hg hu hd hi]
theorem choose_err {ls : List Lb} {v : Int} {w w' : World} (h : chooseE ls = v) (hv : v ≠ 0) (hw : Nw w w') :
    ChoosePost ls w (.returned (.tuple #[.agg #[.int .i64 0, .int .i64 0, .int .i64 0, .int .i64 0, .slice none 0 0], .slice none 0 0, .int .i64 v])) w' := by
  subst h; exact ⟨hw, .inl ⟨hv, rfl⟩⟩
theorem choose_ok {ls r : List Lb} {y : Lb} {A M : Option Addr} {n c k d : Nat} {w w' : World} (hr : ls.filter rightB = r) (hy : maxOf r = y) (h : chooseE ls = 0) (hw : Nw w w') (ho : Own w' w.heap.size 28 3 A n c (fl mc y.ms)) (hm : Own w' w.heap.size 3 1 M k d ((missL r y).map iv)) :
    ChoosePost ls w (.returned (.tuple #[.agg #[.int .i64 y.a, .int .i64 y.g, .int .i64 y.m, .int .i64 y.b, .slice A n c], .slice M k d, .int .i64 0])) w' := by
  subst hr; subst hy
  exact ⟨hw, .inr ⟨h, A, n, c, M, k, d, rfl, ho, hm⟩⟩
theorem miss_step {r : List Lb} {arr : Int} {ms : List Mem} {j : Nat} {x : Mem} (hx : ms[j]? = some x) : ((ms.take (j + 1)).filter (missB r arr)).map (·.id) = ((ms.take j).filter (missB r arr)).map (·.id) ++ (if missB r arr x then [x.id] else []) := by
  obtain ⟨hj, rfl⟩ := List.getElem?_eq_some_iff.1 hx
  rw [List.take_succ_eq_append_getElem hj, List.filter_append, List.map_append, List.filter_cons]
  split <;> simp
set_option maxRecDepth 100000 in
set_option maxHeartbeats 8000000 in
theorem choose_any {w : World} {B n c : Nat} {A : Option Addr} {ls : List Lb} (hr : Rd w B 5 A n (fl lc ls)) (hok : ∀ x ∈ ls, LOk w B x) (hB : B ≤ w.heap.size) (hn : n ≤ 1000000) (hms : ∀ x ∈ ls, x.n ≤ 1000000) :
    Calls Try.prog 12 #[.slice A n c] w (ChoosePost ls w) := by
  have hE : ∀ v, v ≠ 0 → chooseE ls = v → ∀ w', Nw w w' → ChoosePost ls w (.returned (.tuple #[.agg #[.int .i64 0, .int .i64 0, .int .i64 0, .int .i64 0, .slice none 0 0], .slice none 0 0, .int .i64 v])) w' := fun v hv he w' hw => choose_err he hv hw
  have hce : chooseE ls = (if ls.filter rightB = [] then 8 else if (ls.filter rightB).any (clash (maxOf (ls.filter rightB))) then 2 else if 1 < (missL (ls.filter rightB) (maxOf (ls.filter rightB))).length then 5 else 0) := rfl
  have hlen := hr.lenL lc_len (by decide)
  obtain ⟨r, hrr⟩ : ∃ r, ls.filter rightB = r := ⟨_, rfl⟩
  rw [hrr] at hce
  have hrl : r.length ≤ n := by rw [← hrr, ← hlen]; exact List.length_filter_le ..
  have hrm : ∀ x ∈ r, x ∈ ls ∧ rightB x = true := by intro x hx; rw [← hrr, List.mem_filter] at hx; exact hx
  have HRR := Lib.hid hrr
  -- the result's variable
  have ho0 := Obj1.new w 24 #[.int .i64 0, .int .i64 0, .int .i64 0, .int .i64 0, .slice none 0 0]
  have hn0 := World.grownBy_alloc w (.cells #[.int .i64 0, .int .i64 0, .int .i64 0, .int .i64 0, .slice none 0 0] 24) none
  go_enter Try.func12, Try.ntmps12
  go_upto_region 1 with fail
  obtain ⟨W, hW⟩ : ∃ W, w.alloc (.cells #[.int .i64 0, .int .i64 0, .int .i64 0, .int .i64 0, .slice none 0 0] 24) = W := ⟨_, rfl⟩
  obtain ⟨y2, hy2⟩ : ∃ y, w.heap.size = y := ⟨_, rfl⟩
  rw [hW] at ho0 hn0 ⊢
  rw [hy2] at ho0 ⊢
  have hy2w : w.heap.size ≤ y2 := by omega
  have hy2W := ho0.lt
  have HCL := Lib.hid (cloneL_any (c := c) (hr.nw hn0 hB) (Nat.le_trans hB hn0.size) hn)
  have HDL := Lib.hid (fun (w1 : World) (A1 : Option Addr) (n1 c1 : Nat) (h : Own w1 W.heap.size 24 5 A1 n1 c1 (fl lc ls)) (k : Nw W w1) => delete_any h (fun x hx => (hok x hx).nw (gb_trans hn0 k) hB) (Nat.le_trans hB hn0.size) k.size (by have := h.lenL lc_len (by decide); omega) hms)
  have O0 := Lib.hid ho0; have N0 := Lib.hid hn0; have HOK := Lib.hid hok; have HMS := Lib.hid hms; have HE := Lib.hid hE; have HCE := Lib.hid hce; have HRM := Lib.hid hrm
  clear hW hy2 ho0 hn0 hok hms hE hce hrm hr hlen hrr
  unfold RetOwn at HCL
  unfold DelPost at HDL
  go_upto_region 2 with (first
    | ((with_reducible refine (HDL.out _ _ _ _ o1 n1).mono ?_); rintro e w2 ⟨A2, n2, c2, rfl, o2, g2⟩)
    | ((with_reducible refine HCL.out.mono ?_); rintro e w1 ⟨A1, n1', c1, rfl, o1, n1⟩))
  rw [HRR.out] at o2
  have hblk := o1.blk
  have hWw := N0.out.size
  have N2 := Lib.hid (nw_of_gb (gb_trans N0.out n1) g2 (fun q hq => by have := hblk q hq; omega))
  have O2 := Lib.hid ((O0.out.nw n1).eq (g2.block y2 (Nat.lt_of_lt_of_le hy2W n1.size) (by intro e; have := hblk _ e.symm; omega)))
  have hn2 := o2.lenL lc_len (by decide)
  have hWw2 : W.heap.size ≤ w2.heap.size := Nat.le_trans n1.size g2.size
  have OR := Lib.hid o2; have HN2 := Lib.hid hn2
  have HOK2 := Lib.hid (fun x (hx : x ∈ r) w' (k : Nw w2 w') => (HOK.out x (HRM.out x hx).1).nw (gb_trans N2.out k) hB)
  clear o1 n1 g2 o2 hblk hn2 HCL HDL
  by_cases hr0 : r = []
  · have h0 : n2 = 0 := by rw [← HN2.out, hr0]; rfl
    have HV := Lib.hid (HE.out 8 (by decide) (by rw [HCE.out, if_pos hr0]))
    have OZ := Lib.hid O2.out
    subst h0
    go_wp2_with (first | (refine wpList_store_obj 24 _ _ rfl rfl [.int .i64 0, .int .i64 0, .int .i64 0, .int .i64 0, .slice none 0 0] rfl rfl rfl (by kernel_rfl) (lc_one1 0 0 0 0 none 0 0) OZ.out rfl ?_; intro w9 s1 s2))
    (refine bodyPost_ret (res_cell_two rfl _ _ _ 24 _ _ rfl s1 Try.underlying24 rfl (by kernel_rfl)) rfl ?_)
    exact HV.out w9 (nw_of_gb N2.out s2 (fun q hq => by injection hq with hq; omega))
  have hn1 : 1 ≤ n2 := by
    rw [← HN2.out]
    rcases r with _ | ⟨a, l⟩
    · exact absurd rfl hr0
    · simp
  have hb0 : ((n2 : Int) == 0) = false := by rw [beq_eq_false_iff_ne]; omega
  have hn2n : n2 ≤ 1000000 := by rw [← HN2.out]; omega
  have hgr : ∀ x ∈ r, 1 ≤ x.g ∧ x.g ≤ 4294967295 := by
    intro x hx
    have := (HRM.out x hx).2
    unfold rightB inB at this; simp at this; omega
  have HMX := Lib.hid (max_any (c := c2) OR.out.rd (Nat.le_refl _) hn1 hn2n hgr)
  have hym := maxOf_mem hr0
  obtain ⟨y, hy⟩ : ∃ y, maxOf r = y := ⟨_, rfl⟩
  rw [hy] at HMX hym
  have hce2 : chooseE ls = (if r.any (clash y) then 2 else if 1 < (missL r y).length then 5 else 0) := by rw [HCE.out, if_neg hr0, hy]
  have HCE2 := Lib.hid hce2; have HY := Lib.hid hy
  unfold lv Ret at HMX
  clear HCE hgr hy hce2 hr0
  go_upto_region 5 with ((with_reducible refine HMX.out.mono ?_); rintro e w3 ⟨rfl, n3⟩)
  have ho6 := Obj1.new w3 24 #[.int .i64 y.a, .int .i64 y.g, .int .i64 y.m, .int .i64 y.b, .slice y.A y.n y.c]
  have hn4 := gb_trans n3 (World.grownBy_alloc w3 (.cells #[.int .i64 y.a, .int .i64 y.g, .int .i64 y.m, .int .i64 y.b, .slice y.A y.n y.c] 24) none)
  obtain ⟨V, hV⟩ : ∃ V, w3.alloc (.cells #[.int .i64 y.a, .int .i64 y.g, .int .i64 y.m, .int .i64 y.b, .slice y.A y.n y.c] 24) = V := ⟨_, rfl⟩
  obtain ⟨y6, hy6⟩ : ∃ q, w3.heap.size = q := ⟨_, rfl⟩
  rw [hV] at ho6 hn4 ⊢
  rw [hy6] at ho6 ⊢
  have hy6w : w.heap.size ≤ y6 := by have h1 := N2.out.size; have h2 := n3.size; omega
  have hd26 : y2 ≠ y6 := by have h1 := O2.out.lt; have h2 := n3.size; omega
  have OV := Lib.hid ho6; have OZ := Lib.hid (O2.out.nw hn4); have NV := Lib.hid (gb_trans N2.out hn4); have M2 := Lib.hid hn4; have RV := Lib.hid (OR.out.nw hn4)
  have hyn := HMS.out y (HRM.out y hym).1
  have HAS := Lib.hid (has29_any (d := c2) RV.out.rd (Nat.le_refl _) hn2n (.pointer (some ⟨y6, 0, none⟩)) (clash y) (fun m hm w' k => clash_any (HOK2.out m hm w' (gb_trans M2.out k)) (HOK2.out y hym w' (gb_trans M2.out k)) (Nat.le_trans hB (gb_trans NV.out k).size) (Nat.le_trans hB (gb_trans NV.out k).size) (HMS.out m (HRM.out m hm).1) hyn (OV.out.nw k)))
  obtain ⟨cb, hcb⟩ : ∃ cb, r.any (clash y) = cb := ⟨_, rfl⟩
  rw [hcb] at HAS
  have HCE3 := Lib.hid (show chooseE ls = (if cb = true then 2 else if 1 < (missL r y).length then 5 else 0) by rw [HCE2.out, hcb])
  unfold Ret at HAS
  clear hV hy6 ho6 hn4 hcb HCE2 n3 OR O2 HMX N2
  rcases cb with _ | _
  case true =>
    have HV := Lib.hid (HE.out 2 (by decide) (by rw [HCE3.out]; rfl))
    go_wp2_with (first
      | (refine wpList_store_obj 24 _ _ rfl rfl [.int .i64 0, .int .i64 0, .int .i64 0, .int .i64 0, .slice none 0 0] rfl rfl rfl (by kernel_rfl) (lc_one1 0 0 0 0 none 0 0) (OZ.out.nw n5) rfl ?_; intro w9 s1 s2)
      | ((with_reducible refine HAS.out.mono ?_); rintro e w5 ⟨rfl, n5⟩))
    (refine bodyPost_ret (res_cell_two rfl _ _ _ 24 _ _ rfl s1 Try.underlying24 rfl (by kernel_rfl)) rfl ?_)
    exact HV.out w9 (nw_of_gb (gb_trans NV.out n5) s2 (fun q hq => by injection hq with hq; omega))
  go_upto_region 8 with ((with_reducible refine HAS.out.mono ?_); rintro e w5 ⟨rfl, n5⟩)
  have O6 := Lib.hid (OV.out.nw n5); have OZ5 := Lib.hid (OZ.out.nw n5); have N5 := Lib.hid (gb_trans NV.out n5); have M5 := Lib.hid (gb_trans M2.out n5); have R5 := Lib.hid (RV.out.nw n5)
  have k64 : w5.cell? ⟨y6, 4, none⟩ = some (.slice y.A y.n y.c) := O6.out.cell 4
  have hyr := (HOK2.out y hym w5 M5.out)
  obtain ⟨YA, hYA⟩ : ∃ YA, y.A = YA := ⟨_, rfl⟩
  obtain ⟨yn, hyn'⟩ : ∃ yn, y.n = yn := ⟨_, rfl⟩
  obtain ⟨yc, hyc⟩ : ∃ yc, y.c = yc := ⟨_, rfl⟩
  obtain ⟨ya, hya⟩ : ∃ ya, y.a = ya := ⟨_, rfl⟩
  obtain ⟨yms, hyms⟩ : ∃ yms, y.ms = yms := ⟨_, rfl⟩
  have hyrd := hyr.rd
  rw [hYA, hyn', hyms] at hyrd
  rw [hYA, hyn', hyc] at k64
  rw [hYA, hyn', hyc, hya] at O6
  rw [hyn'] at hyn
  have HYRD := Lib.hid hyrd; have HEQ := Lib.hid (show y.A = YA ∧ y.n = yn ∧ y.c = yc ∧ y.a = ya ∧ y.ms = yms from ⟨hYA, hyn', hyc, hya, hyms⟩)
  have HCE4 := Lib.hid (show chooseE ls = if 1 < ((yms.filter (missB r ya)).map (·.id)).length then 5 else 0 by rw [HCE3.out, ← hyms, ← hya]; rfl)
  clear n5 HAS hyr hyrd hYA hyn' hyc hya hyms OV OZ NV M2 RV HCE3
  have hB5 : B ≤ w5.heap.size := Nat.le_trans hB N5.out.size
  go_wp2_with fail
  go_loopw [7, 27] (fun mv i wr => ∃ (j : Nat) (M : Option Addr) (k d : Nat), j ≤ yn ∧ i = .int .i64 j ∧ mv = .slice M k d ∧ Own wr w5.heap.size 3 1 M k d ((((yms.take j).filter (missB r ya)).map (·.id)).map iv) ∧ Nw w5 wr) (fun _ i _ => yn - (intOf i).toNat)
  case atStart => exact ⟨0, none, 0, 0, Nat.zero_le _, rfl, rfl, Own.nil, Nw.refl _⟩
  case round =>
    obtain ⟨j, M, k, d, hj, rfl, rfl, hown, hnw⟩ := hrel
    by_cases hlt : j < yn
    · obtain ⟨_, b', off, x, hAe, _, hx, hc⟩ := (HYRD.out.nw hnw hB5).atL mc_len (by decide) hlt
      have hstep := miss_step (r := r) (arr := ya) hx
      have hkl : k ≤ 1000000 := by
        have h1 := hown.len
        rw [List.length_map, List.length_map] at h1
        have h2 := List.length_filter_le (missB r ya) (yms.take j)
        rw [List.length_take] at h2; omega
      have hmb : missB r ya x = (x.st == 0 && !r.any (ofM x.id ya)) := rfl
      obtain ⟨xi, xs, xt⟩ := x
      change ∀ u v, [Value.int .i64 xi, .int .i64 xs, .int .i64 xt][u]? = some v → _ at hc
      simp only at hmb hstep
      have HC := Lib.hid hc
      subst hAe
      have hjn : (j : Int) < (yn : Int) := by omega
      have hU := World.grownBy_alloc wr (.cells #[.int .i64 xi, .int .i64 xs, .int .i64 xt] 28) none
      have hpc := (Obj1.new wr 28 #[.int .i64 xi, .int .i64 xs, .int .i64 xt])
      have HHAS := Lib.hid (has31_any (w := wr.alloc (.cells #[.int .i64 xi, .int .i64 xs, .int .i64 xt] 28)) (d := c2) (R5.out.nw (gb_trans hnw hU)).rd (Nat.le_refl _) hn2n (.pointer (some ⟨wr.heap.size, 0, none⟩)) (.pointer (some ⟨y6, 0, none⟩)) (ofM xi ya) (fun m _ w' k => ofM_any ((hpc.nw k).cell 0) ((O6.out.nw (gb_trans (gb_trans hnw hU) k)).cell 0)))
      obtain ⟨q, hq⟩ : ∃ q, r.any (ofM xi ya) = q := ⟨_, rfl⟩
      rw [hq] at HHAS hmb
      unfold Ret at HHAS
      have HST := Lib.hid hstep; have HMB := Lib.hid hmb; have HW := Lib.hid hown; have HU := Lib.hid hU
      have hs3 : (Try.prog.info? 28).map (·.size) = some [Value.int .i64 xi, .int .i64 xs, .int .i64 xt].length := by kernel_rfl
      have hsm : (k + 1) * 8 ≤ 140737488355328 ∧ k + 1 ≤ maxLen := by unfold maxLen; omega
      clear hc hx hpc hq hstep hmb hown hU
      rcases (show xt ≠ 0 ∨ xt = 0 by omega) with ht | ht
      · have hb : (xt == 0) = false := by simpa using ht
        have HF := Lib.hid (show missB r ya ⟨xi, xs, xt⟩ = false by rw [HMB.out, hb]; rfl)
        go_wp2_with (first | (refine wpList_load_agg 28 _ rfl rfl rfl [Value.int .i64 xi, .int .i64 xs, .int .i64 xt] HC.out _ Try.underlying28 rfl hs3 ?_))
        go_roundw
        case rel => exact ⟨j + 1, M, k, d, by omega, by go_num, rfl, by rw [HST.out, HF.out, if_neg (by decide), List.append_nil]; exact HW.out.nw HU.out, gb_trans hnw HU.out⟩
        case measure => simp only [intOf]; omega
      subst ht
      rcases q with _ | _
      · have HF := Lib.hid (show missB r ya ⟨xi, xs, 0⟩ = true by rw [HMB.out]; rfl)
        go_wp2_with (first
          | (at_builtin; refine wpList_app1_own T35 _ _ rfl rfl rfl rfl (HW.out.nw (gb_trans HU.out n7)) rfl hsm (Nat.le_trans hnw.size (Nat.le_trans HU.out.size n7.size)) ?_; intro A8 c8 w8 o8 g8 _)
          | ((with_reducible refine HHAS.out.mono ?_); rintro e w7 ⟨rfl, n7⟩; have hcl : w7.cell? ⟨wr.heap.size, 0, none⟩ = some (.int .i64 xi) := ((Obj1.new wr 28 #[.int .i64 xi, .int .i64 xs, .int .i64 0]).nw n7).cell 0)
          | (refine wpList_load_agg 28 _ rfl rfl rfl [Value.int .i64 xi, .int .i64 xs, .int .i64 0] HC.out _ Try.underlying28 rfl hs3 ?_))
        go_roundw
        case rel => exact ⟨j + 1, A8, k + 1, c8, by omega, by go_num, rfl, by rw [HST.out, HF.out, if_pos rfl, List.map_append]; exact o8, nw_of_gb (gb_trans hnw (gb_trans HU.out n7)) g8 HW.out.blk⟩
        case measure => simp only [intOf]; omega
      · have HF := Lib.hid (show missB r ya ⟨xi, xs, 0⟩ = false by rw [HMB.out]; rfl)
        go_wp2_with (first
          | ((with_reducible refine HHAS.out.mono ?_); rintro e w7 ⟨rfl, n7⟩)
          | (refine wpList_load_agg 28 _ rfl rfl rfl [Value.int .i64 xi, .int .i64 xs, .int .i64 0] HC.out _ Try.underlying28 rfl hs3 ?_))
        go_roundw
        case rel => exact ⟨j + 1, M, k, d, by omega, by go_num, rfl, by rw [HST.out, HF.out, if_neg (by decide), List.append_nil]; exact HW.out.nw (gb_trans HU.out n7), gb_trans hnw (gb_trans HU.out n7)⟩
        case measure => simp only [intOf]; omega
    · have hjn : j = yn := by omega
      subst hjn
      rw [List.take_of_length_le (by rw [HYRD.out.lenL mc_len (by decide)]; exact Nat.le_refl _)] at hown
      have hkl := hown.len
      rw [List.length_map] at hkl
      have HCE5 := Lib.hid (show chooseE ls = if 1 < k then 5 else 0 by rw [HCE4.out, hkl, Nat.mul_one])
      have O6r := Lib.hid (O6.out.nw hnw); have OZr := Lib.hid (OZ5.out.nw hnw); have Nr := Lib.hid (gb_trans N5.out hnw)
      have HW := Lib.hid (hown.more N5.out.size)
      clear hkl HCE4 hown
      rcases (show 1 < k ∨ k ≤ 1 by omega) with hk1 | hk1
      · have hb : (1 : Int) < (k : Int) := by omega
        have HV := Lib.hid (HE.out 5 (by decide) (by rw [HCE5.out, if_pos hk1]))
        go_wp2_with (refine wpList_store_obj 24 _ _ rfl rfl [.int .i64 0, .int .i64 0, .int .i64 0, .int .i64 0, .slice none 0 0] rfl rfl rfl (by kernel_rfl) (lc_one1 0 0 0 0 none 0 0) OZr.out rfl ?_; intro w9 s1 s2)
        (refine bodyPost_ret (res_cell_two rfl _ _ _ 24 _ _ rfl s1 Try.underlying24 rfl (by kernel_rfl)) rfl ?_)
        exact HV.out w9 (nw_of_gb Nr.out s2 (fun q hq => by injection hq with hq; omega))
      · have hb : decide (1 < k) = false := by simp; omega
        have hb' : decide ((1 : Int) < (k : Int)) = false := by simp; omega
        have HV := Lib.hid (show chooseE ls = 0 by rw [HCE5.out, if_neg (by omega)])
        have HCN := Lib.hid (clone_any (c := yc) (HYRD.out.nw hnw hB5) (Nat.le_trans hB5 hnw.size) hyn)
        unfold RetOwn at HCN
        have k64r : wr.cell? ⟨y6, 4, none⟩ = some (.slice YA j yc) := O6r.out.cell 4
        go_wp2_with (first
          | (refine wpList_store_obj 24 _ _ rfl rfl [.int .i64 ya, .int .i64 y.g, .int .i64 y.m, .int .i64 y.b, .slice A7 n7 c7] rfl rfl rfl (by kernel_rfl) (lc_one1 _ _ _ _ _ _ _) Q2.out rfl ?_; intro w9 s1 s2)
          | (refine wpList_load_obj 24 _ rfl rfl rfl Q1.out _ Try.underlying24 rfl (by kernel_rfl) ?_)
          | ((with_reducible refine HCN.out.mono ?_); rintro e w7 ⟨A7, n7, c7, rfl, o7, nw7⟩; have P1 := Lib.hid (O6r.out.nw nw7); have P2 := Lib.hid (OZr.out.nw nw7); have hcell := P1.out.cell 4; have hfz := P1.out.frozen 4; have Q1 := Lib.hid (show Obj1 (w7.setCell ⟨y6, 4, none⟩ (.slice A7 n7 c7)) y6 24 #[.int .i64 ya, .int .i64 y.g, .int .i64 y.m, .int .i64 y.b, .slice A7 n7 c7] from P1.out.set 4 _); have Q2 := Lib.hid (P2.out.chg (Chg.set w7 (p := ⟨y6, 4, none⟩) (F := [y6]) (by simp) (.slice A7 n7 c7)) (by simpa using hd26))))
        (refine bodyPost_ret (res_cell_two rfl _ _ _ 24 _ _ rfl s1 Try.underlying24 rfl (by kernel_rfl)) rfl ?_)
        obtain ⟨e1, e2, e3, e4, e5⟩ := HEQ.out
        have g1 : w7.grownBy (w7.setCell ⟨y6, 4, none⟩ (.slice A7 n7 c7)) (some y6) := gb_set (gb_nw (Nw.refl w7)) (.inl rfl) _
        have o7' := o7.more (Nr.out.size)
        have o8 := o7'.kept g1 (fun q hq e => by injection hq with hq; subst hq; obtain ⟨cur, ho⟩ := o7'.rowObj _ e; exact ho.ne P1.out (by decide) rfl)
        have o9 := o8.kept s2 (fun q hq e => by injection hq with hq; subst hq; obtain ⟨cur, ho⟩ := o8.rowObj _ e; exact ho.ne Q2.out (by decide) rfl)
        have m7 := HW.out.nw nw7
        have m8 := m7.kept g1 (fun q hq e => by injection hq with hq; subst hq; obtain ⟨cur, ho⟩ := m7.rowObj _ e; exact ho.ne P1.out (by decide) rfl)
        have m9 := m8.kept s2 (fun q hq e => by injection hq with hq; subst hq; obtain ⟨cur, ho⟩ := m8.rowObj _ e; exact ho.ne Q2.out (by decide) rfl)
        have hfin := choose_ok (ls := ls) (r := r) (y := y) (A := A7) (M := M) (n := n7) (c := c7) (k := k) (d := d) HRR.out HY.out HV.out
          (nw_of_gb (nw_of_gb (gb_trans Nr.out nw7) g1 (fun q hq => by injection hq with hq; omega)) s2 (fun q hq => by injection hq with hq; omega)) (by rw [e5]; exact o9) (by unfold missL; rw [e5, e4]; exact m9)
        rw [e4] at hfin
        exact hfin
end Go.Proofs.Ytkkkhkkjdjnfhaa

