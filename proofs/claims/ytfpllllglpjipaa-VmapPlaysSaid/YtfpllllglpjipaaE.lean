/- What vmap's Set does. -/
import Derived.Test.YtfpllllglpjipaaD
namespace Go.Proofs.Ytfpllllglpjipaa
open Go.RowKit Go.BW

def applyN (ps : List Wh) (l : List Ch) : Nat → List Wh
  | 0 => ps
  | k + 1 => match l[k]? with
    | some x => (applyN ps l k).set x.b.toNat x.to
    | none => applyN ps l k
def dupN (q : List Wh) : Nat → Bool
  | 0 => false
  | k + 1 => dupN q k || (match q[k]? with | some x => decide (x.t ≠ 0) && (look (heldN q k) x).isSome | none => false)
def setF (ps : List Wh) (l : List Ch) : Int × List Wh :=
  if allIn ps.length l = false then (3, ps) else if (l.all fun x => mayB x.to) = false then (1, ps) else
    if dupN (applyN ps l l.length) ps.length then (9, ps) else (0, applyN ps l l.length)
def okI (a : Int) : Prop := -9223372036854775808 ≤ a ∧ a ≤ 9223372036854775807
def okW (x : Wh) : Prop := okI x.t ∧ okI x.g ∧ okI x.s
def okC (x : Ch) : Prop := okI x.b ∧ okW x.to
def SetPost (ps : List Wh) (l : List Ch) (g : Nat) (w : World) (e : Ending) (w' : World) : Prop :=
  e = .returned (.int .i64 (setF ps l).1) ∧ VRep w' g (setF ps l).2 ∧ Chg w w' [g]
theorem applyN_len (ps : List Wh) (l : List Ch) : ∀ k, (applyN ps l k).length = ps.length
  | 0 => rfl
  | k + 1 => by
    unfold applyN
    split
    · rw [List.length_set, applyN_len]
    · exact applyN_len ps l k
theorem all_take_false {l : List Ch} {k : Nat} {f : Ch → Bool} (h : (l.take k).all f = false) : l.all f = false := by
  rw [← List.take_append_drop k l, List.all_append, h]
  rfl
theorem dup_le {q : List Wh} : ∀ {k n : Nat}, k ≤ n → dupN q k = true → dupN q n = true
  | k, 0, h, hd => by have : k = 0 := by omega
                      subst this; exact hd
  | k, n + 1, h, hd => by
    rcases Nat.lt_or_ge k (n + 1) with h1 | h1
    · unfold dupN; rw [dup_le (by omega : k ≤ n) hd]; rfl
    · have : k = n + 1 := by omega
      subst this; exact hd
theorem VR.same {w w' : World} {g : Nat} {ps : List Wh} (h : VRep w g ps) (n : Nw w w') {l : List Ch} (v : Int) (hf : setF ps l = (v, ps)) : SetPost ps l g w (.returned (.int .i64 v)) w' := by
  unfold SetPost
  rw [hf]
  exact ⟨rfl, h.nw n, Chg.of_nw n⟩
theorem set_bad {w : World} {g : Nat} {ps : List Wh} (h : VRep w g ps) {B n d : Nat} {L : Option Addr} {l : List Ch} (hr : Rd w B 4 L n (fl cc l)) (hB : B ≤ w.heap.size) (hn : n ≤ 1000000) (hall : allIn ps.length l = false) :
    Calls Try.prog 11 #[pv g, .slice L n d] w (SetPost ps l g w) := by
  have hv := h
  obtain ⟨la, b, c, h1, h2, h3, h4⟩ := h
  have HC := fun (w1 : World) (n1 : Nw w w1) (hb : Obj1 w1 w.heap.size 24 #[pv g]) => contains_any (d := d) (h1.nw n1) hb (hr.nw n1 hB) (Nat.le_trans hB n1.size) hn
  rw [hall] at HC
  clear h1 h2 h3 h4 hr hB
  have hmf : ∀ (fn : Fn) (first cap : Array Value) (w : World), (Instr.makeFunc fn first cap).run Try.prog w = .ok (.func fn first cap) w := fun _ _ _ _ => rfl
  have HA := Lib.hid hall; clear hall
  unfold pv at HC ⊢
  have HC' := Lib.hid HC; clear HC
  have HV := Lib.hid hv; clear hv
  go_enter Try.func11, Try.ntmps11
  go_wp2_with (refine (HC'.out _ (World.grownBy_alloc w _ none) (Obj1.new w 24 _)).mono ?_; rintro e w2 ⟨rfl, n2⟩; have N2 := Lib.hid n2; clear n2)
  go_ret
  exact VR.same HV.out (gb_trans (World.grownBy_alloc w _ none) N2.out) 3 (by unfold setF; rw [if_pos HA.out])
def SetRel1 (w : World) (l1 N c1 : Nat) (ps : List Wh) (l : List Ch) (k : Nat) (wr : World) : Prop :=
  (l.take k).all (fun x => mayB x.to) = true ∧ Own wr 0 31 3 (some ⟨l1, 0, none⟩) N c1 (fl wc (applyN ps l k)) ∧ Nw w wr
def SetRel2 (w : World) (l1 N c1 hb : Nat) (q : List Wh) (k : Nat) (wr : World) : Prop :=
  dupN q k = false ∧ Own wr 0 31 3 (some ⟨l1, 0, none⟩) N c1 (fl wc q) ∧ MapAt wr hb (heldN q k) ∧ Nw w wr
set_option maxRecDepth 100000 in
set_option maxHeartbeats 8000000 in
theorem set_good {w : World} {g : Nat} {ps : List Wh} (h : VRep w g ps) {B n d : Nat} {L : Option Addr} {l : List Ch} (hr : Rd w B 4 L n (fl cc l)) (hB : B ≤ w.heap.size) (hn : n ≤ 1000000) (hall : allIn ps.length l = true) (hok : ∀ x ∈ l, okC x) (hps : ∀ x ∈ ps, okW x) :
    Calls Try.prog 11 #[pv g, .slice L n d] w (SetPost ps l g w) := by
  have hv := h
  obtain ⟨la, b, c, h1, h2, h3, h4⟩ := h
  have HC := fun (w1 : World) (n1 : Nw w w1) (hb : Obj1 w1 w.heap.size 24 #[pv g]) => contains_any (d := d) (h1.nw n1) hb (hr.nw n1 hB) (Nat.le_trans hB n1.size) hn
  rw [hall] at HC
  have HCL := fun (w1 : World) (n1 : Nw w w1) => clone_any (c := c) (h2.nw n1).rd (Nat.le_refl _) h4.2 (fl_one_cells ps)
  obtain ⟨N, hN⟩ : ∃ N, ps.length = N := ⟨_, rfl⟩
  rw [hN] at h1 HCL h4 hall
  have hcg : ∀ w', Nw w w' → w'.cell? ⟨g, 0, none⟩ = some (.slice (some ⟨la, 0, none⟩) N c) := fun w' k => by rw [(h1.nw k).cell 0]; rfl
  have HG := Lib.hid h1
  have HCG := Lib.hid hcg
  have H96 := Lib.hid h4
  have HLL := Lib.hid (hr.lenL cc_len (by omega))
  have HR := Lib.hid hr
  have HN := Lib.hid hN
  clear h1 h2 h3 h4 hr hcg hN
  have hmf : ∀ (fn : Fn) (first cap : Array Value) (w : World), (Instr.makeFunc fn first cap).run Try.prog w = .ok (.func fn first cap) w := fun _ _ _ _ => rfl
  have HA := Lib.hid hall; clear hall
  have HOK := Lib.hid hok; clear hok
  have HPS := Lib.hid hps; clear hps
  unfold pv at HC ⊢
  have HC' := Lib.hid HC; clear HC
  have HCL' := Lib.hid HCL; clear HCL
  have HV := Lib.hid hv; clear hv
  obtain ⟨i0, hi0, hz0, _⟩ := T28.info
  have HZ := Lib.hid hz0; clear hz0
  have H0 := Lib.hid hi0; clear hi0
  obtain ⟨i1, hi1, hz1, _⟩ := T22.info
  have HZ1 := Lib.hid hz1; clear hz1
  have HI1 := Lib.hid hi1; clear hi1
  obtain ⟨wb, hwb⟩ : ∃ wb, wb = w.alloc (.cells #[pv g] 24) := ⟨_, rfl⟩
  have HWB := Lib.hid (show Nw w wb from by rw [hwb]; exact World.grownBy_alloc w _ none)
  have HOB := Lib.hid (show Obj1 wb w.heap.size 24 #[pv g] from by rw [hwb]; exact Obj1.new w _ _)
  have HWE := Lib.hid hwb; clear hwb
  go_enter Try.func11, Try.ntmps11
  go_wp2_with (first | (refine (HCL'.out w2 N2').mono ?_; rintro e w3 ⟨A3, n3, c3, rfl, o3, m3⟩; have O3 := Lib.hid o3; have M3 := Lib.hid m3; clear o3 m3) |
    (refine (HC'.out _ (World.grownBy_alloc w _ none) (Obj1.new w 24 _)).mono ?_; rintro e w2 ⟨rfl, n2⟩; have N2 := Lib.hid n2; have N2' : Nw w w2 := gb_trans (World.grownBy_alloc w _ none) n2
     have N2b := Lib.hid (show Nw wb w2 from by rw [HWE.out]; exact n2); have OBX := Lib.hid ((Obj1.new w 24 #[pv g]).nw n2); have hb2 := ((Obj1.new w 24 #[pv g]).nw n2).cell 0; rw [show (#[pv g])[0]? = some (.pointer (some ⟨g, 0, none⟩)) from rfl] at hb2; have hg2 := HCG.out w2 N2'; clear n2))
  have hl3 := O3.out.lenL wc_len (by omega)
  have hn3 : n3 = N := by have := HN.out; omega
  subst hn3
  have H96' := H96.out
  obtain ⟨l1, rfl, hl1⟩ := O3.out.some_ (by omega)
  have HL1 := Lib.hid hl1
  have O4 := Lib.hid (O3.out.more (Nat.zero_le _))
  have N3 := Lib.hid (gb_trans N2b.out M3.out)
  clear hl3 hl1 hb2 hg2
  have OBX3 := Lib.hid (OBX.out.nw M3.out)
  clear hmf
  go_loopw [23] (fun i wr => ∃ k : Nat, k ≤ n ∧ i = .int .i64 k ∧ SetRel1 wb l1 n3 c3 ps l k wr) (fun i _ => n - (intOf i).toNat)
  case atStart => exact ⟨0, Nat.zero_le _, rfl, rfl, O4.out, N3.out⟩
  case round =>
    obtain ⟨k, hk, rfl, hm, ho, hnw⟩ := hrel
    have HM := Lib.hid hm; have HO := Lib.hid ho; have HNW := Lib.hid hnw; clear hm ho hnw
    by_cases hlt : k < n
    · obtain ⟨_, b5, off, x, rfl, hb5, hx, hc⟩ := (HR.out.nw (gb_trans HWB.out HNW.out) hB).atL cc_len (by omega) hlt
      have e0 := hc 0 _ rfl; have e1 := hc 1 _ rfl; have e2 := hc 2 _ rfl; have e3 := hc 3 _ rfl
      rw [Nat.add_zero] at e0
      have hmem := List.mem_of_getElem? hx
      have hokx := HOK.out x hmem
      have hib : inB x.b n3 = true := by
        have := HA.out
        unfold allIn at this
        exact List.all_eq_true.1 this x hmem
      obtain ⟨j, hj⟩ : ∃ j : Nat, x.b = j ∧ j < n3 := ⟨x.b.toNat, by unfold inB at hib; simp at hib; omega⟩
      have HAP := Lib.hid (show applyN ps l (k + 1) = (applyN ps l k).set j x.to from by rw [applyN, hx]; simp [hj.1])
      have HMS := Lib.hid (show (l.take (k + 1)).all (fun x => mayB x.to) = mayB x.to from by
        obtain ⟨hkl, e⟩ := List.getElem?_eq_some_iff.1 hx
        rw [List.take_succ_eq_append_getElem hkl, List.all_append, HM.out, e]
        simp)
      obtain ⟨hj1, hj2⟩ := hj
      obtain ⟨xb, xt, xg, xs⟩ := x
      simp only at hj1 e0 e1 e2 e3 HAP HMS
      subst hj1
      have HMAY := Lib.hid (fun w => may_any ⟨xt, xg, xs⟩ (by unfold okC okW okI at hokx; simp only at hokx; rintro a (rfl | rfl | rfl) <;> omega) w)
      clear hc hx hmem hokx hib
      obtain ⟨q, hq⟩ : ∃ q, mayB ⟨xt, xg, xs⟩ = q := ⟨_, rfl⟩
      rw [hq] at HMAY HMS
      clear hq
      unfold wv at HMAY
      rcases q with _ | _
      all_goals
        go_wp2_with (first | ((refine wpList_alloc (size := 4) 33 rfl rfl w.heap.size i1 HI1.out HZ1.out rfl (gb_trans HWB.out HNW.out).size ?_; intro y w4 a1 a2 a3; have A1 := Lib.hid a1; have A2 := Lib.hid a2; have A3 := Lib.hid a3; clear a1 a2 a3)) |
          (refine wpList_store_own (cs := cc ⟨(j : Int), xt, xg, xs⟩) 33 _ _ rfl rfl rfl rfl rfl (by kernel_rfl) (cc_one _) A1.out (show 0 + 4 ≤ 1 * 4 by omega) ?_; intro w5 s1 s2; have o3 := Own.row1' s1; rw [splice_all _ _ (by rfl)] at o3
           have N5 := Lib.hid (nw_of_gb A2.out s2 (by intro x e; injection e with e; have := A3.out; omega) : Nw wr w5); have d1 := o3.cell 1; have d2 := o3.cell 2; have d3 := o3.cell 3; rw [show (cc ⟨(j : Int), xt, xg, xs⟩).toArray[1]? = some (.int .i64 xt) from rfl] at d1; rw [show (cc ⟨(j : Int), xt, xg, xs⟩).toArray[2]? = some (.int .i64 xg) from rfl] at d2; rw [show (cc ⟨(j : Int), xt, xg, xs⟩).toArray[3]? = some (.int .i64 xs) from rfl] at d3; have OY := Lib.hid o3; clear o3 s1 s2) |
          (refine (HMAY.out w5).mono ?_; rintro e w6 ⟨rfl, n6⟩; have N6 := Lib.hid (gb_trans N5.out n6); have f0 := (OY.out.nw n6).cell 0; have f1 := (OY.out.nw n6).cell 1; have f2 := (OY.out.nw n6).cell 2; have f3 := (OY.out.nw n6).cell 3; rw [show (cc ⟨(j : Int), xt, xg, xs⟩).toArray[0]? = some (.int .i64 j) from rfl] at f0; rw [show (cc ⟨(j : Int), xt, xg, xs⟩).toArray[1]? = some (.int .i64 xt) from rfl] at f1; rw [show (cc ⟨(j : Int), xt, xg, xs⟩).toArray[2]? = some (.int .i64 xg) from rfl] at f2; rw [show (cc ⟨(j : Int), xt, xg, xs⟩).toArray[3]? = some (.int .i64 xs) from rfl] at f3
           have O6 := Lib.hid (HO.out.nw N6.out); clear n6) |
          (refine wpList_store_own (cs := wc ⟨xt, xg, xs⟩) 31 _ _ rfl rfl rfl rfl rfl i31 (wc_one _) O6.out (show j * 3 + 3 ≤ n3 * 3 by omega) ?_; intro w7 s1 s2; rw [fl_set wc_len (by rw [applyN_len, HN.out]; exact hj2)] at s1; have O7 := Lib.hid s1; have N7 := Lib.hid (nw_of_gb (gb_trans HNW.out N6.out) s2 (by intro x e; injection e with e; have := HL1.out; have := N2b.out.size; omega) : Nw wb w7); clear s1 s2))
      · go_ret
        refine VR.same HV.out (gb_trans HWB.out (gb_trans HNW.out N6.out)) 1 ?_
        unfold setF
        rw [if_neg (by rw [HN.out, HA.out]; decide), if_pos (all_take_false HMS.out)]
      · exact ⟨⟨k + 1, hlt, by go_num, by rw [HMS.out], by rw [HAP.out]; exact O7.out, N7.out⟩, by simp [intOf]; omega⟩
    · have hk' : k = n := by omega
      subst hk'
      obtain ⟨q, hq⟩ : ∃ q, applyN ps l k = q := ⟨_, rfl⟩
      have hql : q.length = n3 := by rw [← hq, applyN_len, HN.out]
      have hall1 : l.all (fun x => mayB x.to) = true := by have := HM.out; rwa [List.take_of_length_le (by rw [HLL.out]; exact Nat.le_refl _)] at this
      have HF := Lib.hid (show setF ps l = if dupN q n3 then (9, ps) else (0, q) from by
        unfold setF
        rw [if_neg (by rw [HN.out, HA.out]; decide), if_neg (by rw [hall1]; decide), HN.out, HLL.out, hq])
      rw [hq] at HO
      have HQL := Lib.hid hql
      clear hq hql hall1
      go_wp2_with (refine wpList_mk 54 rfl rfl ?_; obtain ⟨w4, hw4⟩ : ∃ w4, w4 = wr.alloc (.map #[] 0) := ⟨_, rfl⟩; rw [← hw4]; have N4 := Lib.hid (show Nw wb w4 from by rw [hw4]; exact gb_alloc HNW.out _); have n4 : Nw wr w4 := by rw [hw4]; exact World.grownBy_alloc wr _ none
                   have M4 := Lib.hid (show MapAt w4 wr.heap.size [] from by rw [hw4]; exact MapAt.new wr); have O5 := Lib.hid (HO.out.nw n4); clear hw4 n4)
      have HHB := Lib.hid (show wb.heap.size ≤ wr.heap.size from HNW.out.size)
      generalize hhb : wr.heap.size = hb at M4 HHB ⊢
      clear hhb
      go_loopw [41] (fun i w' => ∃ k : Nat, k ≤ n3 ∧ i = .int .i64 k ∧ SetRel2 wb l1 n3 c3 hb q k w') (fun i _ => n3 - (intOf i).toNat)
      case atStart => exact ⟨0, Nat.zero_le _, rfl, rfl, O5.out, M4.out, N4.out⟩
      case round =>
        obtain ⟨m, hm, rfl, hdup, ho, hmp, hnw⟩ := hrel
        have HD := Lib.hid hdup; have HO6 := Lib.hid ho; have HMP := Lib.hid hmp; have HNW6 := Lib.hid hnw; clear hdup ho hmp hnw
        by_cases hlt : m < n3
        · obtain ⟨x, hx⟩ : ∃ x, q[m]? = some x := ⟨q[m]'(by rw [HQL.out]; exact hlt), List.getElem?_eq_getElem _⟩
          have hw := HO6.out.atL wc_len (by omega) hx
          have e0 := hw 0 _ rfl; have e1 := hw 1 _ rfl; have e2 := hw 2 _ rfl
          rw [Nat.add_zero] at e0
          have HST := Lib.hid (show dupN q (m + 1) = (decide (x.t ≠ 0) && (look (heldN q m) x).isSome) from by rw [dupN, hx, HD.out]; simp)
          have HSH := Lib.hid (show heldN q (m + 1) = if x.t = 0 then heldN q m else heldN q m ++ [(x, (m : Int))] from by rw [heldN, hx])
          clear hw hx
          obtain ⟨xt, xg, xs⟩ := x
          simp only at e0 e1 e2 HST HSH
          rcases (show xt = 0 ∨ xt ≠ 0 from by omega) with rfl | hxt
          · go_wp2_with (first | (refine wpList_alloc (size := 3) 31 rfl rfl w.heap.size i0 H0.out HZ.out rfl (gb_trans HWB.out HNW6.out).size ?_; intro y w7 a1 a2 a3; have A1 := Lib.hid a1; have A2 := Lib.hid a2; have A3 := Lib.hid a3; clear a1 a2 a3) |
              (refine wpList_store_own (cs := wc ⟨0, xg, xs⟩) 31 _ _ rfl rfl rfl rfl rfl i31 (wc_one _) A1.out (show 0 + 3 ≤ 1 * 3 by omega) ?_; intro w8 s1 s2; have o3 := Own.row1' s1; rw [splice_all _ _ (by rfl)] at o3; have d0 := o3.cell 0; have d1 := o3.cell 1; have d2 := o3.cell 2; rw [show (wc ⟨0, xg, xs⟩).toArray[0]? = some (.int .i64 0) from rfl] at d0; rw [show (wc ⟨0, xg, xs⟩).toArray[1]? = some (.int .i64 xg) from rfl] at d1; rw [show (wc ⟨0, xg, xs⟩).toArray[2]? = some (.int .i64 xs) from rfl] at d2
               have N8 := Lib.hid (nw_of_gb A2.out s2 (by intro x e; injection e with e; have := A3.out; omega) : Nw wr w8); clear o3 s1 s2))
            exact ⟨⟨m + 1, hlt, by go_num, by rw [HST.out]; simp, HO6.out.nw N8.out, by rw [HSH.out, if_pos rfl]; exact HMP.out.nw N8.out, gb_trans HNW6.out N8.out⟩, by simp [intOf]; omega⟩
          · have b1 : (xt == 0) = false := by simpa using hxt
            obtain ⟨lk, hlk⟩ : ∃ lk, look (heldN q m) ⟨xt, xg, xs⟩ = lk := ⟨_, rfl⟩
            have HLK := Lib.hid hlk
            rw [hlk] at HST
            clear hlk
            rcases lk with _ | v
            · go_wp2_with (first | (refine wpList_alloc (size := 3) 31 rfl rfl w.heap.size i0 H0.out HZ.out rfl (gb_trans HWB.out HNW6.out).size ?_; intro y w7 a1 a2 a3; have A1 := Lib.hid a1; have A2 := Lib.hid a2; have A3 := Lib.hid a3; clear a1 a2 a3) |
              (refine wpList_store_own (cs := wc ⟨xt, xg, xs⟩) 31 _ _ rfl rfl rfl rfl rfl i31 (wc_one _) A1.out (show 0 + 3 ≤ 1 * 3 by omega) ?_; intro w8 s1 s2; have o3 := Own.row1' s1; rw [splice_all _ _ (by rfl)] at o3; have d0 := o3.cell 0; have d1 := o3.cell 1; have d2 := o3.cell 2; rw [show (wc ⟨xt, xg, xs⟩).toArray[0]? = some (.int .i64 xt) from rfl] at d0; rw [show (wc ⟨xt, xg, xs⟩).toArray[1]? = some (.int .i64 xg) from rfl] at d1; rw [show (wc ⟨xt, xg, xs⟩).toArray[2]? = some (.int .i64 xs) from rfl] at d2
               have N8 := Lib.hid (nw_of_gb A2.out s2 (by intro x e; injection e with e; have := A3.out; omega) : Nw wr w8); clear o3 s1 s2) |
                (refine wpList_look rfl _ _ rfl rfl rfl ⟨xt, xg, xs⟩ rfl (HMP.out.nw N8.out) ?_; rw [HLK.out]) |
                (refine wpList_upd rfl _ _ _ rfl rfl rfl ⟨xt, xg, xs⟩ rfl (m : Int) rfl (HMP.out.nw N8.out) HLK.out ?_; intro w9 m9 g9; have M9 := Lib.hid m9; have G9 := Lib.hid g9; clear m9 g9))
              have ne1 : l1 ≠ hb := by
                rintro rfl
                obtain ⟨cur, h7⟩ := HO6.out.obj
                obtain ⟨es, cl, h8, _⟩ := HMP.out
                unfold Obj1 at h7
                rw [h7] at h8
                cases h8
              have o9 := (HO6.out.nw N8.out).eqb (G9.out.block l1 (by obtain ⟨cur, h7⟩ := (HO6.out.nw N8.out).obj; exact h7.lt) (by intro e; injection e with e; exact ne1 e))
              exact ⟨⟨m + 1, hlt, by go_num, by rw [HST.out]; simp, o9, by rw [HSH.out, if_neg hxt]; exact M9.out, nw_of_gb (gb_trans HNW6.out N8.out) G9.out (by intro x e; injection e with e; have := HHB.out; omega)⟩, by simp [intOf]; omega⟩
            · go_wp2_with (first | (refine wpList_alloc (size := 3) 31 rfl rfl w.heap.size i0 H0.out HZ.out rfl (gb_trans HWB.out HNW6.out).size ?_; intro y w7 a1 a2 a3; have A1 := Lib.hid a1; have A2 := Lib.hid a2; have A3 := Lib.hid a3; clear a1 a2 a3) |
              (refine wpList_store_own (cs := wc ⟨xt, xg, xs⟩) 31 _ _ rfl rfl rfl rfl rfl i31 (wc_one _) A1.out (show 0 + 3 ≤ 1 * 3 by omega) ?_; intro w8 s1 s2; have o3 := Own.row1' s1; rw [splice_all _ _ (by rfl)] at o3; have d0 := o3.cell 0; have d1 := o3.cell 1; have d2 := o3.cell 2; rw [show (wc ⟨xt, xg, xs⟩).toArray[0]? = some (.int .i64 xt) from rfl] at d0; rw [show (wc ⟨xt, xg, xs⟩).toArray[1]? = some (.int .i64 xg) from rfl] at d1; rw [show (wc ⟨xt, xg, xs⟩).toArray[2]? = some (.int .i64 xs) from rfl] at d2
               have N8 := Lib.hid (nw_of_gb A2.out s2 (by intro x e; injection e with e; have := A3.out; omega) : Nw wr w8); clear o3 s1 s2) |
                (refine wpList_look rfl _ _ rfl rfl rfl ⟨xt, xg, xs⟩ rfl (HMP.out.nw N8.out) ?_; rw [HLK.out]))
              go_ret
              refine VR.same HV.out (gb_trans HWB.out (gb_trans HNW6.out N8.out)) 9 ?_
              rw [HF.out, if_pos]
              exact dup_le hlt (by rw [HST.out]; simp [hxt])
        · have hm' : m = n3 := by omega
          subst hm'
          have ob := HOB.out.nw HNW6.out
          have HG6 := Lib.hid (HG.out.nw (gb_trans HWB.out HNW6.out))
          have HOB6 := Lib.hid ob; clear ob
          have hgb : g ≠ w.heap.size := by have := HG.out.lt; omega
          have HGB := Lib.hid hgb; clear hgb
          go_wp2_with fail
          refine wp_region_held (S := (fun w' => w'.cell? ⟨w.heap.size, 0, none⟩ = some (.pointer (some ⟨g, 0, none⟩)))) (by kernel_rfl) ?_
          change wpAnyH _ _ _ _ _ _ _ _ (World.drew wr)
          refine held_seg' (l := [0, 1, 2, 3, 4, 5]) (fuel := 4) rfl (by kernel_rfl) (by kernel_rfl) (by simp only [List.filterMap_cons, List.filterMap_nil, List.getElem?_toArray, List.getElem?_cons_succ, List.getElem?_cons_zero]; rfl) (fun _ _ d _ _ h => by cases d <;> exact h) (HOB6.out.cell 0) ?_
          iterate 6 (refine wpYield_step rfl (fun K hK => ?_)
                     apply Exists.intro
                     refine ⟨fun w' hw' => ?_, ?_⟩
                     · (go_simp; try with_reducible rfl)
                     go_simp
                     refine hK _ ?_
                     clear hK K)
          refine wpYield_nil ?_
          have e0 := HG6.out.cell 0; have f0 := HG6.out.frozen 0
          rw [show (#[Value.slice (some ⟨la, 0, none⟩) m c, .map (some b)])[0]? = some (.slice (some ⟨la, 0, none⟩) m c) from rfl] at e0
          refine held_eff 6 rfl (by kernel_rfl) rfl (fun K hK => ?_)
          go_simp
          clear e0 f0
          obtain ⟨wA, hwA⟩ : ∃ wA, wA = wr.setCell ⟨g, 0, none⟩ (.slice (some ⟨l1, 0, none⟩) m c3) := ⟨_, rfl⟩
          rw [← hwA]
          have ogA : Obj1 wA g 56 #[.slice (some ⟨l1, 0, none⟩) m c3, .map (some b)] := by rw [hwA]; exact HG6.out.set 0 _
          have oxA : Obj1 wA w.heap.size 24 #[pv g] := by rw [hwA]; exact HOB6.out.eq (Below.heap_setCell wr _ _ _ (fun e => HGB.out e.symm))
          have CA := Lib.hid (show Chg w wA [g] from by rw [hwA]; exact (Chg.of_nw (gb_trans HWB.out HNW6.out)).trans (Chg.set wr (p := ⟨g, 0, none⟩) (List.mem_cons_self ..) _) (fun x hx => .inl hx))
          have ORA := Lib.hid (show Own wA 0 31 3 (some ⟨l1, 0, none⟩) m c3 (fl wc q) from by
            rw [hwA]
            refine HO6.out.eqb (Below.heap_setCell wr _ _ _ ?_)
            obtain ⟨cur, h7⟩ := HO6.out.obj
            exact h7.ne HG6.out (by decide))
          have MPA := Lib.hid (show MapAt wA hb (heldN q m) from by
            rw [hwA]
            refine HMP.out.eq (Below.heap_setCell wr _ _ _ ?_)
            rintro rfl
            obtain ⟨es, cl, h8, _⟩ := HMP.out
            have h7 := HG6.out
            unfold Obj1 at h7
            rw [h7] at h8
            cases h8)
          have OGA := Lib.hid ogA; have OXA := Lib.hid oxA; clear hwA ogA oxA
          refine hK _ _ ⟨OXA.out.cell 0, ?_⟩
          clear hK K
          refine held_seg' (l := [7, 8]) (fuel := 1) rfl (by kernel_rfl) (by kernel_rfl) (by simp only [List.filterMap_cons, List.filterMap_nil, List.getElem?_toArray, List.getElem?_cons_succ, List.getElem?_cons_zero]; rfl) (fun _ _ d _ _ h => by cases d <;> exact h) (OXA.out.cell 0) ?_
          iterate 2 (refine wpYield_step rfl (fun K hK => ?_)
                     apply Exists.intro
                     refine ⟨fun w' hw' => ?_, ?_⟩
                     · (go_simp; try with_reducible rfl)
                     go_simp
                     refine hK _ ?_
                     clear hK K)
          refine wpYield_nil ?_
          have e1 := OGA.out.cell 1; have f1 := OGA.out.frozen 1
          rw [show (#[Value.slice (some ⟨l1, 0, none⟩) m c3, .map (some b)])[1]? = some (.map (some b)) from rfl] at e1
          refine held_eff 9 rfl (by kernel_rfl) rfl (fun K hK => ?_)
          go_simp
          clear e1 f1
          obtain ⟨wB, hwB⟩ : ∃ wB, wB = wA.setCell ⟨g, 1, none⟩ (.map (some hb)) := ⟨_, rfl⟩
          rw [← hwB]
          have ogB : Obj1 wB g 56 #[.slice (some ⟨l1, 0, none⟩) m c3, .map (some hb)] := by rw [hwB]; exact OGA.out.set 1 _
          have oxB : Obj1 wB w.heap.size 24 #[pv g] := by rw [hwB]; exact OXA.out.eq (Below.heap_setCell wA _ _ _ (fun e => HGB.out e.symm))
          have CB := Lib.hid (show Chg w wB [g] from by rw [hwB]; exact CA.out.trans (Chg.set wA (p := ⟨g, 1, none⟩) (List.mem_cons_self ..) _) (fun x hx => .inl hx))
          have ORB := Lib.hid (show Own wB 0 31 3 (some ⟨l1, 0, none⟩) m c3 (fl wc q) from by
            rw [hwB]
            refine ORA.out.eqb (Below.heap_setCell wA _ _ _ ?_)
            obtain ⟨cur, h7⟩ := ORA.out.obj
            exact h7.ne OGA.out (by decide))
          have MPB := Lib.hid (show MapAt wB hb (heldN q m) from by
            rw [hwB]
            refine MPA.out.eq (Below.heap_setCell wA _ _ _ ?_)
            rintro rfl
            obtain ⟨es, cl, h8, _⟩ := MPA.out
            have h7 := OGA.out
            unfold Obj1 at h7
            rw [h7] at h8
            cases h8)
          have OGB := Lib.hid ogB; have OXB := Lib.hid oxB; clear hwB ogB oxB
          refine hK _ _ ⟨OXB.out.cell 0, ?_⟩
          clear hK K
          refine wpAnyH_done (by kernel_rfl) ?_ _
          go_wp2
          go_ret
          unfold SetPost
          rw [HF.out, if_neg (by rw [HD.out]; decide)]
          refine ⟨rfl, ⟨l1, hb, c3, ?_, ?_, ?_, ?_⟩, CB.out.drew⟩
          · rw [HQL.out]; exact OGB.out
          · rw [HQL.out]; exact ORB.out.drew
          · unfold heldOf; rw [HQL.out]; exact MPB.out
          · rw [HQL.out]; exact H96.out
end Go.Proofs.Ytfpllllglpjipaa

