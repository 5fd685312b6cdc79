/- slices.Clone of rooms; group.Move: the next group, and its new disk. -/
import Derived.Test.YtobifmndpkjlmaaJF
import Derived.Test.YtobifmndpkjlmaaJI
import Derived.Lib.SliceRun
import Derived.OwnWalk
set_option linter.unusedVariables false
set_option linter.unusedSimpArgs false
/- slices.Clone of rooms; group.Move: the next group, and its new disk. -/
namespace Go.Proofs.Ytobifmndpkjlmaa
open Go.RowKit Go.BW

theorem iv_one (zs : List Int) : ∀ u ∈ zs.map iv, u.oneCell' = true := by
  intro u hu
  obtain ⟨z, _, rfl⟩ := List.mem_map.1 hu
  rfl
theorem clone_any {w : World} {B n c : Nat} {A : Option Addr} {rs : List Int} (hr : Rd w B 1 A n (rs.map iv)) (hB : B ≤ w.heap.size) (hn : n ≤ 1000000) : Calls Try.prog 35 #[.slice A n c] w (RetOwn 3 1 (rs.map iv) w) := by
  have h1 := iv_one rs
  have hs : n * 8 ≤ 140737488355328 ∧ n ≤ maxLen := by unfold maxLen; omega
  have qn := fun (w : World) (A : Option Addr) => Lib.run_eql_slice_nil (P := Try.prog) w 22 3 A n c 0 0 Try.underlying22
  rcases A with _ | a
  · have h0 : n = 0 := by
      rcases Nat.eq_zero_or_pos n with h | h
      · exact h
      · obtain ⟨_, _, h, _⟩ := hr.2 h; cases h
    subst h0
    have e : rs.map iv = [] := List.eq_nil_of_length_eq_zero (by simpa using hr.1)
    rw [e]
    go_enter Try.func35, Try.ntmps35
    go_wp2
    go_ret
    exact ⟨none, 0, 0, rfl, Own.nil, Nw.refl _⟩
  · go_enter Try.func35, Try.ntmps35
    go_wp2_with (at_builtin; refine wpList_app_lit T22 _ _ rfl rfl w.heap.size rfl rfl hr hB h1 hs (Nat.le_refl _) ?_; intro A' c' w' h2 h3)
    go_ret
    exact ⟨_, _, _, rfl, h2, h3⟩
/-- Move's first closure -/
theorem has31_any {w : World} {B y : Nat} {x : Gp} (h : GOk w B x) (hB : B ≤ w.heap.size) {d : Int} (hc : w.cell? ⟨y, 0, none⟩ = some (.int .i64 d)) : Calls Try.prog 31 #[gv x, .pointer (some ⟨y, 0, none⟩)] w (Ret (.bool (hasD x d)) w) := by
  have hbox := Obj1.new w 37 #[.int .i64 x.id, .int .i64 x.kd, .slice x.A x.n x.c]
  have hn := World.grownBy_alloc w (.cells #[.int .i64 x.id, .int .i64 x.kd, .slice x.A x.n x.c] 37) none
  have HH := Lib.hid (has_any (h.nw hn hB) (Nat.le_trans hB hn.size) d)
  have hc2 := cell_alloc (o := .cells #[.int .i64 x.id, .int .i64 x.kd, .slice x.A x.n x.c] 37) hc
  obtain ⟨q, hq⟩ : ∃ q, hasD x d = q := ⟨_, rfl⟩
  rw [hq] at HH ⊢
  have HN := Lib.hid hn
  have HB := Lib.hid hbox
  unfold Ret gv at HH
  unfold gv
  obtain ⟨xi, xk, xA, xn, xc, xe⟩ := x
  simp only at HH HB HN hc2 ⊢
  clear hbox hn h hq
  go_enter Try.func31, Try.ntmps31
  go_wp2_with (first
    | ((with_reducible refine HH.out.mono ?_); rintro e w2 ⟨rfl, n2⟩)
    | ((with_reducible refine wpList_load_obj 37 _ (by with_unfolding_all exact rfl) (by with_unfolding_all exact rfl) (by with_unfolding_all exact rfl) HB.out _ Try.underlying37 (by with_unfolding_all exact rfl) (by kernel_rfl) ?_)))
  go_ret
  exact ⟨rfl, gb_trans HN.out n2⟩
set_option maxHeartbeats 1000000 in
/-- Move's second closure: does the first group not have a disk? -/
theorem not34_any {w : World} {B y z m c2 i : Nat} {A2 : Option Addr} {gs : List Gp} {x : Gp} (hg : GsR w B A2 m gs) (hB : B ≤ w.heap.size) (hc : w.cell? ⟨y, 0, none⟩ = some (.slice A2 m c2)) (hi : w.cell? ⟨z, 0, none⟩ = some (.int .i64 (i : Int))) (hx : gs[i]? = some x) (d : Int) :
    Calls Try.prog 34 #[.int .i64 d, .pointer (some ⟨y, 0, none⟩), .pointer (some ⟨z, 0, none⟩)] w (Ret (.bool (!hasD x d)) w) := by
  have hlen := hg.len
  have him : i < m := by have := (List.getElem?_eq_some_iff.1 hx).1; omega
  have himz : (i : Int) < (m : Int) := by omega
  obtain ⟨_, b, off, x2, hA, _, hx2, hcx⟩ := hg.rd.atL gc_len (by decide) him
  have : x2 = x := by rw [hx] at hx2; injection hx2 with hx2; exact hx2.symm
  subst this
  subst hA
  have HH := Lib.hid (show Calls Try.prog 32 #[.agg (gc x2).toArray, .int .i64 d] w (Ret (.bool (hasD x2 d)) w) from has_any (hg.all x2 (List.mem_of_getElem? hx)) hB d)
  have HC := Lib.hid hcx
  obtain ⟨q, hq⟩ : ∃ q, hasD x2 d = q := ⟨_, rfl⟩
  rw [hq] at HH ⊢
  unfold Ret at HH
  clear hcx hg hx hx2 hq
  go_enter Try.func34, Try.ntmps34
  go_wp2_with (first
    | ((with_reducible refine HH.out.mono ?_); rintro e w2 ⟨rfl, n2⟩)
    | ((with_reducible refine wpList_load_agg 37 _ (by with_unfolding_all exact rfl) (by with_unfolding_all exact rfl) (by with_unfolding_all exact rfl) (gc x2) HC.out _ Try.underlying37 (by with_unfolding_all exact rfl) (by rw [gc_len]; kernel_rfl) ?_)))
  go_ret
  exact ⟨rfl, n2⟩
end Go.Proofs.Ytobifmndpkjlmaa


/- group.Move, for all groups and rooms. -/
namespace Go.Proofs.Ytobifmndpkjlmaa
open Go.RowKit Go.BW

/-- one room less at a disk -/
def lessAt (rs : List Int) (d : Nat) : List Int := rs.set d (rs.getD d 0 - 1)
/-- do the groups behind the first one find room, if it takes a disk? -/
def okM (gs : List Gp) (rs : List Int) (lost : Int) (i d : Nat) : Bool := hallB (gs.drop (i + 1)) (lessAt rs d) lost
/-- what Move tells -/
inductive MoveIs (gs : List Gp) (rs : List Int) (lost : Int) : Option (Nat × Nat) → Prop where
  | none (h : gs.any (fun g => hasD g lost) = false) : MoveIs gs rs lost none
  | stuck (i : Nat) (x : Gp) (l : List Nat) (hx : gs[i]? = some x) (hh : hasD x lost = true) (hf : (gs.take i).any (fun g => hasD g lost) = false) (hl : Ranked rs (fun d => (!hasD x (d : Int)) = true) l) (hn : ∀ d ∈ l, okM gs rs lost i d = false) : MoveIs gs rs lost none
  | goes (i : Nat) (x : Gp) (l : List Nat) (k d : Nat) (hx : gs[i]? = some x) (hh : hasD x lost = true) (hf : (gs.take i).any (fun g => hasD g lost) = false) (hl : Ranked rs (fun d => (!hasD x (d : Int)) = true) l) (hk : l[k]? = some d)
      (hd : okM gs rs lost i d = true) (hn : ∀ e ∈ l.take k, okM gs rs lost i e = false) : MoveIs gs rs lost (some (i, d))
def mv : Option (Nat × Nat) → Value
  | none => .tuple #[.int .i64 0, .int .i64 0, .bool false]
  | some (i, d) => .tuple #[.int .i64 (i : Int), .int .i64 (d : Int), .bool true]
def MovePost (gs : List Gp) (rs : List Int) (lost : Int) (w : World) (e : Ending) (w' : World) : Prop := ∃ r, e = .returned (mv r) ∧ MoveIs gs rs lost r ∧ Nw w w'
theorem idxZ_at' {α : Type} {p : α → Bool} {l : List α} (h : l.any p = true) : ∃ i x, l[i]? = some x ∧ p x = true ∧ (l.take i).any p = false ∧ idxZ p l = (i : Int) := by
  rcases hf : l.findIdx? p with _ | i
  · rw [List.findIdx?_eq_none_iff] at hf
    obtain ⟨x, hx, hp⟩ := List.any_eq_true.1 h
    have := hf x hx; rw [hp] at this; cases this
  · have h1 := hf
    rw [List.findIdx?_eq_some_iff_getElem] at h1
    obtain ⟨hi, hp, hlt⟩ := h1
    refine ⟨i, l[i], List.getElem?_eq_getElem hi, hp, ?_, by unfold idxZ; rw [hf]⟩
    rw [List.any_eq_false]
    intro y hy
    obtain ⟨j, hj, e⟩ := List.mem_take_iff_getElem.1 hy
    rw [← e]
    exact hlt j (by omega)
section
variable {P : Program} {ops : Array Oper} {S : World → Prop} {R : Act → Prop} {rest : List Oper} {o : Oper} {a : Act}
theorem wpYield_slice_lo (t e : TypeId) (ht : P.underlying t = some (.slice e)) (size : Nat) (hi : (P.info? e).map (·.size) = some size) (x l : Operand) (hop : o.op = .slice t x (some l) none none) (hw : Region.wanted o (yielded ops a.tmps) = true) (A : Option Addr) (n c : Nat) (kl : Nat) (vl : Int) (hx : a.eval x = .slice A n c) (hl : a.eval l = .int .i64 vl)
    (el : vl = kl) (h1 : kl ≤ n) (h2 : n ≤ c) (hK : wpYield P ops S R rest (a.put o.dst (.slice (cutA A c kl size) (n - kl) (c - kl)))) : wpYield P ops S R (o :: rest) a := by
  subst el
  refine wpYield_val hw (fun w' _ => ?_) hK
  have := run_slice_lN t e ht hi (w := w') A n c kl h1 h2
  unfold execOp
  simp [hop, hx, hl, this]
end
theorem GsR.dropG {w : World} {B n c i : Nat} {A : Option Addr} {gs : List Gp} (h : GsR w B A n gs) (hi : i ≤ n) (hc : n ≤ c) : GsR w B (cutA A c i 3) (n - i) (gs.drop i) :=
  ⟨by have := h.rd.drop hi hc; rw [fl_drop gc_len] at this; exact this, fun g hg => h.all g (List.mem_of_mem_drop hg)⟩
theorem lessAt_len (rs : List Int) (d : Nat) : (lessAt rs d).length = rs.length := by unfold lessAt; simp
theorem lessAt_le {rs : List Int} {d : Nat} {M : Int} (h : ∀ r ∈ rs, r ≤ M) : ∀ r ∈ lessAt rs d, r ≤ M := by
  intro r hr
  rcases List.mem_or_eq_of_mem_set hr with h1 | h1
  · exact h r h1
  · subst h1
    by_cases hd : d < rs.length
    · have := h rs[d] (List.getElem_mem _)
      rw [← getD_at hd]; omega
    · unfold lessAt at hr
      rw [List.set_eq_of_length_le (by omega)] at hr
      exact h _ hr
set_option maxHeartbeats 8000000 in
theorem move_any {K : Nat} (hK : StableOK K) {w : World} {B n c m c2 : Nat} {A A2 : Option Addr} {rs : List Int} {gs : List Gp} (hg : GsR w B A2 m gs) (hmc : m ≤ c2) (hr : Rd w B 1 A n (rs.map iv)) (hB : B ≤ w.heap.size) (hnK : n ≤ K) (hn : n ≤ 1000000) (hm : m ≤ 1000000)
    (hM : ∀ r ∈ rs, r ≤ 1000000) (hlo : ∀ r ∈ rs, -9223372036854775808 ≤ r) (lost : Int) : Calls Try.prog 16 #[.slice A2 m c2, .slice A n c, .int .i64 lost] w (MovePost gs rs lost w) := by
  have hlen : rs.length = n := by have := hr.1; simpa using this
  have hglen := hg.len
  have hb1 := obj_fst w 28 #[.slice A2 m c2] (.cells #[.int .i64 lost] 3)
  have hb2 := obj_snd w (.cells #[.slice A2 m c2] 28) 3 #[.int .i64 lost]
  have hn2 := gb_trans (World.grownBy_alloc w (.cells #[.slice A2 m c2] 28) none) (World.grownBy_alloc _ (.cells #[.int .i64 lost] 3) none)
  have HIX := Lib.hid (index31_any (d := c2) (hg.nw hn2 hB).rd (Nat.le_trans hB hn2.size) hm (.pointer (some ⟨w.heap.size + 1, 0, none⟩)) (fun g => hasD g lost)
    (fun x hx w' hw' => has31_any ((hg.all x hx).nw (gb_trans hn2 hw') hB) (Nat.le_trans hB (gb_trans hn2 hw').size) (cell_nw (hb2.cell 0) hw')))
  have HG := Lib.hid hg; have HR := Lib.hid hr; have HB := Lib.hid hB; have HL := Lib.hid hlen; have HGL := Lib.hid hglen; have HM := Lib.hid hM; have HLO := Lib.hid hlo; have HK := Lib.hid hK
  have H1 := Lib.hid hb1; have H2 := Lib.hid hb2; have N2 := Lib.hid hn2
  unfold IdxPost at HIX
  clear hg hr hB hlen hglen hM hlo hK hb1 hb2 hn2
  rcases hany : gs.any (fun g => hasD g lost) with _ | _
  · have hv : idxZ (fun g => hasD g lost) gs = -1 := idxZ_no hany
    rw [hv] at HIX
    have HA := Lib.hid hany
    clear hany hv
    go_enter Try.func16, Try.ntmps16
    go_wp2_with ((with_reducible refine HIX.out.mono ?_); rintro e w3 ⟨rfl, n3⟩)
    go_ret3
    exact ⟨none, rfl, .none HA.out, gb_trans N2.out (gb_trans n3 (World.grownBy_alloc _ _ none))⟩
  · obtain ⟨i, x, hx, hh, hf, hv⟩ := idxZ_at' hany
    rw [hv] at HIX
    have HX := Lib.hid hx; have HH := Lib.hid hh; have HF := Lib.hid hf
    have him : i < m := by have := (List.getElem?_eq_some_iff.1 hx).1; have := HGL.out; omega
    clear hany hx hh hf hv
    go_enter Try.func16, Try.ntmps16
    go_upto_region 4 with ((with_reducible refine HIX.out.mono ?_); rintro e w3 ⟨rfl, n3⟩)
    have hb3 := Obj1.new w3 3 #[.int .i64 (i : Int)]
    have hn4 := World.grownBy_alloc w3 (.cells #[.int .i64 (i : Int)] 3) none
    have K1 := Lib.hid ((H1.out.nw n3).nw hn4); have K2 := Lib.hid ((H2.out.nw n3).nw hn4); have K3 := Lib.hid hb3
    have N4 := Lib.hid (gb_trans N2.out (gb_trans n3 hn4))
    obtain ⟨w4, hw4⟩ : ∃ w4, w3.alloc (.cells #[.int .i64 (i : Int)] 3) = w4 := ⟨_, rfl⟩
    rw [hw4] at K1 K2 K3 N4 ⊢
    obtain ⟨y1, hy1⟩ : ∃ y, w.heap.size = y := ⟨_, rfl⟩
    obtain ⟨y3, hy3⟩ : ∃ y, w3.heap.size = y := ⟨_, rfl⟩
    rw [hy1] at K1 K2 ⊢
    rw [hy3] at K3 ⊢
    have HY1 := Lib.hid hy1
    clear hb3 hn4 n3 hw4 hy1 hy3 HIX
    have HG4 := Lib.hid (HG.out.nw N4.out HB.out)
    have HB4 := Lib.hid (Nat.le_trans HB.out N4.out.size)
    have HGD := Lib.hid (show GsR w4 B (cutA A2 c2 (i + 1) 3) (m - (i + 1)) (gs.drop (i + 1)) from HG4.out.dropG (by omega) hmc)
    have HNE := Lib.hid (show ∀ w5, Nw w4 w5 → Calls Try.prog 33 #[.slice (cutA A2 c2 (i + 1) 3) (m - (i + 1)) (c2 - (i + 1)), .int .i64 lost] w5 (RetOwn 37 3 (fl gc (needs (gs.drop (i + 1)) lost)) w5) from fun w5 n5 =>
      needing_any (HGD.out.nw n5 HB4.out) (Nat.le_trans HB4.out n5.size) (by omega) lost)
    unfold RetOwn at HNE
    have e1 : IntKind.i64.wrap ((i : Int) + 1) = ((i + 1 : Nat) : Int) := by rw [IntKind.wrap_i64]; omega
    have HS := Lib.hid (show ∀ w', Nw w4 w' → w'.cell? ⟨y1, 0, none⟩ = some (.slice A2 m c2) ∧ w'.cell? ⟨y1 + 1, 0, none⟩ = some (.int .i64 lost) ∧ w'.cell? ⟨y3, 0, none⟩ = some (.int .i64 (i : Int)) from fun w' hw => ⟨(K1.out.nw hw).cell 0, (K2.out.nw hw).cell 0, (K3.out.nw hw).cell 0⟩)
    refine wp_region_held (S := (fun w' => w'.cell? ⟨y1, 0, none⟩ = some (.slice A2 m c2) ∧ w'.cell? ⟨y1 + 1, 0, none⟩ = some (.int .i64 lost) ∧ w'.cell? ⟨y3, 0, none⟩ = some (.int .i64 (i : Int)))) (by kernel_rfl) ?_
    change wpAnyH _ _ _ _ _ _ _ _ (World.drew w4)
    refine held_seg' (l := [0, 1, 2, 3, 4]) (fuel := 2) rfl (by kernel_rfl) (by kernel_rfl) (by simp only [List.filterMap_cons, List.filterMap_nil, List.getElem?_toArray, List.getElem?_cons_succ, List.getElem?_cons_zero]; rfl) (fun _ _ d _ _ h => by cases d <;> exact h) (HS.out _ (gb_drew (Nw.refl w4))) ?_
    iterate 3 (refine wpYield_step rfl (fun K hK => ?_)
               apply Exists.intro
               refine ⟨fun w' hw' => ?_, ?_⟩
               · (go_simp; try with_reducible rfl)
               go_simp
               refine hK _ ?_
               clear hK K)
    refine wpYield_slice_lo 28 37 Try.underlying28 3 (by kernel_rfl) _ _ rfl rfl A2 m c2 (i + 1) _ rfl rfl (by first | rfl | exact e1) (by omega) hmc ?_
    (refine wpYield_step rfl (fun K hK => ?_)
     apply Exists.intro
     refine ⟨fun w' hw' => ?_, ?_⟩
     · (go_simp; try with_reducible rfl)
     go_simp
     refine hK _ ?_
     clear hK K)
    refine wpYield_nil ?_
    refine held_eff 5 rfl (by kernel_rfl) rfl (fun K hK => ?_)
    go_simp
    refine (HNE.out _ (gb_drew (Nw.refl w4))).mono ?_
    rintro e w5 ⟨A5, n5, c5, rfl, o5, g5⟩
    have N45 := Lib.hid (show Nw w4 w5 from gb_of_drew g5)
    have O5 := Lib.hid (show Own w5 w5.heap.size 37 3 A5 n5 c5 (fl gc (needs (gs.drop (i + 1)) lost)) ∨ Own w5 w4.heap.size 37 3 A5 n5 c5 (fl gc (needs (gs.drop (i + 1)) lost)) from .inr o5)
    refine hK _ _ ⟨HS.out w5 N45.out, ?_⟩
    clear hK K
    refine held_seg' (l := [6]) (fuel := 0) rfl (by kernel_rfl) (by kernel_rfl) (by simp only [List.filterMap_cons, List.filterMap_nil, List.getElem?_toArray, List.getElem?_cons_succ, List.getElem?_cons_zero]; rfl) (fun _ _ d _ _ h => by cases d <;> exact h) (HS.out w5 N45.out) ?_
    (refine wpYield_step rfl (fun K hK => ?_)
     apply Exists.intro
     refine ⟨fun w' hw' => ?_, ?_⟩
     · (go_simp; try with_reducible rfl)
     go_simp
     refine hK _ ?_
     clear hK K)
    refine wpYield_nil ?_
    refine wpAnyH_done (by kernel_rfl) ?_ _
    have HG5 := Lib.hid (GsR_needs HGD.out N45.out HB4.out o5)
    have HR5 := Lib.hid (HR.out.nw (gb_trans N4.out N45.out) HB.out)
    have HB5 := Lib.hid (Nat.le_trans HB4.out N45.out.size)
    have HRM := Lib.hid (byroom34_any (c := c) HK.out HR5.out HB5.out hnK hn (.pointer (some ⟨y1, 0, none⟩)) (.pointer (some ⟨y3, 0, none⟩)) (fun d => !hasD x (d : Int)) (fun d _ w' hw' =>
      not34_any (HG4.out.nw (gb_trans N45.out hw') HB4.out) (Nat.le_trans HB5.out hw'.size) (HS.out w' (gb_trans N45.out hw')).1 (HS.out w' (gb_trans N45.out hw')).2.2 HX.out (d : Int)))
    unfold RoomPost at HRM
    clear o5 g5
    go_wp2_with ((with_reducible refine HRM.out.mono ?_); rintro e w6 ⟨A6, n6, c6, l, rfl, ho, hl, n56⟩; have O6 := Lib.hid ho; have RK := Lib.hid hl; have N56 := Lib.hid n56; clear ho hl n56)
    have hll : l.length = n6 := by have := O6.out.len; simpa using this
    have hlr : ∀ d ∈ l, d < n := fun d hd => by have := ((RK.out.mem d).1 hd).1; have := HL.out; omega
    have h6 : n6 ≤ 9223372036854775807 := by have := O6.out.cap; unfold maxLen at this; omega
    have HLL := Lib.hid hll; have HLR := Lib.hid hlr
    have N46 := Lib.hid (gb_trans N45.out N56.out)
    clear hll hlr
    go_loopw [29] (fun v wr => ∃ k : Nat, k ≤ n6 ∧ v = .int .i64 k ∧ Hid (∀ e ∈ l.take k, okM gs rs lost i e = false) ∧ Nw w6 wr) (fun v _ => n6 - (intOf v).toNat)
    case atStart => exact ⟨0, Nat.zero_le _, rfl, Lib.hid (by simp), Nw.refl _⟩
    case round =>
      obtain ⟨k, hk, rfl, hno, hnw⟩ := hrel
      by_cases hlt : k < n6
      · have hltz : (k : Int) < (n6 : Int) := by omega
        have hkl : k < l.length := by rw [HLL.out]; exact hlt
        obtain ⟨d, hd⟩ : ∃ d, l[k] = d := ⟨_, rfl⟩
        have HD := Lib.hid (show l[k]? = some d by rw [List.getElem?_eq_getElem hkl, hd])
        have hdn : d < n := HLR.out d (by rw [← hd]; exact List.getElem_mem _)
        have hdz : (d : Int) < (n : Int) := by omega
        have NWR := Lib.hid (gb_trans N46.out hnw)
        obtain ⟨g6, hA6, _⟩ := O6.out.some_ (by omega)
        subst hA6
        have hcd : wr.cell? ⟨g6, k, none⟩ = some (.int .i64 (d : Int)) := by
          obtain ⟨u, h1, h2, _⟩ := (O6.out.nw hnw).cellAt hlt
          rw [List.getElem?_map, HD.out] at h1
          injection h1 with h1; subst h1; exact h2
        have HCL := Lib.hid (clone_any (c := c) (HR5.out.nw (gb_trans N56.out hnw) HB5.out) (Nat.le_trans HB5.out (gb_trans N56.out hnw).size) hn)
        have hx0 : rs.getD d 0 ≤ 1000000 ∧ 0 < rs.getD d 0 := ⟨by
          have := HM.out (rs[d]'(by rw [HL.out]; exact hdn)) (List.getElem_mem _)
          rwa [getD_at] at this, ((RK.out.mem d).1 (List.mem_of_getElem? HD.out)).2.1⟩
        obtain ⟨r, hr⟩ : ∃ r, rs.getD d 0 = r := ⟨_, rfl⟩
        have HRV := Lib.hid hr
        rw [hr] at hx0
        have HMA := Lib.hid (show ∀ w7 w8 g7 c7, Nw wr w7 → Own w7 wr.heap.size 3 1 (some ⟨g7, 0, none⟩) n c7 (rs.map iv) → w8 = w7.setCell ⟨g7, d, none⟩ (.int .i64 (r - 1)) →
            Calls Try.prog 36 #[.slice A5 n5 c5, .slice (some ⟨g7, 0, none⟩) n c7] w8 (Ret (.bool (okM gs rs lost i d)) w8) ∧ Nw wr w8 from by
          intro w7 w8 g7 c7 n7 o7 e8
          obtain ⟨o8, k8⟩ := o7.set d (.int .i64 (r - 1))
          rw [← e8] at o8 k8
          have n8 : Nw wr w8 := nw_of_gb n7 k8 (fun z hz => by injection hz with hz; subst hz; exact o7.blk _ rfl)
          have e9 : (rs.map iv).set d (.int .i64 (r - 1)) = (lessAt rs d).map iv := by unfold lessAt; rw [List.map_set, HRV.out]; rfl
          rw [e9] at o8
          refine ⟨?_, n8⟩
          have hgn := HG5.out.nw (gb_trans (gb_trans N56.out hnw) n8) (Nat.le_refl _)
          have h5w : w5.heap.size ≤ w8.heap.size := (gb_trans (gb_trans N56.out hnw) n8).size
          have hn5 := HG5.out.len
          have hn5' : (needs (gs.drop (i + 1)) lost).length ≤ (gs.drop (i + 1)).length := List.length_filter_le _ _
          rw [List.length_drop] at hn5'
          exact (matched_any (hgn.more h5w) o8.rd (Nat.le_refl _) hn (by have := HGL.out; omega) (lessAt_le HM.out)).mono fun e w' h => MatchPost.hall h)
        unfold RetOwn at HCL
        unfold Ret at HMA
        clear hd hr
        obtain ⟨q, hq⟩ : ∃ q, okM gs rs lost i d = q := ⟨_, rfl⟩
        rw [hq] at HMA
        have HQ := Lib.hid hq
        clear hq
        have e2 : IntKind.i64.wrap (r - 1) = r - 1 := by rw [IntKind.wrap_i64]; omega
        have K3R := (K3.out.nw NWR.out).cell 0
        have HC7 := Lib.hid (show ∀ w7 A7 n7 c7, Own w7 wr.heap.size 3 1 A7 n7 c7 (rs.map iv) → n7 = n ∧ ∃ g7, A7 = some ⟨g7, 0, none⟩ ∧ w7.cell? ⟨g7, d, none⟩ = some (.int .i64 r) ∧ w7.frozen? ⟨g7, d, none⟩ = false from by
          intro w7 A7 n7 c7 o7
          have h1 := o7.len
          simp only [List.length_map, Nat.mul_one] at h1
          have h2 : n7 = n := by have := HL.out; omega
          obtain ⟨g7, hA7, _⟩ := o7.some_ (by omega)
          subst hA7
          obtain ⟨u, u1, u2, u3⟩ := o7.cellAt (k := d) (by omega)
          rw [List.getElem?_map, List.getElem?_eq_getElem (by rw [HL.out]; exact hdn), Option.map_some, getD_at, HRV.out] at u1
          injection u1 with u1; subst u1
          exact ⟨h2, g7, rfl, u2, u3⟩)
        rcases q with _ | _
        · have HN := Lib.hid (show ∀ e ∈ l.take (k + 1), okM gs rs lost i e = false from fun e he => by
            rw [List.take_succ_eq_append_getElem hkl] at he
            rcases List.mem_append.1 he with he | he
            · exact hno.out e he
            · rw [List.mem_singleton] at he
              have h1 := HD.out
              rw [List.getElem?_eq_getElem hkl] at h1
              injection h1 with h1
              rw [he, h1]; exact HQ.out)
          clear hno
          go_wp2_with (first
            | ((with_reducible refine (HMA.out w7 _ g7 c7 m7 o7 rfl).1.mono ?_); rintro e w9 ⟨rfl, n9⟩; have N8 := Lib.hid (HMA.out w7 _ g7 c7 m7 o7 rfl).2)
            | ((with_reducible refine HCL.out.mono ?_); rintro e w7 ⟨A7, n7, c7, rfl, o7, m7⟩; obtain ⟨rfl, g7, rfl, u2, u3⟩ := HC7.out _ _ _ _ o7))
          go_roundw
          case rel => exact ⟨k + 1, by omega, by go_num, HN, gb_trans hnw (gb_trans N8.out n9)⟩
          case measure => simp only [intOf]; omega
        · have HMV := Lib.hid (MoveIs.goes i x l k d HX.out HH.out HF.out RK.out HD.out HQ.out hno.out)
          clear hno
          go_wp2_with (first
            | ((with_reducible refine (HMA.out w7 _ g7 c7 m7 o7 rfl).1.mono ?_); rintro e w9 ⟨rfl, n9⟩; have N8 := Lib.hid (HMA.out w7 _ g7 c7 m7 o7 rfl).2; have k9 := (K3.out.nw (gb_trans NWR.out (gb_trans N8.out n9))).cell 0)
            | ((with_reducible refine HCL.out.mono ?_); rintro e w7 ⟨A7, n7, c7, rfl, o7, m7⟩; obtain ⟨rfl, g7, rfl, u2, u3⟩ := HC7.out _ _ _ _ o7))
          go_ret3
          exact ⟨some (i, d), rfl, HMV.out, gb_trans N4.out (gb_trans NWR.out (gb_trans N8.out n9))⟩
      · have hkn : k = n6 := by omega
        have HMV := Lib.hid (MoveIs.stuck (rs := rs) (lost := lost) i x l HX.out HH.out HF.out RK.out (fun e he => hno.out e (by rw [List.take_of_length_le (by rw [HLL.out]; omega)]; exact he)))
        clear hkn hno
        go_wp2
        go_ret3
        exact ⟨none, rfl, HMV.out, gb_trans N4.out (gb_trans N46.out hnw)⟩
end Go.Proofs.Ytobifmndpkjlmaa

