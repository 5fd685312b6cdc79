/- The Go function BitsPlays returns true for every int and slice of steps, where the library's table lies as it was laid; without other conditions. -/
import Derived.Test.YtoinkofoaodkhaaDoorJX
import Derived.Test.YtoinkofoaodkhaaDoorOpen
import Derived.Test.YtoinkofoaodkhaaDoorFlat
import Derived.LaidEqlPtr
import Derived.Test.YtoinkofoaodkhaaDoorFr
namespace Go.Proofs.YtoinkofoaodkhaaDoor
open Go.RowKit Go.BW Go.BW.Bit

theorem rclone2_any {wb w : World} {g : Nat} {bs : List Bool} (h : RS wb w g bs) : Calls Tryd.prog 23 #[pv g] w (RNew w bs w) := by
  obtain ⟨A, c, hc, ho, hob⟩ := h.cell
  have h5 := h.len
  have HS := Lib.hid h
  have hc2 := (hob.nw (World.grownBy_alloc w (.cells #[] 4) none)).cell 0
  have HO := Lib.hid ho.rd
  obtain ⟨N, hN⟩ : ∃ N, bs.length = N := ⟨_, rfl⟩
  have HN := Lib.hid hN
  rw [hN] at hc2 HO h5
  rw [show (#[Value.slice A N c])[0]? = some (.slice A N c) from rfl] at hc2
  clear h hob ho hN hc
  unfold pv
  go_enter Tryd.func23, Tryd.ntmps23
  go_wp2_with (at_builtin; refine wpList_app_lit T42 _ _ rfl rfl w.heap.size rfl rfl HO.out (Nat.le_refl _) (bo_one _) (by unfold maxLen; omega) (Nat.le_refl _) ?_; intro A' c1 w2 o2 n2; have O2 := Lib.hid o2; have N2 := Lib.hid n2; clear o2 n2)
  go_ret
  have o2 := O2.out
  have a2 := World.grownBy_alloc w2 (.cells #[.slice A' N c1] 53) none
  rw [← HN.out] at o2 a2 ⊢
  exact ⟨w2.heap.size, rfl, ⟨⟨A', c1, Obj1.new w2 _ _, o2.nw a2⟩, N2.out.size, gb_trans N2.out a2, HS.out.len⟩, gb_trans N2.out a2⟩
structure Op where
  k : Int
  n : Int
def oc (o : Op) : List Value := [.int .i64 o.k, .int .i64 o.n]
theorem oc_len (o : Op) : (oc o).length = 2 := rfl
def okOp (o : Op) : Prop := -9223372036854775808 ≤ o.n ∧ o.n ≤ 9223372036854775807
abbrev InOp (w : World) (A : Option Addr) (n c : Nat) (l : List Op) : Prop := InL w oc 2 okOp A n c l
section
variable {H : Type} {enc : TypeId × Value → H} {w : World} {base : Nat} {spare : Nat → Bool} {held : Bool} {x : DataW H × List MemPlace} {cs : List Value} {n : Nat}
theorem op_open (h : DataW.trod enc Tryd.prog w base spare held n 49 cs = some x) : ∃ o : Op, okOp o ∧ cs = oc o := by
  have hl : cs.length = 2 := (struct_len Tryd.underlying49 h).trans (by kernel_rfl)
  obtain ⟨_, _, h0⟩ := field_open Tryd.underlying49 h 0 _ rfl
  obtain ⟨_, _, h1⟩ := field_open Tryd.underlying49 h 1 _ rfl
  obtain ⟨a, e0, b0⟩ := int_open Tryd.underlying3 h0
  obtain ⟨b, e1, b1⟩ := int_open Tryd.underlying3 h1
  refine ⟨⟨a, b⟩, b1, ?_⟩
  have e0' : (cs.drop 0).take 1 = [iv a] := e0
  have e1' : (cs.drop 1).take 1 = [iv b] := e1
  match cs, hl with
  | [p, q], _ => simp at e0' e1'; simp [oc, e0', e1', iv]
theorem inOp_open {fuel : Nat} {a : Option Addr} {len cap : Nat} (h : DataW.trod enc Tryd.prog w base spare held fuel 45 [.slice a len cap] = some x) : ∃ os, InOp w a len cap os :=
  inL_open Tryd.underlying45 (by kernel_rfl) (by omega) (fun _ _ _ h => op_open h) h
theorem op1 {w : World} {B n k : Nat} {A : Option Addr} {ps : List Op} (h : Rd w B 2 A n (fl oc ps)) (hB : B ≤ w.heap.size) (hk : k < n) : ∃ b off x, A = some ⟨b, off, none⟩ ∧ ps[k]? = some x ∧ ∀ w', Nw w w' →
    w'.cell? ⟨b, off + k * 2, none⟩ = some (.int .i64 x.k) ∧ w'.cell? ⟨b, off + k * 2 + 1, none⟩ = some (.int .i64 x.n) := by
  obtain ⟨_, b, off, x, e, _, hx, _⟩ := h.atL oc_len (by omega) hk
  refine ⟨b, off, x, e, hx, fun w' k' => ?_⟩
  obtain ⟨_, b2, off2, x2, e2, _, hx2, hc⟩ := (h.nw k' hB).atL oc_len (by omega) hk
  rw [e] at e2; injection e2 with e2; injection e2 with e3 e4; subst e3; subst e4
  rw [hx] at hx2; injection hx2 with hx2; subst hx2
  exact ⟨hc 0 _ rfl, hc 1 _ rfl⟩
end
theorem eq_same (w : World) (g : Nat) : (binOp .eql 24 (.pointer (some ⟨g, 0, none⟩)) (.pointer (some ⟨g, 0, none⟩))).run Tryd.prog w = .ok (.bool true) w := by
  obtain ⟨j, hj, _⟩ := Option.map_eq_some_iff.1 i58
  exact run_eql_ptr_same w _ Tryd.underlying24 hj
theorem eq_other {w : World} {g g2 : Nat} {bs cs : List Bool} (h : BR w g bs) (h2 : BR w g2 cs) (hne : g ≠ g2) : (binOp .eql 24 (.pointer (some ⟨g, 0, none⟩)) (.pointer (some ⟨g2, 0, none⟩))).run Tryd.prog w = .ok (.bool false) w := by
  obtain ⟨j, hj, hs⟩ := Option.map_eq_some_iff.1 i58
  exact run_eql_ptr_other w Tryd.underlying24 hj (by omega) (by intro e; injection e with e; exact hne e) h.1 h2.1
/-- the four maps at hand -/
structure PS (w wr : World) (ga go gb gw : Nat) (A : Option Addr) (c : Nat) (A' : Option Addr) (c' : Nat) (bs os : List Bool) (N : Nat) : Prop where
  b : BR wr ga bs
  bg : w.heap.size ≤ ga
  o : BR wr go os
  og : w.heap.size ≤ go
  x : RX w wr gb A c bs
  y : RX w wr gw A' c' os
  ap : Apart A' A
  same : go = ga → os = bs
  lb : bs.length = N
  lo : os.length = N
section
variable {w wr w' w'' : World} {ga go gb gw : Nat} {A A' : Option Addr} {c c' : Nat} {bs os : List Bool} {N : Nat} {e : Ending}
theorem PS.more (h : PS w wr ga go gb gw A c A' c' bs os N) (k : Nw wr w') : PS w w' ga go gb gw A c A' c' bs os N :=
  ⟨h.b.nw k, h.bg, h.o.nw k, h.og, h.x.more k, h.y.more k, h.ap, h.same, h.lb, h.lo⟩
/-- the reference's map is cloned for the elder one: both say the same then -/
theorem was_of (hb : BR wr ga bs) (bg : w.heap.size ≤ ga) (hx0 : RX w wr gb A c bs) (lb : bs.length = N) (k : RNew wr bs wr e w') : ∃ gw2 A2 c2, e = .returned (pv gw2) ∧ PS w w' ga ga gb gw2 A c A2 c2 bs bs N ∧ Nw wr w' := by
  obtain ⟨gw2, rfl, r, n⟩ := k
  obtain ⟨A2, c2, hx⟩ := r.rx
  refine ⟨gw2, A2, c2, rfl, ⟨hb.nw n, bg, hb.nw n, bg, hx0.more n, hx.base hx0.nw, fun r l hr hl => ?_, fun _ => rfl, lb, lb⟩, n⟩
  subst hr; subst hl
  have h1 := hx.row.blk r rfl
  obtain ⟨cur, ho⟩ := hx0.row.obj
  have := ho.lt
  omega
theorem PS.was (h : PS w wr ga go gb gw A c A' c' bs os N) (k : RNew wr bs wr e w') : ∃ gw2 A2 c2, e = .returned (pv gw2) ∧ PS w w' ga ga gb gw2 A c A2 c2 bs bs N ∧ Nw wr w' := was_of h.b h.bg h.x h.lb k
/-- likewise, the elder map stays -/
theorem PS.was2 (h : PS w wr ga go gb gw A c A' c' bs bs N) (k : RNew wr bs wr e w') : ∃ gw2 A2 c2, e = .returned (pv gw2) ∧ PS w w' ga go gb gw2 A c A2 c2 bs bs N ∧ Nw wr w' := by
  obtain ⟨gw2, A2, c2, he, p, n⟩ := h.was k
  exact ⟨gw2, A2, c2, he, ⟨p.b, p.bg, h.o.nw n, h.og, p.x, p.y, p.ap, fun _ => rfl, p.lb, p.lo⟩, n⟩
theorem okB_bytes2 (bs : List Bool) : okB bs.length (bytesOf bs) = true := (okB_iff _ _).2 (by rw [bitsOf_bytesOf])
/-- the map at hand is another one that says the same -/
theorem PS.swap {g2 : Nat} (h : PS w wr ga ga gb gw A c A' c' bs bs N) (hb : BR w' g2 bs) (hg : wr.heap.size ≤ g2) (n : Nw wr w') : PS w w' g2 ga gb gw A c A' c' bs bs N :=
  ⟨hb, Nat.le_trans h.x.nw.size hg, h.b.nw n, h.bg, h.x.more n, h.y.more n, h.ap, fun _ => rfl, h.lb, h.lb⟩
/-- the elder one is a clone -/
theorem PS.old {g2 : Nat} (h : PS w wr ga go gb gw A c A' c' bs os N) (hb : BR w' g2 bs) (hg : wr.heap.size ≤ g2) (n : Nw wr w') (hw : os = bs) : PS w w' ga g2 gb gw A c A' c' bs bs N :=
  ⟨h.b.nw n, h.bg, hb, Nat.le_trans h.x.nw.size hg, h.x.more n, by subst hw; exact h.y.more n, h.ap, fun _ => rfl, h.lb, h.lb⟩
theorem PS.does (h : PS w wr ga go gb gw A c A' c' bs os N) (hne : go ≠ ga) (k : DoesPost w ga gb A c N wr e w') : e = .returned (.bool true) ∧ ∃ bs', PS w w' ga go gb gw A c A' c' bs' os N := by
  obtain ⟨he, bs', hb, hx, hl, hf⟩ := k
  exact ⟨he, bs', hb, h.bg, hf.b _ _ hne h.o, h.og, hx, hf.x _ _ _ _ h.ap h.y, h.ap, fun e => absurd e hne, hl, h.lo⟩
end
def PRel (w : World) (gb : Nat) (A : Option Addr) (c N : Nat) (m o s : Value) (wr : World) : Prop := ∃ ga go gw A' c' bs os, m = pv ga ∧ o = pv go ∧ s = pv gw ∧ PS w wr ga go gb gw A c A' c' bs os N
set_option maxRecDepth 100000 in
set_option maxHeartbeats 16000000 in
theorem plays_walk (n0 : Int) (_ : -9223372036854775808 ≤ n0 ∧ n0 ≤ 9223372036854775807) {w : World} (AA : Option Addr) (len cap : Nat) (l : List Op) (hin : InOp w AA len cap l) (ht : Tab w) :
    Calls Tryd.prog 8 #[.int .i64 n0, .slice AA len cap] w (Ret (.bool true) w) := by
  obtain ⟨hr, hc, hcm, _, hok⟩ := hin
  have HR := Lib.hid (show Rd w w.heap.size 2 AA len (fl oc l) from hr); have HOK := Lib.hid hok; have HT := Lib.hid ht
  clear hr hok ht
  unfold maxLen at hcm
  obtain ⟨n1, hn1⟩ : ∃ n1 : Int, (if (2000 : Int) < n0 then (2000 : Int) else n0) = n1 := ⟨_, rfl⟩
  have hn2 : n1 ≤ 2000 := by rw [← hn1]; split <;> omega
  obtain ⟨N, hN⟩ : ∃ N, numN n1 = N := ⟨_, rfl⟩
  have hN2 : N ≤ 2000 := by rw [← hN]; unfold numN; omega
  have HN1 := Lib.hid hn1
  have HNEW := Lib.hid (fun w => by have := new_any n1 w; rw [hN] at this; exact this)
  have HRNEW := Lib.hid (fun (w' : World) (h : Nw w w') => by have := rnew_any h n1; rw [hN] at this; exact this)
  clear hn1 hN hn2
  go_enter Tryd.func8, Tryd.ntmps8
  go_wp2_with (first |
    ((refine (rclone2_any X3.out.rs).mono ?_); intro e w4 h4; obtain ⟨gw, A', c', rfl, p4, _⟩ := was_of (N := N) S3.out.rep S3.out.ge X3.out (by simp) h4; have P4 := Lib.hid p4; clear h4 p4; unfold pv) |
    ((refine (HRNEW.out _ S2.out.nw).mono ?_); rintro e w3 ⟨gb, rfl, r3, n3⟩; obtain ⟨A, c, x3⟩ := r3.rx; have X3 := Lib.hid x3; have S3 := Lib.hid (S2.out.more n3); clear r3 n3 x3; unfold pv) |
    ((refine (HNEW.out _).mono ?_); rintro e w2 h1; obtain ⟨ga, rfl, s1, hga, n2⟩ := BS.of_new N1.out h1; have S2 := Lib.hid s1; clear s1 h1 hga n2; unfold pv) |
    (refine wpList_min_int _ _ _ rfl rfl n0 2000 rfl rfl HN1.out ?_) |
    ((with_reducible refine (shown_any HT.out).mono ?_); rintro e w1 ⟨rfl, n1'⟩; have N1 := Lib.hid n1'; clear n1'))
  go_loopw [6, 8, 9, 10] (fun m o s i wr => ∃ i' : Nat, i = .int .i64 i' ∧ i' ≤ 300 ∧ i' ≤ len ∧ PRel w gb A c N m o s wr) (fun _ _ _ i _ => 300 - (intOf i).toNat)
  case atStart => exact ⟨0, rfl, by omega, by omega, _, _, _, _, _, _, _, rfl, rfl, rfl, P4.out⟩
  case round =>
    clear S2 S3 X3 P4 N1 HNEW HRNEW
    obtain ⟨i, rfl, hi1, hi2, ga, go, gw, A', c', bs, os, rfl, rfl, rfl, p5⟩ := hrel
    have P5 := Lib.hid p5; clear p5
    unfold pv
    by_cases hlt : i < len ∧ i < 300
    · obtain ⟨hlt1, hlt2⟩ := hlt
      obtain ⟨b, off, x, rfl, hx, hcx⟩ := op1 HR.out (Nat.le_refl _) hlt1
      have hokx := HOK.out x (List.mem_of_getElem? hx)
      obtain ⟨kd, n⟩ := x
      unfold okOp at hokx
      simp only at hokx hcx
      have HCX := Lib.hid hcx
      obtain ⟨d0, d1⟩ := HCX.out _ P5.out.x.nw
      clear hx hcx
      rcases (show kd = 5 ∨ kd = 6 ∨ (kd ≠ 5 ∧ kd ≠ 6) from by omega) with rfl | rfl | ⟨h5, h6⟩
      · go_wp2_with (first |
          ((refine (clone_any P6.out.b).mono ?_); rintro e w7 ⟨g2, rfl, b7, hg7, n7⟩; have P9 := Lib.hid (P6.out.swap b7 hg7 n7); clear b7 hg7 n7; unfold pv) |
          ((refine (rclone2_any P5.out.x.rs).mono ?_); intro e w6 h6; obtain ⟨gw2, A2, c2, rfl, p6, _⟩ := P5.out.was h6; have P6 := Lib.hid p6; clear h6 p6 d0 d1; unfold pv))
        have c0 : ∀ w', Nw w7 w' → w'.cell? ⟨gb, 0, none⟩ = some (.slice A N c) := fun w' n => by rw [(P9.out.x.more n).obj.cell 0, P9.out.lb]; rfl
        obtain ⟨C, hC⟩ : ∃ C, cnt bs = C := ⟨_, rfl⟩
        have HCC := Lib.hid hC; clear hC
        go_wp2_with fail
        refine wp_region_held (S := (fun w' => Nw w7 w')) (by kernel_rfl) ?_
        change wpAnyH _ _ _ _ _ _ _ _ (World.drew w7)
        refine held_seg' (l := [0, 1, 2, 3, 4, 5, 6, 7, 9, 10, 11, 12, 13]) (fuel := 10) rfl (by kernel_rfl) (by kernel_rfl) (by simp only [List.filterMap_cons, List.filterMap_nil, List.getElem?_toArray, List.getElem?_cons_succ, List.getElem?_cons_zero]; rfl) (fun _ _ d _ _ h => by cases d <;> exact h) (gb_drew (Nw.refl w7)) ?_
        iterate 13 (refine wpYield_step rfl (fun K hK => ?_)
                    apply Exists.intro
                    refine ⟨fun w' hw' => ?_, ?_⟩
                    · (go_simp; try with_reducible rfl)
                    go_simp
                    refine hK _ ?_
                    clear hK K)
        refine wpYield_nil ?_
        refine held_eff 8 rfl (by kernel_rfl) rfl (fun K hK => ?_)
        go_simp
        refine (len_any (P9.out.more (gb_drew (Nw.refl w7))).b).mono ?_
        rw [P9.out.lb]
        rintro e w8 ⟨rfl, rfl⟩
        refine hK _ _ ⟨gb_drew (Nw.refl w7), ?_⟩
        clear hK K
        refine held_seg' (l := [14, 15, 16, 17, 19]) (fuel := 4) rfl (by kernel_rfl) (by kernel_rfl) (by simp only [List.filterMap_cons, List.filterMap_nil, List.getElem?_toArray, List.getElem?_cons_succ, List.getElem?_cons_zero]; rfl) (fun _ _ d _ _ h => by cases d <;> exact h) (gb_drew (Nw.refl w7)) ?_
        iterate 5 (refine wpYield_step rfl (fun K hK => ?_)
                   apply Exists.intro
                   refine ⟨fun w' hw' => ?_, ?_⟩
                   · (go_simp; try with_reducible rfl)
                   go_simp
                   refine hK _ ?_
                   clear hK K)
        refine wpYield_nil ?_
        refine held_eff 18 rfl (by kernel_rfl) rfl (fun K hK => ?_)
        go_simp
        refine (count_any (P9.out.more (gb_drew (Nw.refl w7))).b).mono ?_
        rw [HCC.out]
        rintro e w8 ⟨rfl, rfl⟩
        refine hK _ _ ⟨gb_drew (Nw.refl w7), ?_⟩
        clear hK K
        refine held_eff 20 rfl (by kernel_rfl) rfl (fun K hK => ?_)
        go_simp
        refine (rcount_any (P9.out.more (gb_drew (Nw.refl w7))).x.rs).mono ?_
        rw [HCC.out]
        rintro e w8 ⟨rfl, rfl⟩
        refine hK _ _ ⟨gb_drew (Nw.refl w7), ?_⟩
        clear hK K
        refine held_seg' (l := [21, 22]) (fuel := 0) rfl (by kernel_rfl) (by kernel_rfl) (by simp only [List.filterMap_cons, List.filterMap_nil, List.getElem?_toArray, List.getElem?_cons_succ, List.getElem?_cons_zero]; rfl) (fun _ _ d _ _ h => by cases d <;> exact h) (gb_drew (Nw.refl w7)) ?_
        iterate 2 (refine wpYield_step rfl (fun K hK => ?_)
                   apply Exists.intro
                   refine ⟨fun w' hw' => ?_, ?_⟩
                   · (go_simp; try with_reducible rfl)
                   go_simp
                   refine hK _ ?_
                   clear hK K)
        refine wpYield_nil ?_
        refine wpAnyH_done (by kernel_rfl) ?_ _
        have P10 := Lib.hid (P9.out.more (gb_drew (Nw.refl w7)))
        clear c0
        go_wp2
        exact ⟨⟨i + 1, by go_num, by omega, hlt1, _, _, _, _, _, _, _, rfl, rfl, rfl, P10.out⟩, by simp [intOf]; omega⟩
      · have hob := okB_bytes2 bs
        have hbb := bitsOf_bytesOf bs
        rw [P5.out.lb] at hob hbb
        have HOB := Lib.hid hob; have HBB := Lib.hid hbb; clear hob hbb
        go_wp2_with (first |
          ((refine (of_ok N (by omega) O7.out.rd (Nat.le_refl _) HOB.out).mono ?_); rw [HBB.out]; rintro e w8 ⟨g2, rfl, b8, hg8, n8⟩; have P9 := Lib.hid (P6.out.swap b8 (Nat.le_trans N7.out.size hg8) (gb_trans N7.out n8)); clear b8 hg8 n8; unfold pv) |
          ((refine (bytes_any P6.out.b).mono ?_); rintro e w7 ⟨A7, n7, c7, rfl, o7, m7⟩; have O7 := Lib.hid o7; have N7 := Lib.hid m7; clear o7 m7) |
          ((refine (len_any P6.out.b).mono ?_); rw [P6.out.lb]; rintro e w6' ⟨rfl, rfl⟩) |
          ((refine (rclone2_any P5.out.x.rs).mono ?_); intro e w6 h6; obtain ⟨gw2, A2, c2, rfl, p6, _⟩ := P5.out.was h6; have P6 := Lib.hid p6; clear h6 p6 d0 d1; unfold pv))
        have c0 : ∀ w', Nw w8 w' → w'.cell? ⟨gb, 0, none⟩ = some (.slice A N c) := fun w' n => by rw [(P9.out.x.more n).obj.cell 0, P9.out.lb]; rfl
        obtain ⟨C, hC⟩ : ∃ C, cnt bs = C := ⟨_, rfl⟩
        have HCC := Lib.hid hC; clear hC
        go_wp2_with fail
        refine wp_region_held (S := (fun w' => Nw w8 w')) (by kernel_rfl) ?_
        change wpAnyH _ _ _ _ _ _ _ _ (World.drew w8)
        refine held_seg' (l := [0, 1, 2, 3, 4, 5, 6, 7, 9, 10, 11, 12, 13]) (fuel := 10) rfl (by kernel_rfl) (by kernel_rfl) (by simp only [List.filterMap_cons, List.filterMap_nil, List.getElem?_toArray, List.getElem?_cons_succ, List.getElem?_cons_zero]; rfl) (fun _ _ d _ _ h => by cases d <;> exact h) (gb_drew (Nw.refl w8)) ?_
        iterate 13 (refine wpYield_step rfl (fun K hK => ?_)
                    apply Exists.intro
                    refine ⟨fun w' hw' => ?_, ?_⟩
                    · (go_simp; try with_reducible rfl)
                    go_simp
                    refine hK _ ?_
                    clear hK K)
        refine wpYield_nil ?_
        refine held_eff 8 rfl (by kernel_rfl) rfl (fun K hK => ?_)
        go_simp
        refine (len_any (P9.out.more (gb_drew (Nw.refl w8))).b).mono ?_
        rw [P9.out.lb]
        rintro e w8 ⟨rfl, rfl⟩
        refine hK _ _ ⟨gb_drew (Nw.refl w8), ?_⟩
        clear hK K
        refine held_seg' (l := [14, 15, 16, 17, 19]) (fuel := 4) rfl (by kernel_rfl) (by kernel_rfl) (by simp only [List.filterMap_cons, List.filterMap_nil, List.getElem?_toArray, List.getElem?_cons_succ, List.getElem?_cons_zero]; rfl) (fun _ _ d _ _ h => by cases d <;> exact h) (gb_drew (Nw.refl w8)) ?_
        iterate 5 (refine wpYield_step rfl (fun K hK => ?_)
                   apply Exists.intro
                   refine ⟨fun w' hw' => ?_, ?_⟩
                   · (go_simp; try with_reducible rfl)
                   go_simp
                   refine hK _ ?_
                   clear hK K)
        refine wpYield_nil ?_
        refine held_eff 18 rfl (by kernel_rfl) rfl (fun K hK => ?_)
        go_simp
        refine (count_any (P9.out.more (gb_drew (Nw.refl w8))).b).mono ?_
        rw [HCC.out]
        rintro e w8 ⟨rfl, rfl⟩
        refine hK _ _ ⟨gb_drew (Nw.refl w8), ?_⟩
        clear hK K
        refine held_eff 20 rfl (by kernel_rfl) rfl (fun K hK => ?_)
        go_simp
        refine (rcount_any (P9.out.more (gb_drew (Nw.refl w8))).x.rs).mono ?_
        rw [HCC.out]
        rintro e w8 ⟨rfl, rfl⟩
        refine hK _ _ ⟨gb_drew (Nw.refl w8), ?_⟩
        clear hK K
        refine held_seg' (l := [21, 22]) (fuel := 0) rfl (by kernel_rfl) (by kernel_rfl) (by simp only [List.filterMap_cons, List.filterMap_nil, List.getElem?_toArray, List.getElem?_cons_succ, List.getElem?_cons_zero]; rfl) (fun _ _ d _ _ h => by cases d <;> exact h) (gb_drew (Nw.refl w8)) ?_
        iterate 2 (refine wpYield_step rfl (fun K hK => ?_)
                   apply Exists.intro
                   refine ⟨fun w' hw' => ?_, ?_⟩
                   · (go_simp; try with_reducible rfl)
                   go_simp
                   refine hK _ ?_
                   clear hK K)
        refine wpYield_nil ?_
        refine wpAnyH_done (by kernel_rfl) ?_ _
        have P10 := Lib.hid (P9.out.more (gb_drew (Nw.refl w8)))
        clear c0
        go_wp2
        exact ⟨⟨i + 1, by go_num, by omega, hlt1, _, _, _, _, _, _, _, rfl, rfl, rfl, P10.out⟩, by simp [intOf]; omega⟩
      · have b5 : (kd == 5) = false := by simpa using h5
        have b6 : (kd == 6) = false := by simpa using h6
        clear h5 h6
        by_cases hgo : go = ga
        · subst hgo
          have hos := P5.out.same rfl
          subst hos
          have hpe := eq_same wr go
          go_wp2_with (first |
            ((refine (does_any P8.out.b P8.out.bg P8.out.x (HT.out.nw P8.out.x.nw) kd n hokx.2).mono ?_); rw [P8.out.lb]; intro e w9 h9; obtain ⟨rfl, bs9, p9⟩ := P8.out.does HNE.out h9; have P9 := Lib.hid p9; clear h9 p9) |
            ((refine (rclone2_any P6.out.x.rs).mono ?_); intro e w8 h8; obtain ⟨gw2, A2, c2, rfl, p8, n8⟩ := P6.out.was2 h8; have P8 := Lib.hid p8; clear h8 p8 n8; obtain ⟨d0, d1⟩ := HCX.out _ P8.out.x.nw; unfold pv) |
            ((refine (clone_any P5.out.b).mono ?_); rintro e w7 ⟨g2, rfl, b7, hg7, n7⟩; have P6 := Lib.hid (P5.out.old b7 hg7 n7 rfl); have HNE := Lib.hid (show g2 ≠ go from by have := P5.out.b.1.lt; omega); clear b7 hg7 n7 d0 d1 hpe; unfold pv))
          have c0 : ∀ w', Nw w9 w' → w'.cell? ⟨gb, 0, none⟩ = some (.slice A N c) := fun w' n => by rw [(P9.out.x.more n).obj.cell 0, P9.out.lb]; rfl
          obtain ⟨C, hC⟩ : ∃ C, cnt bs9 = C := ⟨_, rfl⟩
          have HCC := Lib.hid hC; clear hC
          go_wp2_with fail
          refine wp_region_held (S := (fun w' => Nw w9 w')) (by kernel_rfl) ?_
          change wpAnyH _ _ _ _ _ _ _ _ (World.drew w9)
          refine held_seg' (l := [0, 1, 2, 3, 4, 5, 6, 7, 9, 10, 11, 12, 13]) (fuel := 10) rfl (by kernel_rfl) (by kernel_rfl) (by simp only [List.filterMap_cons, List.filterMap_nil, List.getElem?_toArray, List.getElem?_cons_succ, List.getElem?_cons_zero]; rfl) (fun _ _ d _ _ h => by cases d <;> exact h) (gb_drew (Nw.refl w9)) ?_
          iterate 13 (refine wpYield_step rfl (fun K hK => ?_)
                      apply Exists.intro
                      refine ⟨fun w' hw' => ?_, ?_⟩
                      · (go_simp; try with_reducible rfl)
                      go_simp
                      refine hK _ ?_
                      clear hK K)
          refine wpYield_nil ?_
          refine held_eff 8 rfl (by kernel_rfl) rfl (fun K hK => ?_)
          go_simp
          refine (len_any (P9.out.more (gb_drew (Nw.refl w9))).b).mono ?_
          rw [P9.out.lb]
          rintro e w8 ⟨rfl, rfl⟩
          refine hK _ _ ⟨gb_drew (Nw.refl w9), ?_⟩
          clear hK K
          refine held_seg' (l := [14, 15, 16, 17, 19]) (fuel := 4) rfl (by kernel_rfl) (by kernel_rfl) (by simp only [List.filterMap_cons, List.filterMap_nil, List.getElem?_toArray, List.getElem?_cons_succ, List.getElem?_cons_zero]; rfl) (fun _ _ d _ _ h => by cases d <;> exact h) (gb_drew (Nw.refl w9)) ?_
          iterate 5 (refine wpYield_step rfl (fun K hK => ?_)
                     apply Exists.intro
                     refine ⟨fun w' hw' => ?_, ?_⟩
                     · (go_simp; try with_reducible rfl)
                     go_simp
                     refine hK _ ?_
                     clear hK K)
          refine wpYield_nil ?_
          refine held_eff 18 rfl (by kernel_rfl) rfl (fun K hK => ?_)
          go_simp
          refine (count_any (P9.out.more (gb_drew (Nw.refl w9))).b).mono ?_
          rw [HCC.out]
          rintro e w8 ⟨rfl, rfl⟩
          refine hK _ _ ⟨gb_drew (Nw.refl w9), ?_⟩
          clear hK K
          refine held_eff 20 rfl (by kernel_rfl) rfl (fun K hK => ?_)
          go_simp
          refine (rcount_any (P9.out.more (gb_drew (Nw.refl w9))).x.rs).mono ?_
          rw [HCC.out]
          rintro e w8 ⟨rfl, rfl⟩
          refine hK _ _ ⟨gb_drew (Nw.refl w9), ?_⟩
          clear hK K
          refine held_seg' (l := [21, 22]) (fuel := 0) rfl (by kernel_rfl) (by kernel_rfl) (by simp only [List.filterMap_cons, List.filterMap_nil, List.getElem?_toArray, List.getElem?_cons_succ, List.getElem?_cons_zero]; rfl) (fun _ _ d _ _ h => by cases d <;> exact h) (gb_drew (Nw.refl w9)) ?_
          iterate 2 (refine wpYield_step rfl (fun K hK => ?_)
                     apply Exists.intro
                     refine ⟨fun w' hw' => ?_, ?_⟩
                     · (go_simp; try with_reducible rfl)
                     go_simp
                     refine hK _ ?_
                     clear hK K)
          refine wpYield_nil ?_
          refine wpAnyH_done (by kernel_rfl) ?_ _
          have P10 := Lib.hid (P9.out.more (gb_drew (Nw.refl w9)))
          clear c0
          go_wp2
          exact ⟨⟨i + 1, by go_num, by omega, hlt1, _, _, _, _, _, _, _, rfl, rfl, rfl, P10.out⟩, by simp [intOf]; omega⟩
        · have HNE := Lib.hid hgo
          have hpe := eq_other P5.out.o P5.out.b hgo
          have P8 := P5
          go_wp2_with ((refine (does_any P8.out.b P8.out.bg P8.out.x (HT.out.nw P8.out.x.nw) kd n hokx.2).mono ?_); rw [P8.out.lb]; intro e w9 h9; obtain ⟨rfl, bs9, p9⟩ := P8.out.does HNE.out h9; have P9 := Lib.hid p9; clear h9 p9)
          have c0 : ∀ w', Nw w9 w' → w'.cell? ⟨gb, 0, none⟩ = some (.slice A N c) := fun w' n => by rw [(P9.out.x.more n).obj.cell 0, P9.out.lb]; rfl
          obtain ⟨C, hC⟩ : ∃ C, cnt bs9 = C := ⟨_, rfl⟩
          have HCC := Lib.hid hC; clear hC
          go_wp2_with fail
          refine wp_region_held (S := (fun w' => Nw w9 w')) (by kernel_rfl) ?_
          change wpAnyH _ _ _ _ _ _ _ _ (World.drew w9)
          refine held_seg' (l := [0, 1, 2, 3, 4, 5, 6, 7, 9, 10, 11, 12, 13]) (fuel := 10) rfl (by kernel_rfl) (by kernel_rfl) (by simp only [List.filterMap_cons, List.filterMap_nil, List.getElem?_toArray, List.getElem?_cons_succ, List.getElem?_cons_zero]; rfl) (fun _ _ d _ _ h => by cases d <;> exact h) (gb_drew (Nw.refl w9)) ?_
          iterate 13 (refine wpYield_step rfl (fun K hK => ?_)
                      apply Exists.intro
                      refine ⟨fun w' hw' => ?_, ?_⟩
                      · (go_simp; try with_reducible rfl)
                      go_simp
                      refine hK _ ?_
                      clear hK K)
          refine wpYield_nil ?_
          refine held_eff 8 rfl (by kernel_rfl) rfl (fun K hK => ?_)
          go_simp
          refine (len_any (P9.out.more (gb_drew (Nw.refl w9))).b).mono ?_
          rw [P9.out.lb]
          rintro e w8 ⟨rfl, rfl⟩
          refine hK _ _ ⟨gb_drew (Nw.refl w9), ?_⟩
          clear hK K
          refine held_seg' (l := [14, 15, 16, 17, 19]) (fuel := 4) rfl (by kernel_rfl) (by kernel_rfl) (by simp only [List.filterMap_cons, List.filterMap_nil, List.getElem?_toArray, List.getElem?_cons_succ, List.getElem?_cons_zero]; rfl) (fun _ _ d _ _ h => by cases d <;> exact h) (gb_drew (Nw.refl w9)) ?_
          iterate 5 (refine wpYield_step rfl (fun K hK => ?_)
                     apply Exists.intro
                     refine ⟨fun w' hw' => ?_, ?_⟩
                     · (go_simp; try with_reducible rfl)
                     go_simp
                     refine hK _ ?_
                     clear hK K)
          refine wpYield_nil ?_
          refine held_eff 18 rfl (by kernel_rfl) rfl (fun K hK => ?_)
          go_simp
          refine (count_any (P9.out.more (gb_drew (Nw.refl w9))).b).mono ?_
          rw [HCC.out]
          rintro e w8 ⟨rfl, rfl⟩
          refine hK _ _ ⟨gb_drew (Nw.refl w9), ?_⟩
          clear hK K
          refine held_eff 20 rfl (by kernel_rfl) rfl (fun K hK => ?_)
          go_simp
          refine (rcount_any (P9.out.more (gb_drew (Nw.refl w9))).x.rs).mono ?_
          rw [HCC.out]
          rintro e w8 ⟨rfl, rfl⟩
          refine hK _ _ ⟨gb_drew (Nw.refl w9), ?_⟩
          clear hK K
          refine held_seg' (l := [21, 22]) (fuel := 0) rfl (by kernel_rfl) (by kernel_rfl) (by simp only [List.filterMap_cons, List.filterMap_nil, List.getElem?_toArray, List.getElem?_cons_succ, List.getElem?_cons_zero]; rfl) (fun _ _ d _ _ h => by cases d <;> exact h) (gb_drew (Nw.refl w9)) ?_
          iterate 2 (refine wpYield_step rfl (fun K hK => ?_)
                     apply Exists.intro
                     refine ⟨fun w' hw' => ?_, ?_⟩
                     · (go_simp; try with_reducible rfl)
                     go_simp
                     refine hK _ ?_
                     clear hK K)
          refine wpYield_nil ?_
          refine wpAnyH_done (by kernel_rfl) ?_ _
          have P10 := Lib.hid (P9.out.more (gb_drew (Nw.refl w9)))
          clear c0
          go_wp2
          exact ⟨⟨i + 1, by go_num, by omega, hlt1, _, _, _, _, _, _, _, rfl, rfl, rfl, P10.out⟩, by simp [intOf]; omega⟩
    · have hcases : (¬ i < len) ∨ (i < len ∧ i = 300) := by omega
      clear hlt
      clear HOK HR
      rcases hcases with hlt1 | ⟨hlt1, rfl⟩
      all_goals
        go_wp2_with fail
        refine wp_region_held (S := (fun w' => Nw wr w')) (by kernel_rfl) ?_
        change wpAnyH _ _ _ _ _ _ _ _ (World.drew wr)
        refine held_seg' (l := [0, 1, 2, 5]) (fuel := 16) rfl (by kernel_rfl) (by kernel_rfl) (by simp only [List.filterMap_cons, List.filterMap_nil, List.getElem?_toArray, List.getElem?_cons_succ, List.getElem?_cons_zero]; rfl) (fun _ _ d _ _ h => by cases d <;> exact h) (gb_drew (Nw.refl wr)) ?_
        iterate 4 (refine wpYield_step rfl (fun K hK => ?_)
                   apply Exists.intro
                   refine ⟨fun w' hw' => ?_, ?_⟩
                   · (go_simp; try with_reducible rfl)
                   go_simp
                   refine hK _ ?_
                   clear hK K)
        refine wpYield_nil ?_
        refine held_eff 3 rfl (by kernel_rfl) rfl (fun K hK => ?_)
        go_simp
        refine (bytes_any (P5.out.more (gb_drew (Nw.refl wr))).b).mono ?_
        rintro e w8 ⟨A8, n8, c8, rfl, o8, m8⟩
        have m8' : Nw wr w8 := gb_of_drew m8
        have P8 := Lib.hid (P5.out.more m8'); have O8 := Lib.hid o8
        refine hK _ _ ⟨m8', ?_⟩
        clear hK K
        refine wpAnyH_mono (S' := fun w' => Nw w8 w') (fun w' h => gb_trans m8' h) _ _ _ _ ?_
        clear o8 m8 m8'
        refine held_seg' (l := [4]) (fuel := 14) rfl (by kernel_rfl) (by kernel_rfl) (by simp only [List.filterMap_cons, List.filterMap_nil, List.getElem?_toArray, List.getElem?_cons_succ, List.getElem?_cons_zero]; rfl) (fun _ _ d _ _ h => by cases d <;> exact h) (Nw.refl w8) ?_
        refine wpYield_bytes_str 28 9 5 Tryd.underlying28 Tryd.underlying5 Tryd.underlying9 _ rfl rfl rfl (fun w' hw' => O8.out.rd.nw hw' (Nat.le_refl _)) ?_
        refine wpYield_nil ?_
        refine held_eff 6 rfl (by kernel_rfl) rfl (fun K hK => ?_)
        go_simp
        refine (rbytes_any P8.out.x.rs).mono ?_
        rintro e w9 ⟨A9, n9, c9, rfl, o9, m9⟩
        have P9 := Lib.hid (P8.out.more m9); have O9 := Lib.hid o9
        refine hK _ _ ⟨m9, ?_⟩
        clear hK K
        refine wpAnyH_mono (S' := fun w' => Nw w9 w') (fun w' h => gb_trans m9 h) _ _ _ _ ?_
        clear o9 m9 P8
        refine held_seg' (l := [7, 8, 9, 10, 11, 14]) (fuel := 7) rfl (by kernel_rfl) (by kernel_rfl) (by simp only [List.filterMap_cons, List.filterMap_nil, List.getElem?_toArray, List.getElem?_cons_succ, List.getElem?_cons_zero]; rfl) (fun _ _ d _ _ h => by cases d <;> exact h) (Nw.refl w9) ?_
        refine wpYield_bytes_str 28 9 5 Tryd.underlying28 Tryd.underlying5 Tryd.underlying9 _ rfl rfl rfl (fun w' hw' => O9.out.rd.nw hw' (Nat.le_refl _)) ?_
        iterate 5 (refine wpYield_step rfl (fun K hK => ?_)
                   apply Exists.intro
                   refine ⟨fun w' hw' => ?_, ?_⟩
                   · (go_simp; try with_reducible rfl)
                   go_simp
                   refine hK _ ?_
                   clear hK K)
        refine wpYield_nil ?_
        refine held_eff 12 rfl (by kernel_rfl) rfl (fun K hK => ?_)
        go_simp
        refine (bytes_any P9.out.o).mono ?_
        rintro e w10 ⟨A10, n10, c10, rfl, o10, m10⟩
        have P10 := Lib.hid (P9.out.more m10); have O10 := Lib.hid o10
        refine hK _ _ ⟨m10, ?_⟩
        clear hK K
        refine wpAnyH_mono (S' := fun w' => Nw w10 w') (fun w' h => gb_trans m10 h) _ _ _ _ ?_
        clear o10 m10 P9
        refine held_seg' (l := [13]) (fuel := 5) rfl (by kernel_rfl) (by kernel_rfl) (by simp only [List.filterMap_cons, List.filterMap_nil, List.getElem?_toArray, List.getElem?_cons_succ, List.getElem?_cons_zero]; rfl) (fun _ _ d _ _ h => by cases d <;> exact h) (Nw.refl w10) ?_
        refine wpYield_bytes_str 28 9 5 Tryd.underlying28 Tryd.underlying5 Tryd.underlying9 _ rfl rfl rfl (fun w' hw' => O10.out.rd.nw hw' (Nat.le_refl _)) ?_
        refine wpYield_nil ?_
        refine held_eff 15 rfl (by kernel_rfl) rfl (fun K hK => ?_)
        go_simp
        refine (rbytes_any P10.out.y.rs).mono ?_
        rintro e w11 ⟨A11, n11, c11, rfl, o11, m11⟩
        have P11 := Lib.hid (P10.out.more m11); have O11 := Lib.hid o11
        refine hK _ _ ⟨m11, ?_⟩
        clear hK K
        refine wpAnyH_mono (S' := fun w' => Nw w11 w') (fun w' h => gb_trans m11 h) _ _ _ _ ?_
        clear o11 m11 P10
        refine held_seg' (l := [16, 17, 18, 19]) (fuel := 0) rfl (by kernel_rfl) (by kernel_rfl) (by simp only [List.filterMap_cons, List.filterMap_nil, List.getElem?_toArray, List.getElem?_cons_succ, List.getElem?_cons_zero]; rfl) (fun _ _ d _ _ h => by cases d <;> exact h) (Nw.refl w11) ?_
        refine wpYield_bytes_str 28 9 5 Tryd.underlying28 Tryd.underlying5 Tryd.underlying9 _ rfl rfl rfl (fun w' hw' => O11.out.rd.nw hw' (Nat.le_refl _)) ?_
        iterate 3 (refine wpYield_step rfl (fun K hK => ?_)
                   apply Exists.intro
                   refine ⟨fun w' hw' => ?_, ?_⟩
                   · (go_simp; try with_reducible rfl)
                   go_simp
                   refine hK _ ?_
                   clear hK K)
        refine wpYield_nil ?_
        refine wpAnyH_done (by kernel_rfl) ?_ _
        go_wp2
        go_ret
        exact ⟨rfl, P11.out.x.nw⟩
end Go.Proofs.YtoinkofoaodkhaaDoor

