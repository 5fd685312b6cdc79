/- cmp.Compare, byRoom's comparison, and the library's insertion sort by it. -/
import Derived.Test.YtobifmndpkjlmaaJE
import Derived.Test.YtobifmndpkjlmaaJA
import Derived.Deep.DeepCutAuto
set_option linter.unusedVariables false
set_option linter.unusedSimpArgs false
/- cmp.Compare, byRoom's comparison, and the library's insertion sort by it. -/
namespace Go.Proofs.Ytobifmndpkjlmaa
open Go.RowKit Go.BW

def cmpf (x y : Int) : Int := if x < y then -1 else if y < x then 1 else 0
theorem isnan_any (x : Int) (w : World) : Calls Try.prog 48 #[.int .i64 x] w (fun e w' => e = .returned (.bool false) ∧ w = w') := by
  have h : (x != x) = false := bne_self_eq_false' x
  go_enter Try.func48, Try.ntmps48
  go_wp2
  go_ret
  first | exact ⟨rfl, rfl⟩ | exact ⟨by simp, rfl⟩
theorem compare_any (x y : Int) (w : World) : Calls Try.prog 41 #[.int .i64 x, .int .i64 y] w (fun e w' => e = .returned (.int .i64 (cmpf x y)) ∧ w = w') := by
  have h1 := Lib.hid (fun w' => isnan_any x w')
  have h2 := Lib.hid (fun w' => isnan_any y w')
  rcases (show x < y ∨ y < x ∨ x = y by omega) with h | h | h
  · have H := Lib.hid (show cmpf x y = -1 by unfold cmpf; rw [if_pos h])
    go_enter Try.func41, Try.ntmps41
    go_wp2_with (first | ((with_reducible refine (h1.out _).mono ?_); rintro e w' ⟨rfl, rfl⟩) | ((with_reducible refine (h2.out _).mono ?_); rintro e w' ⟨rfl, rfl⟩))
    go_ret
    exact ⟨by rw [H.out]; rfl, rfl⟩
  · have H := Lib.hid (show cmpf x y = 1 by unfold cmpf; rw [if_neg (by omega), if_pos h])
    have hn : ¬ x < y := by omega
    go_enter Try.func41, Try.ntmps41
    go_wp2_with (first | ((with_reducible refine (h1.out _).mono ?_); rintro e w' ⟨rfl, rfl⟩) | ((with_reducible refine (h2.out _).mono ?_); rintro e w' ⟨rfl, rfl⟩))
    go_ret
    exact ⟨by rw [H.out]; rfl, rfl⟩
  · have H := Lib.hid (show cmpf x y = 0 by unfold cmpf; rw [if_neg (by omega), if_neg (by omega)])
    have hn : ¬ x < y := by omega
    have hn' : ¬ y < x := by omega
    clear h
    go_enter Try.func41, Try.ntmps41
    go_wp2_with (first | ((with_reducible refine (h1.out _).mono ?_); rintro e w' ⟨rfl, rfl⟩) | ((with_reducible refine (h2.out _).mono ?_); rintro e w' ⟨rfl, rfl⟩))
    go_ret
    exact ⟨by rw [H.out]; rfl, rfl⟩
/-- byRoom's comparison reads the rooms -/
theorem byroom_any {w : World} {B n c y : Nat} {A : Option Addr} {rs : List Int} (hr : Rd w B 1 A n (rs.map iv)) (hs : n ≤ 9223372036854775807) (hc : w.cell? ⟨y, 0, none⟩ = some (.slice A n c)) (a b : Nat) (ha : a < n) (hb : b < n) :
    Calls Try.prog 40 #[.int .i64 a, .int .i64 b, .pointer (some ⟨y, 0, none⟩)] w (fun e w' => e = .returned (.int .i64 (cmpf (rs.getD b 0) (rs.getD a 0))) ∧ ∃ m, w' = w.drewN m) := by
  obtain ⟨bb, off, hA, ca⟩ := atD hr ha
  obtain ⟨bb2, off2, hA2, cb⟩ := atD hr hb
  subst hA
  injection hA2 with hA2; injection hA2 with e1 e2; subst e1; subst e2
  have haz : (a : Int) < (n : Int) := by omega
  have hbz : (b : Int) < (n : Int) := by omega
  obtain ⟨p, hp⟩ : ∃ p, rs.getD b 0 = p := ⟨_, rfl⟩
  obtain ⟨q, hq⟩ : ∃ q, rs.getD a 0 = q := ⟨_, rfl⟩
  rw [hp] at cb ⊢
  rw [hq] at ca ⊢
  have HC := Lib.hid (show ∀ w', Calls Try.prog 41 #[.int .i64 p, .int .i64 q] w' fun e w'' => e = .returned (.int .i64 (cmpf p q)) ∧ w'' = w' from fun w' => (compare_any p q w').mono fun _ _ h => ⟨h.1, h.2.symm⟩)
  obtain ⟨r, hr'⟩ : ∃ r, cmpf p q = r := ⟨_, rfl⟩
  rw [hr'] at HC ⊢
  clear hr hp hq hr'
  go_enter Try.func40, Try.ntmps40
  go_wp2_with fail
  go_quiet (exact Calls.quiet_of_same (HC.out _))
  go_wp2
  go_ret
  exact ⟨rfl, _, by first | rfl | simp⟩
theorem swap_mid (P Q : List Nat) (x y : Nat) : ((P ++ y :: x :: Q).set (P.length + 1) y).set P.length x = P ++ x :: y :: Q := by
  induction P with
  | nil => rfl
  | cons p P ih => simp only [List.cons_append, List.length_cons, List.set_cons_succ, ih]
theorem ins_stop' {rs : List Int} {M1 M2 : List Nat} {x : Nat} (hS : (M1 ++ M2).Pairwise (bef rs)) (hhi : ∀ y ∈ M2, bef rs x y) (hlo : ∀ y ∈ M1 ++ M2, y < x)
    (hst : M1 = [] ∨ ∃ M y, M1 = M ++ [y] ∧ ¬ (rs.getD y 0 < rs.getD x 0)) : (M1 ++ x :: M2).Pairwise (bef rs) := by
  rw [List.pairwise_append] at hS ⊢
  refine ⟨hS.1, List.pairwise_cons.2 ⟨hhi, hS.2.1⟩, fun a ha b hb => ?_⟩
  rcases List.mem_cons.1 hb with rfl | hb
  · rcases hst with h0 | ⟨M, y, rfl, h2⟩
    · subst h0; simp at ha
    · have hlast : bef rs y b := by
        have := hlo y (by simp)
        unfold bef; omega
      rcases List.mem_append.1 ha with ha | ha
      · have h1 := hS.1
        rw [List.pairwise_append] at h1
        exact bef_trans (h1.2.2 a ha y (by simp)) hlast
      · rw [List.mem_singleton] at ha; subst ha; exact hlast
  · exact hS.2.2 a ha b hb
end Go.Proofs.Ytobifmndpkjlmaa


/- The library's insertion sort by byRoom's comparison. -/
namespace Go.Proofs.Ytobifmndpkjlmaa
open Go.RowKit Go.BW

/-- where the comparison finds the rooms, from a row of disks at g on -/
structure Cmp (w : World) (g y : Nat) (A : Option Addr) (n c : Nat) (rs : List Int) : Prop where
  cell : w.cell? ⟨y, 0, none⟩ = some (.slice A n c)
  ne : y ≠ g
  rd : Rd w g 1 A n (rs.map iv)
  ns : n ≤ 9223372036854775807
  len : rs.length = n
theorem Cmp.gb {w w' : World} {g y n c : Nat} {A : Option Addr} {rs : List Int} (h : Cmp w g y A n c rs) (k : w.grownBy w' (some g)) (hg : g < w.heap.size) : Cmp w' g y A n c rs :=
  ⟨(World.cell?_of_block (k.block y (World.block_lt_of_cell? w _ h.cell) (by intro e; injection e with e; exact h.ne e))).trans h.cell, h.ne, h.rd.gb k (Nat.le_of_lt hg) (by intro x e; injection e with e; omega), h.ns, h.len⟩
def SortPost (g base n c : Nat) (rs : List Int) (L : List Nat) (a b : Nat) (w : World) (e : Ending) (w' : World) : Prop :=
  e = .returned (.tuple #[]) ∧ ∃ M : List Nat, M.Perm ((L.take b).drop a) ∧ M.Pairwise (bef rs) ∧ Own w' base 3 1 (some ⟨g, 0, none⟩) n c ((L.take a ++ M ++ L.drop b).map nv) ∧ w.grownBy w' (some g)
theorem cmpf_neg {x y : Int} : decide (cmpf x y < 0) = decide (x < y) := by
  unfold cmpf
  split
  · next h => simp [h]
  · next h => split <;> simp [h]
set_option maxHeartbeats 8000000 in
theorem insertion_any {w : World} {base g y n c N cR a b : Nat} {AR : Option Addr} {rs : List Int} {L : List Nat} (ho : Own w base 3 1 (some ⟨g, 0, none⟩) n c (L.map nv)) (hc : Cmp w g y AR N cR rs) (hab : a ≤ b) (hb : b ≤ n) (hn : n ≤ 1000000)
    (hL : ∀ x ∈ L, x < N) (hup : ((L.take b).drop a).Pairwise (· < ·)) :
    Calls Try.prog 50 #[.slice (some ⟨g, 0, none⟩) n c, .int .i64 a, .int .i64 b, .func (.func 40) #[] #[.pointer (some ⟨y, 0, none⟩)]] w (SortPost g base n c rs L a b w) := by
  have hlen : L.length = n := by have := ho.len; simpa using this
  have hglt : g < w.heap.size := by obtain ⟨cur, h⟩ := ho.obj; exact h.lt
  have HO := Lib.hid ho; have HC := Lib.hid hc; have HL := Lib.hid hL; have HU := Lib.hid hup; have HN := Lib.hid hlen; have HG := Lib.hid hglt
  clear ho hc hL hup hlen
  by_cases hab' : a = b
  · subst hab'
    go_enter Try.func50, Try.ntmps50
    go_wp2_with fail
    go_loopw [8] (fun v wr => v = .int .i64 ((a : Int) + 1) ∧ wr = w) (fun _ _ => 0)
    case atStart => exact ⟨by go_num, rfl⟩
    case round =>
      obtain ⟨rfl, rfl⟩ := hrel
      have hn' : ¬ (a : Int) + 1 < (a : Int) := by omega
      go_wp2
      go_end0
      refine ⟨rfl, [], ?_, List.Pairwise.nil, ?_, gb_nw (Nw.refl _)⟩
      · rw [List.drop_of_length_le (by rw [List.length_take]; omega)]
      · rw [List.append_nil, List.take_append_drop]; exact HO.out
  · have hlt : a < b := by omega
    go_enter Try.func50, Try.ntmps50
    go_wp2_with fail
    go_loopw [8] (fun v wr => ∃ (i : Nat) (M : List Nat), v = .int .i64 i ∧ a < i ∧ i ≤ b ∧ Hid (M.Perm ((L.take i).drop a)) ∧ Hid (M.Pairwise (bef rs)) ∧ Hid (Own wr base 3 1 (some ⟨g, 0, none⟩) n c ((L.take a ++ M ++ L.drop i).map nv)) ∧ Hid (w.grownBy wr (some g))) (fun v _ => b - (intOf v).toNat)
    case atStart =>
      refine ⟨a + 1, (L.take (a + 1)).drop a, by go_num, by omega, by omega, Lib.hid (List.Perm.refl _), Lib.hid ?_, Lib.hid ?_, Lib.hid (gb_nw (Nw.refl _))⟩
      · rw [List.take_succ_eq_append_getElem (by rw [HN.out]; omega), List.drop_append_of_le_length (by simp; rw [HN.out]; omega), List.drop_of_length_le (by rw [List.length_take]; omega), List.nil_append]
        exact List.pairwise_singleton _ _
      · have e : L.take a ++ (L.take (a + 1)).drop a ++ L.drop (a + 1) = L := by
          have h1 : L.take a = (L.take (a + 1)).take a := by rw [List.take_take]; congr 1; omega
          rw [h1, List.take_append_drop, List.take_append_drop]
        rw [e]; exact HO.out
    case round =>
      obtain ⟨i, M, rfl, hai, hib, hpm, hpw, ho, hgb⟩ := hrel
      obtain ⟨wa, rfl⟩ : ∃ q, q = wr := ⟨_, rfl⟩
      by_cases hi : i < b
      · have hiz : (i : Int) < (b : Int) := by omega
        have hin : i < L.length := by rw [HN.out]; omega
        obtain ⟨x, hx⟩ : ∃ x, L[i] = x := ⟨_, rfl⟩
        have HD := Lib.hid (show L.drop i = x :: L.drop (i + 1) by rw [List.drop_eq_getElem_cons hin, hx])
        have HT := Lib.hid (show (L.take (i + 1)).drop a = (L.take i).drop a ++ [x] by
          rw [List.take_succ_eq_append_getElem hin, List.drop_append_of_le_length (by simp; omega), hx])
        have HML := Lib.hid (show M.length = i - a by rw [hpm.out.length_eq]; simp; omega)
        have HLO := Lib.hid (show ∀ z ∈ M, z < x from fun z hz => by
          have h1 := (hpm.out.mem_iff).1 hz
          have h2 := HU.out
          have h3 : (L.take b).drop a = ((L.take i).drop a ++ [x]) ++ (L.take b).drop (i + 1) := by
            rw [← HT.out]
            have h4 : L.take (i + 1) = (L.take b).take (i + 1) := by rw [List.take_take]; congr 1; omega
            rw [h4]
            have h5 : (L.take b).drop a = ((L.take b).take (i + 1) ++ (L.take b).drop (i + 1)).drop a := by rw [List.take_append_drop]
            rw [h5, List.drop_append_of_le_length (by simp; omega)]
          rw [h3, List.pairwise_append, List.pairwise_append] at h2
          exact h2.1.2.2 z h1 x (by simp))
        have HXN := Lib.hid (HL.out x (by rw [← hx]; exact List.getElem_mem _))
        have HMN := Lib.hid (show ∀ z ∈ M, z < N from fun z hz => HL.out z (List.mem_of_mem_take (List.mem_of_mem_drop ((hpm.out.mem_iff).1 hz))))
        clear hx
        go_wp2_with fail
        go_loopw [9] (fun v wr => ∃ (j : Nat) (M1 M2 : List Nat), v = .int .i64 j ∧ a ≤ j ∧ j ≤ i ∧ Hid (j = a + M1.length) ∧ Hid (M = M1 ++ M2) ∧ Hid (∀ z ∈ M2, bef rs x z) ∧ Hid (Own wr base 3 1 (some ⟨g, 0, none⟩) n c (((L.take a ++ M1) ++ x :: (M2 ++ L.drop (i + 1))).map nv)) ∧ Hid (w.grownBy wr (some g))) (fun v _ => (intOf v).toNat)
        case atStart => exact ⟨i, M, [], rfl, by omega, Nat.le_refl _, Lib.hid (by rw [HML.out]; omega), Lib.hid (by simp), Lib.hid (by simp), Lib.hid (by have := ho.out; rw [HD.out] at this; simpa using this), hgb⟩
        case round =>
          obtain ⟨j, M1, M2, rfl, haj, hji, hjl, hMM, hhi, ho2, hgb2⟩ := hrel
          have HCW := Lib.hid (HC.out.gb hgb2.out HG.out)
          have HON := Lib.hid (show ((L.take a ++ M1) ++ x :: (M2 ++ L.drop (i + 1)))[j]? = some x from by
            rw [List.getElem?_append_right (by simp; have := hjl.out; omega)]
            have : j - (L.take a ++ M1).length = 0 := by simp; have := hjl.out; omega
            rw [this]; rfl)
          have hjn : j < n := by omega
          have cj : wr.cell? ⟨g, j, none⟩ = some (.int .i64 x) := by
            obtain ⟨u, h1, h2, _⟩ := ho2.out.cellAt hjn
            rw [List.getElem?_map, HON.out] at h1
            injection h1 with h1; subst h1; exact h2
          rcases List.eq_nil_or_concat M1 with hM1 | ⟨M3, z, hM1⟩
          · have d0 : decide (a < j) = false := by
              have := hjl.out
              rw [hM1] at this
              exact decide_eq_false (by simp at this; omega)
            have HS := Lib.hid (ins_stop' (M1 := M1) (M2 := M2) (x := x) (by rw [← hMM.out]; exact hpw.out) hhi.out (by rw [← hMM.out]; exact HLO.out) (.inl hM1))
            clear hM1
            go_wp2_with fail
            go_quiet (fail)
            go_wp2
            go_roundw
            case rel =>
              refine ⟨i + 1, M1 ++ x :: M2, by go_num, by omega, by omega, Lib.hid ?_, HS, Lib.hid ?_, Lib.hid (gb_drewN hgb2.out _)⟩
              · rw [HT.out]
                refine List.Perm.trans ?_ (List.perm_append_singleton _ _).symm
                exact List.perm_middle.trans ((by rw [← hMM.out]; exact hpm.out : (M1 ++ M2).Perm _).cons x)
              · have := ho2.out.drewN nq
                simpa using this
            case measure => simp only [intOf]; omega
          · rw [List.concat_eq_append] at hM1
            obtain ⟨jp, hjp⟩ : ∃ jp, jp = a + M3.length := ⟨_, rfl⟩
            have hj1 : j = jp + 1 := by
              have := hjl.out
              rw [hM1] at this
              simp at this; omega
            have haj' : a ≤ jp := by omega
            have HPL := Lib.hid (show (L.take a ++ M3).length = jp from by simp; omega)
            have HLS := Lib.hid (show (L.take a ++ M1) ++ x :: (M2 ++ L.drop (i + 1)) = (L.take a ++ M3) ++ z :: x :: (M2 ++ L.drop (i + 1)) from by rw [hM1]; simp)
            have cjp : wr.cell? ⟨g, jp, none⟩ = some (.int .i64 z) := by
              obtain ⟨u, h1, h2, _⟩ := ho2.out.cellAt (show jp < n by omega)
              rw [List.getElem?_map, HLS.out, List.getElem?_append_right (by rw [HPL.out]; omega), HPL.out, Nat.sub_self] at h1
              injection h1 with h1; subst h1; exact h2
            have d0 : decide (a < j) = true := decide_eq_true (by omega)
            have e1 : IntKind.i64.wrap ((j : Int) - 1) = (jp : Int) := by rw [IntKind.wrap_i64]; omega
            have hzN : z < N := HMN.out z (by rw [hMM.out, hM1]; simp)
            have HB := Lib.hid (show ∀ m, Calls Try.prog 40 #[.int .i64 x, .int .i64 z, .pointer (some ⟨y, 0, none⟩)] (wr.drewN m) fun e w' => e = .returned (.int .i64 (cmpf (rs.getD z 0) (rs.getD x 0))) ∧ ∃ k, w' = (wr.drewN m).drewN k from fun m =>
              byroom_any (w := wr.drewN m) (HCW.out.rd.drewN m) HCW.out.ns HCW.out.cell x z HXN.out hzN)
            have hneg := cmpf_neg (x := rs.getD z 0) (y := rs.getD x 0)
            obtain ⟨r, hr⟩ : ∃ r, cmpf (rs.getD z 0) (rs.getD x 0) = r := ⟨_, rfl⟩
            rw [hr] at HB hneg
            have HM1 := Lib.hid hM1
            have hjpn : jp < n := by omega
            have hjz : (j : Int) < (n : Int) := by omega
            have hjpz : (jp : Int) < (n : Int) := by omega
            have HJ := Lib.hid hj1
            have HJP := Lib.hid hjp
            clear hr hM1 hj1 hjp
            by_cases hlt2 : rs.getD z 0 < rs.getD x 0
            · rw [decide_eq_true hlt2] at hneg
              have HLT := Lib.hid hlt2
              clear hlt2
              go_wp2_with fail
              go_quiet (exact Calls.quiet_of (HB.out _))
              go_wp2
              have OJ := Lib.hid (ho2.out.drewN nq)
              obtain ⟨wb, hwb⟩ : ∃ wb, wr.drewN nq = wb := ⟨_, rfl⟩
              have HGB := Lib.hid (gb_drewN hgb2.out nq)
              rw [hwb] at OJ HGB ⊢
              have S3 := Lib.hid (show wb.cell? ⟨g, j, none⟩ = some (.int .i64 x) ∧ wb.cell? ⟨g, jp, none⟩ = some (.int .i64 z) from by rw [← hwb]; exact ⟨cj, cjp⟩)
              clear hwb cj cjp
              refine wp_region_U [15] (fun w' => w'.cell? ⟨g, j, none⟩ = some (.int .i64 x) ∧ w'.cell? ⟨g, jp, none⟩ = some (.int .i64 z)) (by kernel_rfl) ?_
              change wpU _ _ _ _ _ _ _ _ _ (World.drew wb)
              refine U_segP (r := [0, 1, 2, 3, 4, 5, 6, 7, 8]) (fuel := 9) rfl (by kernel_rfl) (by kernel_rfl) (by simp only [List.filterMap_cons, List.filterMap_nil, List.getElem?_toArray, List.getElem?_cons_succ, List.getElem?_cons_zero]; rfl) (fun _ _ d _ _ h => by cases d <;> exact h) (until_of S3.out) ?_
              iterate 9 (refine wpYield_step rfl (fun K hK => ?_)
                         apply Exists.intro
                         refine ⟨fun w' hw' => ?_, ?_⟩
                         · (go_simp; try with_reducible rfl)
                         go_simp
                         refine hK _ ?_
                         clear hK K)
              refine wpYield_nil ?_
              refine U_segL (r := [9]) (fuel := 8) rfl (by kernel_rfl) (by kernel_rfl) (by simp only [List.filterMap_cons, List.filterMap_nil, List.getElem?_toArray, List.getElem?_cons_succ, List.getElem?_cons_zero]; rfl) (fun _ _ d _ _ h => by cases d <;> exact h) S3.out ?_
              (refine wpYield_step rfl (fun K hK => ?_)
               apply Exists.intro
               refine ⟨fun w' hw' => ?_, ?_⟩
               · (go_simp; try with_reducible rfl)
               go_simp
               refine hK _ ?_
               clear hK K)
              refine wpYield_nil ?_
              refine U_segP (r := [10, 11, 12]) (fuel := 5) rfl (by kernel_rfl) (by kernel_rfl) (by simp only [List.filterMap_cons, List.filterMap_nil, List.getElem?_toArray, List.getElem?_cons_succ, List.getElem?_cons_zero]; rfl) (fun _ _ d _ _ h => by cases d <;> exact h) (until_of S3.out) ?_
              iterate 3 (refine wpYield_step rfl (fun K hK => ?_)
                         apply Exists.intro
                         refine ⟨fun w' hw' => ?_, ?_⟩
                         · (go_simp; try with_reducible rfl)
                         go_simp
                         refine hK _ ?_
                         clear hK K)
              refine wpYield_nil ?_
              refine U_segL (r := [13]) (fuel := 4) rfl (by kernel_rfl) (by kernel_rfl) (by simp only [List.filterMap_cons, List.filterMap_nil, List.getElem?_toArray, List.getElem?_cons_succ, List.getElem?_cons_zero]; rfl) (fun _ _ d _ _ h => by cases d <;> exact h) S3.out ?_
              (refine wpYield_step rfl (fun K hK => ?_)
               apply Exists.intro
               refine ⟨fun w' hw' => ?_, ?_⟩
               · (go_simp; try with_reducible rfl)
               go_simp
               refine hK _ ?_
               clear hK K)
              refine wpYield_nil ?_
              refine U_segP (r := [14]) (fuel := 3) rfl (by kernel_rfl) (by kernel_rfl) (by simp only [List.filterMap_cons, List.filterMap_nil, List.getElem?_toArray, List.getElem?_cons_succ, List.getElem?_cons_zero]; rfl) (fun _ _ d _ _ h => by cases d <;> exact h) (until_of S3.out) ?_
              (refine wpYield_step rfl (fun K hK => ?_)
               apply Exists.intro
               refine ⟨fun w' hw' => ?_, ?_⟩
               · (go_simp; try with_reducible rfl)
               go_simp
               refine hK _ ?_
               clear hK K)
              refine wpYield_nil ?_
              refine U_eff 15 rfl (by kernel_rfl) rfl (fun K hK => ?_)
              obtain ⟨u0, _, c0, f0⟩ := (OJ.out.drew).cellAt hjn
              go_simp
              refine hK _ _ ⟨until_past (by kernel_rfl), ?_⟩
              clear hK K
              obtain ⟨o4, g4⟩ := OJ.out.set j (.int .i64 (z : Int))
              obtain ⟨wc, hwc⟩ : ∃ wc, wb.setCell ⟨g, j, none⟩ (.int .i64 (z : Int)) = wc := ⟨_, rfl⟩
              rw [hwc] at o4 g4 ⊢
              have O4 := Lib.hid o4; have G4 := Lib.hid (gb_trans HGB.out g4)
              clear hwc f0 c0 o4 g4
              refine U_segP (r := [16]) (fuel := 1) rfl (by kernel_rfl) (by kernel_rfl) (by simp only [List.filterMap_cons, List.filterMap_nil, List.getElem?_toArray, List.getElem?_cons_succ, List.getElem?_cons_zero]; rfl) (fun _ _ d _ _ h => by cases d <;> exact h) (until_past (by kernel_rfl)) ?_
              (refine wpYield_step rfl (fun K hK => ?_)
               apply Exists.intro
               refine ⟨fun w' hw' => ?_, ?_⟩
               · (go_simp; try with_reducible rfl)
               go_simp
               refine hK _ ?_
               clear hK K)
              refine wpYield_nil ?_
              refine U_eff 17 rfl (by kernel_rfl) rfl (fun K hK => ?_)
              obtain ⟨u0, _, c0, f0⟩ := O4.out.cellAt hjpn
              go_simp
              refine hK _ _ ⟨until_past (by kernel_rfl), ?_⟩
              clear hK K
              refine U_done (by kernel_rfl) ?_ _
              obtain ⟨o5, g5⟩ := O4.out.set jp (.int .i64 (x : Int))
              obtain ⟨wd, hwd⟩ : ∃ wd, (wc.setCell ⟨g, jp, none⟩ (.int .i64 (x : Int))) = wd := ⟨_, rfl⟩
              rw [hwd] at o5 g5 ⊢
              have O5 := Lib.hid o5; have G5 := Lib.hid (gb_trans G4.out g5)
              clear hwd f0 c0 o5 g5
              go_wp2
              go_roundw
              case rel =>
                refine ⟨jp, M3, z :: M2, by first | rw [e1] | (simp only [e1]), by omega, by have := HJ.out; omega, HJP, Lib.hid (by rw [hMM.out, HM1.out]; simp), Lib.hid ?_, Lib.hid ?_, by first | exact G5 | exact Lib.hid (gb_drew G5.out)⟩
                · intro y' hy'
                  rcases List.mem_cons.1 hy' with rfl | hy'
                  · exact .inl HLT.out
                  · exact hhi.out y' hy'
                · have h := O5.out
                  rw [HLS.out] at h
                  have e : (((L.take a ++ M3) ++ x :: z :: M2 ++ L.drop (i + 1))) = (((L.take a ++ M3) ++ z :: x :: (M2 ++ L.drop (i + 1))).set (jp + 1) z).set jp x := by
                    have := swap_mid (L.take a ++ M3) (M2 ++ L.drop (i + 1)) x z
                    rw [HPL.out] at this
                    rw [this]; simp
                  have e2 : (((L.take a ++ M3) ++ x :: (z :: M2 ++ L.drop (i + 1))).map nv) = ((((L.take a ++ M3) ++ z :: x :: (M2 ++ L.drop (i + 1))).map nv).set j (.int .i64 (z : Int))).set jp (.int .i64 (x : Int)) := by
                    have e3 : (L.take a ++ M3) ++ x :: (z :: M2 ++ L.drop (i + 1)) = (L.take a ++ M3) ++ x :: z :: M2 ++ L.drop (i + 1) := by simp
                    rw [e3, e, List.map_set, List.map_set, HJ.out]; rfl
                  rw [e2]; exact h
              case measure => simp only [intOf]; have := HJ.out; omega
            · rw [decide_eq_false hlt2] at hneg
              have HS := Lib.hid (ins_stop' (M1 := M1) (M2 := M2) (x := x) (by rw [← hMM.out]; exact hpw.out) hhi.out (by rw [← hMM.out]; exact HLO.out) (.inr ⟨M3, z, HM1.out, hlt2⟩))
              clear hlt2
              go_wp2_with fail
              go_quiet (exact Calls.quiet_of (HB.out _))
              go_wp2
              go_roundw
              case rel =>
                refine ⟨i + 1, M1 ++ x :: M2, by go_num, by omega, by omega, Lib.hid ?_, HS, Lib.hid ?_, Lib.hid (gb_drewN hgb2.out _)⟩
                · rw [HT.out]
                  refine List.Perm.trans ?_ (List.perm_append_singleton _ _).symm
                  exact List.perm_middle.trans ((by rw [← hMM.out]; exact hpm.out : (M1 ++ M2).Perm _).cons x)
                · have := ho2.out.drewN nq
                  simpa using this
              case measure => simp only [intOf]; omega
      · have hib' : i = b := by omega
        have HF := Lib.hid (show M.Perm ((L.take b).drop a) ∧ Own wa base 3 1 (some ⟨g, 0, none⟩) n c ((L.take a ++ M ++ L.drop b).map nv) from by rw [← hib']; exact ⟨hpm.out, ho.out⟩)
        clear hib' ho hpm
        go_wp2
        go_end0
        exact ⟨rfl, M, HF.out.1, hpw.out, HF.out.2, hgb.out⟩
end Go.Proofs.Ytobifmndpkjlmaa


/- slices.SortStableFunc by byRoom's comparison, of fewer than twenty disks; group.byRoom. -/
namespace Go.Proofs.Ytobifmndpkjlmaa
open Go.RowKit Go.BW

theorem ins_zero (A : Option Addr) (c : Nat) (f : Value) (w : World) : Calls Try.prog 50 #[.slice A 0 c, .int .i64 0, .int .i64 0, f] w (fun e w' => e = .returned (.tuple #[]) ∧ w = w') := by
  go_enter Try.func50, Try.ntmps50
  go_wp2_with fail
  go_loopw [8] (fun v wr => v = .int .i64 1 ∧ w = wr) (fun _ _ => 0)
  case atStart => exact ⟨by go_num, rfl⟩
  case round =>
    obtain ⟨rfl, rfl⟩ := hrel
    go_wp2
    go_end0
    exact ⟨rfl, rfl⟩
theorem stable_zero (A : Option Addr) (c : Nat) (f : Value) (w : World) : Calls Try.prog 47 #[.slice A 0 c, .int .i64 0, f] w (fun e w' => e = .returned (.tuple #[]) ∧ w = w') := by
  have H := Lib.hid (fun w' => ins_zero A c f w')
  go_enter Try.func47, Try.ntmps47
  go_wp2_with fail
  go_loopw [7, 8] (fun a b wr => a = .int .i64 0 ∧ b = .int .i64 20 ∧ w = wr) (fun _ _ _ => 0)
  case atStart => exact ⟨rfl, rfl, rfl⟩
  case round =>
    obtain ⟨rfl, rfl, rfl⟩ := hrel
    go_wp2_with ((with_reducible refine (H.out _).mono ?_); rintro e w' ⟨rfl, rfl⟩)
    go_loopw [6, 7, 8] (fun s a b wr => s = .int .i64 20 ∧ a = .int .i64 0 ∧ b = .int .i64 20 ∧ w = wr) (fun _ _ _ _ => 0)
    case atStart => exact ⟨rfl, rfl, rfl, rfl⟩
    case round =>
      obtain ⟨rfl, rfl, rfl, rfl⟩ := hrel
      go_wp2
      go_end0
      exact ⟨rfl, rfl⟩
theorem sortst_zero (A : Option Addr) (c : Nat) (f : Value) (w : World) : Calls Try.prog 39 #[.slice A 0 c, f] w (fun e w' => e = .returned (.tuple #[]) ∧ w = w') := by
  have H := Lib.hid (fun w' => stable_zero A c f w')
  go_enter Try.func39, Try.ntmps39
  go_wp2_with ((with_reducible refine (H.out _).mono ?_); rintro e w' ⟨rfl, rfl⟩)
  go_end0
  exact ⟨rfl, rfl⟩
def StPost (g base n c : Nat) (rs : List Int) (L : List Nat) (w : World) (e : Ending) (w' : World) : Prop :=
  e = .returned (.tuple #[]) ∧ ∃ M : List Nat, M.Perm L ∧ M.Pairwise (bef rs) ∧ Own w' base 3 1 (some ⟨g, 0, none⟩) n c (M.map nv) ∧ w.grownBy w' (some g)
/-- the stable sort sorts rows of at most K -/
def StableOK (K : Nat) : Prop := ∀ (w : World) (base g y n c N cR : Nat) (AR : Option Addr) (rs : List Int) (L : List Nat), Own w base 3 1 (some ⟨g, 0, none⟩) n c (L.map nv) → Cmp w g y AR N cR rs → 0 < n → n ≤ K →
  (∀ x ∈ L, x < N) → L.Pairwise (· < ·) → Calls Try.prog 47 #[.slice (some ⟨g, 0, none⟩) n c, .int .i64 n, .func (.func 40) #[] #[.pointer (some ⟨y, 0, none⟩)]] w (StPost g base n c rs L w)
set_option maxHeartbeats 1000000 in
theorem stable_small : StableOK 19 := by
  intro w base g y n c N cR AR rs L ho hc h0 hn hL hup
  have hlen : L.length = n := by have := ho.len; simpa using this
  have H := Lib.hid (show Calls Try.prog 50 #[.slice (some ⟨g, 0, none⟩) n c, .int .i64 0, .int .i64 n, .func (.func 40) #[] #[.pointer (some ⟨y, 0, none⟩)]] w (SortPost g base n c rs L 0 n w) from insertion_any (a := 0) (b := n) ho hc (Nat.zero_le _) (Nat.le_refl _) (by omega) hL (by rw [List.drop_zero, List.take_of_length_le (by omega)]; exact hup))
  have HL := Lib.hid (show L.take n = L ∧ L.drop n = [] from ⟨List.take_of_length_le (by omega), List.drop_of_length_le (by omega)⟩)
  clear ho hc hL hup hlen
  unfold SortPost at H
  go_enter Try.func47, Try.ntmps47
  go_wp2_with fail
  go_loopw [7, 8] (fun a b wr => a = .int .i64 0 ∧ b = .int .i64 20 ∧ w = wr) (fun _ _ _ => 0)
  case atStart => exact ⟨rfl, rfl, rfl⟩
  case round =>
    obtain ⟨rfl, rfl, rfl⟩ := hrel
    go_wp2_with ((with_reducible refine H.out.mono ?_); rintro e w1 ⟨rfl, M, hp, hw, ho, hg⟩; have HP := Lib.hid hp; have HW := Lib.hid hw; have HO := Lib.hid ho; have HG := Lib.hid hg; clear hp hw ho hg)
    go_loopw [6, 7, 8] (fun s a b wr => s = .int .i64 20 ∧ a = .int .i64 0 ∧ b = .int .i64 20 ∧ w1 = wr) (fun _ _ _ _ => 0)
    case atStart => exact ⟨rfl, rfl, rfl, rfl⟩
    case round =>
      obtain ⟨rfl, rfl, rfl, rfl⟩ := hrel
      go_wp2
      go_end0
      refine ⟨rfl, M, ?_, HW.out, ?_, HG.out⟩
      · have := HP.out; rwa [List.drop_zero, HL.out.1] at this
      · have := HO.out; rw [HL.out.2] at this; simpa using this
theorem sortst_any {K : Nat} (hK : StableOK K) {w : World} {base g y n c N cR : Nat} {AR : Option Addr} {rs : List Int} {L : List Nat} (ho : Own w base 3 1 (some ⟨g, 0, none⟩) n c (L.map nv)) (hc : Cmp w g y AR N cR rs) (h0 : 0 < n) (hn : n ≤ K)
    (hL : ∀ x ∈ L, x < N) (hup : L.Pairwise (· < ·)) : Calls Try.prog 39 #[.slice (some ⟨g, 0, none⟩) n c, .func (.func 40) #[] #[.pointer (some ⟨y, 0, none⟩)]] w (StPost g base n c rs L w) := by
  have H := Lib.hid (hK w base g y n c N cR AR rs L ho hc h0 hn hL hup)
  clear ho hc hL hup
  unfold StPost at H
  go_enter Try.func39, Try.ntmps39
  go_wp2_with ((with_reducible refine H.out.mono ?_); rintro e w1 ⟨rfl, M, hp, hw, ho, hg⟩; have HP := Lib.hid hp; have HW := Lib.hid hw; have HO := Lib.hid ho; have HG := Lib.hid hg; clear hp hw ho hg)
  go_end0
  exact ⟨rfl, M, HP.out, HW.out, HO.out, HG.out⟩
end Go.Proofs.Ytobifmndpkjlmaa

