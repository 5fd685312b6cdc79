/- What slices.MaxFunc returns of labels that are right: the first of the newest. -/
import Derived.Test.YtkkkhkkjdjnfhaaG
namespace Go.Proofs.Ytkkkhkkjdjnfhaa
open Go.RowKit Go.BW

def newer (b y : Lb) : Lb := if 0 < y.g - b.g then y else b
/-- the first of the newest -/
def maxOf : List Lb → Lb
  | [] => l0
  | x :: l => l.foldl newer x
theorem maxOf_one (x : Lb) : maxOf [x] = x := rfl
theorem maxOf_snoc {l : List Lb} (h : l ≠ []) (y : Lb) : maxOf (l ++ [y]) = newer (maxOf l) y := by
  match l, h with
  | x :: l, _ => simp [maxOf, List.foldl_append]
theorem maxOf_step {ls : List Lb} {k : Nat} {y : Lb} (hk : 1 ≤ k) (hy : ls[k]? = some y) : maxOf (ls.take (k + 1)) = newer (maxOf (ls.take k)) y := by
  obtain ⟨h, rfl⟩ := List.getElem?_eq_some_iff.1 hy
  rw [List.take_succ_eq_append_getElem h, maxOf_snoc]
  intro e
  have := congrArg List.length e
  rw [List.length_take, List.length_nil] at this; omega
theorem newer_mem {l : List Lb} : ∀ (b : Lb), l.foldl newer b = b ∨ l.foldl newer b ∈ l := by
  induction l with
  | nil => intro b; exact .inl rfl
  | cons y l ih =>
    intro b
    rw [List.foldl_cons]
    rcases ih (newer b y) with h | h
    · rw [h]; unfold newer; split
      · exact .inr (List.mem_cons_self ..)
      · exact .inl rfl
    · exact .inr (List.mem_cons_of_mem _ h)
theorem maxOf_mem {l : List Lb} (h : l ≠ []) : maxOf l ∈ l := by
  match l, h with
  | x :: l, _ =>
    rcases newer_mem (l := l) x with h | h
    · show l.foldl newer x ∈ _; rw [h]; exact List.mem_cons_self ..
    · exact List.mem_cons_of_mem _ h
theorem maxOf_first {ls : List Lb} {x : Lb} (h : ls[0]? = some x) : maxOf (ls.take 1) = x := by
  cases ls with
  | nil => simp at h
  | cons z l => simp at h; subst h; rfl
def lits (x : Lb) : List Value := [.int .i64 x.a, .int .i64 x.g, .int .i64 x.m, .int .i64 x.b, .slice x.A x.n x.c]
set_option maxRecDepth 100000 in
set_option maxHeartbeats 8000000 in
theorem max_any {w : World} {B n c : Nat} {A : Option Addr} {ls : List Lb} (hr : Rd w B 5 A n (fl lc ls)) (hB : B ≤ w.heap.size) (hn : 1 ≤ n) (hn2 : n ≤ 1000000) (hg : ∀ x ∈ ls, 1 ≤ x.g ∧ x.g ≤ 4294967295) :
    Calls Try.prog 26 #[.slice A n c, .func (.func 27) #[] #[]] w (Ret (lv (maxOf ls)) w) := by
  have hlen := hr.lenL lc_len (by decide)
  have HR := Lib.hid hr; have HG := Lib.hid hg; have HLEN := Lib.hid hlen
  obtain ⟨_, b, off, x, rfl, _, hx, hc⟩ := (hr.nw (World.grownBy_alloc w (.cells #[.int .i64 0, .int .i64 0, .int .i64 0, .int .i64 0, .slice none 0 0] 24) none) hB).atL lc_len (by decide) (show 0 < n by omega)
  change ∀ j u, [Value.int .i64 x.a, .int .i64 x.g, .int .i64 x.m, .int .i64 x.b, .slice x.A x.n x.c][j]? = some u → _ at hc
  rw [Nat.zero_mul, Nat.add_zero] at hc
  have HC := Lib.hid hc; have HX := Lib.hid hx
  have hsz : (Try.prog.info? 24).map (·.size) = some [Value.int .i64 x.a, .int .i64 x.g, .int .i64 x.m, .int .i64 x.b, .slice x.A x.n x.c].length := by kernel_rfl
  have hb1 : decide ((n : Int) < 1) = false := by simp; omega
  have hb2 : (0 : Int) < (n : Int) := by omega
  clear hr hg hlen hc hx
  have ho1 := obj_fst w 24 #[.int .i64 0, .int .i64 0, .int .i64 0, .int .i64 0, .slice none 0 0] (.cells #[.int .i64 x.a, .int .i64 x.g, .int .i64 x.m, .int .i64 x.b, .slice x.A x.n x.c] 24)
  have ho2 := obj_snd w (.cells #[.int .i64 0, .int .i64 0, .int .i64 0, .int .i64 0, .slice none 0 0] 24) 24 #[.int .i64 x.a, .int .i64 x.g, .int .i64 x.m, .int .i64 x.b, .slice x.A x.n x.c]
  have hn3 := gb_trans (World.grownBy_alloc w (.cells #[.int .i64 0, .int .i64 0, .int .i64 0, .int .i64 0, .slice none 0 0] 24) none) (World.grownBy_alloc _ (.cells #[.int .i64 x.a, .int .i64 x.g, .int .i64 x.m, .int .i64 x.b, .slice x.A x.n x.c] 24) none)
  go_enter Try.func26, Try.ntmps26
  go_wp2_with (refine wpList_load_agg 24 _ rfl rfl rfl [Value.int .i64 x.a, .int .i64 x.g, .int .i64 x.m, .int .i64 x.b, .slice x.A x.n x.c] HC.out _ Try.underlying24 rfl hsz ?_)
  obtain ⟨W, hW⟩ : ∃ W, (w.alloc (.cells #[.int .i64 0, .int .i64 0, .int .i64 0, .int .i64 0, .slice none 0 0] 24)).alloc (.cells #[.int .i64 x.a, .int .i64 x.g, .int .i64 x.m, .int .i64 x.b, .slice x.A x.n x.c] 24) = W := ⟨_, rfl⟩
  obtain ⟨y4, h4⟩ : ∃ y, w.heap.size = y := ⟨_, rfl⟩
  obtain ⟨y5, h5⟩ : ∃ y, w.heap.size + 1 = y := ⟨_, rfl⟩
  rw [hW] at ho1 ho2 hn3 ⊢
  rw [h5] at ho2 ⊢
  rw [h4] at ho1 ⊢
  have hyw : w.heap.size ≤ y5 := by omega
  have hyw4 : w.heap.size ≤ y4 := by omega
  have hd45 : y4 ≠ y5 := by omega
  have O1 := Lib.hid ho1; have O2 := Lib.hid ho2; have N3 := Lib.hid hn3
  clear ho1 ho2 hn3 hW h4 h5 HC hsz
  go_loopw [6] (fun i wr => ∃ (k : Nat) (bb : Lb), 1 ≤ k ∧ k ≤ n ∧ i = .int .i64 k ∧ Hid (maxOf (ls.take k) = bb) ∧ Obj1 wr y5 24 #[.int .i64 bb.a, .int .i64 bb.g, .int .i64 bb.m, .int .i64 bb.b, .slice bb.A bb.n bb.c] ∧ Obj1 wr y4 24 #[.int .i64 0, .int .i64 0, .int .i64 0, .int .i64 0, .slice none 0 0] ∧ Nw w wr) (fun i _ => n - (intOf i).toNat)
  case atStart =>
    refine ⟨1, x, by omega, hn, rfl, Lib.hid ?_, O2.out, O1.out, N3.out⟩
    exact maxOf_first HX.out
  case round =>
    obtain ⟨k, bb, hk1, hk, rfl, hmx, hob, hoz, hnw⟩ := hrel
    by_cases hlt : k < n
    · obtain ⟨_, b', off', y, e, _, hy, hc⟩ := (HR.out.nw hnw hB).atL lc_len (by decide) hlt
      injection e with e; injection e with e1 e2; subst e1; subst e2
      have HCY := Lib.hid (fun w' (h : Nw wr w') => show ∀ j u, [Value.int .i64 y.a, .int .i64 y.g, .int .i64 y.m, .int .i64 y.b, .slice y.A y.n y.c][j]? = some u → w'.cell? ⟨b, off + k * 5 + j, none⟩ = some u from by
        intro j u hu
        obtain ⟨_, b2, o2, z, e, _, a2, c2⟩ := (HR.out.nw (gb_trans hnw h) hB).atL lc_len (by decide) hlt
        injection e with e; injection e with e1 e2; subst e1; subst e2
        rw [hy] at a2; injection a2 with a2; subst a2
        exact c2 j u hu)
      have HCB := Lib.hid (fun w' (h : Nw wr w') => show ∀ j u, [Value.int .i64 bb.a, .int .i64 bb.g, .int .i64 bb.m, .int .i64 bb.b, .slice bb.A bb.n bb.c][j]? = some u → w'.cell? ⟨y5, 0 + j, none⟩ = some u from by
        intro j u hu
        rw [Nat.zero_add, (hob.nw h).cell j]; simpa using hu)
      have hbm : bb ∈ ls := by
        rw [← hmx.out]
        exact List.mem_of_mem_take (maxOf_mem (by intro e; have := congrArg List.length e; rw [List.length_take, List.length_nil] at this; have := HLEN.out; omega))
      have HNW := Lib.hid (fun w' => newer_any (w := w') (HG.out y (List.mem_of_getElem? hy)) (HG.out bb hbm))
      have hstep := maxOf_step hk1 hy
      rw [hmx.out] at hstep
      obtain ⟨d, hd⟩ : ∃ d, y.g - bb.g = d := ⟨_, rfl⟩
      rw [hd] at HNW
      unfold newer at hstep
      rw [hd] at hstep
      have HST := Lib.hid hstep
      unfold lv Ret at HNW
      have hlt' : (k : Int) < (n : Int) := by omega
      have hsy : (Try.prog.info? 24).map (·.size) = some [Value.int .i64 y.a, .int .i64 y.g, .int .i64 y.m, .int .i64 y.b, .slice y.A y.n y.c].length := by kernel_rfl
      have hsb : (Try.prog.info? 24).map (·.size) = some [Value.int .i64 bb.a, .int .i64 bb.g, .int .i64 bb.m, .int .i64 bb.b, .slice bb.A bb.n bb.c].length := by kernel_rfl
      have HOB := Lib.hid hob; have HOZ := Lib.hid hoz
      clear hc hy hbm hd hstep hob hoz hmx
      go_wp2_with fail
      refine wp_region_held (S := (fun w' => Nw wr w')) (by kernel_rfl) ?_
      change wpAnyH _ _ _ _ _ _ _ _ (World.drew wr)
      refine held_seg' (l := [0, 1, 2, 3, 4, 5]) (fuel := 2) rfl (by kernel_rfl) (by kernel_rfl) (by simp only [List.filterMap_cons, List.filterMap_nil, List.getElem?_toArray, List.getElem?_cons_succ, List.getElem?_cons_zero]; rfl) (fun _ _ d _ _ h => by cases d <;> exact h) (gb_drew (Nw.refl wr)) ?_
      iterate 4 (refine wpYield_step rfl (fun K hK => ?_)
                 apply Exists.intro
                 refine ⟨fun w' hw' => ?_, ?_⟩
                 · (go_simp; try with_reducible rfl)
                 go_simp
                 refine hK _ ?_
                 clear hK K)
      refine wpYield_load_agg 24 _ rfl rfl rfl _ (fun w' hw' => HCY.out w' hw') _ Try.underlying24 rfl hsy ?_
      refine wpYield_load_agg 24 _ rfl rfl rfl _ (fun w' hw' => HCB.out w' hw') _ Try.underlying24 rfl hsb ?_
      refine wpYield_nil ?_
      refine held_eff 6 rfl (by kernel_rfl) rfl (fun K hK => ?_)
      go_simp
      refine (HNW.out _).mono ?_
      rintro e w2 ⟨rfl, n2⟩
      have n2' := gb_of_drew n2
      refine hK _ _ ⟨n2', ?_⟩
      clear hK K n2
      refine wpAnyH_mono (S' := fun w' => Nw w2 w') (fun w' h => gb_trans n2' h) _ _ _ _ ?_
      refine held_seg' (l := [7]) (fuel := 0) rfl (by kernel_rfl) (by kernel_rfl) (by simp only [List.filterMap_cons, List.filterMap_nil, List.getElem?_toArray, List.getElem?_cons_succ, List.getElem?_cons_zero]; rfl) (fun _ _ d _ _ h => by cases d <;> exact h) (Nw.refl w2) ?_
      (refine wpYield_step rfl (fun K hK => ?_)
       apply Exists.intro
       refine ⟨fun w' hw' => ?_, ?_⟩
       · (go_simp; try with_reducible rfl)
       go_simp
       refine hK _ ?_
       clear hK K)
      refine wpYield_nil ?_
      refine wpAnyH_done (by kernel_rfl) ?_ _
      rcases (show 0 < d ∨ d ≤ 0 by omega) with hd0 | hd0
      · have hb : decide (0 < d) = true := by simp; omega
        have HN := Lib.hid (show maxOf (ls.take (k + 1)) = y by rw [HST.out, if_pos hd0])
        go_wp2_with (first
          | (refine wpList_store_obj 24 _ _ rfl rfl [.int .i64 y.a, .int .i64 y.g, .int .i64 y.m, .int .i64 y.b, .slice y.A y.n y.c] rfl rfl rfl (by kernel_rfl) (lc_one1 _ _ _ _ _ _ _) (HOB.out.nw n2') rfl ?_; intro w3 s1 s2)
          | (refine wpList_load_agg 24 _ rfl rfl rfl [Value.int .i64 y.a, .int .i64 y.g, .int .i64 y.m, .int .i64 y.b, .slice y.A y.n y.c] (HCY.out _ n2') _ Try.underlying24 rfl hsy ?_))
        go_roundw
        case rel => exact ⟨k + 1, y, by omega, by omega, by go_num, HN, s1, (HOZ.out.nw n2').chg (Chg.of_gb (F := [y5]) s2 (by intro r hr; injection hr with hr; simp [hr])) (by simpa using hd45), nw_of_gb (gb_trans hnw n2') s2 (fun r hr => by injection hr with hr; omega)⟩
        case measure => simp only [intOf]; omega
      · have hb : decide (0 < d) = false := by simp; omega
        have HN := Lib.hid (show maxOf (ls.take (k + 1)) = bb by rw [HST.out, if_neg (by omega)])
        go_wp2
        go_roundw
        case rel => exact ⟨k + 1, bb, by omega, by omega, by go_num, HN, HOB.out.nw n2', HOZ.out.nw n2', gb_trans hnw n2'⟩
        case measure => simp only [intOf]; omega
    · have hkn : k = n := by omega
      subst hkn
      have HN := Lib.hid (show maxOf ls = bb by rw [← hmx.out, List.take_of_length_le (by rw [HLEN.out]; exact Nat.le_refl _)])
      have HOB := Lib.hid hob; have HOZ := Lib.hid hoz
      clear hob hoz hmx
      go_wp2_with (first
        | (refine wpList_store_obj 24 _ _ rfl rfl [.int .i64 bb.a, .int .i64 bb.g, .int .i64 bb.m, .int .i64 bb.b, .slice bb.A bb.n bb.c] rfl rfl rfl (by kernel_rfl) (lc_one1 _ _ _ _ _ _ _) HOZ.out rfl ?_; intro w3 s1 s2)
        | (refine wpList_load_obj 24 _ rfl rfl rfl HOB.out _ Try.underlying24 rfl (by kernel_rfl) ?_))
      refine bodyPost_ret (res_cell rfl _ _ _ 24 _ _ rfl s1 Try.underlying24 rfl (by kernel_rfl)) rfl ?_
      exact ⟨by rw [HN.out]; rfl, nw_of_gb hnw s2 (fun r hr => by injection hr with hr; omega)⟩
end Go.Proofs.Ytkkkhkkjdjnfhaa

