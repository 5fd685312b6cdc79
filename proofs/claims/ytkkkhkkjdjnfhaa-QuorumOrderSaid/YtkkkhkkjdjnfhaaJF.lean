/- What slices.MaxFunc returns of labels that are right: the first of the newest. -/
import Derived.Test.YtkkkhkkjdjnfhaaJE
import Derived.Deep.DeepCutAuto
set_option linter.unusedVariables false
set_option linter.unusedSimpArgs false
/- What slices.MaxFunc returns of labels that are right: the first of the newest. -/
namespace Go.Proofs.Ytkkkhkkjdjnfhaa
open Go.RowKit Go.BW

def newer (b y : Lb) : Lb := if 0 < y.g - b.g then y else b
/-- the first of the newest -/
def maxOf : List Lb → Lb
  | [] => l0
  | x :: l => l.foldl newer x
theorem maxOf_one (x : Lb) : maxOf [x] = x := rfl
theorem maxOf_snoc {l : List Lb} (h : l ≠ []) (y : Lb) : maxOf (l ++ [y]) = newer (maxOf l) y := by
  match l, h with
  | x :: l, _ => simp [maxOf, List.foldl_append]
theorem maxOf_step {ls : List Lb} {k : Nat} {y : Lb} (hk : 1 ≤ k) (hy : ls[k]? = some y) : maxOf (ls.take (k + 1)) = newer (maxOf (ls.take k)) y := by
  obtain ⟨h, rfl⟩ := List.getElem?_eq_some_iff.1 hy
  rw [List.take_succ_eq_append_getElem h, maxOf_snoc]
  intro e
  have := congrArg List.length e
  rw [List.length_take, List.length_nil] at this; omega
theorem newer_mem {l : List Lb} : ∀ (b : Lb), l.foldl newer b = b ∨ l.foldl newer b ∈ l := by
  induction l with
  | nil => intro b; exact .inl rfl
  | cons y l ih =>
    intro b
    rw [List.foldl_cons]
    rcases ih (newer b y) with h | h
    · rw [h]; unfold newer; split
      · exact .inr (List.mem_cons_self ..)
      · exact .inl rfl
    · exact .inr (List.mem_cons_of_mem _ h)
theorem maxOf_mem {l : List Lb} (h : l ≠ []) : maxOf l ∈ l := by
  match l, h with
  | x :: l, _ =>
    rcases newer_mem (l := l) x with h | h
    · show l.foldl newer x ∈ _; rw [h]; exact List.mem_cons_self ..
    · exact List.mem_cons_of_mem _ h
theorem maxOf_first {ls : List Lb} {x : Lb} (h : ls[0]? = some x) : maxOf (ls.take 1) = x := by
  cases ls with
  | nil => simp at h
  | cons z l => simp at h; subst h; rfl
def lits (x : Lb) : List Value := [.int .i64 x.a, .int .i64 x.g, .int .i64 x.m, .int .i64 x.b, .slice x.A x.n x.c]
set_option maxRecDepth 100000 in
set_option maxHeartbeats 8000000 in
theorem max_any {w : World} {B n c : Nat} {A : Option Addr} {ls : List Lb} (hr : Rd w B 5 A n (fl lc ls)) (hB : B ≤ w.heap.size) (hn : 1 ≤ n) (hn2 : n ≤ 1000000) (hg : ∀ x ∈ ls, 1 ≤ x.g ∧ x.g ≤ 4294967295) :
    Calls Try.prog 26 #[.slice A n c, .func (.func 27) #[] #[]] w (Ret (lv (maxOf ls)) w) := by
  have hlen := hr.lenL lc_len (by decide)
  have HR := Lib.hid hr; have HG := Lib.hid hg; have HLEN := Lib.hid hlen
  obtain ⟨_, b, off, x, rfl, _, hx, hc⟩ := (hr.nw (World.grownBy_alloc w (.cells #[.int .i64 0, .int .i64 0, .int .i64 0, .int .i64 0, .slice none 0 0] 24) none) hB).atL lc_len (by decide) (show 0 < n by omega)
  change ∀ j u, [Value.int .i64 x.a, .int .i64 x.g, .int .i64 x.m, .int .i64 x.b, .slice x.A x.n x.c][j]? = some u → _ at hc
  rw [Nat.zero_mul, Nat.add_zero] at hc
  have HC := Lib.hid hc; have HX := Lib.hid hx
  have hsz : (Try.prog.info? 24).map (·.size) = some [Value.int .i64 x.a, .int .i64 x.g, .int .i64 x.m, .int .i64 x.b, .slice x.A x.n x.c].length := by kernel_rfl
  have hb1 : decide ((n : Int) < 1) = false := by simp; omega
  have hb2 : (0 : Int) < (n : Int) := by omega
  clear hr hg hlen hc hx
  have ho1 := obj_fst w 24 #[.int .i64 0, .int .i64 0, .int .i64 0, .int .i64 0, .slice none 0 0] (.cells #[.int .i64 x.a, .int .i64 x.g, .int .i64 x.m, .int .i64 x.b, .slice x.A x.n x.c] 24)
  have ho2 := obj_snd w (.cells #[.int .i64 0, .int .i64 0, .int .i64 0, .int .i64 0, .slice none 0 0] 24) 24 #[.int .i64 x.a, .int .i64 x.g, .int .i64 x.m, .int .i64 x.b, .slice x.A x.n x.c]
  have hn3 := gb_trans (World.grownBy_alloc w (.cells #[.int .i64 0, .int .i64 0, .int .i64 0, .int .i64 0, .slice none 0 0] 24) none) (World.grownBy_alloc _ (.cells #[.int .i64 x.a, .int .i64 x.g, .int .i64 x.m, .int .i64 x.b, .slice x.A x.n x.c] 24) none)
  go_enter Try.func26, Try.ntmps26
  go_wp2_with (refine wpList_load_agg 24 _ rfl rfl rfl [Value.int .i64 x.a, .int .i64 x.g, .int .i64 x.m, .int .i64 x.b, .slice x.A x.n x.c] HC.out _ Try.underlying24 rfl hsz ?_)
  obtain ⟨W, hW⟩ : ∃ W, (w.alloc (.cells #[.int .i64 0, .int .i64 0, .int .i64 0, .int .i64 0, .slice none 0 0] 24)).alloc (.cells #[.int .i64 x.a, .int .i64 x.g, .int .i64 x.m, .int .i64 x.b, .slice x.A x.n x.c] 24) = W := ⟨_, rfl⟩
  obtain ⟨y4, h4⟩ : ∃ y, w.heap.size = y := ⟨_, rfl⟩
  obtain ⟨y5, h5⟩ : ∃ y, w.heap.size + 1 = y := ⟨_, rfl⟩
  rw [hW] at ho1 ho2 hn3 ⊢
  rw [h5] at ho2 ⊢
  rw [h4] at ho1 ⊢
  have hyw : w.heap.size ≤ y5 := by omega
  have hyw4 : w.heap.size ≤ y4 := by omega
  have hd45 : y4 ≠ y5 := by omega
  have O1 := Lib.hid ho1; have O2 := Lib.hid ho2; have N3 := Lib.hid hn3
  clear ho1 ho2 hn3 hW h4 h5 HC hsz
  go_loopw [6] (fun i wr => ∃ (k : Nat) (bb : Lb), 1 ≤ k ∧ k ≤ n ∧ i = .int .i64 k ∧ Hid (maxOf (ls.take k) = bb) ∧ Obj1 wr y5 24 #[.int .i64 bb.a, .int .i64 bb.g, .int .i64 bb.m, .int .i64 bb.b, .slice bb.A bb.n bb.c] ∧ Obj1 wr y4 24 #[.int .i64 0, .int .i64 0, .int .i64 0, .int .i64 0, .slice none 0 0] ∧ Nw w wr) (fun i _ => n - (intOf i).toNat)
  case atStart =>
    refine ⟨1, x, by omega, hn, rfl, Lib.hid ?_, O2.out, O1.out, N3.out⟩
    exact maxOf_first HX.out
  case round =>
    obtain ⟨k, bb, hk1, hk, rfl, hmx, hob, hoz, hnw⟩ := hrel
    by_cases hlt : k < n
    · obtain ⟨_, b', off', y, e, _, hy, hc⟩ := (HR.out.nw hnw hB).atL lc_len (by decide) hlt
      injection e with e; injection e with e1 e2; subst e1; subst e2
      have HCY := Lib.hid (fun w' (h : Nw wr w') => show ∀ j u, [Value.int .i64 y.a, .int .i64 y.g, .int .i64 y.m, .int .i64 y.b, .slice y.A y.n y.c][j]? = some u → w'.cell? ⟨b, off + k * 5 + j, none⟩ = some u from by
        intro j u hu
        obtain ⟨_, b2, o2, z, e, _, a2, c2⟩ := (HR.out.nw (gb_trans hnw h) hB).atL lc_len (by decide) hlt
        injection e with e; injection e with e1 e2; subst e1; subst e2
        rw [hy] at a2; injection a2 with a2; subst a2
        exact c2 j u hu)
      have HCB := Lib.hid (fun w' (h : Nw wr w') => show ∀ j u, [Value.int .i64 bb.a, .int .i64 bb.g, .int .i64 bb.m, .int .i64 bb.b, .slice bb.A bb.n bb.c][j]? = some u → w'.cell? ⟨y5, 0 + j, none⟩ = some u from by
        intro j u hu
        rw [Nat.zero_add, (hob.nw h).cell j]; simpa using hu)
      have hbm : bb ∈ ls := by
        rw [← hmx.out]
        exact List.mem_of_mem_take (maxOf_mem (by intro e; have := congrArg List.length e; rw [List.length_take, List.length_nil] at this; have := HLEN.out; omega))
      have HNW := Lib.hid (fun w' => newer_any (w := w') (HG.out y (List.mem_of_getElem? hy)) (HG.out bb hbm))
      have hstep := maxOf_step hk1 hy
      rw [hmx.out] at hstep
      obtain ⟨d, hd⟩ : ∃ d, y.g - bb.g = d := ⟨_, rfl⟩
      rw [hd] at HNW
      unfold newer at hstep
      rw [hd] at hstep
      have HST := Lib.hid hstep
      unfold lv Ret at HNW
      have hlt' : (k : Int) < (n : Int) := by omega
      have hsy : (Try.prog.info? 24).map (·.size) = some [Value.int .i64 y.a, .int .i64 y.g, .int .i64 y.m, .int .i64 y.b, .slice y.A y.n y.c].length := by kernel_rfl
      have hsb : (Try.prog.info? 24).map (·.size) = some [Value.int .i64 bb.a, .int .i64 bb.g, .int .i64 bb.m, .int .i64 bb.b, .slice bb.A bb.n bb.c].length := by kernel_rfl
      have HOB := Lib.hid hob; have HOZ := Lib.hid hoz
      clear hc hy hbm hd hstep hob hoz hmx
      go_wp2_with fail
      refine wp_region_held (S := (fun w' => Nw wr w')) (by kernel_rfl) ?_
      change wpAnyH _ _ _ _ _ _ _ _ (World.drew wr)
      refine held_seg' (l := [0, 1, 2, 3, 4, 5]) (fuel := 2) rfl (by kernel_rfl) (by kernel_rfl) (by simp only [List.filterMap_cons, List.filterMap_nil, List.getElem?_toArray, List.getElem?_cons_succ, List.getElem?_cons_zero]; rfl) (fun _ _ d _ _ h => by cases d <;> exact h) (gb_drew (Nw.refl wr)) ?_
      iterate 4 (refine wpYield_step rfl (fun K hK => ?_)
                 apply Exists.intro
                 refine ⟨fun w' hw' => ?_, ?_⟩
                 · (go_simp; try with_reducible rfl)
                 go_simp
                 refine hK _ ?_
                 clear hK K)
      refine wpYield_load_agg 24 _ rfl rfl rfl _ (fun w' hw' => HCY.out w' hw') _ Try.underlying24 rfl hsy ?_
      refine wpYield_load_agg 24 _ rfl rfl rfl _ (fun w' hw' => HCB.out w' hw') _ Try.underlying24 rfl hsb ?_
      refine wpYield_nil ?_
      refine held_eff 6 rfl (by kernel_rfl) rfl (fun K hK => ?_)
      go_simp
      refine (HNW.out _).mono ?_
      rintro e w2 ⟨rfl, n2⟩
      have n2' := gb_of_drew n2
      refine hK _ _ ⟨n2', ?_⟩
      clear hK K n2
      refine wpAnyH_mono (S' := fun w' => Nw w2 w') (fun w' h => gb_trans n2' h) _ _ _ _ ?_
      refine held_seg' (l := [7]) (fuel := 0) rfl (by kernel_rfl) (by kernel_rfl) (by simp only [List.filterMap_cons, List.filterMap_nil, List.getElem?_toArray, List.getElem?_cons_succ, List.getElem?_cons_zero]; rfl) (fun _ _ d _ _ h => by cases d <;> exact h) (Nw.refl w2) ?_
      (refine wpYield_step rfl (fun K hK => ?_)
       apply Exists.intro
       refine ⟨fun w' hw' => ?_, ?_⟩
       · (go_simp; try with_reducible rfl)
       go_simp
       refine hK _ ?_
       clear hK K)
      refine wpYield_nil ?_
      refine wpAnyH_done (by kernel_rfl) ?_ _
      rcases (show 0 < d ∨ d ≤ 0 by omega) with hd0 | hd0
      · have hb : decide (0 < d) = true := by simp; omega
        have HN := Lib.hid (show maxOf (ls.take (k + 1)) = y by rw [HST.out, if_pos hd0])
        go_wp2_with (first
          | (refine wpList_store_obj 24 _ _ rfl rfl [.int .i64 y.a, .int .i64 y.g, .int .i64 y.m, .int .i64 y.b, .slice y.A y.n y.c] rfl rfl rfl (by kernel_rfl) (lc_one1 _ _ _ _ _ _ _) (HOB.out.nw n2') rfl ?_; intro w3 s1 s2)
          | (refine wpList_load_agg 24 _ rfl rfl rfl [Value.int .i64 y.a, .int .i64 y.g, .int .i64 y.m, .int .i64 y.b, .slice y.A y.n y.c] (HCY.out _ n2') _ Try.underlying24 rfl hsy ?_))
        go_roundw
        case rel => exact ⟨k + 1, y, by omega, by omega, by go_num, HN, s1, (HOZ.out.nw n2').chg (Chg.of_gb (F := [y5]) s2 (by intro r hr; injection hr with hr; simp [hr])) (by simpa using hd45), nw_of_gb (gb_trans hnw n2') s2 (fun r hr => by injection hr with hr; omega)⟩
        case measure => simp only [intOf]; omega
      · have hb : decide (0 < d) = false := by simp; omega
        have HN := Lib.hid (show maxOf (ls.take (k + 1)) = bb by rw [HST.out, if_neg (by omega)])
        go_wp2
        go_roundw
        case rel => exact ⟨k + 1, bb, by omega, by omega, by go_num, HN, HOB.out.nw n2', HOZ.out.nw n2', gb_trans hnw n2'⟩
        case measure => simp only [intOf]; omega
    · have hkn : k = n := by omega
      subst hkn
      have HN := Lib.hid (show maxOf ls = bb by rw [← hmx.out, List.take_of_length_le (by rw [HLEN.out]; exact Nat.le_refl _)])
      have HOB := Lib.hid hob; have HOZ := Lib.hid hoz
      clear hob hoz hmx
      go_wp2_with (first
        | (refine wpList_store_obj 24 _ _ rfl rfl [.int .i64 bb.a, .int .i64 bb.g, .int .i64 bb.m, .int .i64 bb.b, .slice bb.A bb.n bb.c] rfl rfl rfl (by kernel_rfl) (lc_one1 _ _ _ _ _ _ _) HOZ.out rfl ?_; intro w3 s1 s2)
        | (refine wpList_load_obj 24 _ rfl rfl rfl HOB.out _ Try.underlying24 rfl (by kernel_rfl) ?_))
      refine bodyPost_ret (res_cell rfl _ _ _ 24 _ _ rfl s1 Try.underlying24 rfl (by kernel_rfl)) rfl ?_
      exact ⟨by rw [HN.out]; rfl, nw_of_gb hnw s2 (fun r hr => by injection hr with hr; omega)⟩
end Go.Proofs.Ytkkkhkkjdjnfhaa


/- What quorum.Choose returns, for every slice of labels of moderate size. -/
namespace Go.Proofs.Ytkkkhkkjdjnfhaa
open Go.RowKit Go.BW

theorem T35 : El Try.prog 35 3 (.int .i64 0) 1 8 := El.mk' Try.underlying35 (by kernel_rfl) rfl (by decide)
/-- is it a member that is missed? -/
def missB (r : List Lb) (arr : Int) (m : Mem) : Bool := m.st == 0 && !r.any (ofM m.id arr)
def missL (r : List Lb) (y : Lb) : List Int := (y.ms.filter (missB r y.a)).map (·.id)
/-- what Choose answers beside the label and the missing -/
def chooseE (ls : List Lb) : Int :=
  let r := ls.filter rightB
  if r = [] then 8 else if r.any (clash (maxOf r)) then 2 else if 1 < (missL r (maxOf r)).length then 5 else 0
def ChoosePost (ls : List Lb) (w : World) (e : Ending) (w' : World) : Prop :=
  Nw w w' ∧ ((chooseE ls ≠ 0 ∧ e = .returned (.tuple #[lv l0, .slice none 0 0, .int .i64 (chooseE ls)])) ∨
    (chooseE ls = 0 ∧ ∃ A n c M k d, e = .returned (.tuple #[lv ⟨(maxOf (ls.filter rightB)).a, (maxOf (ls.filter rightB)).g, (maxOf (ls.filter rightB)).m, (maxOf (ls.filter rightB)).b, A, n, c, (maxOf (ls.filter rightB)).ms⟩, .slice M k d, .int .i64 0]) ∧
      Own w' w.heap.size 28 3 A n c (fl mc (maxOf (ls.filter rightB)).ms) ∧ Own w' w.heap.size 3 1 M k d ((missL (ls.filter rightB) (maxOf (ls.filter rightB))).map iv)))
theorem res_cell_two {P : Program} {fn : Func} {p u v : Tmp} {ty : TypeId} (h : fn.results = #[.cell p ty, .tmp u, .tmp v]) (tmps : Array Value) (w : World) (g : Nat) (t : TypeId) (cs : Array Value) (d : TypeDesc)
    (hp : tmps.getD p undef = .pointer (some ⟨g, 0, none⟩)) (hg : Obj1 w g t cs) (hu : P.underlying ty = some d) (hd : (match d with | .struct _ | .array _ _ => true | _ => false) = true) (hi : (P.info? ty).map (·.size) = some cs.size) :
    (results fn tmps).run P w = .ok (.tuple #[.agg cs, tmps.getD u undef, tmps.getD v undef]) w := by
  simp only [results, h]
  rw [Array.getD_eq_getD_getElem?] at hp
  simp [Sem.run_bind, hp, asAddr, run_loadVar_row w g t ty cs (0, 0) d hg hu hd hi]
theorem choose_err {ls : List Lb} {v : Int} {w w' : World} (h : chooseE ls = v) (hv : v ≠ 0) (hw : Nw w w') :
    ChoosePost ls w (.returned (.tuple #[.agg #[.int .i64 0, .int .i64 0, .int .i64 0, .int .i64 0, .slice none 0 0], .slice none 0 0, .int .i64 v])) w' := by
  subst h; exact ⟨hw, .inl ⟨hv, rfl⟩⟩
theorem choose_ok {ls r : List Lb} {y : Lb} {A M : Option Addr} {n c k d : Nat} {w w' : World} (hr : ls.filter rightB = r) (hy : maxOf r = y) (h : chooseE ls = 0) (hw : Nw w w') (ho : Own w' w.heap.size 28 3 A n c (fl mc y.ms)) (hm : Own w' w.heap.size 3 1 M k d ((missL r y).map iv)) :
    ChoosePost ls w (.returned (.tuple #[.agg #[.int .i64 y.a, .int .i64 y.g, .int .i64 y.m, .int .i64 y.b, .slice A n c], .slice M k d, .int .i64 0])) w' := by
  subst hr; subst hy
  exact ⟨hw, .inr ⟨h, A, n, c, M, k, d, rfl, ho, hm⟩⟩
theorem miss_step {r : List Lb} {arr : Int} {ms : List Mem} {j : Nat} {x : Mem} (hx : ms[j]? = some x) : ((ms.take (j + 1)).filter (missB r arr)).map (·.id) = ((ms.take j).filter (missB r arr)).map (·.id) ++ (if missB r arr x then [x.id] else []) := by
  obtain ⟨hj, rfl⟩ := List.getElem?_eq_some_iff.1 hx
  rw [List.take_succ_eq_append_getElem hj, List.filter_append, List.map_append, List.filter_cons]
  split <;> simp
set_option maxRecDepth 100000 in
set_option maxHeartbeats 8000000 in
theorem choose_any {w : World} {B n c : Nat} {A : Option Addr} {ls : List Lb} (hr : Rd w B 5 A n (fl lc ls)) (hok : ∀ x ∈ ls, LOk w B x) (hB : B ≤ w.heap.size) (hn : n ≤ 1000000) (hms : ∀ x ∈ ls, x.n ≤ 1000000) :
    Calls Try.prog 12 #[.slice A n c] w (ChoosePost ls w) := by
  have hE : ∀ v, v ≠ 0 → chooseE ls = v → ∀ w', Nw w w' → ChoosePost ls w (.returned (.tuple #[.agg #[.int .i64 0, .int .i64 0, .int .i64 0, .int .i64 0, .slice none 0 0], .slice none 0 0, .int .i64 v])) w' := fun v hv he w' hw => choose_err he hv hw
  have hce : chooseE ls = (if ls.filter rightB = [] then 8 else if (ls.filter rightB).any (clash (maxOf (ls.filter rightB))) then 2 else if 1 < (missL (ls.filter rightB) (maxOf (ls.filter rightB))).length then 5 else 0) := rfl
  have hlen := hr.lenL lc_len (by decide)
  obtain ⟨r, hrr⟩ : ∃ r, ls.filter rightB = r := ⟨_, rfl⟩
  rw [hrr] at hce
  have hrl : r.length ≤ n := by rw [← hrr, ← hlen]; exact List.length_filter_le ..
  have hrm : ∀ x ∈ r, x ∈ ls ∧ rightB x = true := by intro x hx; rw [← hrr, List.mem_filter] at hx; exact hx
  have HRR := Lib.hid hrr
  -- the result's variable
  have ho0 := Obj1.new w 24 #[.int .i64 0, .int .i64 0, .int .i64 0, .int .i64 0, .slice none 0 0]
  have hn0 := World.grownBy_alloc w (.cells #[.int .i64 0, .int .i64 0, .int .i64 0, .int .i64 0, .slice none 0 0] 24) none
  go_enter Try.func12, Try.ntmps12
  go_upto_region 1 with fail
  obtain ⟨W, hW⟩ : ∃ W, w.alloc (.cells #[.int .i64 0, .int .i64 0, .int .i64 0, .int .i64 0, .slice none 0 0] 24) = W := ⟨_, rfl⟩
  obtain ⟨y2, hy2⟩ : ∃ y, w.heap.size = y := ⟨_, rfl⟩
  rw [hW] at ho0 hn0 ⊢
  rw [hy2] at ho0 ⊢
  have hy2w : w.heap.size ≤ y2 := by omega
  have hy2W := ho0.lt
  have HCL := Lib.hid (cloneL_any (c := c) (hr.nw hn0 hB) (Nat.le_trans hB hn0.size) hn)
  have HDL := Lib.hid (fun (w1 : World) (A1 : Option Addr) (n1 c1 : Nat) (h : Own w1 W.heap.size 24 5 A1 n1 c1 (fl lc ls)) (k : Nw W w1) => delete_any h (fun x hx => (hok x hx).nw (gb_trans hn0 k) hB) (Nat.le_trans hB hn0.size) k.size (by have := h.lenL lc_len (by decide); omega) hms)
  have O0 := Lib.hid ho0; have N0 := Lib.hid hn0; have HOK := Lib.hid hok; have HMS := Lib.hid hms; have HE := Lib.hid hE; have HCE := Lib.hid hce; have HRM := Lib.hid hrm
  clear hW hy2 ho0 hn0 hok hms hE hce hrm hr hlen hrr
  unfold RetOwn at HCL
  unfold DelPost at HDL
  go_upto_region 2 with (first
    | ((with_reducible refine (HDL.out _ _ _ _ o1 n1).mono ?_); rintro e w2 ⟨A2, n2, c2, rfl, o2, g2⟩)
    | ((with_reducible refine HCL.out.mono ?_); rintro e w1 ⟨A1, n1', c1, rfl, o1, n1⟩))
  rw [HRR.out] at o2
  have hblk := o1.blk
  have hWw := N0.out.size
  have N2 := Lib.hid (nw_of_gb (gb_trans N0.out n1) g2 (fun q hq => by have := hblk q hq; omega))
  have O2 := Lib.hid ((O0.out.nw n1).eq (g2.block y2 (Nat.lt_of_lt_of_le hy2W n1.size) (by intro e; have := hblk _ e.symm; omega)))
  have hn2 := o2.lenL lc_len (by decide)
  have hWw2 : W.heap.size ≤ w2.heap.size := Nat.le_trans n1.size g2.size
  have OR := Lib.hid o2; have HN2 := Lib.hid hn2
  have HOK2 := Lib.hid (fun x (hx : x ∈ r) w' (k : Nw w2 w') => (HOK.out x (HRM.out x hx).1).nw (gb_trans N2.out k) hB)
  clear o1 n1 g2 o2 hblk hn2 HCL HDL
  by_cases hr0 : r = []
  · have h0 : n2 = 0 := by rw [← HN2.out, hr0]; rfl
    have HV := Lib.hid (HE.out 8 (by decide) (by rw [HCE.out, if_pos hr0]))
    have OZ := Lib.hid O2.out
    subst h0
    go_wp2_with (first | (refine wpList_store_obj 24 _ _ rfl rfl [.int .i64 0, .int .i64 0, .int .i64 0, .int .i64 0, .slice none 0 0] rfl rfl rfl (by kernel_rfl) (lc_one1 0 0 0 0 none 0 0) OZ.out rfl ?_; intro w9 s1 s2))
    (refine bodyPost_ret (res_cell_two rfl _ _ _ 24 _ _ rfl s1 Try.underlying24 rfl (by kernel_rfl)) rfl ?_)
    exact HV.out w9 (nw_of_gb N2.out s2 (fun q hq => by injection hq with hq; omega))
  have hn1 : 1 ≤ n2 := by
    rw [← HN2.out]
    rcases r with _ | ⟨a, l⟩
    · exact absurd rfl hr0
    · simp
  have hb0 : ((n2 : Int) == 0) = false := by rw [beq_eq_false_iff_ne]; omega
  have hn2n : n2 ≤ 1000000 := by rw [← HN2.out]; omega
  have hgr : ∀ x ∈ r, 1 ≤ x.g ∧ x.g ≤ 4294967295 := by
    intro x hx
    have := (HRM.out x hx).2
    unfold rightB inB at this; simp at this; omega
  have HMX := Lib.hid (max_any (c := c2) OR.out.rd (Nat.le_refl _) hn1 hn2n hgr)
  have hym := maxOf_mem hr0
  obtain ⟨y, hy⟩ : ∃ y, maxOf r = y := ⟨_, rfl⟩
  rw [hy] at HMX hym
  have hce2 : chooseE ls = (if r.any (clash y) then 2 else if 1 < (missL r y).length then 5 else 0) := by rw [HCE.out, if_neg hr0, hy]
  have HCE2 := Lib.hid hce2; have HY := Lib.hid hy
  unfold lv Ret at HMX
  clear HCE hgr hy hce2 hr0
  go_upto_region 5 with ((with_reducible refine HMX.out.mono ?_); rintro e w3 ⟨rfl, n3⟩)
  have ho6 := Obj1.new w3 24 #[.int .i64 y.a, .int .i64 y.g, .int .i64 y.m, .int .i64 y.b, .slice y.A y.n y.c]
  have hn4 := gb_trans n3 (World.grownBy_alloc w3 (.cells #[.int .i64 y.a, .int .i64 y.g, .int .i64 y.m, .int .i64 y.b, .slice y.A y.n y.c] 24) none)
  obtain ⟨V, hV⟩ : ∃ V, w3.alloc (.cells #[.int .i64 y.a, .int .i64 y.g, .int .i64 y.m, .int .i64 y.b, .slice y.A y.n y.c] 24) = V := ⟨_, rfl⟩
  obtain ⟨y6, hy6⟩ : ∃ q, w3.heap.size = q := ⟨_, rfl⟩
  rw [hV] at ho6 hn4 ⊢
  rw [hy6] at ho6 ⊢
  have hy6w : w.heap.size ≤ y6 := by have h1 := N2.out.size; have h2 := n3.size; omega
  have hd26 : y2 ≠ y6 := by have h1 := O2.out.lt; have h2 := n3.size; omega
  have OV := Lib.hid ho6; have OZ := Lib.hid (O2.out.nw hn4); have NV := Lib.hid (gb_trans N2.out hn4); have M2 := Lib.hid hn4; have RV := Lib.hid (OR.out.nw hn4)
  have hyn := HMS.out y (HRM.out y hym).1
  have HAS := Lib.hid (has29_any (d := c2) RV.out.rd (Nat.le_refl _) hn2n (.pointer (some ⟨y6, 0, none⟩)) (clash y) (fun m hm w' k => clash_any (HOK2.out m hm w' (gb_trans M2.out k)) (HOK2.out y hym w' (gb_trans M2.out k)) (Nat.le_trans hB (gb_trans NV.out k).size) (Nat.le_trans hB (gb_trans NV.out k).size) (HMS.out m (HRM.out m hm).1) hyn (OV.out.nw k)))
  obtain ⟨cb, hcb⟩ : ∃ cb, r.any (clash y) = cb := ⟨_, rfl⟩
  rw [hcb] at HAS
  have HCE3 := Lib.hid (show chooseE ls = (if cb = true then 2 else if 1 < (missL r y).length then 5 else 0) by rw [HCE2.out, hcb])
  unfold Ret at HAS
  clear hV hy6 ho6 hn4 hcb HCE2 n3 OR O2 HMX N2
  rcases cb with _ | _
  case true =>
    have HV := Lib.hid (HE.out 2 (by decide) (by rw [HCE3.out]; rfl))
    go_wp2_with (first
      | (refine wpList_store_obj 24 _ _ rfl rfl [.int .i64 0, .int .i64 0, .int .i64 0, .int .i64 0, .slice none 0 0] rfl rfl rfl (by kernel_rfl) (lc_one1 0 0 0 0 none 0 0) (OZ.out.nw n5) rfl ?_; intro w9 s1 s2)
      | ((with_reducible refine HAS.out.mono ?_); rintro e w5 ⟨rfl, n5⟩))
    (refine bodyPost_ret (res_cell_two rfl _ _ _ 24 _ _ rfl s1 Try.underlying24 rfl (by kernel_rfl)) rfl ?_)
    exact HV.out w9 (nw_of_gb (gb_trans NV.out n5) s2 (fun q hq => by injection hq with hq; omega))
  go_upto_region 8 with ((with_reducible refine HAS.out.mono ?_); rintro e w5 ⟨rfl, n5⟩)
  have O6 := Lib.hid (OV.out.nw n5); have OZ5 := Lib.hid (OZ.out.nw n5); have N5 := Lib.hid (gb_trans NV.out n5); have M5 := Lib.hid (gb_trans M2.out n5); have R5 := Lib.hid (RV.out.nw n5)
  have k64 : w5.cell? ⟨y6, 4, none⟩ = some (.slice y.A y.n y.c) := O6.out.cell 4
  have hyr := (HOK2.out y hym w5 M5.out)
  obtain ⟨YA, hYA⟩ : ∃ YA, y.A = YA := ⟨_, rfl⟩
  obtain ⟨yn, hyn'⟩ : ∃ yn, y.n = yn := ⟨_, rfl⟩
  obtain ⟨yc, hyc⟩ : ∃ yc, y.c = yc := ⟨_, rfl⟩
  obtain ⟨ya, hya⟩ : ∃ ya, y.a = ya := ⟨_, rfl⟩
  obtain ⟨yms, hyms⟩ : ∃ yms, y.ms = yms := ⟨_, rfl⟩
  have hyrd := hyr.rd
  rw [hYA, hyn', hyms] at hyrd
  rw [hYA, hyn', hyc] at k64
  rw [hYA, hyn', hyc, hya] at O6
  rw [hyn'] at hyn
  have HYRD := Lib.hid hyrd; have HEQ := Lib.hid (show y.A = YA ∧ y.n = yn ∧ y.c = yc ∧ y.a = ya ∧ y.ms = yms from ⟨hYA, hyn', hyc, hya, hyms⟩)
  have HCE4 := Lib.hid (show chooseE ls = if 1 < ((yms.filter (missB r ya)).map (·.id)).length then 5 else 0 by rw [HCE3.out, ← hyms, ← hya]; rfl)
  clear n5 HAS hyr hyrd hYA hyn' hyc hya hyms OV OZ NV M2 RV HCE3
  have hB5 : B ≤ w5.heap.size := Nat.le_trans hB N5.out.size
  go_wp2_with fail
  go_loopw [7, 27] (fun mv i wr => ∃ (j : Nat) (M : Option Addr) (k d : Nat), j ≤ yn ∧ i = .int .i64 j ∧ mv = .slice M k d ∧ Own wr w5.heap.size 3 1 M k d ((((yms.take j).filter (missB r ya)).map (·.id)).map iv) ∧ Nw w5 wr) (fun _ i _ => yn - (intOf i).toNat)
  case atStart => exact ⟨0, none, 0, 0, Nat.zero_le _, rfl, rfl, Own.nil, Nw.refl _⟩
  case round =>
    obtain ⟨j, M, k, d, hj, rfl, rfl, hown, hnw⟩ := hrel
    by_cases hlt : j < yn
    · obtain ⟨_, b', off, x, hAe, _, hx, hc⟩ := (HYRD.out.nw hnw hB5).atL mc_len (by decide) hlt
      have hstep := miss_step (r := r) (arr := ya) hx
      have hkl : k ≤ 1000000 := by
        have h1 := hown.len
        rw [List.length_map, List.length_map] at h1
        have h2 := List.length_filter_le (missB r ya) (yms.take j)
        rw [List.length_take] at h2; omega
      have hmb : missB r ya x = (x.st == 0 && !r.any (ofM x.id ya)) := rfl
      obtain ⟨xi, xs, xt⟩ := x
      change ∀ u v, [Value.int .i64 xi, .int .i64 xs, .int .i64 xt][u]? = some v → _ at hc
      simp only at hmb hstep
      have HC := Lib.hid hc
      subst hAe
      have hjn : (j : Int) < (yn : Int) := by omega
      have hU := World.grownBy_alloc wr (.cells #[.int .i64 xi, .int .i64 xs, .int .i64 xt] 28) none
      have hpc := (Obj1.new wr 28 #[.int .i64 xi, .int .i64 xs, .int .i64 xt])
      have HHAS := Lib.hid (has31_any (w := wr.alloc (.cells #[.int .i64 xi, .int .i64 xs, .int .i64 xt] 28)) (d := c2) (R5.out.nw (gb_trans hnw hU)).rd (Nat.le_refl _) hn2n (.pointer (some ⟨wr.heap.size, 0, none⟩)) (.pointer (some ⟨y6, 0, none⟩)) (ofM xi ya) (fun m _ w' k => ofM_any ((hpc.nw k).cell 0) ((O6.out.nw (gb_trans (gb_trans hnw hU) k)).cell 0)))
      obtain ⟨q, hq⟩ : ∃ q, r.any (ofM xi ya) = q := ⟨_, rfl⟩
      rw [hq] at HHAS hmb
      unfold Ret at HHAS
      have HST := Lib.hid hstep; have HMB := Lib.hid hmb; have HW := Lib.hid hown; have HU := Lib.hid hU
      have hs3 : (Try.prog.info? 28).map (·.size) = some [Value.int .i64 xi, .int .i64 xs, .int .i64 xt].length := by kernel_rfl
      have hsm : (k + 1) * 8 ≤ 140737488355328 ∧ k + 1 ≤ maxLen := by unfold maxLen; omega
      clear hc hx hpc hq hstep hmb hown hU
      rcases (show xt ≠ 0 ∨ xt = 0 by omega) with ht | ht
      · have hb : (xt == 0) = false := by simpa using ht
        have HF := Lib.hid (show missB r ya ⟨xi, xs, xt⟩ = false by rw [HMB.out, hb]; rfl)
        go_wp2_with (first | (refine wpList_load_agg 28 _ rfl rfl rfl [Value.int .i64 xi, .int .i64 xs, .int .i64 xt] HC.out _ Try.underlying28 rfl hs3 ?_))
        go_roundw
        case rel => exact ⟨j + 1, M, k, d, by omega, by go_num, rfl, by rw [HST.out, HF.out, if_neg (by decide), List.append_nil]; exact HW.out.nw HU.out, gb_trans hnw HU.out⟩
        case measure => simp only [intOf]; omega
      subst ht
      rcases q with _ | _
      · have HF := Lib.hid (show missB r ya ⟨xi, xs, 0⟩ = true by rw [HMB.out]; rfl)
        go_wp2_with (first
          | (at_builtin; refine wpList_app1_own T35 _ _ rfl rfl rfl rfl (HW.out.nw (gb_trans HU.out n7)) rfl hsm (Nat.le_trans hnw.size (Nat.le_trans HU.out.size n7.size)) ?_; intro A8 c8 w8 o8 g8 _)
          | ((with_reducible refine HHAS.out.mono ?_); rintro e w7 ⟨rfl, n7⟩; have hcl : w7.cell? ⟨wr.heap.size, 0, none⟩ = some (.int .i64 xi) := ((Obj1.new wr 28 #[.int .i64 xi, .int .i64 xs, .int .i64 0]).nw n7).cell 0)
          | (refine wpList_load_agg 28 _ rfl rfl rfl [Value.int .i64 xi, .int .i64 xs, .int .i64 0] HC.out _ Try.underlying28 rfl hs3 ?_))
        go_roundw
        case rel => exact ⟨j + 1, A8, k + 1, c8, by omega, by go_num, rfl, by rw [HST.out, HF.out, if_pos rfl, List.map_append]; exact o8, nw_of_gb (gb_trans hnw (gb_trans HU.out n7)) g8 HW.out.blk⟩
        case measure => simp only [intOf]; omega
      · have HF := Lib.hid (show missB r ya ⟨xi, xs, 0⟩ = false by rw [HMB.out]; rfl)
        go_wp2_with (first
          | ((with_reducible refine HHAS.out.mono ?_); rintro e w7 ⟨rfl, n7⟩)
          | (refine wpList_load_agg 28 _ rfl rfl rfl [Value.int .i64 xi, .int .i64 xs, .int .i64 0] HC.out _ Try.underlying28 rfl hs3 ?_))
        go_roundw
        case rel => exact ⟨j + 1, M, k, d, by omega, by go_num, rfl, by rw [HST.out, HF.out, if_neg (by decide), List.append_nil]; exact HW.out.nw (gb_trans HU.out n7), gb_trans hnw (gb_trans HU.out n7)⟩
        case measure => simp only [intOf]; omega
    · have hjn : j = yn := by omega
      subst hjn
      rw [List.take_of_length_le (by rw [HYRD.out.lenL mc_len (by decide)]; exact Nat.le_refl _)] at hown
      have hkl := hown.len
      rw [List.length_map] at hkl
      have HCE5 := Lib.hid (show chooseE ls = if 1 < k then 5 else 0 by rw [HCE4.out, hkl, Nat.mul_one])
      have O6r := Lib.hid (O6.out.nw hnw); have OZr := Lib.hid (OZ5.out.nw hnw); have Nr := Lib.hid (gb_trans N5.out hnw)
      have HW := Lib.hid (hown.more N5.out.size)
      clear hkl HCE4 hown
      rcases (show 1 < k ∨ k ≤ 1 by omega) with hk1 | hk1
      · have hb : (1 : Int) < (k : Int) := by omega
        have HV := Lib.hid (HE.out 5 (by decide) (by rw [HCE5.out, if_pos hk1]))
        go_wp2_with (refine wpList_store_obj 24 _ _ rfl rfl [.int .i64 0, .int .i64 0, .int .i64 0, .int .i64 0, .slice none 0 0] rfl rfl rfl (by kernel_rfl) (lc_one1 0 0 0 0 none 0 0) OZr.out rfl ?_; intro w9 s1 s2)
        (refine bodyPost_ret (res_cell_two rfl _ _ _ 24 _ _ rfl s1 Try.underlying24 rfl (by kernel_rfl)) rfl ?_)
        exact HV.out w9 (nw_of_gb Nr.out s2 (fun q hq => by injection hq with hq; omega))
      · have hb : decide (1 < k) = false := by simp; omega
        have hb' : decide ((1 : Int) < (k : Int)) = false := by simp; omega
        have HV := Lib.hid (show chooseE ls = 0 by rw [HCE5.out, if_neg (by omega)])
        have HCN := Lib.hid (clone_any (c := yc) (HYRD.out.nw hnw hB5) (Nat.le_trans hB5 hnw.size) hyn)
        unfold RetOwn at HCN
        have k64r : wr.cell? ⟨y6, 4, none⟩ = some (.slice YA j yc) := O6r.out.cell 4
        go_wp2_with (first
          | (refine wpList_store_obj 24 _ _ rfl rfl [.int .i64 ya, .int .i64 y.g, .int .i64 y.m, .int .i64 y.b, .slice A7 n7 c7] rfl rfl rfl (by kernel_rfl) (lc_one1 _ _ _ _ _ _ _) Q2.out rfl ?_; intro w9 s1 s2)
          | (refine wpList_load_obj 24 _ rfl rfl rfl Q1.out _ Try.underlying24 rfl (by kernel_rfl) ?_)
          | ((with_reducible refine HCN.out.mono ?_); rintro e w7 ⟨A7, n7, c7, rfl, o7, nw7⟩; have P1 := Lib.hid (O6r.out.nw nw7); have P2 := Lib.hid (OZr.out.nw nw7); have hcell := P1.out.cell 4; have hfz := P1.out.frozen 4; have Q1 := Lib.hid (show Obj1 (w7.setCell ⟨y6, 4, none⟩ (.slice A7 n7 c7)) y6 24 #[.int .i64 ya, .int .i64 y.g, .int .i64 y.m, .int .i64 y.b, .slice A7 n7 c7] from P1.out.set 4 _); have Q2 := Lib.hid (P2.out.chg (Chg.set w7 (p := ⟨y6, 4, none⟩) (F := [y6]) (by simp) (.slice A7 n7 c7)) (by simpa using hd26))))
        (refine bodyPost_ret (res_cell_two rfl _ _ _ 24 _ _ rfl s1 Try.underlying24 rfl (by kernel_rfl)) rfl ?_)
        obtain ⟨e1, e2, e3, e4, e5⟩ := HEQ.out
        have g1 : w7.grownBy (w7.setCell ⟨y6, 4, none⟩ (.slice A7 n7 c7)) (some y6) := gb_set (gb_nw (Nw.refl w7)) (.inl rfl) _
        have o7' := o7.more (Nr.out.size)
        have o8 := o7'.kept g1 (fun q hq e => by injection hq with hq; subst hq; obtain ⟨cur, ho⟩ := o7'.rowObj _ e; exact ho.ne P1.out (by decide) rfl)
        have o9 := o8.kept s2 (fun q hq e => by injection hq with hq; subst hq; obtain ⟨cur, ho⟩ := o8.rowObj _ e; exact ho.ne Q2.out (by decide) rfl)
        have m7 := HW.out.nw nw7
        have m8 := m7.kept g1 (fun q hq e => by injection hq with hq; subst hq; obtain ⟨cur, ho⟩ := m7.rowObj _ e; exact ho.ne P1.out (by decide) rfl)
        have m9 := m8.kept s2 (fun q hq e => by injection hq with hq; subst hq; obtain ⟨cur, ho⟩ := m8.rowObj _ e; exact ho.ne Q2.out (by decide) rfl)
        have hfin := choose_ok (ls := ls) (r := r) (y := y) (A := A7) (M := M) (n := n7) (c := c7) (k := k) (d := d) HRR.out HY.out HV.out
          (nw_of_gb (nw_of_gb (gb_trans Nr.out nw7) g1 (fun q hq => by injection hq with hq; omega)) s2 (fun q hq => by injection hq with hq; omega)) (by rw [e5]; exact o9) (by unfold missL; rw [e5, e4]; exact m9)
        rw [e4] at hfin
        exact hfin
end Go.Proofs.Ytkkkhkkjdjnfhaa


/- What must be in any case: the statements' own small case answers true. -/
namespace Go.Proofs.Ytkkkhkkjdjnfhaa
open Go.RowKit Go.BW

def m3 : List Mem := [⟨0, 200, 0⟩, ⟨1, 300, 0⟩, ⟨2, 160, 0⟩]
def lb3 (g m : Int) (A : Option Addr) (n c : Nat) : Lb := ⟨9, g, m, 16, A, n, c, m3⟩
theorem right3 (m : Int) (A : Option Addr) (c : Nat) (hm : m = 0 ∨ m = 1) : rightB (lb3 4 m A 3 c) = true := by
  rcases hm with rfl | rfl <;> (unfold rightB lb3 m3 inB; simp [goodFrom, mayM, inB])
theorem lost3 (m : Int) (A : Option Addr) (c : Nat) (hm : m = 0 ∨ m = 1) : lostE (lb3 4 m A 3 c) 2 = 0 := by
  unfold lostE
  rw [if_neg (by rw [right3 m A c hm]; decide)]
  rcases hm with rfl | rfl <;>
  · simp only [lb3, m3, List.find?]
    simp [rightB, lostL, lostM, lb3, m3, inB, goodFrom, mayM, failed, List.findIdx?, List.findIdx?.go]
theorem choose_two (A A' : Option Addr) (c c' : Nat) : [lb3 4 0 A 3 c, lb3 4 1 A' 3 c'].filter rightB = [lb3 4 0 A 3 c, lb3 4 1 A' 3 c'] ∧ maxOf [lb3 4 0 A 3 c, lb3 4 1 A' 3 c'] = lb3 4 0 A 3 c ∧
    chooseE [lb3 4 0 A 3 c, lb3 4 1 A' 3 c'] = 0 ∧ missL [lb3 4 0 A 3 c, lb3 4 1 A' 3 c'] (lb3 4 0 A 3 c) = [2] := by
  have h1 : [lb3 4 0 A 3 c, lb3 4 1 A' 3 c'].filter rightB = [lb3 4 0 A 3 c, lb3 4 1 A' 3 c'] := by simp [right3]
  have h2 : maxOf [lb3 4 0 A 3 c, lb3 4 1 A' 3 c'] = lb3 4 0 A 3 c := by simp [maxOf, newer, lb3]
  have h4 : missL [lb3 4 0 A 3 c, lb3 4 1 A' 3 c'] (lb3 4 0 A 3 c) = [2] := by simp [missL, missB, ofM, lb3, m3]
  refine ⟨h1, h2, ?_, h4⟩
  unfold chooseE
  simp only [h1, h2, h4]
  simp [clash, sameB, eqM, lb3]
theorem choose_one (A : Option Addr) (c : Nat) : chooseE [lb3 4 0 A 3 c] = 5 := by
  have h1 : [lb3 4 0 A 3 c].filter rightB = [lb3 4 0 A 3 c] := by simp [right3]
  have h4 : missL [lb3 4 0 A 3 c] (lb3 4 0 A 3 c) = [1, 2] := by simp [missL, missB, ofM, lb3, m3]
  unfold chooseE
  simp only [h1]
  simp [clash, sameB, eqM, maxOf, h4]
end Go.Proofs.Ytkkkhkkjdjnfhaa


/- The statements' own small case answers true. -/
namespace Go.Proofs.Ytkkkhkkjdjnfhaa
open Go.RowKit Go.BW

theorem three_lb (m : Int) (w : World) : Calls Try.prog 14 #[.int .i64 4, .int .i64 m] w
    (fun e w' => ∃ A c, e = .returned (.agg #[.int .i64 9, .int .i64 4, .int .i64 m, .int .i64 16, .slice A 3 c]) ∧ Own w' w.heap.size 28 3 A 3 c (fl mc m3) ∧ Nw w w') := by
  refine (three_any 4 m w).mono ?_
  rintro e w' ⟨A, n, c, rfl, o, k⟩
  have hn : 3 = n := o.lenL mc_len (by decide)
  subst hn
  exact ⟨A, c, rfl, o, k⟩
theorem ok3 {w : World} {base c B : Nat} {A : Option Addr} (g m : Int) (h : Own w base 28 3 A 3 c (fl mc m3)) (hB : w.heap.size ≤ B) : LOk w B (lb3 g m A 3 c) := ⟨h.rd.more hB, h.cap.1, h.cap.2⟩
theorem row_new {w : World} {x : List Lb} {cs : Array Value} {n : Nat} (he : cs.toList = fl lc x) (hn : cs.size = n * 5) (hm : n ≤ maxLen) : Rd (w.alloc (.cells cs 24)) (w.alloc (.cells cs 24)).heap.size 5 (some ⟨w.heap.size, 0, none⟩) n (fl lc x) := by
  rw [← he]
  exact ((Obj1.new w 24 cs).ownN (base := 0) hn (Nat.zero_le _) hm).rd
theorem two_any {w : World} {B1 B2 c1 c2 : Nat} {A1 A2 : Option Addr} (o1 : Own w B1 28 3 A1 3 c1 (fl mc m3)) (o2 : Own w B2 28 3 A2 3 c2 (fl mc m3)) : Calls Try.prog 12 #[.slice (some ⟨w.heap.size, 0, none⟩) 2 2]
    (w.alloc (.cells #[.int .i64 9, .int .i64 4, .int .i64 0, .int .i64 16, .slice A1 3 c1, .int .i64 9, .int .i64 4, .int .i64 1, .int .i64 16, .slice A2 3 c2] 24))
    (fun e w' => Nw w w' ∧ ∃ A c g d, e = .returned (.tuple #[.agg #[.int .i64 9, .int .i64 4, .int .i64 0, .int .i64 16, .slice A 3 c], .slice (some ⟨g, 0, none⟩) 1 d, .int .i64 0]) ∧ Own w' w.heap.size 3 1 (some ⟨g, 0, none⟩) 1 d [.int .i64 2]) := by
  obtain ⟨h1, h2, h3, h4⟩ := choose_two A1 A2 c1 c2
  have hG := World.grownBy_alloc w (.cells #[.int .i64 9, .int .i64 4, .int .i64 0, .int .i64 16, .slice A1 3 c1, .int .i64 9, .int .i64 4, .int .i64 1, .int .i64 16, .slice A2 3 c2] 24) none
  refine (choose_any (row_new (x := [lb3 4 0 A1 3 c1, lb3 4 1 A2 3 c2]) rfl rfl (by unfold maxLen; decide)) ?_ (Nat.le_refl _) (by decide) ?_).mono ?_
  · intro x hx
    simp only [List.mem_cons, List.not_mem_nil, or_false] at hx
    rcases hx with rfl | rfl
    · exact ok3 4 0 (o1.nw hG) (Nat.le_refl _)
    · exact ok3 4 1 (o2.nw hG) (Nat.le_refl _)
  · intro x hx
    simp only [List.mem_cons, List.not_mem_nil, or_false] at hx
    rcases hx with rfl | rfl <;> (simp only [lb3]; omega)
  · rintro e w' ⟨k, hp⟩
    rw [h1, h2, h3, h4] at hp
    rcases hp with ⟨h, _⟩ | ⟨_, A, n, c, M, k', d, rfl, p1, p2⟩
    · exact absurd rfl h
    have hn : 3 = n := p1.lenL mc_len (by decide)
    subst hn
    have hk : 1 = k' := by have := p2.len; rw [Nat.mul_one] at this; exact this
    subst hk
    obtain ⟨g, rfl, _⟩ := p2.some_ (by decide)
    exact ⟨gb_trans hG k, A, c, g, d, rfl, p2.more hG.size⟩
theorem one_any {w : World} {B1 c1 : Nat} {A1 : Option Addr} (o1 : Own w B1 28 3 A1 3 c1 (fl mc m3)) : Calls Try.prog 12 #[.slice (some ⟨w.heap.size, 0, none⟩) 1 1]
    (w.alloc (.cells #[.int .i64 9, .int .i64 4, .int .i64 0, .int .i64 16, .slice A1 3 c1] 24))
    (fun e w' => e = .returned (.tuple #[.agg #[.int .i64 0, .int .i64 0, .int .i64 0, .int .i64 0, .slice none 0 0], .slice none 0 0, .int .i64 5]) ∧ Nw w w') := by
  have h3 := choose_one A1 c1
  have hG := World.grownBy_alloc w (.cells #[.int .i64 9, .int .i64 4, .int .i64 0, .int .i64 16, .slice A1 3 c1] 24) none
  refine (choose_any (row_new (x := [lb3 4 0 A1 3 c1]) rfl rfl (by unfold maxLen; decide)) ?_ (Nat.le_refl _) (by decide) ?_).mono ?_
  · intro x hx
    simp only [List.mem_cons, List.not_mem_nil, or_false] at hx
    subst hx
    exact ok3 4 0 (o1.nw hG) (Nat.le_refl _)
  · intro x hx
    simp only [List.mem_cons, List.not_mem_nil, or_false] at hx
    subst hx; simp only [lb3]; omega
  · rintro e w' ⟨k, hp⟩
    rw [h3] at hp
    rcases hp with ⟨_, rfl⟩ | ⟨h, _⟩
    · exact ⟨rfl, gb_trans hG k⟩
    · exact absurd h (by decide)
theorem lost_m3 : lostM m3 2 = [⟨0, 200, 0⟩, ⟨1, 300, 0⟩, ⟨2, 160, 1⟩] := by simp [lostM, m3, failed, List.findIdx?, List.findIdx?.go]
theorem lost_two {w : World} {B1 c1 : Nat} {A1 : Option Addr} (o1 : Own w B1 28 3 A1 3 c1 (fl mc m3)) : Calls Try.prog 11 #[.agg #[.int .i64 9, .int .i64 4, .int .i64 0, .int .i64 16, .slice A1 3 c1], .int .i64 2] w
    (fun e w' => Nw w w' ∧ ∃ g c, e = .returned (.tuple #[.agg #[.int .i64 9, .int .i64 5, .int .i64 0, .int .i64 16, .slice (some ⟨g, 0, none⟩) 3 c], .int .i64 0]) ∧ Own w' w.heap.size 28 3 (some ⟨g, 0, none⟩) 3 c [.int .i64 0, .int .i64 200, .int .i64 0, .int .i64 1, .int .i64 300, .int .i64 0, .int .i64 2, .int .i64 160, .int .i64 1]) := by
  refine (lost_any (ok3 4 0 o1 (Nat.le_refl _)) (Nat.le_refl _) (by simp only [lb3]; omega)).mono ?_
  rintro e w' ⟨k, hp⟩
  have hm : (lb3 4 0 A1 3 c1).ms = m3 := rfl
  rw [lost3 0 A1 c1 (.inl rfl), hm, lost_m3] at hp
  rcases hp with ⟨h, _⟩ | ⟨_, A, n, c, rfl, p⟩
  · exact absurd rfl h
  have hn : 3 = n := p.lenL mc_len (by decide)
  subst hn
  obtain ⟨g, rfl, _⟩ := p.some_ (by decide)
  exact ⟨k, g, c, rfl, p⟩
end Go.Proofs.Ytkkkhkkjdjnfhaa

