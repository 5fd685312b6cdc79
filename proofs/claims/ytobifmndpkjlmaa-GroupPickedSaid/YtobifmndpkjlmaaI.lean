/- group.matched: each of the groups is given a disk, or some set of disks is short. -/
import Derived.Test.YtobifmndpkjlmaaH
import Derived.Carry
namespace Go.Proofs.Ytobifmndpkjlmaa
open Go.RowKit Go.BW

section
variable {P : Program} {ops : Array Oper} {rest : List Oper} {o : Oper} {a : Act} {Q : Exit → Act → World → Prop} {w : World}
theorem wpList_mk (t : TypeId) (hop : o.op = .makeMap t none) (hw : Region.wanted o (yielded ops a.tmps) = true) (hK : wpList P ops Q rest (a.put o.dst (.map (some w.heap.size))) (w.alloc (.map #[] 0))) : wpList P ops Q (o :: rest) a w := by
  refine wpList_ran hw (v := .map (some w.heap.size)) (w' := w.alloc (.map #[] 0)) ?_ hK
  unfold execOp
  simp [hop, run_makeMap]
end
theorem fn_one (k : Nat) (cs bs : Array Value) : ∀ u ∈ [Value.func (.func k) cs bs], u.oneCell' = true := by
  intro u hu; rw [List.mem_singleton] at hu; subst hu; rfl
theorem nw_bl {w w1 w2 : World} {x : Nat} (h : Nw w w1) (k : Below x w1 w2) (hx : w.heap.size = x) : Nw w w2 :=
  ⟨k.os.trans h.os, k.tape.trans h.tape, k.output.trans h.output, Nat.le_trans h.size k.size, fun i hi _ => (k.block i (by omega)).trans (h.block i hi (by simp))⟩
theorem lks_len (gs : List Gp) : (lks gs).length = gs.length := by simp [lks]
theorem GG_new (n j : Nat) : (GG (List.replicate n ⟨none, 0, []⟩)).getD j [] = [] := by
  unfold GG
  rw [List.map_replicate, List.getD_eq_getElem?_getD, List.getElem?_replicate]
  split <;> rfl
theorem giv_new {w1 w5 : World} {base g n bF : Nat} (h : Own w1 base 22 1 (some ⟨g, 0, none⟩) n n (Go.madeCells (Value.slice none 0 0).cells (n * 1)).toList) (hk : w5.heap[g]? = w1.heap[g]?) : GivM w5 base g (List.replicate n ⟨none, 0, []⟩) := by
  refine ⟨?_, ?_, ?_⟩
  · have e : (Go.madeCells (Value.slice none 0 0).cells (n * 1)).toList = (List.replicate n (⟨none, 0, []⟩ : Rw)).map rwv := by
      rw [Nat.mul_one, List.map_replicate]
      apply List.ext_getElem?
      intro j
      rw [List.getElem?_replicate]
      simp only [Array.getElem?_toList]
      by_cases hj : j < n
      · simp [Go.madeCells, Value.cells, hj, rwv, Nat.mod_one]
      · simp [Go.madeCells, hj]
    rw [e] at h
    rw [List.length_replicate]
    exact h.eqb hk
  · intro r hr
    rw [List.mem_replicate] at hr
    obtain ⟨_, rfl⟩ := hr
    exact Own.nil
  · intro i j r s _ hr _ x hx
    have := List.mem_of_getElem? hr
    rw [List.mem_replicate] at this
    obtain ⟨_, rfl⟩ := this
    simp [rwv, Value.ownBlock] at hx
def MatchPost (gs : List Gp) (rs : List Int) (w : World) (e : Ending) (w' : World) : Prop :=
  ∃ b : Bool, e = .returned (.bool b) ∧ (b = true → Mt (lks gs) rs) ∧ (b = false → Short (lks gs) rs) ∧ Nw w w'
set_option maxHeartbeats 8000000 in
theorem matched_any {w : World} {B n c m c2 : Nat} {A A2 : Option Addr} {rs : List Int} {gs : List Gp} (hg : GsR w B A2 m gs) (hr : Rd w B 1 A n (rs.map iv)) (hB : B ≤ w.heap.size) (hn : n ≤ 1000000) (hm : m ≤ 1000000)
    (hM : ∀ r ∈ rs, r ≤ 1000000) : Calls Try.prog 36 #[.slice A2 m c2, .slice A n c] w (MatchPost gs rs w) := by
  have hlen : rs.length = n := by have := hr.1; simpa using this
  have hglen := hg.len
  have HG := Lib.hid (hg.more hB); have HR := Lib.hid (hr.more hB); have HL := Lib.hid hlen; have HGL := Lib.hid hglen; have HM := Lib.hid hM
  have HSM := Lib.hid (show 24 * n ≤ 281474976710656 ∧ n ≤ maxLen from by unfold maxLen; omega)
  clear hg hr hB hlen hglen hM
  have HSW := Lib.hid (show w.heap.size ≤ ((w.alloc (.cells #[.slice A2 m c2] 28)).alloc (.cells #[.slice A n c] 22)).heap.size from by simp; omega)
  go_enter Try.func36, Try.ntmps36
  go_upto_region 4 with (first
    | ((with_reducible refine wpList_mk 63 (by with_unfolding_all exact rfl) (by with_unfolding_all exact rfl) ?_))
    | ((with_reducible refine wpList_make T62 _ _ (by with_unfolding_all exact rfl) (by with_unfolding_all exact rfl) w.heap.size _ _ _ _ n (by with_unfolding_all exact rfl) (by with_unfolding_all exact rfl) (by with_unfolding_all exact rfl) (by with_unfolding_all exact rfl) HSM.out HSW.out ?_); intro g w1 m1 m2 m3))
  obtain ⟨p, hp⟩ : ∃ p : Pm, p = ⟨w.heap.size + 1, w1.heap.size + 1 + 1, w.heap.size, w1.heap.size, w1.heap.size + 1 + 1 + 1, w1.heap.size + 1, g, A, n, c, A2, m, c2⟩ := ⟨_, rfl⟩
  have HINV : ∀ w5, ((((w1.alloc (.cells #[.slice (some ⟨g, 0, none⟩) n n] 62)).alloc (.map #[] 0)).alloc (.cells #[.map (some (w1.heap.size + 1))] 63)).alloc (.cells #[.nilFunc] 50)).grownBy w5 (some (w1.heap.size + 1 + 1 + 1)) →
      Obj1 w5 (w1.heap.size + 1 + 1 + 1) 50 #[.func (.func 46) #[] #[.pointer (some ⟨w.heap.size + 1, 0, none⟩), .pointer (some ⟨w1.heap.size + 1 + 1, 0, none⟩), .pointer (some ⟨w.heap.size, 0, none⟩), .pointer (some ⟨w1.heap.size, 0, none⟩), .pointer (some ⟨w1.heap.size + 1 + 1 + 1, 0, none⟩)]] →
      GiM w5 w.heap.size p rs gs (List.replicate n ⟨none, 0, []⟩) (fun _ => false) ∧ Nw w w5 := by
    intro w5 k5 o5
    have n0 : Nw w w1 := gb_trans (gb_trans (World.grownBy_alloc w _ none) (World.grownBy_alloc _ _ none)) m2
    have oL : Obj1 w1 w.heap.size 28 #[.slice A2 m c2] := (obj_fst w 28 #[.slice A2 m c2] (.cells #[.slice A n c] 22)).nw m2
    have oR : Obj1 w1 (w.heap.size + 1) 22 #[.slice A n c] := (obj_snd w (.cells #[.slice A2 m c2] 28) 22 #[.slice A n c]).nw m2
    have hlt := oR.lt
    have hgs : w.heap.size + 2 ≤ g := by
      have : ((w.alloc (.cells #[.slice A2 m c2] 28)).alloc (.cells #[.slice A n c] 22)).heap.size = w.heap.size + 2 := by simp
      omega
    obtain ⟨curg, og⟩ := m1.obj
    have hglt := og.lt
    have a1 := Obj1.new w1 62 #[.slice (some ⟨g, 0, none⟩) n n]
    have k1 := World.grownBy_alloc w1 (.cells #[.slice (some ⟨g, 0, none⟩) n n] 62) none
    have a2 := MapI.new (w1.alloc (.cells #[.slice (some ⟨g, 0, none⟩) n n] 62))
    have k2 := gb_trans k1 (World.grownBy_alloc _ (.map #[] 0) none)
    have a3 := Obj1.new ((w1.alloc (.cells #[.slice (some ⟨g, 0, none⟩) n n] 62)).alloc (.map #[] 0)) 63 #[.map (some (w1.heap.size + 1))]
    have k3 := gb_trans k2 (World.grownBy_alloc _ (.cells #[.map (some (w1.heap.size + 1))] 63) none)
    have k4 := gb_trans k3 (World.grownBy_alloc _ (.cells #[.nilFunc] 50) none)
    have b1 := ((a1.nw (World.grownBy_alloc _ (.map #[] 0) none)).nw (World.grownBy_alloc _ (.cells #[.map (some (w1.heap.size + 1))] 63) none)).nw (World.grownBy_alloc _ (.cells #[.nilFunc] 50) none)
    have b2 := (a2.nw (World.grownBy_alloc _ (.cells #[.map (some (w1.heap.size + 1))] 63) none)).nw (World.grownBy_alloc _ (.cells #[.nilFunc] 50) none)
    have b3 := a3.nw (World.grownBy_alloc _ (.cells #[.nilFunc] 50) none)
    have e1 : (w1.alloc (.cells #[.slice (some ⟨g, 0, none⟩) n n] 62)).heap.size = w1.heap.size + 1 := by simp
    have e2 : ((w1.alloc (.cells #[.slice (some ⟨g, 0, none⟩) n n] 62)).alloc (.map #[] 0)).heap.size = w1.heap.size + 1 + 1 := by simp
    rw [e1] at b2
    rw [e2] at b3
    have hne : ∀ {i : Nat}, i < w1.heap.size + 1 + 1 + 1 → some i ≠ some (w1.heap.size + 1 + 1 + 1) := fun h e => by injection e with e; omega
    have up : ∀ {i t cs}, Obj1 w1 i t cs → Obj1 w5 i t cs := fun ho => (ho.nw k4).eq (k5.block _ (ho.nw k4).lt (hne (by have := ho.lt; omega)))
    have hsz : w.heap.size ≤ w5.heap.size := Nat.le_trans n0.size (Nat.le_trans k4.size k5.size)
    have hbl : Below w.heap.size w w5 := (nw_of_gb (gb_trans n0 k4) k5 (fun z hz => by injection hz with hz; omega)).below
    subst hp
    refine ⟨⟨⟨up oR, b3.eq (k5.block _ b3.lt (hne (by omega))), up oL, b1.eq (k5.block _ b1.lt (hne (by omega))), o5, HR.out.below hbl, HG.out.below hbl, hsz⟩, ?_, ?_, ?_, by simp, ?_, ?_⟩, nw_below hbl⟩
    · rw [← mapT_none]; exact b2.eq (k5.block _ b2.lt (hne (by omega)))
    · exact giv_new (bF := 0) (m1.more (by omega)) (by rw [k5.block g (Nat.lt_of_lt_of_le hglt k4.size) (hne (by omega)), k4.block g hglt (by simp)])
    · simp only; omega
    · simp only; omega
    · simp only; omega
  have HI := Lib.hid HINV
  have HF := Lib.hid (show Obj1 ((((w1.alloc (.cells #[.slice (some ⟨g, 0, none⟩) n n] 62)).alloc (.map #[] 0)).alloc (.cells #[.map (some (w1.heap.size + 1))] 63)).alloc (.cells #[.nilFunc] 50)) (w1.heap.size + 1 + 1 + 1) 50 #[.nilFunc] from by
    have := Obj1.new (((w1.alloc (.cells #[.slice (some ⟨g, 0, none⟩) n n] 62)).alloc (.map #[] 0)).alloc (.cells #[.map (some (w1.heap.size + 1))] 63)) 50 #[.nilFunc]
    simpa using this)
  obtain ⟨W, hW⟩ : ∃ W, ((((w1.alloc (.cells #[.slice (some ⟨g, 0, none⟩) n n] 62)).alloc (.map #[] 0)).alloc (.cells #[.map (some (w1.heap.size + 1))] 63)).alloc (.cells #[.nilFunc] 50)) = W := ⟨_, rfl⟩
  rw [hW] at HI HF ⊢
  obtain ⟨y, hy⟩ : ∃ y, w1.heap.size = y := ⟨_, rfl⟩
  obtain ⟨x, hx⟩ : ∃ x, w.heap.size = x := ⟨_, rfl⟩
  rw [hy, hx] at HI hp
  rw [hy] at HF
  rw [hy, hx]
  have HX := Lib.hid hx
  subst hp
  clear hW hy hx HINV m1 m2 m3
  go_wp2_with (first
    | ((with_reducible refine wpList_store_obj 50 _ _ (by with_unfolding_all exact rfl) (by with_unfolding_all exact rfl) [.func (.func 46) #[] #[.pointer (some ⟨x + 1, 0, none⟩), .pointer (some ⟨y + 1 + 1, 0, none⟩), .pointer (some ⟨x, 0, none⟩), .pointer (some ⟨y, 0, none⟩), .pointer (some ⟨y + 1 + 1 + 1, 0, none⟩)]] (by with_unfolding_all exact rfl) (by with_unfolding_all exact rfl) (by with_unfolding_all exact rfl) (by kernel_rfl) (fn_one _ _ _) HF.out (by with_unfolding_all exact rfl) ?_); intro w5 s1 s2; have G5 := Lib.hid (HI.out w5 s2 s1); clear s1 s2; have k1 := G5.out.1.bx.hL.cell 0; simp only at k1))
  clear k1
  have CS := Lib.hid (show ∀ w' rows T, GiM w' x ⟨x + 1, y + 1 + 1, x, y, y + 1 + 1 + 1, y + 1, g, A, n, c, A2, m, c2⟩ rs gs rows T → w'.cell? ⟨y + 1 + 1, 0, none⟩ = some (.map (some (y + 1))) ∧ w'.cell? ⟨y + 1 + 1 + 1, 0, none⟩ = some (.func (.func 46) #[] #[.pointer (some ⟨x + 1, 0, none⟩), .pointer (some ⟨y + 1 + 1, 0, none⟩), .pointer (some ⟨x, 0, none⟩), .pointer (some ⟨y, 0, none⟩), .pointer (some ⟨y + 1 + 1 + 1, 0, none⟩)]) from
    fun w' rows T h => ⟨h.bx.cells.2.1, h.bx.cells.2.2.2.2⟩)
  have HC := Lib.hid (show ∀ (k : Nat) (rows : List Rw) (w' : World), k < m → Gd rs (Lf gs) gs.length (GG rows) → GiM w' x ⟨x + 1, y + 1 + 1, x, y, y + 1 + 1 + 1, y + 1, g, A, n, c, A2, m, c2⟩ rs gs rows (fun _ => false) →
      Calls Try.prog 46 #[.int .i64 k, .pointer (some ⟨x + 1, 0, none⟩), .pointer (some ⟨y + 1 + 1, 0, none⟩), .pointer (some ⟨x, 0, none⟩), .pointer (some ⟨y, 0, none⟩), .pointer (some ⟨y + 1 + 1 + 1, 0, none⟩)] w'
        (GivePost x ⟨x + 1, y + 1 + 1, x, y, y + 1 + 1 + 1, y + 1, g, A, n, c, A2, m, c2⟩ rs gs rows (fun _ => false) k w') from
    fun k rows w' hk hgd hgi => give_any x ⟨x + 1, y + 1 + 1, x, y, y + 1 + 1 + 1, y + 1, g, A, n, c, A2, m, c2⟩ rs gs HL.out HGL.out hn hm HM.out _ rows _ k w' (Nat.lt_succ_self _) (by rw [HGL.out]; exact hk) hgd hgi)
  unfold GivePost at HC
  obtain ⟨p, hp⟩ : ∃ p : Pm, p = ⟨x + 1, y + 1 + 1, x, y, y + 1 + 1 + 1, y + 1, g, A, n, c, A2, m, c2⟩ := ⟨_, rfl⟩
  rw [← hp] at CS HC G5
  have MP := Lib.hid (show p.mp = y + 1 by rw [hp])
  have HGD := Lib.hid (show Gd rs (Lf gs) gs.length (GG (List.replicate n ⟨none, 0, []⟩)) from ⟨by rw [GG_len, List.length_replicate, HL.out], fun j _ => by
    rw [GG_new]
    exact ⟨by simp; omega, by simp⟩⟩)
  clear HI hp
  go_loopw [16] (fun v wr => ∃ (k : Nat) (rows : List Rw) (T : Nat → Bool), v = .int .i64 k ∧ k ≤ m ∧ GiM wr x p rs gs rows T ∧ Nw w wr ∧ Hid (Gd rs (Lf gs) gs.length (GG rows)) ∧ Hid ((GG rows).flatten.Perm (List.range k))) (fun v _ => m - (intOf v).toNat)
  case atStart => exact ⟨0, _, _, rfl, Nat.zero_le _, G5.out.1, G5.out.2, HGD, Lib.hid (by
    have : (GG (List.replicate n ⟨none, 0, []⟩)).flatten = [] := by unfold GG; simp
    rw [this]; exact List.Perm.refl _)⟩
  case round =>
    obtain ⟨k, rows, T, rfl, hk, hgi, hnw, hgd, hpm⟩ := hrel
    obtain ⟨k1, k2⟩ := CS.out _ _ _ hgi
    by_cases hlt : k < m
    · have hltz : (k : Int) < (m : Int) := by omega
      have GI := Lib.hid hgi
      have MM := Lib.hid (show MapI wr (y + 1) (mapT T) from by have := hgi.map; rw [MP.out] at this; exact this)
      have HG6 := Lib.hid (show ∀ w6, MapI w6 (y + 1) (fun _ => none) → wr.grownBy w6 (some (y + 1)) → GiM w6 x p rs gs rows (fun _ => false) ∧ Nw w w6 from fun w6 m6 g6 =>
        ⟨GI.out.mapped (by rw [MP.out]; exact g6) (by rw [MP.out, ← mapT_none]; exact m6), nw_of_gb hnw g6 (fun z hz => by injection hz with hz; subst hz; rw [HX.out, ← MP.out]; exact GI.out.mb)⟩)
      clear hgi
      go_wp2_with (first
        | ((with_reducible refine (HC.out _ _ _ hlt hgd.out G6.out.1).mono ?_); rintro e w2 ⟨_ | _, rows', T', rfl, hgi', hbw', hgd', ht', hf'⟩; (have Gb := Lib.hid hgi'; have Bb := Lib.hid hbw'; have Fb := Lib.hid (hf' rfl); clear hgi' hbw' hgd' ht' hf'); rotate_left;
              (have Gb := Lib.hid hgi'; have Bb := Lib.hid hbw'; have Db := Lib.hid hgd'; have Tb := Lib.hid (ht' rfl); clear hgi' hbw' hgd' ht' hf'); rotate_left)
        | ((with_reducible refine wpList_clearI MT63 _ (by with_unfolding_all exact rfl) (by with_unfolding_all exact rfl) (by with_unfolding_all exact rfl) MM.out ?_); intro w6 m6 g6; have G6 := Lib.hid (HG6.out _ m6 g6); clear m6 g6; obtain ⟨k3, k4⟩ := CS.out _ _ _ G6.out.1))
      · go_ret
        exact ⟨false, rfl, fun h => (by cases h), fun _ => given_short (by have := hgd.out; unfold Lf at this; rwa [← lks_len] at this) hpm.out (by rw [lks_len, HGL.out]; exact hlt) Fb.out.2, nw_bl G6.out.2 Bb.out HX.out⟩
      · go_roundw
        case rel => exact ⟨k + 1, rows', T', by go_num, by omega, Gb.out, nw_bl G6.out.2 Bb.out HX.out, Lib.hid Db.out, Lib.hid (by
          have h1 := Tb.out.perm
          have h2 := hpm.out
          rw [List.range_succ]
          exact h1.trans ((h2.cons k).trans (List.perm_append_singleton k _).symm))⟩
        case measure => simp only [intOf]; omega
    · have hkm : k = m := by omega
      have HY := Lib.hid (show Mt (lks gs) rs from given_all (by have := hgd.out; unfold Lf at this; rwa [← lks_len] at this) (by rw [lks_len, HGL.out, ← hkm]; exact hpm.out))
      clear hkm
      go_wp2_with fail
      go_ret
      exact ⟨true, rfl, fun _ => HY.out, fun h => (by cases h), hnw⟩
end Go.Proofs.Ytobifmndpkjlmaa

