/- What script.Bytes returns, for all scripts. -/
import Derived.Test.YtmcgfnfhpcddlaaJF
set_option linter.unusedVariables false
set_option linter.unusedSimpArgs false
namespace Go.Proofs.Ytmcgfnfhpcddlaa
open Go.RowKit Go.BW

def bytesE (s : Scr) : Int := if rightS s then 0 else 1
def bytesO (s : Scr) : List UInt8 := if rightS s then bytesS s else []
def BytesPost (s : Scr) (w : World) (e : Ending) (w' : World) : Prop :=
  ∃ A n c, e = .returned (.tuple #[.slice A n c, .int .i64 (bytesE s)]) ∧ Own w' w.heap.size 5 1 A n c ((bytesO s).map bv) ∧ Nw w w'
theorem b8_emod {v : Int} (h : 0 ≤ v) : Value.int .u8 (v % 256) = bv (b8 v) := by
  unfold bv b8
  congr 1
  simp
  omega
theorem of_mod (n : Nat) : Value.int .u8 ((n : Int) % 256) = bv (UInt8.ofNat n) := by
  unfold bv
  congr 1
theorem bytes_one (bs : List UInt8) : ∀ u ∈ bs.map bv, u.oneCell' = true := by
  intro u hu; obtain ⟨x, _, rfl⟩ := List.mem_map.1 hu; rfl
theorem flat_step {α : Type} {f : α → List UInt8} {l : List α} {k : Nat} {x : α} (h : l[k]? = some x) : ((l.take (k + 1)).map f).flatten = ((l.take k).map f).flatten ++ f x := by
  obtain ⟨hk, rfl⟩ := List.getElem?_eq_some_iff.1 h
  rw [List.take_succ_eq_append_getElem hk, List.map_append, List.flatten_append]
  simp
theorem lenA_le (a : Act) : (actB a).length ≤ 67 ∨ 64 < fillN a.s := by
  rw [actB_len]; unfold lenA
  repeat' split
  all_goals omega
/-- '&a.S[:n]' -/
theorem wpList_secpart {ops : Array Oper} {rest : List Oper} {o : Oper} {a : Go.Act} {Q : Exit → Go.Act → World → Prop} {w : World} (x h : Operand) (hop : o.op = .slice 33 x none (some h) none) (hw : Region.wanted o (yielded ops a.tmps) = true) {g k : Nat}
    (hx : a.eval x = .pointer (some ⟨g, 2, none⟩)) (hh : a.eval h = .int .i64 (k : Int)) (hk : k ≤ 64) (hK : wpList Try.prog ops Q rest (a.put o.dst (.slice (some ⟨g, 2, none⟩) k 64)) w) : wpList Try.prog ops Q (o :: rest) a w := by
  refine wpList_ran hw (w' := w) ?_ hK
  have := run_arr_partO 33 5 64 Try.underlying33 i5 g 2 0 k none (some (.int .i64 k)) (by omega) hk (.inr ⟨rfl, rfl⟩) (.inl rfl) w
  unfold execOp
  simp [hop, hx, hh, this]
theorem ActO.rdS {w : World} {g : Nat} {a : Act} (h : ActO w g a) {k : Nat} (hk : k ≤ 64) (hs : a.s.length = 64) : Rd w w.heap.size 1 (some ⟨g, 2, none⟩) k ((a.s.take k).map bv) := by
  refine ⟨by simp; omega, fun _ => ⟨g, 2, rfl, Obj1.lt h, fun j u hu => h.s j u ?_⟩⟩
  rw [p64_of hs]
  rw [List.getElem?_map, List.getElem?_take] at hu
  split at hu
  · rw [List.getElem?_map]; exact hu
  · cases hu
theorem Obj1.kept'' {w w' : World} {g : Nat} {t : TypeId} {cs : Array Value} {row : Option Nat} (h : Obj1 w g t cs) (k : w.grownBy w' row) (hn : ∀ r, row = some r → g ≠ r) : Obj1 w' g t cs := by
  refine h.chg (Chg.of_gb (F := row.toList) k (by intro q hq; simp [hq])) ?_
  rcases row with _ | r
  · simp
  · simpa using hn r rfl
theorem own_obj' {w : World} {b s n c g : Nat} {t t' : TypeId} {A : Option Addr} {xs : List Value} {cs : Array Value} (h : Own w b t s A n c xs) (h' : Obj1 w g t' cs) (ht : t' ≠ t) :
    ∀ r, (Value.slice A n c).ownBlock = some r → g ≠ r := by
  intro r hr
  obtain ⟨_, q1⟩ := h.rowObj _ hr
  exact h'.ne q1 ht
theorem own_keep {w w' : World} {b s n c g : Nat} {t : TypeId} {A : Option Addr} {xs : List Value} {a : Act} (h : Own w b t s A n c xs) (X : ActO w g a) (ht : t ≠ 44) (k : w.grownBy w' (some g)) : Own w' b t s A n c xs :=
  h.kept k (fun r hr e => by injection hr with hr; subst hr; obtain ⟨_, ho⟩ := h.rowObj _ e; exact Obj1.ne ho X ht rfl)
theorem act_keep {w w' : World} {b s n c g : Nat} {t : TypeId} {A : Option Addr} {xs : List Value} {a : Act} (X : ActO w g a) (h : Own w b t s A n c xs) (ht : t ≠ 44) (k : w.grownBy w' (Value.slice A n c).ownBlock) : ActO w' g a :=
  Obj1.kept'' X k (own_obj' h X (Ne.symm ht))
theorem act_end {w : World} {base n c j : Nat} {A : Option Addr} {F P rest : List UInt8} {acts : List Act} {x : Act} (hx : acts[j]? = some x) (hP : P = F ++ ((acts.take j).map actB).flatten ++ [b8 x.k]) (hB : actB x = b8 x.k :: rest) (h : Own w base 5 1 A n c ((P ++ rest).map bv)) :
    Own w base 5 1 A n c ((F ++ ((acts.take (j + 1)).map actB).flatten).map bv) := by
  rw [flat_step hx, hB]
  subst hP
  simpa using h
theorem bv_b8 {v : Int} (h0 : 0 ≤ v) (h1 : v ≤ 255) : Value.int .u8 v = bv (b8 v) := by
  unfold bv; rw [b8_nat h0 h1]
set_option maxRecDepth 100000 in
set_option maxHeartbeats 8000000 in
theorem sbytes_any {w : World} {B : Nat} {x : Sc} (h : SOk w B x) (hB : B ≤ w.heap.size) : Calls Try.prog 17 #[sv x] w (BytesPost (scr x) w) := by
  have hbox := Obj1.new w 25 #[.int .i64 x.num, .slice x.A x.n x.c, .int .i64 x.bl, .slice x.D x.m x.d]
  have hg0 := World.grownBy_alloc w (.cells #[.int .i64 x.num, .slice x.A x.n x.c, .int .i64 x.bl, .slice x.D x.m x.d] 25) none
  have HRI := Lib.hid (fun w' (k : Nw w w') => right_any (h.nw k hB) (Nat.le_trans hB k.size))
  have hz := h.zl; have ha := h.al
  obtain ⟨R, hR⟩ : ∃ R, rightS (scr x) = R := ⟨_, rfl⟩
  rw [hR] at HRI
  unfold Ret sv at HRI
  unfold sv BytesPost bytesE bytesO
  rw [hR]
  have hp := fun e : R = true => rightS_parts (hR.trans e)
  have hP : bytesS (scr x) = headB (scr x) ++ (x.sz.map (fun n => be 2 n.toNat)).flatten ++ [b8 x.bl, b8 x.acts.length] ++ (x.acts.map actB).flatten := rfl
  have hH : headB (scr x) = [66, 87] ++ be 4 x.num.toNat ++ [b8 x.n] := by rw [← hz]; rfl
  have hok := h.ok
  have HS := Lib.hid h
  obtain ⟨num, A, n, c, sz, bl, D, m, d, acts⟩ := x
  simp only [scr] at hbox hg0 hz ha HRI hp hP hH hok ⊢
  obtain ⟨W, hW⟩ : ∃ W, w.alloc (.cells #[.int .i64 num, .slice A n c, .int .i64 bl, .slice D m d] 25) = W := ⟨_, rfl⟩
  obtain ⟨y, hy⟩ : ∃ y, w.heap.size = y := ⟨_, rfl⟩
  rw [hW] at hbox hg0
  rw [hy] at hbox
  have BX := Lib.hid hbox; have N0 := Lib.hid hg0
  clear hbox hg0 h
  rcases R with _ | _
  · go_enter Try.func17, Try.ntmps17
    go_wp2_with (first | ((with_reducible refine (HRI.out _ N0.out).mono ?_); rintro e w1 ⟨rfl, k1⟩; have B1 := Lib.hid (BX.out.nw k1); have N1 := Lib.hid (gb_trans N0.out k1)) | ((with_reducible refine wpList_load_obj 25 _ (by with_unfolding_all exact rfl) (by with_unfolding_all exact rfl) (by with_unfolding_all exact rfl) BX.out _ Try.underlying25 (by with_unfolding_all exact rfl) (by kernel_rfl) ?_)))
    go_ret2
    exact ⟨none, 0, 0, rfl, Own.nil, N1.out⟩
  obtain ⟨q1, q2, q3, q4, q5, q6⟩ := hp rfl
  have HQ := Lib.hid q5; have HQ6 := Lib.hid q6; have HOK := Lib.hid hok
  obtain ⟨N, hN⟩ : ∃ N : Nat, num = (N : Int) := ⟨num.toNat, by omega⟩
  subst hN
  have hNl : N < 18446744073709551616 := by omega
  have HP := Lib.hid hP; have HH := Lib.hid hH; have HZL := Lib.hid hz; have HAL := Lib.hid ha
  clear hp hP hH hok q5 q6 hR hz ha
  obtain ⟨S, hS⟩ : ∃ S : Scr, S = ⟨(N : Int), sz, bl, acts⟩ := ⟨_, rfl⟩
  rw [← hS] at HP HH ⊢
  clear hS
  go_enter Try.func17, Try.ntmps17
  go_upto_region 3 with (first | ((with_reducible refine (HRI.out _ N0.out).mono ?_); rintro e w1 ⟨rfl, k1⟩; have B1 := Lib.hid (BX.out.nw k1); have N1 := Lib.hid (gb_trans N0.out k1)) | ((with_reducible refine wpList_load_obj 25 _ (by with_unfolding_all exact rfl) (by with_unfolding_all exact rfl) (by with_unfolding_all exact rfl) BX.out _ Try.underlying25 (by with_unfolding_all exact rfl) (by kernel_rfl) ?_)))
  have kc := Lib.run_convert_bytes_const (P := Try.prog) w1 46 5 #[.int .u8 66, .int .u8 87] 2 2 Try.underlying46 Try.underlying5
  have gM : Nw w1 (w1.alloc (.cells #[.int .u8 66, .int .u8 87] 5 (2, 3))) := World.grownBy_alloc w1 _ none
  have rM : Rd (w1.alloc (.cells #[.int .u8 66, .int .u8 87] 5 (2, 3))) (w1.heap.size + 1) 1 (some ⟨w1.heap.size, 0, none⟩) 2 ([66, 87].map bv) := by
    refine ⟨rfl, fun _ => ⟨_, _, rfl, by omega, fun j u hu => ?_⟩⟩
    rw [Nat.zero_add, cell_of_row _ w1.heap.size j #[.int .u8 66, .int .u8 87] 5 (2, 3) (heap_alloc_new w1 _)]
    rcases j with _ | _ | j
    · exact hu
    · exact hu
    · simp at hu
  have k0 := (B1.out.nw gM).cell 0
  have hNm : (N : Int) % 18446744073709551616 = (N : Int) := by omega
  have NM := Lib.hid (gb_trans N1.out gM); have BM := Lib.hid (B1.out.nw gM)
  obtain ⟨V, hV⟩ : ∃ V, w1.alloc (.cells #[.int .u8 66, .int .u8 87] 5 (2, 3)) = V := ⟨_, rfl⟩
  rw [hV] at gM rM k0 NM BM
  have kc' : (convert 46 46 (.slice (some ⟨w1.heap.size, 0, none⟩) 2 2)).run Try.prog (w1.alloc (.cells #[.int .u8 66, .int .u8 87] 5)) = .ok (.slice (some ⟨w1.heap.size, 0, none⟩) 2 2) V := by rw [← hV]; exact kc
  clear kc
  have HW := Lib.hid (put_full_any rM (by rw [← hV]; simp) N hNl (k := 4) (by omega) (by omega) (by omega) (K := 4) rfl)
  unfold PutNew at HW
  have hnl := HZL.out
  have hn4 : (n : Int) % 256 = (n : Int) := by omega
  go_upto_region 4 with (first | ((with_reducible refine HW.out.mono ?_); rintro e w2 ⟨A2, c2, rfl, o2, n2⟩; have B2 := Lib.hid (BM.out.nw n2); have N2 := Lib.hid (gb_trans NM.out n2); have O2 := Lib.hid (o2.more NM.out.size); have k1 := B2.out.cell 1))
  have hbs2 := N2.out.size
  clear o2 n2 k0 kc' HW rM gM hV B1 N1 NM BM
  go_upto_region 5 with (first
    | (at_builtin; refine wpList_app1_own T46 _ _ rfl rfl rfl rfl O2.out rfl (by unfold maxLen; omega) hbs2 ?_; intro A3 c3 w3 o3 g3 b3))
  have N3 := Lib.hid (nw_of_gb N2.out g3 O2.out.blk)
  have B3 := Lib.hid (Obj1.kept'' B2.out g3 (own_obj' O2.out B2.out (by decide)))
  have e3 : ([66, 87] ++ be 4 N).map bv ++ [Value.int .u8 (n : Int)] = (headB S).map bv := by
    rw [HH.out, Int.toNat_natCast, List.map_append (l₂ := [b8 (n : Int)])]
    have := b8_emod (v := (n : Int)) (by omega)
    rw [hn4] at this
    rw [this]; rfl
  rw [e3] at o3
  have O3 := Lib.hid o3
  clear o3 g3 b3 B2 N2 O2 e3 hbs2
  have k1 := B3.out.cell 1
  have hSn : n ≤ 12 := by omega
  go_wp2_with fail
  go_loopw [4, 29] (fun b i wr => ∃ (k n' c' : Nat) (A' : Option Addr), k ≤ n ∧ i = .int .i64 k ∧ n' ≤ 7 + 2 * k ∧ b = .slice A' n' c' ∧ Own wr w.heap.size 5 1 A' n' c' ((headB S ++ ((sz.take k).map (fun n => be 2 n.toNat)).flatten).map bv) ∧ Obj1 wr y 25 #[.int .i64 N, .slice A n c, .int .i64 bl, .slice D m d] ∧ Nw w wr) (fun _ i _ => n - (intOf i).toNat)
  case atStart => exact ⟨0, 7, c3, A3, Nat.zero_le _, rfl, by omega, rfl, by simpa using O3.out, B3.out, N3.out⟩
  case round =>
    obtain ⟨k, n', c', A', hk, rfl, hn', rfl, hown, hbx, hnw⟩ := hrel
    by_cases hlt : k < n
    · obtain ⟨b, off, rfl, hzl', hc⟩ := (HS.out.z.nw hnw hB).atI hlt
      have hlt' : (k : Int) < (n : Int) := by omega
      have hx : sz[k]? = some sz[k] := List.getElem?_eq_getElem hzl'
      obtain ⟨z, hz⟩ : ∃ v, sz[k] = v := ⟨_, rfl⟩
      rw [hz] at hx hc
      have hzr := HQ.out z (List.mem_of_getElem? hx)
      obtain ⟨Z, hZ⟩ : ∃ Z : Nat, z = (Z : Int) := ⟨z.toNat, by omega⟩
      subst hZ
      have HX := Lib.hid (flat_step (f := fun n : Int => be 2 n.toNat) hx)
      have hZm : (Z : Int) % 18446744073709551616 = (Z : Int) := by omega
      have HW := Lib.hid (put_any hown hnw.size Z (by omega) (k := 2) (by omega) (by omega) (K := 2) rfl)
      unfold PutPost at HW
      have BR := Lib.hid hbx; have NR := Lib.hid hnw
      have HO := Lib.hid (own_obj' hown hbx (by decide)); have hblk := hown.blk
      clear hx hz hown hbx hnw hzl'
      go_wp2_with (first | ((with_reducible refine HW.out.mono ?_); rintro e w4 ⟨A4, c4, rfl, g4⟩))
      go_roundw
      case rel =>
        refine ⟨k + 1, n' + 2, c4, A4, by omega, by go_num, by omega, rfl, ?_, Obj1.kept'' BR.out g4.gb HO.out, nw_of_gb NR.out g4.gb hblk⟩
        rw [HX.out, ← List.append_assoc]
        exact g4.own
      case measure => simp only [intOf]; omega
    · have hkn : k = n := by omega
      subst hkn
      have hd : decide ((k : Int) < (k : Int)) = false := by simp
      rw [List.take_of_length_le (by omega)] at hown
      have O4 := Lib.hid hown; have B4 := Lib.hid hbx; have N4 := Lib.hid hnw
      have k2 := hbx.cell 2; have k3 := hbx.cell 3
      have hbl : bl % 256 = bl := by omega
      have hal := HAL.out
      have hml : (m : Int) % 256 = (m : Int) := by omega
      have hbs := hnw.size
      have hblk := hown.blk
      clear hown hbx hnw
      go_upto_region 11 with (first
        | (at_builtin; refine wpList_appM_own T46 (cs := [Value.int .u8 bl, .int .u8 m]) _ _ rfl rfl rfl rfl O4.out rfl (by intro u hu; simp at hu; rcases hu with rfl | rfl <;> rfl) (by unfold maxLen; omega) hbs ?_; intro A5 c5 w5 o5 g5))
      have e5 : (headB S ++ (sz.map (fun n => be 2 n.toNat)).flatten).map bv ++ [Value.int .u8 bl, .int .u8 (m : Int)] = (headB S ++ (sz.map (fun n => be 2 n.toNat)).flatten ++ [b8 bl, b8 (acts.length : Int)]).map bv := by
        rw [List.map_append (l₂ := [b8 bl, b8 (acts.length : Int)]), hal]
        have h1 := b8_emod (v := bl) (by omega)
        have h2 := b8_emod (v := (m : Int)) (by omega)
        rw [hbl] at h1
        rw [hml] at h2
        rw [h1, h2]; rfl
      rw [e5] at o5
      obtain ⟨F, hF⟩ : ∃ F, headB S ++ (sz.map (fun n => be 2 n.toNat)).flatten ++ [b8 bl, b8 (acts.length : Int)] = F := ⟨_, rfl⟩
      rw [hF] at o5
      have HP' := HP.out
      rw [hF] at HP'
      have HPF := Lib.hid HP'
      have O5 := Lib.hid o5
      have B5 := Lib.hid (Obj1.kept'' B4.out g5 (own_obj' O4.out B4.out (by decide)))
      have N5 := Lib.hid (nw_of_gb N4.out g5 hblk)
      have k3 := B5.out.cell 3
      clear e5 o5 g5 HP' hF HP O4 B4 N4 hblk
      go_wp2_with fail
      go_loopw [4, 51] (fun b i wr => ∃ (j n' c' : Nat) (A' : Option Addr), j ≤ m ∧ i = .int .i64 j ∧ n' ≤ 100 + 100 * j ∧ b = .slice A' n' c' ∧ Own wr w.heap.size 5 1 A' n' c' ((F ++ ((acts.take j).map actB).flatten).map bv) ∧ Nw w wr) (fun _ i _ => m - (intOf i).toNat)
      case atStart => exact ⟨0, _, c5, A5, Nat.zero_le _, rfl, by omega, rfl, by simpa using O5.out, N5.out⟩
      case round =>
        obtain ⟨j, n', c', A', hj, rfl, hn', rfl, hown, hnw⟩ := hrel
        by_cases hlt : j < m
        · obtain ⟨_, b, off, x, rfl, hbB, hx, hc⟩ := HS.out.a.atL actC_len (by decide) hlt
          have hlt' : (j : Int) < (m : Int) := by omega
          have HC := Lib.hid (fun w' (k : Nw w w') => show ∀ j' u, (actC x)[j']? = some u → w'.cell? ⟨b, off + j * 69 + j', none⟩ = some u from fun j' u hu => (World.cell?_of_block (k.block b (by omega) (by simp))).trans (hc j' u hu))
          have hok := HOK.out x (List.mem_of_getElem? hx)
          obtain ⟨r1, r2, r3, r4, r5⟩ := rightA_parts (HQ6.out x (List.mem_of_getElem? hx))
          have HX := Lib.hid hx
          have OR := Lib.hid hown; have NR := Lib.hid hnw
          have hk8 : x.k % 256 = x.k := by omega
          have hb8 : x.b % 256 = x.b := by omega
          have ht8 : x.at' % 256 = x.at' := by omega
          have hsl := hok.s; have hml2 := hok.m
          have HR2 := Lib.hid r2
          have hj120 : j < 120 := by omega
          clear hc hx hown hnw r2 hok
          go_upto_region 14 with (first
            | ((with_reducible refine wpList_store44 _ _ (by with_unfolding_all exact rfl) (by with_unfolding_all exact rfl) x (by with_unfolding_all exact rfl) (by with_unfolding_all exact rfl) X1.out ?_); intro w2 s2 g2; have X2 := Lib.hid s2; have O2 := Lib.hid (own_keep O1.out X1.out (by decide) g2); have N2 := Lib.hid (nw_of_gb N1.out g2 (fun q hq => by injection hq with hq; have := NR.out.size; omega)); have hkk := s2.k; have hbs2 := N2.out.size)
            | ((with_reducible refine wpList_alloc44 (by with_unfolding_all exact rfl) (by with_unfolding_all exact rfl) ?_); intro gx w1 x1 n1 l1; have X1 := Lib.hid x1; have N1 := Lib.hid (gb_trans NR.out n1); have O1 := Lib.hid (OR.out.nw n1))
            | ((with_reducible refine wpList_load_agg 44 _ (by with_unfolding_all exact rfl) (by with_unfolding_all exact rfl) (by with_unfolding_all exact rfl) (actC x) (HC.out _ NR.out) _ Try.underlying44 (by with_unfolding_all exact rfl) (i44' x) ?_)))
          go_upto_region 15 with (first
            | (at_builtin; refine wpList_app1_own T46 _ _ rfl rfl rfl rfl O2.out rfl (by unfold maxLen; omega) hbs2 ?_; intro A3 c3 w3 o3 g3 b3))
          have X3 := Lib.hid (act_keep X2.out O2.out (by decide) g3); have N3 := Lib.hid (nw_of_gb N2.out g3 O2.out.blk)
          rw [bv_b8 (v := x.k) (by omega) (by omega), ← List.map_singleton (f := bv), ← List.map_append] at o3
          obtain ⟨P, hP⟩ : ∃ P, F ++ ((acts.take j).map actB).flatten ++ [b8 x.k] = P := ⟨_, rfl⟩
          rw [hP] at o3
          have HPP := Lib.hid hP.symm; have O3 := Lib.hid o3
          have hkk := X3.out.k; have hbb := X3.out.b; have hnn := X3.out.n; have htt := X3.out.t
          have hbs3 := N3.out.size
          have EN := Lib.hid (fun (A : Option Addr) (nn cc : Nat) (ww : World) (rest : List UInt8) (hB : actB x = b8 x.k :: rest) (h : Own ww w.heap.size 5 1 A nn cc ((P ++ rest).map bv)) => act_end (F := F) HX.out HPP.out hB h)
          clear X1 N1 O1 x1 n1 l1 X2 O2 N2 s2 g2 hbs2 o3 g3 b3 OR NR HC hP
          rcases (show x.k = 1 ∨ x.k = 2 ∨ x.k = 3 ∨ x.k = 4 ∨ x.k = 5 ∨ x.k = 6 ∨ x.k = 7 ∨ x.k = 8 ∨ x.k = 9 ∨ x.k = 10 by omega) with e | e | e | e | e | e | e | e | e | e
          · have hEB : actB x = b8 x.k :: ([b8 x.b, UInt8.ofNat (fillN x.s)] ++ x.s.take (fillN x.s)) := by unfold actB; rw [e]; rfl
            have HFL := Lib.hid (fun w' => filled_any x.s hsl w')
            unfold Ret at HFL
            have hfl := fillN_le x.s
            have HOF := Lib.hid (of_mod (fillN x.s))
            obtain ⟨fl, hfl2⟩ : ∃ fl, fillN x.s = fl := ⟨_, rfl⟩
            rw [hfl2] at HFL hEB hfl HOF
            have hfm : (fl : Int) % 256 = (fl : Int) := by omega
            have HE := Lib.hid hEB
            clear hEB hfl2
            have hss : ∀ w', Nw w3 w' → ∀ j u, (x.s.map bv)[j]? = some u → w'.cell? ⟨gx, 2 + j, none⟩ = some u := fun w' k => by have := (X3.out.nw k).s; rwa [p64_of hsl] at this
            have HSS := Lib.hid hss
            clear hss
            go_upto_region 18 with (first | ((with_reducible refine (HFL.out _).mono ?_); rintro e' w4 ⟨rfl, n4⟩) | ((with_reducible refine wpList_load_agg 33 _ (by with_unfolding_all exact rfl) (by with_unfolding_all exact rfl) (by with_unfolding_all exact rfl) (x.s.map bv) (HSS.out _ (Nw.refl _)) _ Try.underlying33 (by with_unfolding_all exact rfl) (i33' hsl) ?_)))
            have X4 := Lib.hid (X3.out.nw n4); have O4 := Lib.hid (O3.out.nw n4); have N4 := Lib.hid (gb_trans N3.out n4); have hbb := X4.out.b; have hbs4 := N4.out.size
            go_upto_region 19 with (first | (at_builtin; refine wpList_appM_own T46 (cs := [Value.int .u8 x.b, .int .u8 fl]) _ _ rfl rfl rfl rfl O4.out rfl (by intro u hu; simp at hu; rcases hu with rfl | rfl <;> rfl) (by unfold maxLen; omega) hbs4 ?_; intro A5 c5 w5 o5 g5))
            have X5 := Lib.hid (act_keep X4.out O4.out (by decide) g5); have N5 := Lib.hid (nw_of_gb N4.out g5 O4.out.blk)
            have e5 : P.map bv ++ [Value.int .u8 x.b, .int .u8 (fl : Int)] = (P ++ [b8 x.b, UInt8.ofNat fl]).map bv := by rw [List.map_append, bv_b8 (v := x.b) (by omega) (by omega), ← hfm, HOF.out]; rfl
            rw [e5] at o5
            have O5 := Lib.hid o5; have hbs5 := N5.out.size
            have hRS := X5.out.rdS (k := fl) (by omega) hsl
            have HRS := Lib.hid hRS
            have hone := bytes_one (x.s.take fl)
            clear hRS e5 o5 g5 n4
            go_wp2_with (first | (at_builtin; refine wpList_app_own T46 _ _ rfl rfl rfl rfl O5.out HRS.out hone (by unfold maxLen; omega) hbs5 ?_; intro A6 c6 w6 o6 g6 b6) | ((with_reducible refine wpList_secpart _ _ (by with_unfolding_all exact rfl) (by with_unfolding_all exact rfl) (by with_unfolding_all exact rfl) (by with_unfolding_all exact rfl) (by omega) ?_)))
            rw [← List.map_append, List.append_assoc] at o6
            have N6 := nw_of_gb N5.out g6 O5.out.blk
            go_roundw
            case rel => exact ⟨j + 1, _, c6, A6, by omega, by go_num, by omega, rfl, EN.out _ _ _ _ ([b8 x.b, UInt8.ofNat fl] ++ x.s.take fl) (HE.out) o6, N6⟩
            case measure => simp only [intOf]; omega
          · have hEB : actB x = b8 x.k :: [b8 x.b] := by unfold actB; rw [e]; rfl
            go_wp2_with (first | (at_builtin; refine wpList_app1_own T46 _ _ rfl rfl rfl rfl O3.out rfl (by unfold maxLen; omega) hbs3 ?_; intro A4 c4 w4 o4 g4 b4))
            rw [bv_b8 (v := x.b) (by omega) (by omega), ← List.map_singleton (f := bv), ← List.map_append] at o4
            have N4 := nw_of_gb N3.out g4 O3.out.blk
            go_roundw
            case rel => exact ⟨j + 1, _, c4, A4, by omega, by go_num, by omega, rfl, EN.out _ _ _ _ [b8 x.b] (hEB) o4, N4⟩
            case measure => simp only [intOf]; omega
          · have hEB : actB x = b8 x.k :: [] := by unfold actB; rw [e]; rfl
            go_wp2
            go_roundw
            case rel => exact ⟨j + 1, _, c3, A3, by omega, by go_num, by omega, rfl, EN.out _ _ _ _ [] (hEB) (by rw [List.append_nil]; exact O3.out), N3.out⟩
            case measure => simp only [intOf]; omega
          · have hn8 : 0 ≤ x.n ∧ x.n ≤ 255 := by have h := r4; rw [e] at h; exact h
            have hn9 : x.n % 256 = x.n := by omega
            have hEB : actB x = b8 x.k :: [b8 x.n] := by unfold actB; rw [e]; rfl
            go_wp2_with (first | (at_builtin; refine wpList_app1_own T46 _ _ rfl rfl rfl rfl O3.out rfl (by unfold maxLen; omega) hbs3 ?_; intro A4 c4 w4 o4 g4 b4))
            rw [bv_b8 (v := x.n) (by omega) (by omega), ← List.map_singleton (f := bv), ← List.map_append] at o4
            have N4 := nw_of_gb N3.out g4 O3.out.blk
            go_roundw
            case rel => exact ⟨j + 1, _, c4, A4, by omega, by go_num, by omega, rfl, EN.out _ _ _ _ [b8 x.n] (hEB) o4, N4⟩
            case measure => simp only [intOf]; omega
          · have hn8 : 0 ≤ x.n ∧ x.n ≤ 65535 := by have h := r4; rw [e] at h; exact h
            have hn9 : x.n % 18446744073709551616 = x.n := by omega
            have hEB : actB x = b8 x.k :: be 2 x.n.toNat := by unfold actB; rw [e]; rfl
            have HE := Lib.hid hEB
            clear hEB
            have hW := put_any O3.out hbs3 x.n.toNat (by omega) (k := 2) (by omega) (by omega) (K := 2) rfl
            rw [Int.toNat_of_nonneg hn8.1] at hW
            unfold PutPost at hW
            have HW := Lib.hid hW
            clear hW
            go_wp2_with (first | ((with_reducible refine HW.out.mono ?_); rintro e' w4 ⟨A4, c4, rfl, g4⟩))
            have N4 := nw_of_gb N3.out g4.gb O3.out.blk
            go_roundw
            case rel => exact ⟨j + 1, _, c4, A4, by omega, by go_num, by omega, rfl, EN.out _ _ _ _ (be 2 x.n.toNat) (HE.out) g4.own, N4⟩
            case measure => simp only [intOf]; omega
          · have hn8 : 0 ≤ x.n ∧ x.n ≤ 255 := by have h := r4; rw [e] at h; exact h
            have hn9 : x.n % 256 = x.n := by omega
            have hEB : actB x = b8 x.k :: [b8 x.n] := by unfold actB; rw [e]; rfl
            go_wp2_with (first | (at_builtin; refine wpList_app1_own T46 _ _ rfl rfl rfl rfl O3.out rfl (by unfold maxLen; omega) hbs3 ?_; intro A4 c4 w4 o4 g4 b4))
            rw [bv_b8 (v := x.n) (by omega) (by omega), ← List.map_singleton (f := bv), ← List.map_append] at o4
            have N4 := nw_of_gb N3.out g4 O3.out.blk
            go_roundw
            case rel => exact ⟨j + 1, _, c4, A4, by omega, by go_num, by omega, rfl, EN.out _ _ _ _ [b8 x.n] (hEB) o4, N4⟩
            case measure => simp only [intOf]; omega
          · have hn8 : 0 ≤ x.n ∧ x.n ≤ 255 := by have h := r4; rw [e] at h; exact h
            have hn9 : x.n % 256 = x.n := by omega
            have hEB : actB x = b8 x.k :: ([b8 x.n] ++ be 8 x.m) := by unfold actB; rw [e]; rfl
            have HE := Lib.hid hEB
            clear hEB
            go_upto_region 28 with fail
            have f1 : ∀ w', ActO w' gx x → w'.cell? ⟨gx, 66, none⟩ = some (.int .i64 x.n) := fun _ h => h.n
            have f2 : ∀ w', ActO w' gx x → w'.cell? ⟨gx, 67, none⟩ = some (.int .i64 x.at') := fun _ h => h.t
            have f3 : ∀ w', ActO w' gx x → w'.cell? ⟨gx, 68, none⟩ = some (.int .u64 (x.m : Int)) := fun _ h => h.m
            have hw9 : IntKind.u8.wrap x.n = x.n := by rw [IntKind.wrap_u8]; omega
            have hwt : IntKind.u8.wrap x.at' = x.at' := by rw [IntKind.wrap_u8]; omega
            refine wp_region_held (S := (fun w' => ActO w' gx x)) (by kernel_rfl) ?_
            change wpAnyH _ _ _ _ _ _ _ _ (World.drew w3)
            have X4 := Lib.hid (show ActO w3.drew gx x from X3.out); have O4 := Lib.hid (show Own w3.drew w.heap.size 5 1 A3 _ c3 (P.map bv) from O3.out); have N4 := Lib.hid (gb_drew N3.out)
            generalize w3.drew = wd at X4 O4 N4 ⊢
            clear X3 O3 N3 hkk hbb hnn htt
            refine held_seg' (l := [0, 1, 2, 3, 6, 7]) (fuel := 4) rfl (by kernel_rfl) (by kernel_rfl) (by simp only [List.filterMap_cons, List.filterMap_nil, List.getElem?_toArray, List.getElem?_cons_succ, List.getElem?_cons_zero]; rfl) (fun _ _ d _ _ h => by cases d <;> exact h) X4.out ?_
            iterate 6 (refine wpYield_step rfl (fun K hK => ?_)
                       apply Exists.intro
                       refine ⟨fun w' hw' => ?_, ?_⟩
                       · (go_simp; try with_reducible rfl)
                       go_simp
                       refine hK _ ?_
                       clear hK K)
            refine wpYield_nil ?_
            refine held_eff 4 rfl (by kernel_rfl) rfl (fun K hK => ?_)
            go_simp
            refine hK _ _ ⟨X4.out.nw (World.grownBy_alloc wd (.cells #[.int .u8 x.n] 5) none), ?_⟩
            clear hK K
            refine held_eff 5 rfl (by kernel_rfl) rfl (fun K hK => ?_)
            refine wp_app_own T46 _ _ rfl rfl rfl (O4.out.nw (World.grownBy_alloc wd (.cells #[.int .u8 x.n] 5) none)) (rd_lit [.int .u8 x.n] 5 1 rfl) (by intro u hu; simp at hu; subst hu; rfl) (by unfold maxLen; omega) (Nat.le_trans N4.out.size (World.grownBy_alloc wd _ none).size) ?_
            intro A5 c5 w5 o5 g5 b5
            have gA := World.grownBy_alloc wd (.cells #[.int .u8 x.n] 5) none
            have X5 := Lib.hid (act_keep (X4.out.nw gA) (O4.out.nw gA) (by decide) g5); have N5 := Lib.hid (nw_of_gb (gb_trans N4.out gA) g5 O4.out.blk)
            have e5 : P.map bv ++ [Value.int .u8 x.n] = (P ++ [b8 x.n]).map bv := by rw [List.map_append, bv_b8 (v := x.n) (by omega) (by omega)]; rfl
            rw [e5] at o5
            have O5 := Lib.hid o5; have hbs5 := N5.out.size
            refine hK _ _ ⟨X5.out, ?_⟩
            clear hK K e5 o5 g5 gA b5 X4 O4 N4
            have hW := put_any O5.out hbs5 x.m hml2 (k := 8) (by omega) (by omega) (K := 8) rfl
            unfold PutPost at hW
            have HW := Lib.hid hW
            clear hW
            refine held_eff 8 rfl (by kernel_rfl) rfl (fun K hK => ?_)
            go_simp
            refine HW.out.mono ?_
            rintro e' w6 ⟨A6, c6, rfl, g6⟩
            have X6 := Lib.hid (act_keep X5.out O5.out (by decide) g6.gb); have N6 := Lib.hid (nw_of_gb N5.out g6.gb O5.out.blk)
            refine hK _ _ ⟨X6.out, ?_⟩
            clear hK K
            refine held_seg' (l := [9]) (fuel := 0) rfl (by kernel_rfl) (by kernel_rfl) (by simp only [List.filterMap_cons, List.filterMap_nil, List.getElem?_toArray, List.getElem?_cons_succ, List.getElem?_cons_zero]; rfl) (fun _ _ d _ _ h => by cases d <;> exact h) X6.out ?_
            (refine wpYield_step rfl (fun K hK => ?_)
             apply Exists.intro
             refine ⟨fun w' hw' => ?_, ?_⟩
             · (go_simp; try with_reducible rfl)
             go_simp
             refine hK _ ?_
             clear hK K)
            refine wpYield_nil ?_
            refine wpAnyH_done (by kernel_rfl) ?_ _
            go_wp2
            have o6 := g6.own
            rw [List.append_assoc] at o6
            go_roundw
            case rel => exact ⟨j + 1, _, c6, A6, by omega, by go_num, by omega, rfl, EN.out _ _ _ _ ([b8 x.n] ++ be 8 x.m) (HE.out) o6, N6.out⟩
            case measure => simp only [intOf]; omega
          · have hn8 : 0 ≤ x.n ∧ x.n ≤ 255 := by have h := r4; rw [e] at h; exact h
            have hn9 : x.n % 256 = x.n := by omega
            have hEB : actB x = b8 x.k :: ([b8 x.at', b8 x.n] ++ be 8 x.m) := by unfold actB; rw [e]; rfl
            have HE := Lib.hid hEB
            clear hEB
            go_upto_region 30 with fail
            have f1 : ∀ w', ActO w' gx x → w'.cell? ⟨gx, 66, none⟩ = some (.int .i64 x.n) := fun _ h => h.n
            have f2 : ∀ w', ActO w' gx x → w'.cell? ⟨gx, 67, none⟩ = some (.int .i64 x.at') := fun _ h => h.t
            have f3 : ∀ w', ActO w' gx x → w'.cell? ⟨gx, 68, none⟩ = some (.int .u64 (x.m : Int)) := fun _ h => h.m
            have hw9 : IntKind.u8.wrap x.n = x.n := by rw [IntKind.wrap_u8]; omega
            have hwt : IntKind.u8.wrap x.at' = x.at' := by rw [IntKind.wrap_u8]; omega
            refine wp_region_held (S := (fun w' => ActO w' gx x)) (by kernel_rfl) ?_
            change wpAnyH _ _ _ _ _ _ _ _ (World.drew w3)
            have X4 := Lib.hid (show ActO w3.drew gx x from X3.out); have O4 := Lib.hid (show Own w3.drew w.heap.size 5 1 A3 _ c3 (P.map bv) from O3.out); have N4 := Lib.hid (gb_drew N3.out)
            generalize w3.drew = wd at X4 O4 N4 ⊢
            clear X3 O3 N3 hkk hbb hnn htt
            refine held_seg' (l := [0, 1, 2, 3, 4, 5, 6, 9, 10]) (fuel := 4) rfl (by kernel_rfl) (by kernel_rfl) (by simp only [List.filterMap_cons, List.filterMap_nil, List.getElem?_toArray, List.getElem?_cons_succ, List.getElem?_cons_zero]; rfl) (fun _ _ d _ _ h => by cases d <;> exact h) X4.out ?_
            iterate 9 (refine wpYield_step rfl (fun K hK => ?_)
                       apply Exists.intro
                       refine ⟨fun w' hw' => ?_, ?_⟩
                       · (go_simp; try with_reducible rfl)
                       go_simp
                       refine hK _ ?_
                       clear hK K)
            refine wpYield_nil ?_
            refine held_eff 7 rfl (by kernel_rfl) rfl (fun K hK => ?_)
            go_simp
            refine hK _ _ ⟨X4.out.nw (World.grownBy_alloc wd (.cells #[.int .u8 x.at', .int .u8 x.n] 5) none), ?_⟩
            clear hK K
            refine held_eff 8 rfl (by kernel_rfl) rfl (fun K hK => ?_)
            refine wp_app_own T46 _ _ rfl rfl rfl (O4.out.nw (World.grownBy_alloc wd (.cells #[.int .u8 x.at', .int .u8 x.n] 5) none)) (rd_lit [.int .u8 x.at', .int .u8 x.n] 5 2 rfl) (by intro u hu; simp at hu; rcases hu with rfl | rfl <;> rfl) (by unfold maxLen; omega) (Nat.le_trans N4.out.size (World.grownBy_alloc wd _ none).size) ?_
            intro A5 c5 w5 o5 g5 b5
            have gA := World.grownBy_alloc wd (.cells #[.int .u8 x.at', .int .u8 x.n] 5) none
            have X5 := Lib.hid (act_keep (X4.out.nw gA) (O4.out.nw gA) (by decide) g5); have N5 := Lib.hid (nw_of_gb (gb_trans N4.out gA) g5 O4.out.blk)
            have e5 : P.map bv ++ [Value.int .u8 x.at', Value.int .u8 x.n] = (P ++ [b8 x.at', b8 x.n]).map bv := by rw [List.map_append, bv_b8 (v := x.at') (by omega) (by omega), bv_b8 (v := x.n) (by omega) (by omega)]; rfl
            rw [e5] at o5
            have O5 := Lib.hid o5; have hbs5 := N5.out.size
            refine hK _ _ ⟨X5.out, ?_⟩
            clear hK K e5 o5 g5 gA b5 X4 O4 N4
            have hW := put_any O5.out hbs5 x.m hml2 (k := 8) (by omega) (by omega) (K := 8) rfl
            unfold PutPost at hW
            have HW := Lib.hid hW
            clear hW
            refine held_eff 11 rfl (by kernel_rfl) rfl (fun K hK => ?_)
            go_simp
            refine HW.out.mono ?_
            rintro e' w6 ⟨A6, c6, rfl, g6⟩
            have X6 := Lib.hid (act_keep X5.out O5.out (by decide) g6.gb); have N6 := Lib.hid (nw_of_gb N5.out g6.gb O5.out.blk)
            refine hK _ _ ⟨X6.out, ?_⟩
            clear hK K
            refine held_seg' (l := [12]) (fuel := 0) rfl (by kernel_rfl) (by kernel_rfl) (by simp only [List.filterMap_cons, List.filterMap_nil, List.getElem?_toArray, List.getElem?_cons_succ, List.getElem?_cons_zero]; rfl) (fun _ _ d _ _ h => by cases d <;> exact h) X6.out ?_
            (refine wpYield_step rfl (fun K hK => ?_)
             apply Exists.intro
             refine ⟨fun w' hw' => ?_, ?_⟩
             · (go_simp; try with_reducible rfl)
             go_simp
             refine hK _ ?_
             clear hK K)
            refine wpYield_nil ?_
            refine wpAnyH_done (by kernel_rfl) ?_ _
            go_wp2
            have o6 := g6.own
            rw [List.append_assoc] at o6
            go_roundw
            case rel => exact ⟨j + 1, _, c6, A6, by omega, by go_num, by omega, rfl, EN.out _ _ _ _ ([b8 x.at', b8 x.n] ++ be 8 x.m) (HE.out) o6, N6.out⟩
            case measure => simp only [intOf]; omega
          · have hn8 : 0 ≤ x.n ∧ x.n ≤ 255 := by have h := r4; rw [e] at h; exact h
            have hn9 : x.n % 256 = x.n := by omega
            have hEB : actB x = b8 x.k :: [b8 x.n, b8 x.at'] := by unfold actB; rw [e]; rfl
            go_wp2_with (first | (at_builtin; refine wpList_appM_own T46 (cs := [Value.int .u8 x.n, .int .u8 x.at']) _ _ rfl rfl rfl rfl O3.out rfl (by intro u hu; simp at hu; rcases hu with rfl | rfl <;> rfl) (by unfold maxLen; omega) hbs3 ?_; intro A4 c4 w4 o4 g4))
            have e4 : P.map bv ++ [Value.int .u8 x.n, .int .u8 x.at'] = (P ++ [b8 x.n, b8 x.at']).map bv := by rw [List.map_append, bv_b8 (v := x.n) (by omega) (by omega), bv_b8 (v := x.at') (by omega) (by omega)]; rfl
            rw [e4] at o4
            have N4 := nw_of_gb N3.out g4 O3.out.blk
            go_roundw
            case rel => exact ⟨j + 1, _, c4, A4, by omega, by go_num, by omega, rfl, EN.out _ _ _ _ [b8 x.n, b8 x.at'] (hEB) o4, N4⟩
            case measure => simp only [intOf]; omega
          · have hEB : actB x = b8 x.k :: [] := by unfold actB; rw [e]; rfl
            go_wp2
            go_roundw
            case rel => exact ⟨j + 1, _, c3, A3, by omega, by go_num, by omega, rfl, EN.out _ _ _ _ [] (hEB) (by rw [List.append_nil]; exact O3.out), N3.out⟩
            case measure => simp only [intOf]; omega
        · have hje : j = m := by omega
          subst hje
          have hd2 : decide ((j : Int) < (j : Int)) = false := by simp
          rw [List.take_of_length_le (by rw [HAL.out]; exact Nat.le_refl _), ← HPF.out] at hown
          have OR := Lib.hid hown
          clear hown
          go_wp2
          go_ret2
          exact ⟨A', n', c', rfl, by have h := OR.out; rw [hy] at h; exact h, hnw⟩
end Go.Proofs.Ytmcgfnfhpcddlaa

