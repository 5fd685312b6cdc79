/- What script.Run answers with the toy; for all scripts that may be. -/
import Derived.Test.YtmcgfnfhpcddlaaJV
import Derived.Test.YtmcgfnfhpcddlaaJP
set_option linter.unusedVariables false
set_option linter.unusedSimpArgs false
namespace Go.Proofs.Ytmcgfnfhpcddlaa
open Go.RowKit Go.BW

theorem SOk.chg {w w' : World} {B : Nat} {x : Sc} {F : List Nat} (h : SOk w B x) (k : Chg w w' F) (hF : ∀ f ∈ F, B ≤ f) (hB : B ≤ w.heap.size) : SOk w' B x := by
  have hk : ∀ q : Addr, q.block < B → w'.cell? q = w.cell? q := fun q hq => World.cell?_of_block (k.block q.block (by omega) (fun hm => by have := hF _ hm; omega))
  exact ⟨h.z.keep hk, h.zc, h.zm, h.a.keep hk, h.ac, h.am, h.ok⟩
theorem mStat (t : Nat) (w : World) : (method 285 28 (.pointer (some ⟨t, 0, none⟩)) "Status").run Try.prog w = .ok (117, .pointer (some ⟨t, 0, none⟩)) w := by kernel_rfl
theorem fld73 (n : Int) : ∀ w : World, (Instr.field 73 (.agg #[.int .i64 n, .slice none 0 0, .int .i64 0, .int .i64 0, .int .i64 0, .int .i64 0, .int .i64 0]) 1).run Try.prog w = .ok (.slice none 0 0) w := fun w => by kernel_rfl
/-- what a run leaves -/
def RunPost (t : Nat) (p : Par) (nd keep : Nat) (acs : List Act) (w : World) (e : Ending) (w' : World) : Prop :=
  ∃ (n : Nat) (ok : Bool) (E : St), e = .returned (.tuple #[.int .i64 (n : Int), .bool ok]) ∧ RunIs p (newS p nd keep) acs n ok E ∧ (∃ b lr lc nr nc, TI w' t b lr lc nr nc p E) ∧ Chg w w' [t]
theorem SI.post {w w1 w' : World} {q : Fx} {K : Nat} {dn : Bool} {p : Par} {E : St} {t nd keep n : Nat} {acs : List Act} {ok : Bool} (h : SI w1 q K dn p E w') (ht : q.t = t) (n1 : Nw w w1) (hr : RunIs p (newS p nd keep) acs n ok E) :
    RunPost t p nd keep acs w (.returned (.tuple #[.int .i64 (n : Int), .bool ok])) w' := by
  obtain ⟨v, h⟩ := h
  subst ht
  exact ⟨n, ok, E, rfl, hr, ⟨_, _, _, _, _, h.tb.ti⟩, (Chg.of_nw n1).trans h.chg (fun _ h => .inl h)⟩
def RunR (w1 : World) (q : Fx) (p : Par) (S0 : St) (acs : List Act) (m : Nat) (k : Nat) (wr : World) : Prop := k ≤ m ∧ (runP p S0 acs k).1 = true ∧ SI w1 q (1 + k) false p (runP p S0 acs k).2 wr
theorem lost_set {w0 w : World} {q : Fx} {v : Vr} {K : Nat} {dn : Bool} {p : Par} {S : St} (h : SIv w0 q v K dn p S w) (lost : Int) : SI w0 q K dn p S (w.setCell ⟨q.st, 5, none⟩ (.int .i64 lost)) := by
  have o := h.so.set 5 (.int .i64 lost)
  exact ⟨_, (h.stg (lost := lost) (mask := v.mask) (ag := S.again) (Chg.set w (by simp) _) o).same (S' := S) rfl rfl rfl rfl rfl rfl rfl rfl rfl⟩
set_option maxHeartbeats 16000000 in
set_option maxRecDepth 100000 in
theorem run_any {w : World} {B t keep : Nat} {x : Sc} {p : Par} (h : SOk w B x) (hB : B ≤ w.heap.size) (hr : rightS (scr x) = true) (h0 : Toy0 w t keep p) (hbl : x.bl = (p.bl : Int)) (hod : p.odd.length = 64) (hat : p.at' ≤ 1000000) (hkp : keep < 18446744073709551616) (hBt : B ≤ t) :
    Calls Try.prog 14 #[sv x, tIf t] w (RunPost t p x.n keep x.acts w) := by
  have hal := h.al
  obtain ⟨hp1, hp2, hp3, hp4, hp5, hp6⟩ := rightS_parts hr
  have HRA := Lib.hid (show ∀ a ∈ x.acts, rightA a = true from hp6)
  have HOA := Lib.hid h.ok
  have hm : x.m ≤ 120 := by rw [← hal]; exact hp4
  have hnn : 3 ≤ x.n ∧ x.n ≤ 12 := by have := h.zl; have h2 : 3 ≤ x.sz.length ∧ x.sz.length ≤ 12 := hp2; omega
  have hpb : 1 ≤ p.bl ∧ p.bl ≤ 96 := by have : 1 ≤ x.bl ∧ x.bl ≤ 96 := hp3; omega
  obtain ⟨W1, hW1⟩ : ∃ W1, w.alloc (.cells #[.int .i64 x.num, .slice x.A x.n x.c, .int .i64 x.bl, .slice x.D x.m x.d] 25) = W1 := ⟨_, rfl⟩
  obtain ⟨X, hX⟩ : ∃ X, w.heap.size = X := ⟨_, rfl⟩
  have n1 : Nw w W1 := by rw [← hW1]; exact World.grownBy_alloc w _ none
  have N1 := Lib.hid n1
  have OX := Lib.hid (show Obj1 W1 X 25 #[.int .i64 x.num, .slice x.A x.n x.c, .int .i64 x.bl, .slice x.D x.m x.d] from by rw [← hW1, ← hX]; exact Obj1.new w _ _)
  have HS1 := Lib.hid (h.nw n1 hB)
  have hB1 : B ≤ W1.heap.size := by have := n1.size; omega
  have HB1 := Lib.hid hB1
  have T1 := Lib.hid (show Toy0 W1 t keep p from Obj1.nw h0 n1)
  have HBT := Lib.hid hBt
  have HRT := right_any HS1.out hB1
  rw [hr] at HRT
  have HST := Lib.hid (fun w2 (n2 : Nw W1 w2) => set_any (HS1.out.nw n2 hB1) (Nat.le_trans hB1 n2.size) hr (Obj1.nw T1.out n2) hbl hod hat hkp)
  have XT := Lib.hid (show X ≠ t from fun e => by have hh : Obj1 W1 t 35 _ := T1.out; exact (OX.out.ne hh (by decide)) e)
  have NP := Lib.hid hpb; have NN := Lib.hid hnn; have MM := Lib.hid hm
  have hl : x.acts.length = x.m := hal
  have LL := Lib.hid hl
  clear h hB hr h0 hbl hod hat hkp hBt hp1 hp2 hp3 hp4 hp5 hp6 hal n1 hpb hnn hB1 hl
  obtain ⟨num, A, n, c, sz, bl, D, m, d, acs⟩ := x
  simp only at hW1 hm OX HS1 LL HRA HOA NN MM ⊢
  obtain ⟨S0, hS0⟩ : ∃ S0, newS p n keep = S0 := ⟨_, rfl⟩
  have HS0 := Lib.hid hS0
  have hbd0 : Bd S0 0 := by rw [← hS0]; have h2 := NN.out; exact ⟨Nat.zero_le _, Nat.zero_le _, ⟨by show 1 ≤ n; omega, by show n ≤ 30; omega⟩, Nat.le_refl _⟩
  have BD := Lib.hid (fun k (hk : k ≤ m) => (run_bd (p := p) hbd0 HRA.out k (by rw [LL.out]; exact hk)).more (show 0 + k * (1 + p.bl) ≤ 12000 by have h1 := MM.out; have h2 := NP.out; have : k * (1 + p.bl) ≤ 120 * 97 := Nat.mul_le_mul (by omega) (by omega); omega))
  clear hbd0
  simp only at HST
  unfold SetPost' at HST
  rw [hS0] at HST
  unfold sv tIf pv at HST
  unfold sv at HRT
  unfold sv tIf
  simp only at HRT HST ⊢
  have HRT' := Lib.hid HRT
  unfold pv
  have x3 : W1.cell? ⟨X, 3, none⟩ = some (.slice D m d) := OX.out.cell 3
  have X3 := Lib.hid (fun wr (k : Chg W1 wr [t]) => show wr.cell? ⟨X, 3, none⟩ = some (.slice D m d) from (OX.out.chg k (by simpa using XT.out)).cell 3)
  have S3 := Lib.hid (fun wr (k : Chg W1 wr [t]) => HS1.out.chg k (by intro f hf; simp at hf; subst hf; exact HBT.out) HB1.out)
  clear HRT hS0
  go_enter Try.func14, Try.ntmps14
  go_upto_region 1 with fail
  clear hW1
  go_upto_region 6 with (first
    | (go_at_call 26; refine (HST.out _ n2).mono ?_; rintro e w3 ⟨q, rfl, qt, s3⟩; have SS := Lib.hid (s3.rebase n2); have QT := Lib.hid qt; clear s3 qt)
    | (go_at_call 15; (with_reducible refine HRT'.out.mono ?_); rintro e w2 ⟨rfl, n2⟩)
    | (refine wpList_load_obj 25 _ rfl rfl rfl (OX.out.nw n2) _ Try.underlying25 rfl (by kernel_rfl) ?_)
    | (refine wpList_load_obj 25 _ rfl rfl rfl OX.out _ Try.underlying25 rfl (by kernel_rfl) ?_))
  have x3' := X3.out w3 (by obtain ⟨v, hv⟩ := SS.out; rw [← QT.out]; exact hv.chg)
  clear x3 HRT' HST
  go_wp2_with fail
  clear x3'
  go_loopw [20] (fun i wr => ∃ k : Nat, i = .int .i64 k ∧ RunR W1 q p S0 acs m k wr) (fun i _ => m - (intOf i).toNat)
  case atStart => exact ⟨0, rfl, Nat.zero_le _, rfl, SS.out⟩
  case round =>
    clear SS
    obtain ⟨k, rfl, hkm, hk1, hsi⟩ := hrel
    have HM := MM.out
    have SI1 := Lib.hid hsi; have HK1 := Lib.hid hk1
    clear hsi hk1
    obtain ⟨v, hv⟩ := SI1.out
    have HV := Lib.hid hv
    have hck : Chg W1 wr [t] := by rw [← QT.out]; exact hv.chg
    have CK := Lib.hid hck
    clear hv hck SI1
    rcases (show k < m ∨ k = m by omega) with hlt | rfl
    · have d1 : (k : Int) < (m : Int) := by omega
      obtain ⟨_, rb, off, a, rfl, hrb, hak, hca⟩ := (S3.out wr CK.out).a.atL actC_len (by decide) hlt
      have HAK := Lib.hid (show acs[k]? = some a from hak)
      have HCA := Lib.hid hca
      have hmem : a ∈ acs := List.mem_of_getElem? hak
      have hra := HRA.out a hmem; have hoa := HOA.out a hmem
      have hb := BD.out k (by omega)
      obtain ⟨Sk, hSk⟩ : ∃ Sk, (runP p S0 acs k).2 = Sk := ⟨_, rfl⟩
      have HSK := Lib.hid hSk
      rw [hSk] at HV hb
      have HDO := fun w2 (n2 : Nw wr w2) => does_any (HV.out.nw n2) (Nat.le_trans hb.cl (by decide)) hb.nd hb.ar (by omega) hra hoa
      have hnext : runP p S0 acs (k + 1) = actP p Sk a := by
        rw [runP, if_pos HK1.out, HSK.out]
        have : acs.getD k (a0 0) = a := by rw [List.getD_eq_getElem?_getD, HAK.out]; rfl
        rw [this]
      have hbd := does_bd (p := p) (a := a) hb hra
      have hdn := does_dn (p := p) (S := Sk) (a := a)
      obtain ⟨r1, hr1⟩ : ∃ r1, (doesP p Sk a).1 = r1 := ⟨_, rfl⟩
      obtain ⟨dn, hdn1⟩ : ∃ dn, (doesP p Sk a).2.1 = dn := ⟨_, rfl⟩
      obtain ⟨Sd, hSd⟩ : ∃ Sd, (doesP p Sk a).2.2 = Sd := ⟨_, rfl⟩
      unfold DoesPost pv at HDO
      rw [hr1, hdn1, hSd] at HDO
      rw [hdn1, hSd] at hdn
      rw [hSd] at hbd
      have hact : actP p Sk a = if r1 = true then (if dn = true then riseP p Sd else (true, Sd)) else (false, Sd) := by unfold actP; rw [hr1, hdn1, hSd]
      rw [hact] at hnext
      have HNX := Lib.hid hnext; have HBD := Lib.hid hbd; have HDNA := Lib.hid hdn
      have HDO' := Lib.hid HDO
      have HB0 := Lib.hid (fun wx (vx : Vr) (hx : SIv W1 q vx (1 + k + 1) dn p Sd wx) => show wx.cell? ⟨q.st, 0, none⟩ = some (pv q.b) from hx.so.cell 0)
      have HUP := Lib.hid (fun wx (vx : Vr) (hx : SIv W1 q vx (1 + k + 1) dn p Sd wx) => show Calls Try.prog 28 #[pv q.b] wx (fun e w' => e = .returned (.bool (!dn)) ∧ wx = w') from up_any hx.tb.bk)
      have I44 := Lib.hid (i44' a)
      have LD := Lib.hid (show ∀ j u, (actC a)[j]? = some u → wr.cell? ⟨rb, off + k * 69 + j, none⟩ = some u from HCA.out)
      unfold pv at HB0 HUP
      clear hak hca hmem hra hoa hb hSk HDO hnext hbd hdn hr1 hdn1 hSd hact hrb HV
      rcases r1 with _ | _
      · go_wp2_with (first
          | (go_at_call 28; refine (HUP.out _ _ h5).mono ?_; rintro e w6 ⟨rfl, rfl⟩)
          | (go_at_call 27; refine (HDO'.out _ N2.out).mono ?_; rintro e w5 ⟨rfl, s5⟩; have H5 := Lib.hid s5; obtain ⟨v5, h5⟩ := s5; have b5 := HB0.out _ _ h5)
          | (refine wpList_load44 _ rfl rfl rfl O2.out ?_)
          | (refine wpList_store44 _ _ rfl rfl a rfl rfl X4.out ?_; intro w2 s2 g2; have O2 := Lib.hid s2; have N2 := Lib.hid (nw_of_gb N4.out g2 (out_of L4.out)); clear s2 g2)
          | (refine wpList_alloc44 rfl rfl ?_; intro yb w4 x4 n4 l4; have X4 := Lib.hid x4; have N4 := Lib.hid n4; have L4 := Lib.hid l4; clear x4 n4 l4)
          | (refine wpList_load_agg 44 _ rfl rfl rfl (actC a) (fun j u hu => LD.out j u hu) _ Try.underlying44 rfl I44.out ?_))
        go_ret2
        have hE : runP p S0 acs (k + 1) = (false, Sd) := by rw [HNX.out]; rfl
        exact SI.post H5.out QT.out N1.out (by rw [HS0.out]; exact .inl ⟨by rw [LL.out]; exact hlt, rfl, HK1.out, by rw [hE], by rw [hE]⟩)
      · rcases dn with _ | _
        · go_upto_region 11 with (first
            | (go_at_call 28; refine (HUP.out _ _ h5).mono ?_; rintro e w6 ⟨rfl, rfl⟩)
            | (go_at_call 27; refine (HDO'.out _ N2.out).mono ?_; rintro e w5 ⟨rfl, s5⟩; have H5 := Lib.hid s5; obtain ⟨v5, h5⟩ := s5; have b5 := HB0.out _ _ h5)
            | (refine wpList_load44 _ rfl rfl rfl O2.out ?_)
            | (refine wpList_store44 _ _ rfl rfl a rfl rfl X4.out ?_; intro w2 s2 g2; have O2 := Lib.hid s2; have N2 := Lib.hid (nw_of_gb N4.out g2 (out_of L4.out)); clear s2 g2)
            | (refine wpList_alloc44 rfl rfl ?_; intro yb w4 x4 n4 l4; have X4 := Lib.hid x4; have N4 := Lib.hid n4; have L4 := Lib.hid l4; clear x4 n4 l4)
            | (refine wpList_load_agg 44 _ rfl rfl rfl (actC a) (fun j u hu => LD.out j u hu) _ Try.underlying44 rfl I44.out ?_))
          obtain ⟨v5, h5⟩ := H5.out
          have hE : runP p S0 acs (k + 1) = (true, Sd) := by rw [HNX.out]; rfl
          have HE := Lib.hid hE
          have H6 := Lib.hid h5
          clear h5 hE H5 HDO' HUP HB0 O2 LD
          obtain ⟨lo, hlo⟩ : ∃ lo, v5.lost = lo := ⟨_, rfl⟩
          have s5 : ∀ w', Nw w5 w' → w'.cell? ⟨q.st, 5, none⟩ = some (.int .i64 lo) := fun w' k' => by rw [← hlo]; exact (H6.out.so.nw k').cell 5
          have s0 : ∀ w', Nw w5 w' → w'.cell? ⟨q.st, 0, none⟩ = some (.pointer (some ⟨q.b, 0, none⟩)) := fun w' k' => (H6.out.so.nw k').cell 0
          have s1 : ∀ w', Nw w5 w' → w'.cell? ⟨q.st, 1, none⟩ = some (.iface 28 (.pointer (some ⟨q.t, 0, none⟩))) := fun w' k' => (H6.out.so.nw k').cell 1
          clear hlo
          rcases (show 0 ≤ lo ∨ lo < 0 by omega) with hl | hl
          · have e1 : decide (0 ≤ lo) = true := decide_eq_true hl
            have HDD := dead_any H6.out.drew.tb.bk lo
            rw [show (v5.y q).b = q.b from rfl] at HDD
            have HTT := status_any H6.out.drew.tb
            rw [show (v5.y q).t = q.t from rfl] at HTT
            have m1 := mStat q.t w5.drew
            unfold pv at HDD HTT
            unfold stat at HTT
            have HDD' := Lib.hid HDD; have HTT' := Lib.hid HTT
            clear HDD HTT
            refine wp_region_held (S := (fun w' => Nw w5 w')) (by kernel_rfl) ?_
            change wpAnyH _ _ _ _ _ _ _ _ (World.drew w5)
            refine held_seg' (l := [0, 1, 2, 3, 4, 5, 6, 7, 8, 9, 10, 11, 12, 13]) (fuel := 12) rfl (by kernel_rfl) (by kernel_rfl) (by simp only [List.filterMap_cons, List.filterMap_nil, List.getElem?_toArray, List.getElem?_cons_succ, List.getElem?_cons_zero]; rfl) (fun _ _ d _ _ h => by cases d <;> exact h) (gb_drew (Nw.refl w5)) ?_
            iterate 14 (refine wpYield_step rfl (fun K hK => ?_)
                        apply Exists.intro
                        refine ⟨fun w' hw' => ?_, ?_⟩
                        · (go_simp; try with_reducible rfl)
                        go_simp
                        refine hK _ ?_
                        clear hK K)
            refine wpYield_nil ?_
            refine held_eff 14 rfl (by kernel_rfl) rfl (fun K hK => ?_)
            go_simp
            refine HDD'.out.mono ?_
            rintro e w8 ⟨⟨qd, rfl⟩, rfl⟩
            refine hK _ _ ⟨gb_drew (Nw.refl w5), ?_⟩
            clear hK K HDD'
            rcases qd with _ | _
            · skip
              refine held_seg' (l := [15, 16, 17, 18, 19, 20, 21, 22, 23, 24, 25]) (fuel := 0) rfl (by kernel_rfl) (by kernel_rfl) (by simp only [List.filterMap_cons, List.filterMap_nil, List.getElem?_toArray, List.getElem?_cons_succ, List.getElem?_cons_zero]; rfl) (fun _ _ d _ _ h => by cases d <;> exact h) (gb_drew (Nw.refl w5)) ?_
              iterate 2 (refine wpYield_step rfl (fun K hK => ?_)
                         apply Exists.intro
                         refine ⟨fun w' hw' => ?_, ?_⟩
                         · (go_simp; try with_reducible rfl)
                         go_simp
                         refine hK _ ?_
                         clear hK K)
              iterate 8 (refine wpYield_skipK rfl (fun K hK => ?_); go_simp; refine hK _ ?_; clear hK K)
              (refine wpYield_step rfl (fun K hK => ?_)
               apply Exists.intro
               refine ⟨fun w' hw' => ?_, ?_⟩
               · (go_simp; try with_reducible rfl)
               go_simp
               refine hK _ ?_
               clear hK K)
              refine wpYield_nil ?_
              refine wpAnyH_done (by kernel_rfl) ?_ _
              clear s5 s0 s1 m1
              go_wp2
              exact ⟨⟨k + 1, rfl, hlt, by rw [HE.out], by rw [HE.out]; exact ⟨v5, H6.out.drew⟩⟩, by simp [intOf]; omega⟩
            · skip
              refine held_seg' (l := [15, 16, 17, 18, 19, 20]) (fuel := 5) rfl (by kernel_rfl) (by kernel_rfl) (by simp only [List.filterMap_cons, List.filterMap_nil, List.getElem?_toArray, List.getElem?_cons_succ, List.getElem?_cons_zero]; rfl) (fun _ _ d _ _ h => by cases d <;> exact h) (gb_drew (Nw.refl w5)) ?_
              iterate 6 (refine wpYield_step rfl (fun K hK => ?_)
                         apply Exists.intro
                         refine ⟨fun w' hw' => ?_, ?_⟩
                         · (go_simp; try with_reducible rfl)
                         go_simp
                         refine hK _ ?_
                         clear hK K)
              refine wpYield_nil ?_
              refine held_eff 21 rfl (by kernel_rfl) rfl (fun K hK => ?_)
              go_simp
              refine HTT'.out.mono ?_
              rintro e w9 ⟨rfl, n9⟩
              have N9 := Lib.hid (gb_of_drew n9)
              refine hK _ _ ⟨N9.out, ?_⟩
              clear hK K n9 m1
              have fl := fld73 (p.bl : Int)
              refine held_seg' (l := [22, 23, 24, 25]) (fuel := 0) rfl (by kernel_rfl) (by kernel_rfl) (by simp only [List.filterMap_cons, List.filterMap_nil, List.getElem?_toArray, List.getElem?_cons_succ, List.getElem?_cons_zero]; rfl) (fun _ _ d _ _ h => by cases d <;> exact h) N9.out ?_
              iterate 4 (refine wpYield_step rfl (fun K hK => ?_)
                         apply Exists.intro
                         refine ⟨fun w' hw' => ?_, ?_⟩
                         · (go_simp; try with_reducible rfl)
                         go_simp
                         refine hK _ ?_
                         clear hK K)
              refine wpYield_nil ?_
              refine wpAnyH_done (by kernel_rfl) ?_ _
              clear s5 s0 s1 fl
              have H9 := Lib.hid (H6.out.nw N9.out)
              have c5 : w9.cell? ⟨q.st, 5, none⟩ = some (.int .i64 v5.lost) := H9.out.so.cell 5
              have c5f := H9.out.so.frozen 5
              go_wp2
              exact ⟨⟨k + 1, rfl, hlt, by rw [HE.out], by rw [HE.out]; exact lost_set H9.out (-1)⟩, by simp [intOf]; omega⟩
          · have e1 : decide (0 ≤ lo) = false := decide_eq_false (by omega)
            skip
            refine wp_region_held (S := (fun w' => Nw w5 w')) (by kernel_rfl) ?_
            change wpAnyH _ _ _ _ _ _ _ _ (World.drew w5)
            refine held_seg' (l := [0, 1, 2, 3, 4, 5, 6, 7, 8, 9, 10, 11, 12, 13, 14, 15, 16, 17, 18, 19, 20, 21, 22, 23, 24, 25]) (fuel := 0) rfl (by kernel_rfl) (by kernel_rfl) (by simp only [List.filterMap_cons, List.filterMap_nil, List.getElem?_toArray, List.getElem?_cons_succ, List.getElem?_cons_zero]; rfl) (fun _ _ d _ _ h => by cases d <;> exact h) (gb_drew (Nw.refl w5)) ?_
            iterate 6 (refine wpYield_step rfl (fun K hK => ?_)
                       apply Exists.intro
                       refine ⟨fun w' hw' => ?_, ?_⟩
                       · (go_simp; try with_reducible rfl)
                       go_simp
                       refine hK _ ?_
                       clear hK K)
            iterate 9 (refine wpYield_skipK rfl (fun K hK => ?_); go_simp; refine hK _ ?_; clear hK K)
            iterate 2 (refine wpYield_step rfl (fun K hK => ?_)
                       apply Exists.intro
                       refine ⟨fun w' hw' => ?_, ?_⟩
                       · (go_simp; try with_reducible rfl)
                       go_simp
                       refine hK _ ?_
                       clear hK K)
            iterate 8 (refine wpYield_skipK rfl (fun K hK => ?_); go_simp; refine hK _ ?_; clear hK K)
            (refine wpYield_step rfl (fun K hK => ?_)
             apply Exists.intro
             refine ⟨fun w' hw' => ?_, ?_⟩
             · (go_simp; try with_reducible rfl)
             go_simp
             refine hK _ ?_
             clear hK K)
            refine wpYield_nil ?_
            refine wpAnyH_done (by kernel_rfl) ?_ _
            clear s5 s0 s1
            go_wp2
            exact ⟨⟨k + 1, rfl, hlt, by rw [HE.out], by rw [HE.out]; exact ⟨v5, H6.out.drew⟩⟩, by simp [intOf]; omega⟩
        · have HRS := Lib.hid (fun wx (vx : Vr) (hx : SIv W1 q vx (1 + k + 1) true p Sd wx) => rises_any hx (by have := HBD.out.cl; omega) HBD.out.nd (HDNA.out rfl) HBD.out.ag (by omega))
          obtain ⟨r3, hr3⟩ : ∃ r3, (riseP p Sd).1 = r3 := ⟨_, rfl⟩
          obtain ⟨Sr, hSr⟩ : ∃ Sr, (riseP p Sd).2 = Sr := ⟨_, rfl⟩
          rw [hr3, hSr] at HRS
          unfold pv at HRS
          have hE : runP p S0 acs (k + 1) = (r3, Sr) := by rw [HNX.out]; show riseP p Sd = _; rw [← hr3, ← hSr]
          have HE := Lib.hid hE
          clear hr3 hSr hE
          rcases r3 with _ | _
          · go_wp2_with (first
              | (go_at_call 29; refine (HRS.out _ _ h5).mono ?_; rintro e w7 ⟨rfl, h7⟩; have H7 := Lib.hid h7; clear h7)
              | (go_at_call 28; refine (HUP.out _ _ h5).mono ?_; rintro e w6 ⟨rfl, rfl⟩)
              | (go_at_call 27; refine (HDO'.out _ N2.out).mono ?_; rintro e w5 ⟨rfl, s5⟩; have H5 := Lib.hid s5; obtain ⟨v5, h5⟩ := s5; have b5 := HB0.out _ _ h5)
              | (refine wpList_load44 _ rfl rfl rfl O2.out ?_)
              | (refine wpList_store44 _ _ rfl rfl a rfl rfl X4.out ?_; intro w2 s2 g2; have O2 := Lib.hid s2; have N2 := Lib.hid (nw_of_gb N4.out g2 (out_of L4.out)); clear s2 g2)
              | (refine wpList_alloc44 rfl rfl ?_; intro yb w4 x4 n4 l4; have X4 := Lib.hid x4; have N4 := Lib.hid n4; have L4 := Lib.hid l4; clear x4 n4 l4)
              | (refine wpList_load_agg 44 _ rfl rfl rfl (actC a) (fun j u hu => LD.out j u hu) _ Try.underlying44 rfl I44.out ?_))
            go_ret2
            exact SI.post H7.out QT.out N1.out (by rw [HS0.out]; exact .inl ⟨by rw [LL.out]; exact hlt, rfl, HK1.out, by rw [HE.out], by rw [HE.out]⟩)
          · go_upto_region 11 with (first
              | (go_at_call 29; refine (HRS.out _ _ h5).mono ?_; rintro e w7 ⟨rfl, h7⟩; have H7 := Lib.hid h7; clear h7)
              | (go_at_call 28; refine (HUP.out _ _ h5).mono ?_; rintro e w6 ⟨rfl, rfl⟩)
              | (go_at_call 27; refine (HDO'.out _ N2.out).mono ?_; rintro e w5 ⟨rfl, s5⟩; have H5 := Lib.hid s5; obtain ⟨v5, h5⟩ := s5; have b5 := HB0.out _ _ h5)
              | (refine wpList_load44 _ rfl rfl rfl O2.out ?_)
              | (refine wpList_store44 _ _ rfl rfl a rfl rfl X4.out ?_; intro w2 s2 g2; have O2 := Lib.hid s2; have N2 := Lib.hid (nw_of_gb N4.out g2 (out_of L4.out)); clear s2 g2)
              | (refine wpList_alloc44 rfl rfl ?_; intro yb w4 x4 n4 l4; have X4 := Lib.hid x4; have N4 := Lib.hid n4; have L4 := Lib.hid l4; clear x4 n4 l4)
              | (refine wpList_load_agg 44 _ rfl rfl rfl (actC a) (fun j u hu => LD.out j u hu) _ Try.underlying44 rfl I44.out ?_))
            obtain ⟨v7, h7⟩ := H7.out
            have H6 := Lib.hid h7
            clear h7 H7 h5 HDO' HUP HB0 HRS O2 LD
            obtain ⟨lo, hlo⟩ : ∃ lo, v7.lost = lo := ⟨_, rfl⟩
            have s5 : ∀ w', Nw w7 w' → w'.cell? ⟨q.st, 5, none⟩ = some (.int .i64 lo) := fun w' k' => by rw [← hlo]; exact (H6.out.so.nw k').cell 5
            have s0 : ∀ w', Nw w7 w' → w'.cell? ⟨q.st, 0, none⟩ = some (.pointer (some ⟨q.b, 0, none⟩)) := fun w' k' => (H6.out.so.nw k').cell 0
            have s1 : ∀ w', Nw w7 w' → w'.cell? ⟨q.st, 1, none⟩ = some (.iface 28 (.pointer (some ⟨q.t, 0, none⟩))) := fun w' k' => (H6.out.so.nw k').cell 1
            clear hlo
            rcases (show 0 ≤ lo ∨ lo < 0 by omega) with hl | hl
            · have e1 : decide (0 ≤ lo) = true := decide_eq_true hl
              have HDD := dead_any H6.out.drew.tb.bk lo
              rw [show (v7.y q).b = q.b from rfl] at HDD
              have HTT := status_any H6.out.drew.tb
              rw [show (v7.y q).t = q.t from rfl] at HTT
              have m1 := mStat q.t w7.drew
              unfold pv at HDD HTT
              unfold stat at HTT
              have HDD' := Lib.hid HDD; have HTT' := Lib.hid HTT
              clear HDD HTT
              refine wp_region_held (S := (fun w' => Nw w7 w')) (by kernel_rfl) ?_
              change wpAnyH _ _ _ _ _ _ _ _ (World.drew w7)
              refine held_seg' (l := [0, 1, 2, 3, 4, 5, 6, 7, 8, 9, 10, 11, 12, 13]) (fuel := 12) rfl (by kernel_rfl) (by kernel_rfl) (by simp only [List.filterMap_cons, List.filterMap_nil, List.getElem?_toArray, List.getElem?_cons_succ, List.getElem?_cons_zero]; rfl) (fun _ _ d _ _ h => by cases d <;> exact h) (gb_drew (Nw.refl w7)) ?_
              iterate 14 (refine wpYield_step rfl (fun K hK => ?_)
                          apply Exists.intro
                          refine ⟨fun w' hw' => ?_, ?_⟩
                          · (go_simp; try with_reducible rfl)
                          go_simp
                          refine hK _ ?_
                          clear hK K)
              refine wpYield_nil ?_
              refine held_eff 14 rfl (by kernel_rfl) rfl (fun K hK => ?_)
              go_simp
              refine HDD'.out.mono ?_
              rintro e w8 ⟨⟨qd, rfl⟩, rfl⟩
              refine hK _ _ ⟨gb_drew (Nw.refl w7), ?_⟩
              clear hK K HDD'
              rcases qd with _ | _
              · skip
                refine held_seg' (l := [15, 16, 17, 18, 19, 20, 21, 22, 23, 24, 25]) (fuel := 0) rfl (by kernel_rfl) (by kernel_rfl) (by simp only [List.filterMap_cons, List.filterMap_nil, List.getElem?_toArray, List.getElem?_cons_succ, List.getElem?_cons_zero]; rfl) (fun _ _ d _ _ h => by cases d <;> exact h) (gb_drew (Nw.refl w7)) ?_
                iterate 2 (refine wpYield_step rfl (fun K hK => ?_)
                           apply Exists.intro
                           refine ⟨fun w' hw' => ?_, ?_⟩
                           · (go_simp; try with_reducible rfl)
                           go_simp
                           refine hK _ ?_
                           clear hK K)
                iterate 8 (refine wpYield_skipK rfl (fun K hK => ?_); go_simp; refine hK _ ?_; clear hK K)
                (refine wpYield_step rfl (fun K hK => ?_)
                 apply Exists.intro
                 refine ⟨fun w' hw' => ?_, ?_⟩
                 · (go_simp; try with_reducible rfl)
                 go_simp
                 refine hK _ ?_
                 clear hK K)
                refine wpYield_nil ?_
                refine wpAnyH_done (by kernel_rfl) ?_ _
                clear s5 s0 s1 m1
                go_wp2
                exact ⟨⟨k + 1, rfl, hlt, by rw [HE.out], by rw [HE.out]; exact ⟨v7, H6.out.drew⟩⟩, by simp [intOf]; omega⟩
              · skip
                refine held_seg' (l := [15, 16, 17, 18, 19, 20]) (fuel := 5) rfl (by kernel_rfl) (by kernel_rfl) (by simp only [List.filterMap_cons, List.filterMap_nil, List.getElem?_toArray, List.getElem?_cons_succ, List.getElem?_cons_zero]; rfl) (fun _ _ d _ _ h => by cases d <;> exact h) (gb_drew (Nw.refl w7)) ?_
                iterate 6 (refine wpYield_step rfl (fun K hK => ?_)
                           apply Exists.intro
                           refine ⟨fun w' hw' => ?_, ?_⟩
                           · (go_simp; try with_reducible rfl)
                           go_simp
                           refine hK _ ?_
                           clear hK K)
                refine wpYield_nil ?_
                refine held_eff 21 rfl (by kernel_rfl) rfl (fun K hK => ?_)
                go_simp
                refine HTT'.out.mono ?_
                rintro e w9 ⟨rfl, n9⟩
                have N9 := Lib.hid (gb_of_drew n9)
                refine hK _ _ ⟨N9.out, ?_⟩
                clear hK K n9 m1
                have fl := fld73 (p.bl : Int)
                refine held_seg' (l := [22, 23, 24, 25]) (fuel := 0) rfl (by kernel_rfl) (by kernel_rfl) (by simp only [List.filterMap_cons, List.filterMap_nil, List.getElem?_toArray, List.getElem?_cons_succ, List.getElem?_cons_zero]; rfl) (fun _ _ d _ _ h => by cases d <;> exact h) N9.out ?_
                iterate 4 (refine wpYield_step rfl (fun K hK => ?_)
                           apply Exists.intro
                           refine ⟨fun w' hw' => ?_, ?_⟩
                           · (go_simp; try with_reducible rfl)
                           go_simp
                           refine hK _ ?_
                           clear hK K)
                refine wpYield_nil ?_
                refine wpAnyH_done (by kernel_rfl) ?_ _
                clear s5 s0 s1 fl
                have H9 := Lib.hid (H6.out.nw N9.out)
                have c5 : w9.cell? ⟨q.st, 5, none⟩ = some (.int .i64 v7.lost) := H9.out.so.cell 5
                have c5f := H9.out.so.frozen 5
                go_wp2
                exact ⟨⟨k + 1, rfl, hlt, by rw [HE.out], by rw [HE.out]; exact lost_set H9.out (-1)⟩, by simp [intOf]; omega⟩
            · have e1 : decide (0 ≤ lo) = false := decide_eq_false (by omega)
              skip
              refine wp_region_held (S := (fun w' => Nw w7 w')) (by kernel_rfl) ?_
              change wpAnyH _ _ _ _ _ _ _ _ (World.drew w7)
              refine held_seg' (l := [0, 1, 2, 3, 4, 5, 6, 7, 8, 9, 10, 11, 12, 13, 14, 15, 16, 17, 18, 19, 20, 21, 22, 23, 24, 25]) (fuel := 0) rfl (by kernel_rfl) (by kernel_rfl) (by simp only [List.filterMap_cons, List.filterMap_nil, List.getElem?_toArray, List.getElem?_cons_succ, List.getElem?_cons_zero]; rfl) (fun _ _ d _ _ h => by cases d <;> exact h) (gb_drew (Nw.refl w7)) ?_
              iterate 6 (refine wpYield_step rfl (fun K hK => ?_)
                         apply Exists.intro
                         refine ⟨fun w' hw' => ?_, ?_⟩
                         · (go_simp; try with_reducible rfl)
                         go_simp
                         refine hK _ ?_
                         clear hK K)
              iterate 9 (refine wpYield_skipK rfl (fun K hK => ?_); go_simp; refine hK _ ?_; clear hK K)
              iterate 2 (refine wpYield_step rfl (fun K hK => ?_)
                         apply Exists.intro
                         refine ⟨fun w' hw' => ?_, ?_⟩
                         · (go_simp; try with_reducible rfl)
                         go_simp
                         refine hK _ ?_
                         clear hK K)
              iterate 8 (refine wpYield_skipK rfl (fun K hK => ?_); go_simp; refine hK _ ?_; clear hK K)
              (refine wpYield_step rfl (fun K hK => ?_)
               apply Exists.intro
               refine ⟨fun w' hw' => ?_, ?_⟩
               · (go_simp; try with_reducible rfl)
               go_simp
               refine hK _ ?_
               clear hK K)
              refine wpYield_nil ?_
              refine wpAnyH_done (by kernel_rfl) ?_ _
              clear s5 s0 s1
              go_wp2
              exact ⟨⟨k + 1, rfl, hlt, by rw [HE.out], by rw [HE.out]; exact ⟨v7, H6.out.drew⟩⟩, by simp [intOf]; omega⟩
    · have d1 : decide ((k : Int) < (k : Int)) = false := decide_eq_false (by omega)
      have x3 := X3.out wr CK.out
      have hb := BD.out k (by omega)
      have HLK := Lib.hid (looks_any HV.out.drew (Nat.le_trans hb.cl (by decide)) (by omega))
      unfold pv at HLK
      clear hb
      go_upto_region 14 with fail
      refine wp_region_held (S := (fun w' => w'.cell? ⟨X, 3, none⟩ = some (.slice D k d))) (by kernel_rfl) ?_
      change wpAnyH _ _ _ _ _ _ _ _ (World.drew wr)
      refine held_seg' (l := [0, 1, 2, 3]) (fuel := 3) rfl (by kernel_rfl) (by kernel_rfl) (by simp only [List.filterMap_cons, List.filterMap_nil, List.getElem?_toArray, List.getElem?_cons_succ, List.getElem?_cons_zero]; rfl) (fun _ _ d _ _ h => by cases d <;> exact h) x3 ?_
      iterate 4 (refine wpYield_step rfl (fun K hK => ?_)
                 apply Exists.intro
                 refine ⟨fun w' hw' => ?_, ?_⟩
                 · (go_simp; try with_reducible rfl)
                 go_simp
                 refine hK _ ?_
                 clear hK K)
      refine wpYield_nil ?_
      refine held_eff 4 rfl (by kernel_rfl) rfl (fun K hK => ?_)
      go_simp
      refine HLK.out.mono ?_
      rintro e w9 ⟨rfl, h9⟩
      have H9 := Lib.hid h9
      have x9 := X3.out w9 (by obtain ⟨v9, hv9⟩ := h9; rw [← QT.out]; exact hv9.chg)
      refine hK _ _ ⟨x9, ?_⟩
      clear hK K h9 HLK
      refine held_seg' (l := [5, 6]) (fuel := 0) rfl (by kernel_rfl) (by kernel_rfl) (by simp only [List.filterMap_cons, List.filterMap_nil, List.getElem?_toArray, List.getElem?_cons_succ, List.getElem?_cons_zero]; rfl) (fun _ _ d _ _ h => by cases d <;> exact h) x9 ?_
      iterate 2 (refine wpYield_step rfl (fun K hK => ?_)
                 apply Exists.intro
                 refine ⟨fun w' hw' => ?_, ?_⟩
                 · (go_simp; try with_reducible rfl)
                 go_simp
                 refine hK _ ?_
                 clear hK K)
      refine wpYield_nil ?_
      refine wpAnyH_done (by kernel_rfl) ?_ _
      go_wp2
      go_ret2
      exact SI.post H9.out QT.out N1.out (by rw [HS0.out]; exact .inr ⟨LL.out.symm, HK1.out, rfl⟩)
end Go.Proofs.Ytmcgfnfhpcddlaa

