/- The Go function VmapWhole returns true for every int and slice of changes; without conditions. -/
import Derived.Test.YtfpllllglpjipaaG
namespace Go.Proofs.Ytfpllllglpjipaa
open Go.RowKit Go.BW

def WholeRel (w : World) (ga gb N : Nat) (wr : World) : Prop := ∃ ps, VS w wr ga ps ∧ Inv ps ∧ ps.length = N ∧ VRep wr gb (List.replicate N w0)
def WholeRel2 (w : World) (gb N n8 c8 : Nat) (A8 : Option Addr) (ps : List Wh) (k : Nat) (A : Option Addr) (n c : Nat) (wr : World) : Prop :=
  Own wr w.heap.size 33 4 A n c (fl cc (chs ps k)) ∧ VRep wr gb (List.replicate N w0) ∧ Own wr 0 31 3 A8 n8 c8 (fl wc ps) ∧ Nw w wr
set_option maxRecDepth 100000 in
set_option maxHeartbeats 8000000 in
theorem whole_walk (n0 : Int) (_ : -9223372036854775808 ≤ n0 ∧ n0 ≤ 9223372036854775807) {w : World} (A : Option Addr) (len cap : Nat) (l : List Ch) (hin : InC w A len cap l) :
    Calls Try.prog 3 #[.int .i64 n0, .slice A len cap] w (Ret (.bool true) w) := by
  obtain ⟨hr, hc, hcm, hll, hok⟩ := hin
  have HR := Lib.hid (show Rd w w.heap.size 4 A len (fl cc l) from hr)
  have HOK := Lib.hid hok
  have HLL := Lib.hid hll
  clear hr hok hll
  unfold maxLen at hcm
  obtain ⟨N, hN⟩ : ∃ N, numN n0 = N := ⟨_, rfl⟩
  have hNb := numN_b n0
  have hnew := fun w => new_any n0 w
  rw [hN] at hNb hnew
  have HNEW := Lib.hid hnew; clear hnew hN
  go_enter Try.func3, Try.ntmps3
  go_wp2_with (first | ((with_reducible refine (shown_any _).mono ?_); rintro e w1 ⟨rfl, n1⟩; have N1 := Lib.hid n1; clear n1) |
    (refine (HNEW.out _).mono ?_; rintro e w3 h1; obtain ⟨gb, rfl, s1, hgb, n3⟩ := VS.of_new S1.out.nw h1; have S2 := Lib.hid s1; have HG := Lib.hid (show ga ≠ gb from by have := S1.out.rep.lt; omega); have S1b := Lib.hid (S1.out.more n3); clear s1 h1 hgb n3; unfold pv) |
    (refine (HNEW.out _).mono ?_; rintro e w2 h1; obtain ⟨ga, rfl, s1, hga, n2⟩ := VS.of_new N1.out h1; have S1 := Lib.hid s1; clear s1 h1 hga n2; unfold pv))
  go_loopw [8] (fun i wr => ∃ i' : Nat, i = .int .i64 i' ∧ i' ≤ 100 ∧ i' ≤ len ∧ WholeRel w ga gb N wr) (fun i _ => 100 - (intOf i).toNat)
  case atStart => exact ⟨0, rfl, by omega, by omega, _, S1b.out, inv_zero N, by simp, S2.out.rep⟩
  case round =>
    obtain ⟨i, rfl, hi1, hi2, ps, s5, inv5, len5, b5⟩ := hrel
    have S5 := Lib.hid s5; have I5 := Lib.hid inv5; have L5 := Lib.hid len5; have B5 := Lib.hid b5; clear s5 inv5 len5 b5
    by_cases hlt : i < len ∧ i < 100
    · obtain ⟨hlt1, hlt2⟩ := hlt
      obtain ⟨b, off, rfl, _⟩ := HR.out.2 (by omega)
      obtain ⟨x, hx⟩ : ∃ x, l[i]? = some x := ⟨l[i]'(by rw [HLL.out]; exact hlt1), List.getElem?_eq_getElem _⟩
      have HX := Lib.hid hx; clear hx
      go_wp2_with (refine (set_any S5.out.rep (rd_one4 (HR.out.nw S5.out.nw (Nat.le_refl _)) hlt1 HX.out) S5.out.nw.size (by omega) (by simp; exact HOK.out _ (List.mem_of_getElem? HX.out)) I5.out.ok).mono ?_; intro e w6 h6; obtain ⟨rfl, s6, c6⟩ := S5.out.set h6; have S6 := Lib.hid s6; have I6 := Lib.hid (inv_set (l := [x]) I5.out (by simp; exact HOK.out _ (List.mem_of_getElem? HX.out)))
                   have B6 := Lib.hid (by obtain ⟨_, _, _, hv⟩ := S5.out.rep; exact B5.out.chg c6 (fun e => HG.out e.symm) hv.obj (by decide) : VRep w6 gb (List.replicate N w0)); clear s6 c6 h6)
      exact ⟨⟨i + 1, by go_num, by omega, hlt1, _, S6.out, I6.out, by rw [setF_len]; exact L5.out, B6.out⟩, by simp [intOf]; omega⟩
    · have hcases : (¬ i < len) ∨ (i < len ∧ i = 100) := by omega
      clear hlt
      rcases hcases with hlt1 | ⟨hlt1, rfl⟩
      all_goals
        go_wp2_with (refine (all_any S5.out.rep).mono ?_; rintro e w7 ⟨A8, n8, c8, rfl, o7, n7⟩; have O7 := Lib.hid (o7.more (Nat.zero_le _)); have hl8 := o7.lenL wc_len (by omega); have hn8 : n8 = N := (by have := L5.out; omega); subst hn8; have S7 := Lib.hid (S5.out.more n7); have B7 := Lib.hid (B5.out.nw n7); clear o7 n7 hl8)
        go_loopw [10, 11] (fun s i wr => ∃ (k : Nat) (A' : Option Addr) (n' c' : Nat), k ≤ n8 ∧ i = .int .i64 k ∧ s = .slice A' n' c' ∧ WholeRel2 w gb n8 n8 c8 A8 ps k A' n' c' wr) (fun _ i _ => n8 - (intOf i).toNat)
        case atStart => exact ⟨0, none, 0, 0, Nat.zero_le _, rfl, rfl, Own.nil, B7.out, O7.out, S7.out.nw⟩
        case round =>
          obtain ⟨k, A', n', c', hk, rfl, rfl, o9, b9, oa9, nw9⟩ := hrel
          have hn' : n' = k := by have := o9.lenL cc_len (by omega); rw [chs_len ps k (by rw [L5.out]; exact hk)] at this; omega
          subst hn'
          have O9 := Lib.hid o9; have B9 := Lib.hid b9; have OA9 := Lib.hid oa9; have NW9 := Lib.hid nw9; clear o9 b9 oa9 nw9
          by_cases hlk : n' < n8
          · obtain ⟨b8, off8, x, rfl, hx, hcl⟩ := wh3 OA9.out.rd (Nat.le_refl _) hlk
            obtain ⟨f0, f1, f2⟩ := hcl _ (Nw.refl _)
            have HCH := Lib.hid (show chs ps (n' + 1) = chs ps n' ++ [⟨n', x⟩] from by rw [chs, hx])
            clear hcl hx
            go_wp2_with (at_builtin; refine wpList_appN_own (cs := cc ⟨(n' : Int), x⟩) T22 _ _ rfl rfl rfl rfl O9.out rfl (cc_one _) (by unfold maxLen; omega) NW9.out.size ?_; intro A2 c2 w10 o10 g10 e10; have O10 := Lib.hid o10; have G10 := Lib.hid g10; clear o10 g10 e10)
            have hoa : Own w10 0 31 3 (some ⟨b8, off8, none⟩) n8 c8 (fl wc ps) := by
              obtain ⟨g8, e8, _⟩ := OA9.out.some_ (by omega)
              injection e8 with e8; injection e8 with e81 e82; subst e81; subst e82
              obtain ⟨cur, h8⟩ := OA9.out.obj
              refine OA9.out.eqb (G10.out.block b8 h8.lt fun e => ?_)
              obtain ⟨cu, hc⟩ := O9.out.rowObj b8 e.symm
              exact hc.ne h8 (by decide) rfl
            refine ⟨⟨n' + 1, A2, n' + 1, c2, hlk, by go_num, rfl, by rw [HCH.out, fl_app, fl_one]; exact O10.out, B9.out.grow G10.out O9.out (by decide) (by decide), hoa, nw_of_gb NW9.out G10.out O9.out.blk⟩, by simp [intOf]; omega⟩
          · have hk' : n' = n8 := by omega
            subst hk'
            have HOC := Lib.hid (show ∀ c ∈ chs ps n', okC c from by
              intro c hc
              obtain ⟨i, x, hx, hi, rfl⟩ := chs_mem ps n' (by rw [L5.out]; exact Nat.le_refl _) c hc
              have := I5.out.ok x (List.mem_of_getElem? hx)
              refine ⟨?_, this⟩
              show okI (i : Int)
              unfold okI
              omega)
            have HSF := Lib.hid (show setF (List.replicate n' w0) (chs ps n') = (0, ps) from by have := set_chs I5.out; rwa [L5.out] at this)
            have HZ0 := Lib.hid (inv_zero n').ok
            go_wp2_with fail
            refine (set_any B9.out O9.out.rd (Nat.le_refl _) (by omega) HOC.out HZ0.out).mono ?_
            rintro e w11 ⟨rfl, v11, c11⟩
            rw [HSF.out] at v11 ⊢
            have V11 := Lib.hid v11
            have NW11 := Lib.hid (nw_of_chg NW9.out c11 (by intro x hx; simp at hx; subst hx; exact S2.out.ge) : Nw w w11)
            have OA11 := Lib.hid (show Own w11 0 31 3 A8 n' c8 (fl wc ps) from by
              rcases A8 with _ | a8
              · rcases OA9.out.2 with ⟨h1, h2⟩ | ⟨g', cap, cur, hv, _⟩
                · exact ⟨OA9.out.1, .inl ⟨h1, h2⟩⟩
                · injection hv with hv; cases hv
              · rcases Nat.eq_zero_or_pos n' with h0 | h0
                · omega
                · obtain ⟨g8, e8, _⟩ := OA9.out.some_ h0
                  injection e8 with e8; subst e8
                  obtain ⟨cur, h8⟩ := OA9.out.obj
                  obtain ⟨_, _, _, hv⟩ := B9.out
                  exact OA9.out.eqb (c11.block g8 h8.lt (by simpa using h8.ne hv.obj (by decide))))
            clear v11 c11
            have HL5 := Lib.hid (show ps.length = n' from L5.out)
            go_wp2_with fail
            refine (all_any V11.out).mono ?_
            rintro e w12 ⟨A12, n12, c12, rfl, o12, m12⟩
            have hl12 : n12 = n' := by have h1 := o12.lenL wc_len (by omega); have h2 := HL5.out; omega
            obtain rfl : n12 = n' := hl12
            have O12 := Lib.hid o12
            have OA12 := Lib.hid (OA11.out.nw m12)
            have M12 := Lib.hid m12
            clear o12 m12
            have HSM := Lib.hid (fun (c d : Nat) => same_any (c := c) (d := d) O12.out.rd OA12.out.rd (Nat.le_refl _) (by omega) (by omega))
            go_wp2_with fail
            refine (HSM.out _ _).mono ?_
            rintro e w13 ⟨rfl, n13⟩
            rw [eqL_self]
            have N13 := Lib.hid n13
            clear n13
            go_wp2
            go_ret
            exact ⟨rfl, gb_trans NW11.out (gb_trans M12.out N13.out)⟩
end Go.Proofs.Ytfpllllglpjipaa

