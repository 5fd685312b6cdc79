/- The document's Move and Pick. -/
import Derived.Test.YtobifmndpkjlmaaJJ
import Derived.Test.YtobifmndpkjlmaaJK
import Derived.Test.YtobifmndpkjlmaaJL
set_option linter.unusedVariables false
set_option linter.unusedSimpArgs false
/- The document's Move and Pick. -/
namespace Go.Proofs.Ytobifmndpkjlmaa
open Go.RowKit Go.BW

theorem ranked_exists (rs : List Int) (p : Nat → Bool) : ∃ l, Ranked rs (fun d => p d = true) l ∧ l.length ≤ rs.length := by
  have dec : ∀ a b : Nat, Decidable (bef rs a b) := fun a b => by unfold bef; infer_instance
  let le : Nat → Nat → Bool := fun a b => decide (bef rs a b ∨ a = b)
  have ht : ∀ a b c : Nat, le a b = true → le b c = true → le a c = true := fun a b c h1 h2 => by
    simp only [le, decide_eq_true_eq] at h1 h2 ⊢
    rcases h1 with h1 | rfl
    · rcases h2 with h2 | rfl
      · exact .inl (bef_trans h1 h2)
      · exact .inl h1
    · exact h2
  have hto : ∀ a b : Nat, (le a b || le b a) = true := fun a b => by
    simp only [le, Bool.or_eq_true, decide_eq_true_eq]
    by_cases h : a = b
    · exact .inl (.inr h)
    · rcases bef_total (rs := rs) h with h | h
      · exact .inl (.inl h)
      · exact .inr (.inl h)
  have hp := List.pairwise_mergeSort ht hto ((List.range rs.length).filter fun d => decide (0 < rs.getD d 0) && p d)
  have hm := List.mergeSort_perm ((List.range rs.length).filter fun d => decide (0 < rs.getD d 0) && p d) le
  have hnd : (((List.range rs.length).filter fun d => decide (0 < rs.getD d 0) && p d).mergeSort le).Nodup := hm.nodup_iff.2 (List.nodup_range.filter _)
  refine ⟨_, ⟨(hp.and hnd).imp fun {a b} h => ?_, fun d => ?_⟩, by rw [hm.length_eq]; exact Nat.le_trans (List.length_filter_le _ _) (by simp)⟩
  · obtain ⟨h1, h2⟩ := h
    simp only [le, decide_eq_true_eq] at h1
    rcases h1 with h1 | h1
    · exact h1
    · exact absurd h1 h2
  · rw [hm.mem_iff, List.mem_filter, List.mem_range]
    simp
def lenV : Value → Nat
  | .slice _ n _ => n
  | _ => 0
theorem nz_nv (l : List Nat) : (nz l).map iv = l.map nv := by unfold nz; rw [List.map_map]; rfl
theorem most_at {rs no : List Int} {l : List Nat} (h : Ranked rs (fun d => (d : Int) ∉ no) l) {k : Nat} (hk : k ≤ l.length) {r : Int} (hr : MostOf rs (no ++ nz (l.take k)) r) :
    (k = l.length ∧ r = -1) ∨ ∃ d, l[k]? = some d ∧ r = (d : Int) := by
  have := hr.uniq (h.most hk)
  rcases hg : l[k]? with _ | d
  · rw [hg] at this
    exact .inl ⟨by have := List.getElem?_eq_none_iff.1 hg; omega, this⟩
  · rw [hg] at this
    exact .inr ⟨d, rfl, this⟩
set_option maxHeartbeats 16000000 in
theorem rmove_any {w : World} {B n c m c2 : Nat} {A A2 : Option Addr} {rs : List Int} {gs : List Gp} (hg : GsR w B A2 m gs) (hmc : m ≤ c2) (hr : Rd w B 1 A n (rs.map iv)) (hB : B ≤ w.heap.size) (hn : n ≤ 8) (hm : m ≤ 1000000)
    (hM : ∀ r ∈ rs, r ≤ ((1000000 : Nat) : Int)) (hlo : ∀ r ∈ rs, -9223372036854775808 ≤ r) (lost : Int) : Calls Try.prog 17 #[.slice A2 m c2, .slice A n c, .int .i64 lost] w (MovePost gs rs lost w) := by
  have hlen : rs.length = n := by have := hr.1; simpa using this
  have hglen := hg.len
  have HG := Lib.hid hg; have HR := Lib.hid hr; have HB := Lib.hid hB; have HL := Lib.hid hlen; have HGL := Lib.hid hglen; have HM := Lib.hid hM; have HLO := Lib.hid hlo
  clear hg hr hB hlen hglen hM hlo
  go_enter Try.func17, Try.ntmps17
  go_wp2_with fail
  go_loopw [9] (fun v wr => ∃ i : Nat, v = .int .i64 i ∧ i ≤ m ∧ Hid ((gs.take i).any (fun g => hasD g lost) = false) ∧ Nw w wr) (fun v _ => m - (intOf v).toNat)
  case atStart => exact ⟨0, rfl, Nat.zero_le _, Lib.hid rfl, Nw.refl _⟩
  case round =>
    obtain ⟨i, rfl, hi, hno, hnw⟩ := hrel
    obtain ⟨wa, rfl⟩ : ∃ q, q = wr := ⟨_, rfl⟩
    by_cases hlt : i < m
    · have hltz : (i : Int) < (m : Int) := by omega
      have HGa := Lib.hid (HG.out.nw hnw HB.out)
      have HBa := Lib.hid (Nat.le_trans HB.out hnw.size)
      obtain ⟨_, b, off, x, hA, _, hx, hc⟩ := HGa.out.rd.atL gc_len (by decide) hlt
      subst hA
      have HX := Lib.hid hx
      have HC := Lib.hid hc
      have HOK := Lib.hid (HGa.out.all x (List.mem_of_getElem? hx))
      have HH := Lib.hid (show Calls Try.prog 18 #[.agg (gc x).toArray, .int .i64 lost] wa (Ret (.bool (hasD x lost)) wa) from rhas_any HOK.out HBa.out lost)
      obtain ⟨q, hq⟩ : ∃ q, hasD x lost = q := ⟨_, rfl⟩
      rw [hq] at HH
      have HQ := Lib.hid hq
      unfold Ret at HH
      have hcx := HC.out 2 _ rfl
      clear hx hc hq
      rcases q with _ | _
      · clear hcx
        go_wp2_with (first
          | ((with_reducible refine HH.out.mono ?_); rintro e w2 ⟨rfl, n2⟩)
          | ((with_reducible refine wpList_load_agg 37 _ (by with_unfolding_all exact rfl) (by with_unfolding_all exact rfl) (by with_unfolding_all exact rfl) (gc x) HC.out _ Try.underlying37 (by with_unfolding_all exact rfl) (by rw [gc_len]; kernel_rfl) ?_)))
        go_roundw
        case rel => exact ⟨i + 1, by go_num, by omega, Lib.hid (by rw [any_snoc hno.out HX.out]; exact HQ.out), gb_trans hnw n2⟩
        case measure => simp only [intOf]; omega
      · have HCF := Lib.hid (show ∀ w', Nw wa w' → w'.cell? ⟨b, off + i * 3 + 2, none⟩ = some (.slice x.A x.n x.c) from fun w' hw => cell_nw hcx hw)
        have HE := Lib.hid (show ∀ w', Nw wa w' → Rd w' B 2 x.A x.n (fl ec x.es) from fun w' hw => HOK.out.rd.nw hw HBa.out)
        have hxm := HOK.out.nm
        have hxl := HOK.out.len
        have HDK := Lib.hid (show dks x = x.es.map (·.dk) from rfl)
        obtain ⟨l, hl, hll⟩ := ranked_exists rs (fun d => !hasD x (d : Int))
        have hl8 : l.length ≤ 8 := by have := HL.out; omega
        clear hll
        have HRK := Lib.hid hl
        have HRN := Lib.hid (show Ranked rs (fun d => (d : Int) ∉ dks x) l from ⟨hl.ord, fun d => by rw [hl.mem d, Bool.not_eq_true', hasD_not]⟩)
        obtain ⟨dk, hdk⟩ : ∃ dk, dks x = dk := ⟨_, rfl⟩
        rw [hdk] at HDK HRN
        obtain ⟨xA, hxA⟩ : ∃ q, x.A = q := ⟨_, rfl⟩
        obtain ⟨xn, hxn⟩ : ∃ q, x.n = q := ⟨_, rfl⟩
        obtain ⟨xc, hxc⟩ : ∃ q, x.c = q := ⟨_, rfl⟩
        obtain ⟨xe, hxe⟩ : ∃ q, x.es = q := ⟨_, rfl⟩
        rw [hxA, hxn, hxc] at HCF
        rw [hxA, hxn, hxe] at HE
        rw [hxn] at hxm
        rw [hxe, hxn] at hxl
        rw [hxe] at HDK
        have HXL := Lib.hid hxl
        clear hcx hl hdk hxA hxn hxc hxe hxl
        go_wp2_with (first
          | ((with_reducible refine HH.out.mono ?_); rintro e w2 ⟨rfl, n2⟩)
          | ((with_reducible refine wpList_load_agg 37 _ (by with_unfolding_all exact rfl) (by with_unfolding_all exact rfl) (by with_unfolding_all exact rfl) (gc x) HC.out _ Try.underlying37 (by with_unfolding_all exact rfl) (by rw [gc_len]; kernel_rfl) ?_)))
        have H0 := Lib.hid (show Own (w2.alloc (.cells #[] 3)) w2.heap.size 3 1 (some ⟨w2.heap.size, 0, none⟩) 0 0 [] from World.ownsRow_made w2 #[] 0 (Nat.le_refl _) (by simp) (by simp))
        have N2 := Lib.hid n2
        clear n2
        go_loopw [11, 12] (fun s v wr => ∃ (j : Nat) (A' : Option Addr) (c' : Nat), v = .int .i64 j ∧ s = .slice A' j c' ∧ j ≤ xn ∧ Hid (Own wr w2.heap.size 3 1 A' j c' ((dk.take j).map iv)) ∧ Nw w2 wr) (fun _ v _ => xn - (intOf v).toNat)
        case atStart => exact ⟨0, some ⟨w2.heap.size, 0, none⟩, 0, rfl, rfl, Nat.zero_le _, H0, World.grownBy_alloc w2 _ none⟩
        case round =>
          obtain ⟨j, A', c', rfl, rfl, hj, ho, hnw2⟩ := hrel
          have hcx := HCF.out wr (gb_trans N2.out hnw2)
          by_cases hl2 : j < xn
          · have hl2z : (j : Int) < (xn : Int) := by omega
            obtain ⟨e, he⟩ : ∃ e, xe[j]? = some e := ⟨_, List.getElem?_eq_getElem (by rw [HXL.out]; exact hl2)⟩
            obtain ⟨eb, eo, hE, hce, _⟩ := ecells (HE.out wr (gb_trans N2.out hnw2)) he
            subst hE
            have HT := Lib.hid (show (dk.take (j + 1)).map iv = (dk.take j).map iv ++ [.int .i64 e.dk] by
              have : dk[j]? = some e.dk := by rw [HDK.out, List.getElem?_map, he]; rfl
              obtain ⟨hk2, h3⟩ := List.getElem?_eq_some_iff.1 this
              rw [List.take_succ_eq_append_getElem hk2, h3]; simp [iv])
            obtain ⟨ed, ep⟩ := e
            simp only at hce HT
            have hsm : (j + 1) * 8 ≤ 140737488355328 ∧ j + 1 ≤ maxLen := by unfold maxLen; omega
            have hsz := hnw2.size
            clear he
            go_wp2_with (first
              | (at_builtin; (with_reducible refine wpList_app1_own T22 _ _ (by with_unfolding_all exact rfl) (by with_unfolding_all exact rfl) (by with_unfolding_all exact rfl) (by with_unfolding_all exact rfl) ho.out (by with_unfolding_all exact rfl) hsm hsz ?_); intro A'' c'' w3 h2 h3 h4))
            go_roundw
            case rel => exact ⟨j + 1, A'', c'', by go_num, rfl, by omega, Lib.hid (by rw [HT.out]; exact h2), nw_of_gb hnw2 h3 (fun g hg => ho.out.blk g hg)⟩
            case measure => simp only [intOf]; omega
          · have hjn : j = xn := by omega
            have HO := Lib.hid (show Own wr w2.heap.size 3 1 A' j c' (dk.map iv) from by
              have := ho.out
              rwa [List.take_of_length_le (by rw [HDK.out, List.length_map, HXL.out]; omega)] at this)
            obtain ⟨wb, rfl⟩ : ∃ q, q = wr := ⟨_, rfl⟩
            have HJ := Lib.hid hjn
            clear hjn ho
            go_wp2_with fail
            clear hcx
            have N2b := Lib.hid (gb_trans N2.out hnw2)
            go_loopw [11] (fun s v => ∃ (k : Nat) (A' : Option Addr) (c' : Nat), s = .slice A' (j + k) c' ∧ k ≤ l.length ∧ Hid (Own v w2.heap.size 3 1 A' (j + k) c' ((dk ++ nz (l.take k)).map iv)) ∧ Hid (∀ e ∈ l.take k, okM gs rs lost i e = false) ∧ Nw w2 v) (fun s _ => j + l.length - lenV s)
            case atStart => exact ⟨0, A', c', rfl, Nat.zero_le _, Lib.hid (by simpa [nz] using HO.out), Lib.hid (by simp), hnw2⟩
            case round =>
              obtain ⟨k, A3, c3, rfl, hk, ho3, hno3, hnw3⟩ := hrel
              obtain ⟨wc, rfl⟩ : ∃ q, q = wr := ⟨_, rfl⟩
              have N23 := Lib.hid (gb_trans N2.out hnw3)
              have HRc := Lib.hid (HR.out.nw (gb_trans hnw N23.out) HB.out)
              have HBc := Lib.hid (Nat.le_trans HB.out (gb_trans hnw N23.out).size)
              have hRM := HRN.out
              have HMO := Lib.hid (most_any (c := c) (c2 := c3) (HRc.out.more HBc.out) ho3.out.rd (Nat.le_refl _) (by unfold maxLen; omega) (by unfold maxLen; omega))
              unfold MostPost at HMO
              by_cases hkl : k < l.length
              · obtain ⟨d, hd⟩ : ∃ d, l[k]? = some d := ⟨_, List.getElem?_eq_getElem hkl⟩
                have hM1 := hRM.most hk
                rw [hd] at hM1
                have HD := Lib.hid hd
                have HMD := Lib.hid (show Calls Try.prog 29 #[.slice A n c, .slice A3 (j + k) c3] wc (fun e w' => e = .returned (.int .i64 (d : Int)) ∧ Nw wc w') from HMO.out.mono fun e w' ⟨r, h1, h2, h3⟩ => ⟨by rw [h1, h2.uniq hM1], h3⟩)
                have hmem := (HRK.out.mem d).1 (List.mem_of_getElem? hd)
                have hdn : d < n := by have := hmem.1; have := HL.out; omega
                have hdz : (d : Int) < (n : Int) := by omega
                have hx0 : rs.getD d 0 ≤ 1000000 ∧ 0 < rs.getD d 0 := ⟨by
                  have := HM.out (rs[d]'(by rw [HL.out]; exact hdn)) (List.getElem_mem _)
                  rwa [getD_at] at this, hmem.2.1⟩
                have HTK := Lib.hid (show (dk ++ nz (l.take (k + 1))).map iv = (dk ++ nz (l.take k)).map iv ++ [.int .i64 (d : Int)] by
                  obtain ⟨hk2, h3⟩ := List.getElem?_eq_some_iff.1 hd
                  rw [List.take_succ_eq_append_getElem hk2, h3]; simp [nz, iv])
                have HTN := Lib.hid (show ∀ e, e ∈ l.take (k + 1) → e ∈ l.take k ∨ e = d from fun e he => by
                  obtain ⟨hk2, h3⟩ := List.getElem?_eq_some_iff.1 hd
                  rw [List.take_succ_eq_append_getElem hk2, h3] at he
                  simpa using he)
                obtain ⟨r, hr⟩ : ∃ r, rs.getD d 0 = r := ⟨_, rfl⟩
                have HRV := Lib.hid hr
                rw [hr] at hx0
                have HSF := Lib.hid (show ∀ w7 w8 g7 c7, Nw wc w7 → Own w7 wc.heap.size 3 1 (some ⟨g7, 0, none⟩) n c7 (rs.map iv) → w8 = w7.setCell ⟨g7, d, none⟩ (.int .i64 (r - 1)) →
                    Calls Try.prog 21 #[.slice (cutA (some ⟨b, off, none⟩) c2 (i + 1) 3) (m - (i + 1)) (c2 - (i + 1)), .slice (some ⟨g7, 0, none⟩) n c7, .int .i64 lost] w8 (Ret (.bool (okM gs rs lost i d)) w8) ∧ Nw wc w8 from by
                  intro w7 w8 g7 c7 n7 o7 e8
                  obtain ⟨o8, k8⟩ := o7.set d (.int .i64 (r - 1))
                  rw [← e8] at o8 k8
                  have n8 : Nw wc w8 := nw_of_gb n7 k8 (fun z hz => by injection hz with hz; subst hz; exact o7.blk _ rfl)
                  have e9 : (rs.map iv).set d (.int .i64 (r - 1)) = (lessAt rs d).map iv := by unfold lessAt; rw [List.map_set, HRV.out]; rfl
                  rw [e9] at o8
                  have hgd := (HGa.out.nw (gb_trans N23.out n8) HBa.out).dropG (i := i + 1) (by omega) hmc
                  have hBw : B ≤ w8.heap.size := Nat.le_trans HBa.out (gb_trans N23.out n8).size
                  exact ⟨rsafe_any (hgd.more hBw) o8.rd (Nat.le_refl _) hn (by omega) (lessAt_le HM.out) lost, n8⟩)
                obtain ⟨q, hq⟩ : ∃ q, okM gs rs lost i d = q := ⟨_, rfl⟩
                rw [hq] at HSF
                have HQ2 := Lib.hid hq
                unfold Ret at HSF
                have HAP := Lib.hid (show ∀ w3, Nw wc w3 → Rd w3 B 1 A n (rs.map iv) ∧ B ≤ w3.heap.size ∧ wc.heap.size ≤ w3.heap.size from fun w3 h => ⟨HRc.out.nw h HBc.out, Nat.le_trans HBc.out h.size, h.size⟩)
                have h1v := iv_one rs
                have hsn : n * 8 ≤ 140737488355328 ∧ n ≤ maxLen := by unfold maxLen; omega
                have HC7 := Lib.hid (show ∀ w7 A7 c7, Own w7 wc.heap.size 3 1 A7 n c7 (rs.map iv) → ∃ g7, A7 = some ⟨g7, 0, none⟩ ∧ w7.cell? ⟨g7, d, none⟩ = some (.int .i64 r) ∧ w7.frozen? ⟨g7, d, none⟩ = false from by
                  intro w7 A7 c7 o7
                  obtain ⟨g7, hA7, _⟩ := o7.some_ (by omega)
                  subst hA7
                  obtain ⟨u, u1, u2, u3⟩ := o7.cellAt (k := d) hdn
                  rw [List.getElem?_map, List.getElem?_eq_getElem (by rw [HL.out]; exact hdn), Option.map_some, getD_at, HRV.out] at u1
                  injection u1 with u1; subst u1
                  exact ⟨g7, rfl, u2, u3⟩)
                have e1 : (i : Int) + 1 = ((i + 1 : Nat) : Int) := by omega
                have E1 := Lib.hid e1
                have E2 := Lib.hid (show i + 1 ≤ m by omega)
                have HMC := Lib.hid hmc
                clear hd hq hr hmem hM1 hRM e1
                rcases q with _ | _
                · have HN := Lib.hid (show ∀ e ∈ l.take (k + 1), okM gs rs lost i e = false from fun e he => by
                    rcases HTN.out e he with h | rfl
                    · exact hno3.out e h
                    · exact HQ2.out)
                  have hsm : (j + k + 1) * 8 ≤ 140737488355328 ∧ j + k + 1 ≤ maxLen := by unfold maxLen; omega
                  have HSZ := Lib.hid hnw3.size
                  clear hno3
                  go_wp2_with (first
                    | (at_builtin; (with_reducible refine wpList_app1_own T22 _ _ (by with_unfolding_all exact rfl) (by with_unfolding_all exact rfl) (by with_unfolding_all exact rfl) (by with_unfolding_all exact rfl) (ho3.out.nw N8.out) (by with_unfolding_all exact rfl) hsm (Nat.le_trans HSZ.out N8.out.size) ?_); intro A9 c9 w10 k2 k3 k4)
                    | ((with_reducible refine (HSF.out w7 _ g7 c7 (gb_trans n3 n7) o7.out rfl).1.mono ?_); rintro e w9 ⟨rfl, n9⟩; have N8 := Lib.hid (gb_trans (HSF.out w7 _ g7 c7 (gb_trans n3 n7) o7.out rfl).2 n9))
                    | ((with_reducible refine wpList_slice_lo 28 37 Try.underlying28 3 (by kernel_rfl) _ _ (by with_unfolding_all exact rfl) (by with_unfolding_all exact rfl) (some ⟨b, off, none⟩) m c2 (i + 1) _ (by with_unfolding_all exact rfl) (by with_unfolding_all exact rfl) E1.out E2.out HMC.out (by with_unfolding_all exact rfl) (by with_unfolding_all exact rfl) (by with_unfolding_all exact rfl) ?_))
                    | (at_builtin; (with_reducible refine wpList_app_lit T22 _ _ (by with_unfolding_all exact rfl) (by with_unfolding_all exact rfl) w3.heap.size (by with_unfolding_all exact rfl) (by with_unfolding_all exact rfl) (HAP.out w3 n3).1 (HAP.out w3 n3).2.1 h1v hsn (Nat.le_refl _) ?_); intro A7 c7 w7 h2 n7; have o7 := Lib.hid (h2.more n3.size); clear h2; obtain ⟨g7, hA7, u2, u3⟩ := HC7.out w7 A7 c7 o7.out; subst hA7)
                    | ((with_reducible refine HMD.out.mono ?_); rintro e w3 ⟨rfl, n3⟩))
                  go_roundw
                  case rel => exact ⟨k + 1, A9, c9, by first | rfl | (rw [Nat.add_assoc]), by omega, Lib.hid (by rw [HTK.out]; exact k2), HN, nw_of_gb (gb_trans hnw3 N8.out) k3 (fun g hg => ho3.out.blk g hg)⟩
                  case measure => simp only [lenV]; omega
                · have HMV := Lib.hid (MoveIs.goes i x l k d HX.out HQ.out hno.out HRK.out HD.out HQ2.out hno3.out)
                  clear hno3
                  go_wp2_with (first
                    | ((with_reducible refine (HSF.out w7 _ g7 c7 (gb_trans n3 n7) o7.out rfl).1.mono ?_); rintro e w9 ⟨rfl, n9⟩; have N8 := Lib.hid (gb_trans (HSF.out w7 _ g7 c7 (gb_trans n3 n7) o7.out rfl).2 n9))
                    | ((with_reducible refine wpList_slice_lo 28 37 Try.underlying28 3 (by kernel_rfl) _ _ (by with_unfolding_all exact rfl) (by with_unfolding_all exact rfl) (some ⟨b, off, none⟩) m c2 (i + 1) _ (by with_unfolding_all exact rfl) (by with_unfolding_all exact rfl) E1.out E2.out HMC.out (by with_unfolding_all exact rfl) (by with_unfolding_all exact rfl) (by with_unfolding_all exact rfl) ?_))
                    | (at_builtin; (with_reducible refine wpList_app_lit T22 _ _ (by with_unfolding_all exact rfl) (by with_unfolding_all exact rfl) w3.heap.size (by with_unfolding_all exact rfl) (by with_unfolding_all exact rfl) (HAP.out w3 n3).1 (HAP.out w3 n3).2.1 h1v hsn (Nat.le_refl _) ?_); intro A7 c7 w7 h2 n7; have o7 := Lib.hid (h2.more n3.size); clear h2; obtain ⟨g7, hA7, u2, u3⟩ := HC7.out w7 A7 c7 o7.out; subst hA7)
                    | ((with_reducible refine HMD.out.mono ?_); rintro e w3 ⟨rfl, n3⟩))
                  go_ret3
                  exact ⟨some (i, d), rfl, HMV.out, gb_trans hnw (gb_trans N23.out N8.out)⟩
              · have hkl' : k = l.length := by omega
                have hM1 := hRM.most hk
                rw [List.getElem?_eq_none (by omega)] at hM1
                have HMD := Lib.hid (show Calls Try.prog 29 #[.slice A n c, .slice A3 (j + k) c3] wc (fun e w' => e = .returned (.int .i64 (-1)) ∧ Nw wc w') from HMO.out.mono fun e w' ⟨r, h1, h2, h3⟩ => ⟨by rw [h1, h2.uniq hM1], h3⟩)
                have HMV := Lib.hid (MoveIs.stuck (rs := rs) (lost := lost) i x l HX.out HQ.out hno.out HRK.out (fun e he => hno3.out e (by rw [hkl', List.take_length]; exact he)))
                clear hkl' hM1 hRM hno3
                go_wp2_with ((with_reducible refine HMD.out.mono ?_); rintro e w3 ⟨rfl, n3⟩)
                go_ret3
                exact ⟨none, rfl, HMV.out, gb_trans hnw (gb_trans N23.out n3)⟩
    · have HA := Lib.hid (show gs.any (fun g => hasD g lost) = false by have := hno.out; rwa [List.take_of_length_le (by rw [HGL.out]; omega)] at this)
      go_wp2
      go_ret3
      exact ⟨none, rfl, .none HA.out, hnw⟩
end Go.Proofs.Ytobifmndpkjlmaa


/- Move has one answer. -/
namespace Go.Proofs.Ytobifmndpkjlmaa
open Go.RowKit Go.BW

theorem first_uniq {gs : List Gp} {p : Gp → Bool} {i j : Nat} {x y : Gp} (hx : gs[i]? = some x) (hp : p x = true) (hf : (gs.take i).any p = false) (hy : gs[j]? = some y) (hq : p y = true) (hg : (gs.take j).any p = false) : i = j := by
  rcases Nat.lt_trichotomy i j with h | h | h
  · exfalso
    have : x ∈ gs.take j := by
      obtain ⟨h1, h2⟩ := List.getElem?_eq_some_iff.1 hx
      exact List.mem_take_iff_getElem.2 ⟨i, by omega, h2⟩
    have := List.any_eq_false.1 hg x this
    rw [hp] at this; exact this rfl
  · exact h
  · exfalso
    have : y ∈ gs.take i := by
      obtain ⟨h1, h2⟩ := List.getElem?_eq_some_iff.1 hy
      exact List.mem_take_iff_getElem.2 ⟨j, by omega, h2⟩
    have := List.any_eq_false.1 hf y this
    rw [hq] at this; exact this rfl
theorem any_at {gs : List Gp} {p : Gp → Bool} {i : Nat} {x : Gp} (hx : gs[i]? = some x) (hp : p x = true) : gs.any p = true := List.any_eq_true.2 ⟨x, List.mem_of_getElem? hx, hp⟩
theorem MoveIs.uniq {gs : List Gp} {rs : List Int} {lost : Int} {r s : Option (Nat × Nat)} (h : MoveIs gs rs lost r) (k : MoveIs gs rs lost s) : r = s := by
  cases h with
  | none h =>
    cases k with
    | none _ => rfl
    | stuck i x l hx hh hf hl hn => rfl
    | goes i x l k d hx hh hf hl hk hd hn => rw [any_at (p := fun g => hasD g lost) hx hh] at h; cases h
  | stuck i x l hx hh hf hl hn =>
    cases k with
    | none _ => rfl
    | stuck => rfl
    | goes j y l' k d hy hh' hf' hl' hk hd hn' =>
      have hij := first_uniq (p := fun g => hasD g lost) hx hh hf hy hh' hf'
      subst hij
      rw [hx] at hy; injection hy with hy; subst hy
      have := hl.uniq hl'
      subst this
      rw [hn d (List.mem_of_getElem? hk)] at hd; cases hd
  | goes i x l k0 d hx hh hf hl hk hd hn =>
    cases k with
    | none h => rw [any_at (p := fun g => hasD g lost) hx hh] at h; cases h
    | stuck j y l' hy hh' hf' hl' hn' =>
      have hij := first_uniq (p := fun g => hasD g lost) hx hh hf hy hh' hf'
      subst hij
      rw [hx] at hy; injection hy with hy; subst hy
      have := hl.uniq hl'
      subst this
      rw [hn' d (List.mem_of_getElem? hk)] at hd; cases hd
    | goes j y l' k' d' hy hh' hf' hl' hk' hd' hn' =>
      have hij := first_uniq (p := fun g => hasD g lost) hx hh hf hy hh' hf'
      subst hij
      rw [hx] at hy; injection hy with hy; subst hy
      have := hl.uniq hl'
      subst this
      have hkk : k0 = k' := by
        rcases Nat.lt_trichotomy k0 k' with h | h | h
        · exfalso
          obtain ⟨h1, h2⟩ := List.getElem?_eq_some_iff.1 hk
          have := hn' d (List.mem_take_iff_getElem.2 ⟨k0, by omega, h2⟩)
          rw [this] at hd; cases hd
        · exact h
        · exfalso
          obtain ⟨h1, h2⟩ := List.getElem?_eq_some_iff.1 hk'
          have := hn d' (List.mem_take_iff_getElem.2 ⟨k', by omega, h2⟩)
          rw [this] at hd'; cases hd'
      subst hkk
      rw [hk] at hk'; injection hk' with hk'; subst hk'
      rfl
/-- groups of the same extents -/
theorem okM_es {gs gs' : List Gp} (h : gs.map (·.es) = gs'.map (·.es)) (rs : List Int) (lost : Int) (i d : Nat) : okM gs rs lost i d = okM gs' rs lost i d := by
  unfold okM
  refine hallB_es ?_ _ _
  rw [List.map_drop, List.map_drop, h]
theorem at_es {gs gs' : List Gp} (h : gs.map (·.es) = gs'.map (·.es)) {i : Nat} {x : Gp} (hx : gs[i]? = some x) : ∃ y, gs'[i]? = some y ∧ y.es = x.es := by
  have h1 := congrArg (fun l => l[i]?) h
  simp only [List.getElem?_map, hx, Option.map_some] at h1
  rcases hg : gs'[i]? with _ | y
  · rw [hg] at h1; cases h1
  · rw [hg] at h1; exact ⟨y, rfl, by simpa using h1.symm⟩
theorem any_es {gs gs' : List Gp} (h : gs.map (·.es) = gs'.map (·.es)) (lost : Int) (i : Nat) : (gs.take i).any (fun g => hasD g lost) = (gs'.take i).any (fun g => hasD g lost) := by
  have e : ∀ l : List Gp, l.any (fun g => hasD g lost) = (l.map (·.es)).any (fun es => es.any fun e => e.dk == lost) := fun l => by rw [List.any_map]; rfl
  rw [e, e, List.map_take, List.map_take, h]
theorem anyA_es {gs gs' : List Gp} (h : gs.map (·.es) = gs'.map (·.es)) (lost : Int) : gs.any (fun g => hasD g lost) = gs'.any (fun g => hasD g lost) := by
  have e : ∀ l : List Gp, l.any (fun g => hasD g lost) = (l.map (·.es)).any (fun es => es.any fun e => e.dk == lost) := fun l => by rw [List.any_map]; rfl
  rw [e, e, h]
theorem hasD_es {x y : Gp} (h : x.es = y.es) (d : Int) : hasD x d = hasD y d := by unfold hasD; rw [h]
theorem MoveIs.es {gs gs' : List Gp} (h : gs.map (·.es) = gs'.map (·.es)) {rs : List Int} {lost : Int} {r : Option (Nat × Nat)} (k : MoveIs gs rs lost r) : MoveIs gs' rs lost r := by
  cases k with
  | none k => exact .none (by rw [← anyA_es h]; exact k)
  | stuck i x l hx hh hf hl hn =>
    obtain ⟨y, hy, e⟩ := at_es h hx
    refine .stuck i y l hy (by rw [hasD_es e]; exact hh) (by rw [← any_es h]; exact hf) ⟨hl.ord, fun d => by rw [hl.mem d, hasD_es e]⟩ fun d hd => by rw [← okM_es h]; exact hn d hd
  | goes i x l k0 d hx hh hf hl hk hd hn =>
    obtain ⟨y, hy, e⟩ := at_es h hx
    refine .goes i y l k0 d hy (by rw [hasD_es e]; exact hh) (by rw [← any_es h]; exact hf) ⟨hl.ord, fun d => by rw [hl.mem d, hasD_es e]⟩ hk (by rw [← okM_es h]; exact hd) fun c hc => by rw [← okM_es h]; exact hn c hc
end Go.Proofs.Ytobifmndpkjlmaa

