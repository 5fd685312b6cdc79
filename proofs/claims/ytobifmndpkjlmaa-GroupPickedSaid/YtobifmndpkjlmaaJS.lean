/- The document's Pick. -/
import Derived.Test.YtobifmndpkjlmaaJR
import Derived.Test.YtobifmndpkjlmaaJD
import Derived.Test.YtobifmndpkjlmaaJI
import Derived.Test.YtobifmndpkjlmaaJJ
import Derived.Test.YtobifmndpkjlmaaJA
import Derived.Test.YtobifmndpkjlmaaJM
set_option linter.unusedVariables false
set_option linter.unusedSimpArgs false
/- The document's Pick. -/
namespace Go.Proofs.Ytobifmndpkjlmaa
open Go.RowKit Go.BW

/-- two rows lie in unlike blocks -/
def Sep (v u : Value) : Prop := ∀ g, v.ownBlock = some g → u.ownBlock ≠ some g
theorem sep_first {w : World} {b1 b2 s1 s2 n m c d n' c' : Nat} {t1 t2 : TypeId} {A A' D : Option Addr} {xs ys : List Value} (_hx : Own w b1 t1 s1 A n c xs) (hy : Own w b2 t2 s2 D m d ys) (h : Sep (.slice A n c) (.slice D m d))
    (k : (Value.slice A' n' c').ownBlock = (Value.slice A n c).ownBlock ∨ ∃ g, w.heap.size ≤ g ∧ (Value.slice A' n' c').ownBlock = some g) : Sep (.slice A' n' c') (.slice D m d) := by
  intro g hg e
  rcases k with k | ⟨g2, h2, k⟩
  · exact h g (k ▸ hg) e
  · have h3 := (World.ownsRow.lt hy g e).2
    rw [k] at hg; injection hg with hg; omega
theorem Sep.symm {v u : Value} (h : Sep v u) : Sep u v := fun g h1 h2 => h g h2 h1
theorem ranked_len {rs : List Int} {p : Nat → Prop} {l : List Nat} (h : Ranked rs p l) : l.length ≤ rs.length := by
  have hp : l.Perm ((List.range rs.length).filter fun d => decide (d ∈ l)) := (List.perm_ext_iff_of_nodup h.nodup (List.nodup_range.filter _)).2 fun d => by
    rw [List.mem_filter, List.mem_range, decide_eq_true_eq]
    exact ⟨fun hd => ⟨((h.mem d).1 hd).1, hd⟩, fun hd => hd.2⟩
  rw [hp.length_eq]
  exact Nat.le_trans (List.length_filter_le ..) (by rw [List.length_range]; exact Nat.le_refl _)
def RPickPost (l : List Nat) (wd : Int) (w : World) (e : Ending) (w' : World) : Prop :=
  Nw w w' ∧ (((wd < 1 ∨ (l.length : Int) < wd) ∧ e = .returned (.tuple #[.slice none 0 0, .bool false])) ∨
    ∃ (k : Nat) (A : Option Addr) (c : Nat), wd = (k : Int) ∧ 1 ≤ k ∧ k ≤ l.length ∧ e = .returned (.tuple #[.slice A k c, .bool true]) ∧ Own w' w.heap.size 3 1 A k c ((l.take k).map nv))
theorem nz_iv (l : List Nat) : (nz l).map iv = l.map nv := by unfold nz; rw [List.map_map]; rfl
set_option maxRecDepth 100000 in
set_option maxHeartbeats 8000000 in
theorem rpick_any {w : World} {B n c m c2 : Nat} {A A2 : Option Addr} {rs ban : List Int} {l : List Nat} (hr : Rd w B 1 A n (rs.map iv)) (hb : Rd w B 1 A2 m (ban.map iv)) (hB : B ≤ w.heap.size) (hn : n ≤ 60) (hm : m * 8 ≤ 140737488351232)
    (hl : Ranked rs (fun d => (d : Int) ∉ ban) l) (wd : Int) : Calls Try.prog 12 #[.slice A n c, .int .i64 wd, .slice A2 m c2] w (RPickPost l wd w) := by
  have hlen : rs.length = n := by have := hr.1; simpa using this
  have hll : l.length ≤ n := by rw [← hlen]; exact ranked_len hl
  rcases (show wd < 1 ∨ 1 ≤ wd by omega) with h1 | h1
  · clear hr hb hl hlen
    go_enter Try.func12, Try.ntmps12
    go_wp2
    go_ret2
    exact ⟨Nw.refl _, .inl ⟨.inl h1, rfl⟩⟩
  have d1 : decide (wd < 1) = false := decide_eq_false (by omega)
  obtain ⟨q, rfl⟩ := Int.eq_ofNat_of_zero_le (show 0 ≤ wd by omega)
  have hq1 : 1 ≤ q := by omega
  rcases (show n < q ∨ q ≤ n by omega) with h2 | h2
  · have h2z : (n : Int) < (q : Int) := by omega
    clear hr hb hl hlen
    go_enter Try.func12, Try.ntmps12
    go_wp2
    go_ret2
    exact ⟨Nw.refl _, .inl ⟨.inr (by omega), rfl⟩⟩
  have h2z : ¬ (n : Int) < (q : Int) := by omega
  have HR := Lib.hid hr; have HBN := Lib.hid hb; have HBW := Lib.hid hB; have HRK := Lib.hid hl
  have h1v := iv_one ban
  have hsm : m * 8 ≤ 140737488355328 ∧ m ≤ maxLen := by unfold maxLen; omega
  clear hr hl hlen h1
  go_enter Try.func12, Try.ntmps12
  go_upto_region 4 with (at_builtin; refine wpList_app_lit T22 _ _ rfl rfl w.heap.size rfl rfl hb hB h1v hsm (Nat.le_refl _) ?_; intro A1 c1 w1 o1 m1)
  have O1 := Lib.hid (show Own (w1.alloc (.cells #[] 3)) w.heap.size 3 1 A1 m c1 (ban.map iv) from o1.nw (World.grownBy_alloc w1 _ none))
  have O2 := Lib.hid (show Own (w1.alloc (.cells #[] 3)) w.heap.size 3 1 (some ⟨w1.heap.size, 0, none⟩) 0 0 [] from World.ownsRow_made w1 #[] 0 m1.size (by simp) (by simp))
  have M2 := Lib.hid (show Nw w (w1.alloc (.cells #[] 3)) from gb_trans m1 (World.grownBy_alloc w1 _ none))
  have SP := Lib.hid (show Sep (.slice (some ⟨w1.heap.size, 0, none⟩) 0 0) (.slice A1 m c1) from fun g hg e => by
    have h3 := (World.ownsRow.lt o1 g e).2
    simp [Value.ownBlock] at hg; omega)
  clear hb hB h1v hsm o1 m1
  go_wp2_with fail
  go_loopw [8, 9] (fun u v wr => ∃ (k c3 c4 mk : Nat) (A3 A4 : Option Addr), u = .slice A3 mk c3 ∧ v = .slice A4 k c4 ∧ Hid (mk = m + k) ∧ k ≤ q ∧ k ≤ l.length ∧ Hid (Own wr w.heap.size 3 1 A3 mk c3 ((ban ++ nz (l.take k)).map iv)) ∧
    Hid (Own wr w.heap.size 3 1 A4 k c4 ((l.take k).map nv)) ∧ Hid (Sep (.slice A4 k c4) (.slice A3 mk c3)) ∧ Hid (Nw w wr)) (fun _ v _ => q - (match v with | .slice _ k _ => k | _ => 0))
  case atStart => exact ⟨0, c1, 0, m, A1, _, rfl, rfl, Lib.hid rfl, Nat.zero_le _, Nat.zero_le _, Lib.hid (by have := O1.out; simpa [nz] using this), Lib.hid O2.out, SP, M2⟩
  case round =>
    obtain ⟨k, c3, c4, mk, A3, A4, rfl, rfl, HMK, hkq, hkl, ho3, ho4, hsp, hnw⟩ := hrel
    clear O1 O2 M2 SP
    by_cases hlt : k < q
    · have hltz : (k : Int) < (q : Int) := by omega
      have hsz := hnw.out.size
      have HMO := Lib.hid (most_any (c := c) (c2 := c3) (B := wr.heap.size) ((HR.out.nw hnw.out HBW.out).more (Nat.le_trans HBW.out hnw.out.size)) ho3.out.rd (Nat.le_refl _) (by unfold maxLen; omega) (Nat.le_trans ho3.out.cap.1 ho3.out.cap.2))
      have HMS := Lib.hid (HRK.out.most (k := k) hkl)
      unfold MostPost at HMO
      by_cases hk2 : k < l.length
      · obtain ⟨d, hd⟩ : ∃ d, l[k] = d := ⟨_, rfl⟩
        have HD := Lib.hid hd
        have HM1 := Lib.hid (show MostOf rs (ban ++ nz (l.take k)) (d : Int) from by have := HMS.out; rw [List.getElem?_eq_getElem hk2, hd] at this; exact this)
        have d0 : ¬ (d : Int) < 0 := by omega
        have HT := Lib.hid (show l.take (k + 1) = l.take k ++ [d] from by rw [List.take_succ_eq_append_getElem hk2, hd])
        have hs1 : (k + 1) * 8 ≤ 140737488355328 ∧ k + 1 ≤ maxLen := by unfold maxLen; omega
        have hs2 : (mk + 1) * 8 ≤ 140737488355328 ∧ mk + 1 ≤ maxLen := by have := HMK.out; unfold maxLen; omega
        clear hd HMS
        go_wp2_with (first
          | (at_builtin; (with_reducible refine wpList_app1_own T22 _ _ (by with_unfolding_all exact rfl) (by with_unfolding_all exact rfl) (by with_unfolding_all exact rfl) (by with_unfolding_all exact rfl) O3b.out (by with_unfolding_all exact rfl) hs2 hsz3 ?_); intro A6 c6 w4 r2 r3 r4)
          | (at_builtin; (with_reducible refine wpList_app1_own T22 _ _ (by with_unfolding_all exact rfl) (by with_unfolding_all exact rfl) (by with_unfolding_all exact rfl) (by with_unfolding_all exact rfl) O4a.out (by with_unfolding_all exact rfl) hs1 hsz2 ?_); intro A5 c5 w3 h2 h3 h4; have O3b := Lib.hid (O3a.out.kept h3 hsp.out); have SP2 := Lib.hid (sep_first O4a.out O3a.out hsp.out h4); have O4b := Lib.hid h2; have N3 := Lib.hid (nw_of_gb N2.out h3 (fun g hg => O4a.out.blk g hg)); have hsz3 := N3.out.size; clear h2 h3 h4)
          | ((with_reducible refine HMO.out.mono ?_); rintro e w2 ⟨r, rfl, hr2, n2⟩; obtain rfl := hr2.uniq HM1.out; have O3a := Lib.hid (ho3.out.nw n2); have O4a := Lib.hid (ho4.out.nw n2); have N2 := Lib.hid (gb_trans hnw.out n2); have hsz2 := N2.out.size; clear n2 hr2))
        go_roundw
        case rel =>
          refine ⟨k + 1, c6, c5, mk + 1, A6, A5, rfl, rfl, Lib.hid (by have := HMK.out; omega), by omega, by omega, Lib.hid ?_, Lib.hid ?_, Lib.hid ?_, Lib.hid (nw_of_gb N3.out r3 (fun g hg => O3b.out.blk g hg))⟩
          · rw [HT.out]
            simpa [nz, iv] using r2
          · rw [HT.out]
            have := O4b.out.kept r3 (fun g h1 h2 => SP2.out g h2 h1)
            simpa [nv] using this
          · exact (sep_first O3b.out O4b.out SP2.out.symm r4).symm
        case measure => simp only []; omega
      · have HM1 := Lib.hid (show MostOf rs (ban ++ nz (l.take k)) (-1) from by have := HMS.out; rw [List.getElem?_eq_none (by omega)] at this; exact this)
        clear HMS
        go_wp2_with ((with_reducible refine HMO.out.mono ?_); rintro e w2 ⟨r, rfl, hr2, n2⟩; obtain rfl := hr2.uniq HM1.out; have N2 := Lib.hid (gb_trans hnw.out n2); clear n2 hr2)
        go_ret2
        exact ⟨N2.out, .inl ⟨.inr (by omega), rfl⟩⟩
    · have hkq2 : k = q := by omega
      subst hkq2
      go_wp2
      go_ret2
      exact ⟨hnw.out, .inr ⟨k, A4, c4, rfl, hq1, hkl, rfl, ho4.out⟩⟩
end Go.Proofs.Ytobifmndpkjlmaa


/- Pick, the program's and the document's, told by the one row of disks. -/
namespace Go.Proofs.Ytobifmndpkjlmaa
open Go.RowKit Go.BW

/-- does the picking succeed? how many are picked? -/
def okP (l : List Nat) (wd : Int) : Bool := decide (1 ≤ wd ∧ wd ≤ (l.length : Int))
def kP (l : List Nat) (wd : Int) : Nat := if okP l wd then wd.toNat else 0
theorem kP_no {l : List Nat} {wd : Int} (h : wd < 1 ∨ (l.length : Int) < wd) : okP l wd = false ∧ kP l wd = 0 := by
  have h1 : okP l wd = false := decide_eq_false (by omega)
  exact ⟨h1, by unfold kP; rw [h1]; rfl⟩
theorem kP_yes {l : List Nat} {k : Nat} (h1 : 1 ≤ k) (h2 : k ≤ l.length) : okP l (k : Int) = true ∧ kP l (k : Int) = k := by
  have h3 : okP l (k : Int) = true := decide_eq_true (by omega)
  exact ⟨h3, by unfold kP; rw [h3]; rfl⟩
theorem kP_le (l : List Nat) (wd : Int) : kP l wd ≤ l.length := by
  unfold kP
  split
  · rename_i h
    have := of_decide_eq_true h
    omega
  · omega
theorem okP_iff {l : List Nat} {wd : Int} : okP l wd = true ↔ 1 ≤ wd ∧ wd ≤ (l.length : Int) := by unfold okP; simp
theorem kP_wd {l : List Nat} {wd : Int} (h : okP l wd = true) : wd = (kP l wd : Int) ∧ 1 ≤ kP l wd := by
  have := okP_iff.1 h
  unfold kP
  rw [if_pos h]
  omega
def PkPost (l : List Nat) (kk : Nat) (bb : Bool) (w : World) (e : Ending) (w' : World) : Prop := ∃ A : Option Addr, e = .returned (.tuple #[.slice A kk kk, .bool bb]) ∧ Rd w' w'.heap.size 1 A kk ((l.take kk).map nv) ∧ Nw w w'
def RkPost (l : List Nat) (kk : Nat) (bb : Bool) (w : World) (e : Ending) (w' : World) : Prop := ∃ (A : Option Addr) (c : Nat), e = .returned (.tuple #[.slice A kk c, .bool bb]) ∧ Rd w' w'.heap.size 1 A kk ((l.take kk).map nv) ∧ Nw w w'
theorem pick_is {w : World} {B n c m c2 : Nat} {A A2 : Option Addr} {rs ban : List Int} {l : List Nat} (hl : Ranked rs (fun d => (d : Int) ∉ ban) l) (hr : Rd w B 1 A n (rs.map iv)) (hb : Rd w B 1 A2 m (ban.map iv)) (hB : B ≤ w.heap.size) (hm : n ≤ 1000000) (hs : m ≤ 9223372036854775807)
    (wd : Int) : Calls Try.prog 11 #[.slice A n c, .int .i64 wd, .slice A2 m c2] w (PkPost l (kP l wd) (okP l wd) w) := by
  refine (pick_any (c := c) (c2 := c2) stable_any hr hb hB hm hm hs wd).mono fun e w' h => ?_
  obtain ⟨l', hl', n2, ⟨h1, he⟩ | ⟨k, A', rfl, k1, k2, he, h3, _⟩⟩ := h
  · obtain rfl := hl'.uniq hl
    obtain ⟨e1, e2⟩ := kP_no h1
    rw [e1, e2]
    exact ⟨none, he, by simpa using (Rd.nil : Rd w' w'.heap.size 1 none 0 []), n2⟩
  · obtain rfl := hl'.uniq hl
    obtain ⟨e1, e2⟩ := kP_yes k1 k2
    rw [e1, e2]
    exact ⟨A', he, h3, n2⟩
theorem rpick_is {w : World} {B n c m c2 : Nat} {A A2 : Option Addr} {rs ban : List Int} {l : List Nat} (hl : Ranked rs (fun d => (d : Int) ∉ ban) l) (hr : Rd w B 1 A n (rs.map iv)) (hb : Rd w B 1 A2 m (ban.map iv)) (hB : B ≤ w.heap.size) (hn : n ≤ 60) (hm : m * 8 ≤ 140737488351232)
    (wd : Int) : Calls Try.prog 12 #[.slice A n c, .int .i64 wd, .slice A2 m c2] w (RkPost l (kP l wd) (okP l wd) w) := by
  refine (rpick_any (c := c) (c2 := c2) hr hb hB hn hm hl wd).mono fun e w' h => ?_
  obtain ⟨n2, ⟨h1, he⟩ | ⟨k, A', c', rfl, k1, k2, he, h3⟩⟩ := h
  · obtain ⟨e1, e2⟩ := kP_no h1
    rw [e1, e2]
    exact ⟨none, 0, he, by simpa using (Rd.nil : Rd w' w'.heap.size 1 none 0 []), n2⟩
  · obtain ⟨e1, e2⟩ := kP_yes k1 k2
    rw [e1, e2]
    exact ⟨A', c', he, h3.rd, n2⟩
theorem info3 : (Try.prog.info? 3).map (·.size) = some 1 := by kernel_rfl
end Go.Proofs.Ytobifmndpkjlmaa

