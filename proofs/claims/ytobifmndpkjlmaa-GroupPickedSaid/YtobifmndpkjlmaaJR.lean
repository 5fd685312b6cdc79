/- Rows in blocks: what the library's stable sort keeps. -/
import Derived.Test.YtobifmndpkjlmaaJQ
import Derived.Test.YtobifmndpkjlmaaJH
set_option linter.unusedVariables false
set_option linter.unusedSimpArgs false
/- Rows in blocks: what the library's stable sort keeps. -/
namespace Go.Proofs.Ytobifmndpkjlmaa
open Go.RowKit Go.BW

def Lt2 (X Y : List Nat) : Prop := ∀ x ∈ X, ∀ y ∈ Y, x < y
/-- blocks ds of one length, blocks es of another, and a rest -/
structure Blk (rs : List Int) (D B : Nat) (ds es : List (List Nat)) (last L : List Nat) : Prop where
  sorted : ∀ X ∈ ds ++ es, X.Pairwise (bef rs)
  ord : (ds ++ (es ++ [last])).Pairwise Lt2
  dsize : ∀ X ∈ ds, X.length = D
  esize : ∀ X ∈ es, X.length = B
  perm : (ds.flatten ++ (es.flatten ++ last)).Perm L
theorem flat_len {B : Nat} : ∀ {es : List (List Nat)}, (∀ X ∈ es, X.length = B) → es.flatten.length = es.length * B
  | [], _ => by simp
  | X :: es, h => by
    rw [List.flatten_cons, List.length_append, h X (List.mem_cons_self ..), flat_len (fun Y hY => h Y (List.mem_cons_of_mem _ hY)), List.length_cons, Nat.add_mul]; omega
theorem Blk.len {rs : List Int} {D B : Nat} {ds es : List (List Nat)} {last L : List Nat} (h : Blk rs D B ds es last L) : ds.length * D + es.length * B + last.length = L.length := by
  have := h.perm.length_eq
  rw [List.length_append, List.length_append, flat_len h.dsize, flat_len h.esize] at this
  omega
theorem ord_merge {P Q : List (List Nat)} {x y M : List Nat} (h : (P ++ (x :: y :: Q)).Pairwise Lt2) (hp : M.Perm (x ++ y)) : (P ++ (M :: Q)).Pairwise Lt2 := by
  rw [List.pairwise_append] at h ⊢
  obtain ⟨h1, h2, h3⟩ := h
  obtain ⟨hx, h2⟩ := List.pairwise_cons.1 h2
  obtain ⟨hy, h2⟩ := List.pairwise_cons.1 h2
  refine ⟨h1, List.pairwise_cons.2 ⟨fun q hq a ha b hb => ?_, h2⟩, fun p hp1 q hq => ?_⟩
  · rcases List.mem_append.1 ((hp.mem_iff).1 ha) with ha | ha
    · exact hx q (List.mem_cons_of_mem _ hq) a ha b hb
    · exact hy q hq a ha b hb
  · rcases List.mem_cons.1 hq with rfl | hq
    · intro a ha b hb
      rcases List.mem_append.1 ((hp.mem_iff).1 hb) with hb | hb
      · exact h3 p hp1 x (List.mem_cons_self ..) a ha b hb
      · exact h3 p hp1 y (List.mem_cons_of_mem _ (List.mem_cons_self ..)) a ha b hb
    · exact h3 p hp1 q (List.mem_cons_of_mem _ (List.mem_cons_of_mem _ hq))
/-- two blocks become one -/
theorem Blk.step {rs : List Int} {D B : Nat} {ds es : List (List Nat)} {x y last L M : List Nat} (h : Blk rs D B ds (x :: y :: es) last L) (hD : D = B + B) (hp : M.Perm (x ++ y)) (hM : M.Pairwise (bef rs)) : Blk rs D B (ds ++ [M]) es last L := by
  refine ⟨fun X hX => ?_, ?_, fun X hX => ?_, fun X hX => h.esize X (List.mem_cons_of_mem _ (List.mem_cons_of_mem _ hX)), ?_⟩
  · rcases List.mem_append.1 hX with hX | hX
    · rcases List.mem_append.1 hX with hX | hX
      · exact h.sorted X (List.mem_append_left _ hX)
      · rw [List.mem_singleton] at hX; subst hX; exact hM
    · exact h.sorted X (List.mem_append_right _ (List.mem_cons_of_mem _ (List.mem_cons_of_mem _ hX)))
  · have := ord_merge (P := ds) (Q := es ++ [last]) h.ord hp
    simpa using this
  · rcases List.mem_append.1 hX with hX | hX
    · exact h.dsize X hX
    · rw [List.mem_singleton] at hX; subst hX
      rw [hp.length_eq, List.length_append, h.esize x (List.mem_cons_self ..), h.esize y (List.mem_cons_of_mem _ (List.mem_cons_self ..)), hD]
  · refine List.Perm.trans ?_ h.perm
    simp only [List.flatten_append, List.flatten_cons, List.flatten_nil, List.append_nil, List.append_assoc]
    refine List.Perm.append_left _ ?_
    rw [← List.append_assoc x y]
    exact List.Perm.append_right _ hp
/-- the last block and the rest become the rest -/
theorem Blk.stepLast {rs : List Int} {D B : Nat} {ds : List (List Nat)} {x last L M : List Nat} (h : Blk rs D B ds [x] last L) (hp : M.Perm (x ++ last)) : Blk rs D B ds [] M L := by
  refine ⟨fun X hX => h.sorted X (List.mem_append_left _ (by simpa using hX)), ?_, h.dsize, fun X hX => absurd hX (by simp), ?_⟩
  · exact ord_merge (P := ds) (Q := []) h.ord hp
  · refine List.Perm.trans ?_ h.perm
    simp only [List.flatten_cons, List.flatten_nil, List.nil_append, List.append_nil]
    exact List.Perm.append_left _ hp
/-- a new round -/
theorem Blk.round {rs : List Int} {D B D' : Nat} {ds : List (List Nat)} {last L : List Nat} (h : Blk rs D B ds [] last L) : Blk rs D' D [] ds last L :=
  ⟨fun X hX => h.sorted X (by simpa using hX), by have := h.ord; simpa using this, fun X hX => absurd hX (by simp), h.dsize, by have := h.perm; simpa using this⟩
theorem Blk.free {rs : List Int} {D B B' : Nat} {ds : List (List Nat)} {last L : List Nat} (h : Blk rs D B ds [] last L) : Blk rs D B' ds [] last L :=
  ⟨h.sorted, h.ord, h.dsize, fun X hX => absurd hX (by simp), h.perm⟩
theorem Blk.ordAt {rs : List Int} {D B : Nat} {ds es : List (List Nat)} {x y last L : List Nat} (h : Blk rs D B ds (x :: y :: es) last L) : Lt2 x y := by
  have := (List.pairwise_append.1 h.ord).2.1
  exact (List.pairwise_cons.1 this).1 y (List.mem_cons_self ..)
theorem Blk.ordLast {rs : List Int} {D B : Nat} {ds : List (List Nat)} {x last L : List Nat} (h : Blk rs D B ds [x] last L) : Lt2 x last := by
  have := (List.pairwise_append.1 h.ord).2.1
  exact (List.pairwise_cons.1 this).1 last (List.mem_cons_self ..)
/-- the first round: a block is taken off the rest and sorted -/
theorem Blk.cut {rs : List Int} {D B : Nat} {ds : List (List Nat)} {last L M : List Nat} (h : Blk rs D B ds [] last L) (hl : D ≤ last.length) (hup : last.Pairwise (· < ·)) (hp : M.Perm (last.take D)) (hM : M.Pairwise (bef rs)) : Blk rs D B (ds ++ [M]) [] (last.drop D) L := by
  refine ⟨fun X hX => ?_, ?_, fun X hX => ?_, fun X hX => absurd hX (by simp), ?_⟩
  · rw [List.append_nil] at hX
    rcases List.mem_append.1 hX with hX | hX
    · exact h.sorted X (List.mem_append_left _ hX)
    · rw [List.mem_singleton] at hX; subst hX; exact hM
  · have h1 := h.ord
    simp only [List.nil_append] at h1
    rw [List.pairwise_append] at h1
    rw [List.append_assoc, List.pairwise_append]
    refine ⟨h1.1, ?_, fun a ha b hb x hx y hy => ?_⟩
    · simp only [List.singleton_append, List.nil_append]
      refine List.pairwise_cons.2 ⟨fun q hq a ha b hb => ?_, List.pairwise_singleton ..⟩
      rw [List.mem_singleton] at hq; subst hq
      have ha := (hp.mem_iff).1 ha
      have := (List.pairwise_append.1 ((List.take_append_drop D last).symm ▸ hup)).2.2
      exact this a ha b hb
    · have h3 := h1.2.2 a ha last (List.mem_singleton_self _) x hx
      simp only [List.singleton_append, List.nil_append, List.mem_cons, List.not_mem_nil, or_false] at hb
      rcases hb with rfl | rfl
      · exact h3 y (List.mem_of_mem_take ((hp.mem_iff).1 hy))
      · exact h3 y (List.mem_of_mem_drop hy)
  · rcases List.mem_append.1 hX with hX | hX
    · exact h.dsize X hX
    · rw [List.mem_singleton] at hX; subst hX
      rw [hp.length_eq, List.length_take]; omega
  · refine List.Perm.trans ?_ h.perm
    simp only [List.flatten_append, List.flatten_cons, List.flatten_nil, List.append_nil, List.append_assoc, List.nil_append]
    refine List.Perm.append_left _ ?_
    have := List.Perm.append_right (last.drop D) hp
    rwa [List.take_append_drop] at this
/-- the rest is sorted -/
theorem Blk.rest {rs : List Int} {D B : Nat} {ds : List (List Nat)} {last L M : List Nat} (h : Blk rs D B ds [] last L) (hp : M.Perm last) : Blk rs D B ds [] M L := by
  refine ⟨h.sorted, ?_, h.dsize, h.esize, ?_⟩
  · have h1 := h.ord
    simp only [List.nil_append] at h1 ⊢
    rw [List.pairwise_append] at h1 ⊢
    refine ⟨h1.1, List.pairwise_singleton .., fun a ha b hb x hx y hy => ?_⟩
    rw [List.mem_singleton] at hb; subst hb
    exact h1.2.2 a ha last (List.mem_singleton_self _) x hx y ((hp.mem_iff).1 hy)
  · refine List.Perm.trans ?_ h.perm
    simp only [List.flatten_nil, List.nil_append]
    exact List.Perm.append_left _ hp
end Go.Proofs.Ytobifmndpkjlmaa


/- The library's stable sort by byRoom's comparison, of any number of disks. -/
namespace Go.Proofs.Ytobifmndpkjlmaa
open Go.RowKit Go.BW

theorem seg_first (P R : List Nat) (a k : Nat) (ha : a = P.length) : (P ++ R).take a = P ∧ ((P ++ R).take (a + k)).drop a = R.take k ∧ (P ++ R).drop (a + k) = R.drop k := by
  subst ha
  refine ⟨by simp, ?_, ?_⟩
  · rw [List.take_length_add_append]; simp
  · rw [List.drop_length_add_append]
set_option maxRecDepth 100000 in
set_option maxHeartbeats 16000000 in
theorem stable_any : StableOK 1000000 := by
  intro w base g y n c N cR AR rs L ho hc h0 hn hL hup
  have hlen : L.length = n := by have := ho.len; simpa using this
  have hglt : g < w.heap.size := by obtain ⟨cur, h⟩ := ho.obj; exact h.lt
  have HO := Lib.hid ho; have HC := Lib.hid hc; have HL := Lib.hid hL; have HU := Lib.hid hup; have HN := Lib.hid hlen; have HG := Lib.hid hglt
  clear ho hc hL hup hlen hglt
  go_enter Try.func47, Try.ntmps47
  go_wp2_with fail
  go_loopw [7, 8] (fun u v wr => ∃ a b : Nat, ∃ ds : List (List Nat), ∃ R : List Nat, u = .int .i64 a ∧ v = .int .i64 b ∧ Hid (b = a + 20) ∧ a ≤ n ∧ Hid (a = ds.flatten.length) ∧ Hid (Blk rs 20 0 ds [] R L) ∧ Hid (R.Pairwise (· < ·)) ∧
    Hid (Own wr base 3 1 (some ⟨g, 0, none⟩) n c ((ds.flatten ++ R).map nv)) ∧ Hid (Cmp wr g y AR N cR rs) ∧ Hid (w.grownBy wr (some g))) (fun u _ _ => n - (intOf u).toNat)
  case atStart => exact ⟨0, 20, [], L, rfl, rfl, Lib.hid rfl, Nat.zero_le _, Lib.hid rfl, Lib.hid ⟨by simp, by simp, by simp, by simp, by simp⟩, HU, HO, HC, Lib.hid (gb_nw (Nw.refl _))⟩
  case round =>
    obtain ⟨a, b, ds, R, rfl, rfl, hb, han, had, hbk, hR, hor, hcr, hgr⟩ := hrel
    have HRL := Lib.hid (show a + R.length = n from by have := hor.out.len; rw [List.length_map, List.length_append] at this; have := had.out; omega)
    have HMEM := Lib.hid (show ∀ x ∈ ds.flatten ++ R, x < N from fun x hx => HL.out x ((hbk.out.perm.mem_iff).1 (by simpa using hx)))
    by_cases hle : b ≤ n
    · have hlz : (b : Int) ≤ (n : Int) := by omega
      have hab : a ≤ b := by have := hb.out; omega
      have HSG := Lib.hid (seg_first ds.flatten R a 20 had.out)
      have HS := Lib.hid (insertion_any (a := a) (b := b) hor.out hcr.out hab hle hn HMEM.out (by rw [hb.out, HSG.out.2.1]; exact List.Pairwise.sublist (List.take_sublist ..) hR.out))
      unfold SortPost at HS
      have hbn : b ≤ 1000000 := by omega
      go_wp2_with ((with_reducible refine HS.out.mono ?_); rintro e w2 ⟨rfl, M, p1, s1, o2, g2⟩; have P1 := Lib.hid p1; have S1 := Lib.hid s1; have O2 := Lib.hid o2; have G2 := Lib.hid g2; clear p1 s1 o2 g2)
      go_roundw
      case rel =>
        have hgr2 : g < wr.heap.size := Nat.lt_of_lt_of_le HG.out hgr.out.size
        have hp : M.Perm (R.take 20) := by have := P1.out; rwa [hb.out, HSG.out.2.1] at this
        have hml : M.length = 20 := by rw [hp.length_eq, List.length_take]; have := HRL.out; have := hb.out; omega
        refine ⟨b, b + 20, ds ++ [M], R.drop 20, rfl, by go_num, Lib.hid rfl, hle, Lib.hid ?_, Lib.hid (hbk.out.cut (by have := HRL.out; have := hb.out; omega) hR.out hp S1.out), Lib.hid (List.Pairwise.sublist (List.drop_sublist ..) hR.out), Lib.hid ?_, Lib.hid (hcr.out.gb G2.out hgr2), Lib.hid (gb_trans hgr.out G2.out)⟩
        · rw [List.flatten_append, List.length_append, ← had.out, hb.out]; simp [hml]
        · have := O2.out
          rw [hb.out, HSG.out.1, HSG.out.2.2] at this
          simpa using this
      case measure => simp only [intOf]; have := hb.out; omega
    · have hlz : ¬ (b : Int) ≤ (n : Int) := by omega
      have HSG := Lib.hid (seg_first ds.flatten R a R.length had.out)
      have HS := Lib.hid (insertion_any (a := a) (b := n) hor.out hcr.out han (Nat.le_refl _) hn HMEM.out (by rw [← HRL.out, HSG.out.2.1, List.take_length]; exact hR.out))
      unfold SortPost at HS
      have hlast : n < a + 20 := by have := hb.out; omega
      go_wp2_with ((with_reducible refine HS.out.mono ?_); rintro e w2 ⟨rfl, M, p1, s1, o2, g2⟩; have P1 := Lib.hid p1; have S1 := Lib.hid s1; have O2 := Lib.hid o2; have G2 := Lib.hid g2; clear p1 s1 o2 g2)
      have hgr2 : g < wr.heap.size := Nat.lt_of_lt_of_le HG.out hgr.out.size
      have HP2 := Lib.hid (show M.Perm R from by have := P1.out; rwa [← HRL.out, HSG.out.2.1, List.take_length] at this)
      have O3 := Lib.hid (show Own w2 base 3 1 (some ⟨g, 0, none⟩) n c ((ds.flatten ++ M).map nv) from by
        have := O2.out
        have e1 := HSG.out.1; have e2 := HSG.out.2.2
        rw [HRL.out] at e2
        rw [e1, e2, List.drop_length] at this
        simpa using this)
      have HB3 := Lib.hid (hbk.out.rest HP2.out)
      have HML := Lib.hid (show M.length < 20 from by rw [HP2.out.length_eq]; have := HRL.out; omega)
      have C2 := Lib.hid (hcr.out.gb G2.out hgr2)
      have G3 := Lib.hid (gb_trans hgr.out G2.out)
      clear HS P1 O2 G2 HP2 HSG hbk hR hor hcr hgr HRL HMEM hgr2 hlast hlz hle hb had
      go_loopw [6] (fun s wr => ∃ B : Nat, ∃ ds : List (List Nat), ∃ last : List Nat, s = .int .i64 B ∧ 0 < B ∧ B ≤ 2000020 ∧ Hid (Blk rs B 0 ds [] last L) ∧ Hid (last.Pairwise (bef rs)) ∧ Hid (last.length < B) ∧
        Hid (Own wr base 3 1 (some ⟨g, 0, none⟩) n c ((ds.flatten ++ last).map nv)) ∧ Hid (Cmp wr g y AR N cR rs) ∧ Hid (w.grownBy wr (some g))) (fun s _ => 2 * n - (intOf s).toNat)
      case atStart => exact ⟨20, ds, M, rfl, by omega, by omega, HB3, S1, HML, O3, C2, G3⟩
      case round =>
        clear HB3 HML O3 C2 G3 S1
        obtain ⟨B, ds, last, rfl, hB0, hBm, hbk, hls, hll, hor, hcr, hgr⟩ := hrel
        by_cases hlt : B < n
        · have hlz : (B : Int) < (n : Int) := by omega
          have e2 : (2 : Int) * (B : Int) = ((B + B : Nat) : Int) := by omega
          obtain ⟨D, hD⟩ : ∃ D, D = B + B := ⟨_, rfl⟩
          rw [← hD] at e2
          have HD := Lib.hid hD
          have hDm : D ≤ 4000040 := by omega
          clear hD
          go_wp2_with fail
          go_loopw [7, 8] (fun u v wr => ∃ a b : Nat, ∃ ds es : List (List Nat), u = .int .i64 a ∧ v = .int .i64 b ∧ Hid (b = a + D) ∧ a ≤ n ∧ Hid (a = ds.flatten.length) ∧ Hid (Blk rs D B ds es last L) ∧
            Hid (Own wr base 3 1 (some ⟨g, 0, none⟩) n c ((ds.flatten ++ (es.flatten ++ last)).map nv)) ∧ Hid (Cmp wr g y AR N cR rs) ∧ Hid (w.grownBy wr (some g))) (fun u _ _ => n - (intOf u).toNat)
          case atStart => exact ⟨0, D, [], ds, rfl, rfl, Lib.hid (by omega), Nat.zero_le _, Lib.hid rfl, Lib.hid hbk.out.round, hor, hcr, hgr⟩
          case round =>
            clear hbk hor hcr hgr
            obtain ⟨a, b, ds, es, rfl, rfl, hb, han, had, hbk, hor, hcr, hgr⟩ := hrel
            have HMEM := Lib.hid (show ∀ x ∈ ds.flatten ++ (es.flatten ++ last), x < N from fun x hx => HL.out x ((hbk.out.perm.mem_iff).1 hx))
            have HLN := Lib.hid (show a + es.flatten.length + last.length = n from by have := hor.out.len; rw [List.length_map, List.length_append, List.length_append] at this; have := had.out; omega)
            have e3 : (a : Int) + (B : Int) = ((a + B : Nat) : Int) := by omega
            obtain ⟨m, hm⟩ : ∃ m, m = a + B := ⟨_, rfl⟩
            rw [← hm] at e3
            have hmm : m ≤ 5000000 := by omega
            have HM := Lib.hid hm
            clear hm
            by_cases hle : b ≤ n
            · have hlz : (b : Int) ≤ (n : Int) := by omega
              obtain ⟨x, y', es', hes⟩ : ∃ x y' es', es = x :: y' :: es' := by
                match es, hbk.out.esize, HLN.out with
                | [], _, h => exfalso; have := hb.out; have := HD.out; have := hll.out; simp at h; omega
                | [x], hz, h => exfalso; have := hb.out; have := HD.out; have := hll.out; have := hz x (List.mem_singleton_self _); simp at h; omega
                | x :: y' :: es', _, _ => exact ⟨x, y', es', rfl⟩
              subst hes
              have HX := Lib.hid (hbk.out.esize x (List.mem_cons_self ..))
              have HY := Lib.hid (hbk.out.esize y' (List.mem_cons_of_mem _ (List.mem_cons_self ..)))
              have HS := Lib.hid (symm_any (b - a + 1) _ base g y n c N cR a m b AR rs ds.flatten x y' (es'.flatten ++ last) (by have := hor.out; simpa using this) hcr.out hn
                (fun z hz => HMEM.out z (by simp only [List.flatten_cons, List.mem_append] at hz ⊢; rcases hz with hz | hz; exact .inr (.inl (.inl hz)); exact .inr (.inl (.inr (.inl hz))))) (hbk.out.sorted x (by simp)) (hbk.out.sorted y' (by simp)) hbk.out.ordAt had.out
                (by rw [HX.out]; exact HM.out) (by rw [HY.out]; have := HM.out; have := hb.out; have := HD.out; omega) (by have := HM.out; omega) (by have := HM.out; have := hb.out; have := HD.out; omega) (by omega))
              unfold MergePost at HS
              have hbn : b ≤ 1000000 := by omega
              go_wp2_with ((with_reducible refine HS.out.mono ?_); rintro e w2 ⟨rfl, M, p1, s1, o2, g2⟩; have P1 := Lib.hid p1; have S1 := Lib.hid s1; have O2 := Lib.hid o2; have G2 := Lib.hid g2; clear p1 s1 o2 g2)
              go_roundw
              case rel =>
                have hgr2 : g < wr.heap.size := Nat.lt_of_lt_of_le HG.out hgr.out.size
                have hml : M.length = D := by rw [P1.out.length_eq, List.length_append, HX.out, HY.out, HD.out]
                refine ⟨b, b + D, ds ++ [M], es', rfl, by go_num, Lib.hid rfl, hle, Lib.hid ?_, Lib.hid (hbk.out.step HD.out P1.out S1.out), Lib.hid ?_, Lib.hid (hcr.out.gb G2.out hgr2), Lib.hid (gb_trans hgr.out G2.out)⟩
                · rw [List.flatten_append, List.length_append, ← had.out, hb.out]; simp [hml]
                · have := O2.out
                  simpa using this
              case measure => simp only [intOf]; have := hb.out; have := HD.out; omega
            · have hlz : ¬ (b : Int) ≤ (n : Int) := by omega
              by_cases hmn : m < n
              · have hmz : (m : Int) < (n : Int) := by omega
                obtain ⟨x, hes⟩ : ∃ x, es = [x] := by
                  match es, hbk.out.esize, HLN.out with
                  | [], _, h => exfalso; have := HM.out; have := hll.out; simp at h; omega
                  | [x], _, _ => exact ⟨x, rfl⟩
                  | x :: y' :: es', hz, h => exfalso; have := hb.out; have := HD.out; have := hz x (by simp); have := hz y' (by simp); simp at h; omega
                subst hes
                have HX := Lib.hid (hbk.out.esize x (List.mem_cons_self ..))
                have HNE := Lib.hid (show n = m + last.length from by have h1 := HLN.out; have := HM.out; have h3 := HX.out; simp at h1; omega)
                have HS := Lib.hid (symm_any (n - a + 1) _ base g y n c N cR a m n AR rs ds.flatten x last [] (by have := hor.out; simpa using this) hcr.out hn
                  (fun z hz => HMEM.out z (by simp only [List.flatten_cons, List.flatten_nil, List.append_nil, List.mem_append] at hz ⊢; exact .inr hz)) (hbk.out.sorted x (by simp)) hls.out hbk.out.ordLast had.out
                  (by rw [HX.out]; exact HM.out) HNE.out (by have := HM.out; omega) hmn (by omega))
                unfold MergePost at HS
                go_wp2_with ((with_reducible refine HS.out.mono ?_); rintro e w2 ⟨rfl, M, p1, s1, o2, g2⟩; have P1 := Lib.hid p1; have S1 := Lib.hid s1; have O2 := Lib.hid o2; have G2 := Lib.hid g2; clear p1 s1 o2 g2)
                go_roundw
                case rel =>
                  have hgr2 : g < wr.heap.size := Nat.lt_of_lt_of_le HG.out hgr.out.size
                  have hml : M.length = B + last.length := by rw [P1.out.length_eq, List.length_append, HX.out]
                  refine ⟨D, ds, M, by go_num, by have := HD.out; omega, by have := HD.out; omega, Lib.hid ?_, S1, Lib.hid (by rw [hml]; have := HD.out; have := hll.out; omega), Lib.hid (by have := O2.out; simpa using this), Lib.hid (hcr.out.gb G2.out hgr2), Lib.hid (gb_trans hgr.out G2.out)⟩
                  exact (hbk.out.stepLast P1.out).free
                case measure => simp only [intOf]; have := HD.out; omega
              · have hmz : ¬ (m : Int) < (n : Int) := by omega
                have HEND := Lib.hid (show ∃ last' : List Nat, last'.length < D ∧ last'.Pairwise (bef rs) ∧ Blk rs D B ds [] last' L ∧ ds.flatten ++ (es.flatten ++ last) = ds.flatten ++ last' from by
                  match es, hbk.out, HLN.out with
                  | [], hk, _ => exact ⟨last, by have := HD.out; have := hll.out; omega, hls.out, hk, by simp⟩
                  | [x], hk, h =>
                    have hx := hk.esize x (List.mem_singleton_self _)
                    have h0 : last = [] := List.eq_nil_of_length_eq_zero (by have := HM.out; simp at h; omega)
                    exact ⟨x, by rw [hx]; have := HD.out; omega, hk.sorted x (by simp), hk.stepLast (by rw [h0, List.append_nil]), by rw [h0]; simp⟩
                  | x :: y' :: es', hk, h => exfalso; have := hb.out; have := HD.out; have := hk.esize x (by simp); have := hk.esize y' (by simp); simp at h; omega)
                obtain ⟨last', hl1, hl2, hl3, hl4⟩ := HEND.out
                have L1 := Lib.hid hl1; have L2 := Lib.hid hl2; have L3 := Lib.hid hl3; have L4 := Lib.hid hl4
                clear hl1 hl2 hl3 hl4 HEND
                go_wp2_with fail
                go_roundw
                case rel =>
                  exact ⟨D, ds, last', by go_num, by have := HD.out; omega, by have := HD.out; omega, Lib.hid L3.out.free, L2, L1, Lib.hid (by have := hor.out; rwa [L4.out] at this), hcr, hgr⟩
                case measure => simp only [intOf]; have := HD.out; omega
        · have hlz : ¬ (B : Int) < (n : Int) := by omega
          have HEND := Lib.hid (show ∃ M : List Nat, M.Perm L ∧ M.Pairwise (bef rs) ∧ ds.flatten ++ last = M from by
            have hnl : ds.flatten.length + last.length = n := by have := hor.out.len; rw [List.length_map, List.length_append] at this; omega
            match ds, hbk.out, hnl with
            | [], hk, _ => exact ⟨last, by have := hk.perm; simpa using this, hls.out, by simp⟩
            | [x], hk, h =>
              have hx := hk.dsize x (List.mem_singleton_self _)
              have h0 : last = [] := List.eq_nil_of_length_eq_zero (by simp at h; omega)
              exact ⟨x, by have := hk.perm; rw [h0] at this; simpa using this, hk.sorted x (by simp), by rw [h0]; simp⟩
            | x :: y' :: es', hk, h => exfalso; have := hk.dsize x (by simp); have := hk.dsize y' (by simp); simp at h; omega)
          clear hbk
          go_wp2_with fail
          go_end0
          obtain ⟨M, m1, m2, m3⟩ := HEND.out
          exact ⟨rfl, M, m1, m2, by have := hor.out; rwa [m3] at this, hgr.out⟩
end Go.Proofs.Ytobifmndpkjlmaa

