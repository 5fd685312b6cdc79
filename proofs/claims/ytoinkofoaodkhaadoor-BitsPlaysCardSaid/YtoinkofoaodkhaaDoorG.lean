/- A map of bits at hand in a walk; what shown returns. -/
import Derived.Test.YtoinkofoaodkhaaDoorF
namespace Go.Proofs.YtoinkofoaodkhaaDoor
open Go.RowKit Go.BW Go.BW.Bit

/-- a map at hand in a walk that began at wb -/
structure BS (wb w : World) (g : Nat) (bs : List Bool) : Prop where
  rep : BR w g bs
  ge : wb.heap.size ≤ g
  nw : Nw wb w
section
variable {wb w w' : World} {g : Nat} {bs : List Bool} {e : Ending}
theorem BS.more (h : BS wb w g bs) (k : Nw w w') : BS wb w' g bs := ⟨h.rep.nw k, h.ge, gb_trans h.nw k⟩
theorem BS.of_new (h0 : Nw wb w) (h : NewPost bs w e w') : ∃ g, e = .returned (pv g) ∧ BS wb w' g bs ∧ w.heap.size ≤ g ∧ Nw w w' := by
  obtain ⟨g, he, h1, h2, h3⟩ := h
  exact ⟨g, he, ⟨h1, Nat.le_trans h0.size h2, gb_trans h0 h3⟩, h2, h3⟩
theorem BS.step (h : BS wb w g bs) {r : Int × List Bool} (k : BPost g r w e w') : e = .returned (.int .i64 r.1) ∧ BS wb w' g r.2 ∧ Chg w w' [g] :=
  ⟨k.1, ⟨k.2.1, h.ge, nw_of_chg h.nw k.2.2 (by intro x hx; simp at hx; subst hx; exact h.ge)⟩, k.2.2⟩
theorem BS.take (h : BS wb w g bs) (k : TakePost g bs w e w') : e = .returned (nextV bs 0) ∧ BS wb w' g (takeS bs) ∧ Chg w w' [g] :=
  ⟨k.1, ⟨k.2.1, h.ge, nw_of_chg h.nw k.2.2 (by intro x hx; simp at hx; subst hx; exact h.ge)⟩, k.2.2⟩
theorem BS.other {gb : Nat} {cs : List Bool} (h : BS wb w g bs) (h2 : BS wb w gb cs) (k : Chg w w' [gb]) (hne : g ≠ gb) : BS wb w' g bs :=
  ⟨⟨h.rep.1.chg k (by simpa using hne), h.rep.2⟩, h.ge, nw_of_chg h.nw k (by intro x hx; simp at hx; subst hx; exact h2.ge)⟩
theorem BS.tab (h : BS wb w g bs) (ht : Tab wb) : Tab w := ht.nw h.nw
end
theorem sh1 : takeF (List.replicate 10 false) 1 = (0, [false, true, false, false, false, false, false, false, false, false]) := by decide
theorem sh2 : takeF [false, true, false, false, false, false, false, false, false, false] 9 = (0, [false, true, false, false, false, false, false, false, false, true]) := by decide
theorem sh3 : bytesOf [false, true, false, false, false, false, false, false, false, true] = [2, 2] := by decide
theorem sh4 : okB 10 [0, 4] = false := by decide
theorem hof (w' : World) : Calls Tryd.prog 13 #[.int .i64 10, .slice (some ⟨w'.heap.size, 0, none⟩) 2 2] (w'.alloc (.cells #[.int .u8 0, .int .u8 4] 5)) (Ret (.tuple #[.pointer none, .int .i64 2]) (w'.alloc (.cells #[.int .u8 0, .int .u8 4] 5))) := by
  have h : Rd (w'.alloc (.cells #[.int .u8 0, .int .u8 4] 5)) (w'.heap.size + 1) 1 (some ⟨w'.heap.size, 0, none⟩) 2 (([0, 4] : List UInt8).map bv) := rd_lit (w0 := w') [.int .u8 0, .int .u8 4] 5 2 rfl
  exact of_form (c := 2) 10 (by omega) h sh4
set_option maxRecDepth 100000 in
set_option maxHeartbeats 8000000 in
theorem shown_any {w : World} (ht : Tab w) : Calls Tryd.prog 9 #[] w (Ret (.bool true) w) := by
  have HT := Lib.hid ht; clear ht
  have hnew3 := Lib.hid (show ∀ w, Calls Tryd.prog 10 #[.int .i64 3] w (NewPost [false, false, false] w) from fun w => new_any 3 w)
  have hnew10 := Lib.hid (show ∀ w, Calls Tryd.prog 10 #[.int .i64 10] w (NewPost (List.replicate 10 false) w) from fun w => new_any 10 w)
  have W0 := Lib.hid (Nw.refl w)
  have hcl : ∀ w, (binOp .eql 24 (.pointer (some ⟨0, 0, none⟩)) (.pointer none)).run Tryd.prog w = .ok (.bool false) w := fun _ => rfl
  clear hcl
  go_enter Tryd.func9, Tryd.ntmps9
  have HOF := Lib.hid hof
  go_wp2_with (first |
    (refine wpList_bytes_str 28 9 5 Tryd.underlying28 Tryd.underlying5 Tryd.underlying9 _ rfl rfl rfl O11.out.rd ?_) |
    (refine (bytes_any T10.out.rep).mono ?_; rw [sh3]; rintro e w11 ⟨A11, n11, c11, rfl, o11, n11'⟩; have O11 := Lib.hid o11; have T11 := Lib.hid (T10.out.more n11'); clear o11 n11') |
    (refine (count_any S10.out.rep).mono ?_; rintro e w10b ⟨rfl, rfl⟩) |
    (refine (HOF.out w9).mono ?_; rintro e w10 ⟨rfl, n10⟩; have n10' : Nw w9 w10 := gb_trans (World.grownBy_alloc w9 _ none) n10; have T10 := Lib.hid (T9.out.more n10'); have S10 := Lib.hid (S9.out.more n10'); clear n10 n10') |
    (refine (takeAt_any T8.out.rep 9).mono ?_; intro e w9 h9; obtain ⟨rfl, s9, c9⟩ := T8.out.step h9; rw [sh2] at s9 ⊢; have T9 := Lib.hid s9; have S9 := Lib.hid (S8.out.other T8.out c9 (Ne.symm HNE.out)); clear s9 h9 c9) |
    (refine (takeAt_any T7.out.rep 1).mono ?_; intro e w8 h8; obtain ⟨rfl, s8, c8⟩ := T7.out.step h8; rw [sh1] at s8 ⊢; have T8 := Lib.hid s8; have S8 := Lib.hid (S7.out.other T7.out c8 (Ne.symm HNE.out)); clear s8 h8 c8) |
    ((with_reducible refine (hnew10.out _).mono ?_); rintro e w7 h7; obtain ⟨gb, rfl, s7, hgb, n7⟩ := BS.of_new S6.out.nw h7; have T7 := Lib.hid s7; have S7 := Lib.hid (S6.out.more n7); have HNE := Lib.hid (show gb ≠ ga from by have := S6.out.rep.1.lt; omega); clear s7 h7 hgb n7; unfold pv) |
    (refine (take_any S5.out.rep (S5.out.tab HT.out)).mono ?_; intro e w6 h6; obtain ⟨rfl, s6, _⟩ := S5.out.take h6; rw [show takeS [true, true, true] = [true, true, true] from rfl] at s6; rw [show nextV [true, true, true] 0 = .tuple #[.int .i64 0, .bool false] from rfl]; have S6 := Lib.hid s6; clear s6 h6) |
    (refine (take_any S4.out.rep (S4.out.tab HT.out)).mono ?_; intro e w5 h5; obtain ⟨rfl, s5, _⟩ := S4.out.take h5; rw [show takeS [true, true, false] = [true, true, true] from rfl] at s5; rw [show nextV [true, true, false] 0 = .tuple #[.int .i64 2, .bool true] from rfl]; have S5 := Lib.hid s5; clear s5 h5) |
    (refine (take_any S3b.out.rep (S3b.out.tab HT.out)).mono ?_; intro e w4 h4; obtain ⟨rfl, s4, _⟩ := S3b.out.take h4; rw [show takeS [false, true, false] = [true, true, false] from rfl] at s4; rw [show nextV [false, true, false] 0 = .tuple #[.int .i64 0, .bool true] from rfl]; have S4 := Lib.hid s4; clear s4 h4) |
    (refine (free_any S3.out.rep 0).mono ?_; intro e w3b h3b; obtain ⟨rfl, s3b, _⟩ := S3.out.step h3b; rw [show freeF [true, true, false] 0 = (0, [false, true, false]) from rfl] at s3b ⊢; have S3b := Lib.hid s3b; clear s3b h3b) |
    (refine (take_any S2.out.rep (S2.out.tab HT.out)).mono ?_; intro e w3 h3; obtain ⟨rfl, s3, _⟩ := S2.out.take h3; rw [show takeS [true, false, false] = [true, true, false] from rfl] at s3; rw [show nextV [true, false, false] 0 = .tuple #[.int .i64 1, .bool true] from rfl]; have S3 := Lib.hid s3; clear s3 h3) |
    (refine (take_any S1.out.rep (S1.out.tab HT.out)).mono ?_; intro e w2 h2; obtain ⟨rfl, s2, _⟩ := S1.out.take h2; rw [show takeS [false, false, false] = [true, false, false] from rfl] at s2; rw [show nextV [false, false, false] 0 = .tuple #[.int .i64 0, .bool true] from rfl]; have S2 := Lib.hid s2; clear s2 h2) |
    ((with_reducible refine (hnew3.out _).mono ?_); rintro e w1 h1; obtain ⟨ga, rfl, s1, _, _⟩ := BS.of_new W0.out h1; have S1 := Lib.hid s1; clear s1 h1; unfold pv))
  go_ret
  exact ⟨rfl, T11.out.nw⟩
end Go.Proofs.YtoinkofoaodkhaaDoor

