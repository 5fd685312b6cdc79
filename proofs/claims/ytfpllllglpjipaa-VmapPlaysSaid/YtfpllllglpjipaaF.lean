/- A map of places at hand in a walk, and what shown returns. -/
import Derived.Test.YtfpllllglpjipaaE
namespace Go.Proofs.Ytfpllllglpjipaa
open Go.RowKit Go.BW

theorem set_any {w : World} {g : Nat} {ps : List Wh} (h : VRep w g ps) {B n d : Nat} {L : Option Addr} {l : List Ch} (hr : Rd w B 4 L n (fl cc l)) (hB : B ≤ w.heap.size) (hn : n ≤ 1000000) (hok : ∀ x ∈ l, okC x) (hps : ∀ x ∈ ps, okW x) :
    Calls Try.prog 11 #[pv g, .slice L n d] w (SetPost ps l g w) := by
  cases hall : allIn ps.length l with
  | false => exact set_bad h hr hB hn hall
  | true => exact set_good h hr hB hn hall hok hps
/-- a map at hand in a walk that began at wb -/
structure VS (wb w : World) (g : Nat) (ps : List Wh) : Prop where
  rep : VRep w g ps
  ge : wb.heap.size ≤ g
  nw : Nw wb w
section
variable {wb w w' : World} {g : Nat} {ps : List Wh} {e : Ending}
theorem VS.of_new {N : Nat} (h0 : Nw wb w) (h : NewPost N w e w') : ∃ g, e = .returned (pv g) ∧ VS wb w' g (List.replicate N w0) ∧ w.heap.size ≤ g ∧ Nw w w' := by
  obtain ⟨g, he, h1, h2, h3⟩ := h
  exact ⟨g, he, ⟨h1, Nat.le_trans h0.size h2, gb_trans h0 h3⟩, h2, h3⟩
theorem VS.more (h : VS wb w g ps) (k : Nw w w') : VS wb w' g ps := ⟨h.rep.nw k, h.ge, gb_trans h.nw k⟩
theorem nw_of_chg {F : List Nat} (h : Nw wb w) (k : Chg w w' F) (hF : ∀ x ∈ F, wb.heap.size ≤ x) : Nw wb w' :=
  ⟨k.os.trans h.os, k.tape.trans h.tape, k.output.trans h.output, Nat.le_trans h.size k.size, fun i hi _ => (k.block i (Nat.lt_of_lt_of_le hi h.size) (fun hm => by have := hF i hm; omega)).trans (h.block i hi (by simp))⟩
theorem VS.set (h : VS wb w g ps) {l : List Ch} (k : SetPost ps l g w e w') : e = .returned (.int .i64 (setF ps l).1) ∧ VS wb w' g (setF ps l).2 ∧ Chg w w' [g] :=
  ⟨k.1, ⟨k.2.1, h.ge, nw_of_chg h.nw k.2.2 (by intro x hx; simp at hx; subst hx; exact h.ge)⟩, k.2.2⟩
end
/-! what holds of every map -/
structure Inv (ps : List Wh) : Prop where
  ok : ∀ x ∈ ps, okW x
  may : ∀ x ∈ ps, mayB x = true
  dup : dupN ps ps.length = false
theorem dup_zero (N : Nat) : ∀ k, dupN (List.replicate N w0) k = false
  | 0 => rfl
  | k + 1 => by
    unfold dupN
    rw [dup_zero N k, List.getElem?_replicate]
    by_cases h : k < N
    · rw [if_pos h]; rfl
    · rw [if_neg h]; rfl
theorem inv_zero (N : Nat) : Inv (List.replicate N w0) := by
  refine ⟨fun x hx => ?_, fun x hx => ?_, dup_zero N _⟩
  · have := (List.mem_replicate.1 hx).2
    subst this
    unfold okW okI w0; simp
  · have := (List.mem_replicate.1 hx).2
    subst this
    rfl
theorem applyN_all {p : Wh → Prop} (ps : List Wh) (l : List Ch) (h1 : ∀ x ∈ ps, p x) (h2 : ∀ x ∈ l, p x.to) : ∀ k, ∀ x ∈ applyN ps l k, p x
  | 0 => h1
  | k + 1 => by
    unfold applyN
    split
    · rename_i c hc
      intro x hx
      rcases List.mem_or_eq_of_mem_set hx with h | h
      · exact applyN_all ps l h1 h2 k x h
      · rw [h]; exact h2 c (List.mem_of_getElem? hc)
    · exact applyN_all ps l h1 h2 k
theorem setF_len (ps : List Wh) (l : List Ch) : (setF ps l).2.length = ps.length := by
  unfold setF
  split
  · rfl
  · split
    · rfl
    · split
      · rfl
      · exact applyN_len ps l _
theorem inv_set {ps : List Wh} {l : List Ch} (h : Inv ps) (hl : ∀ x ∈ l, okC x) : Inv (setF ps l).2 := by
  unfold setF
  split
  · exact h
  · split
    · exact h
    · rename_i hm
      split
      · exact h
      · rename_i hd
        refine ⟨applyN_all ps l h.ok (fun x hx => (hl x hx).2) _, applyN_all ps l h.may (fun x hx => ?_) _, ?_⟩
        · exact List.all_eq_true.1 (by simpa using hm) x hx
        · show dupN (applyN ps l l.length) (applyN ps l l.length).length = false
          rw [applyN_len]
          simpa using hd
theorem rd_lit4 {w0 : World} (l : List Ch) (cs : Array Value) (h : cs = (fl cc l).toArray) : Rd (w0.alloc (.cells cs 33)) (w0.heap.size + 1) 4 (some ⟨w0.heap.size, 0, none⟩) l.length (fl cc l) := by
  subst h
  refine ⟨fl_len cc_len l, fun _ => ⟨_, _, rfl, by omega, fun j v hv => ?_⟩⟩
  have hc := cell_of_row (w0.alloc (.cells (fl cc l).toArray 33)) w0.heap.size j (fl cc l).toArray 33 (0, 0) (heap_alloc_new w0 _)
  rw [Nat.zero_add]
  exact hc.trans (by simpa using hv)
/-- a variable that holds a place -/
abbrev W3 (w : World) (y : Nat) (a b c : Int) : Prop := Obj1 w y 31 #[.int .i64 a, .int .i64 b, .int .i64 c]
theorem w3cells {w : World} {y : Nat} {a b c : Int} (h : W3 w y a b c) : w.cell? ⟨y, 0, none⟩ = some (.int .i64 a) ∧ w.cell? ⟨y, 1, none⟩ = some (.int .i64 b) ∧ w.cell? ⟨y, 2, none⟩ = some (.int .i64 c) := ⟨h.cell 0, h.cell 1, h.cell 2⟩
theorem W3.chg {w w' : World} {y g : Nat} {a b c : Int} {ps : List Wh} (h : W3 w y a b c) (hg : VRep w g ps) (k : Chg w w' [g]) : W3 w' y a b c := by
  obtain ⟨l, b', c', hg⟩ := hg
  exact Obj1.chg h k (by simpa using Obj1.ne h hg.obj (by decide))
set_option maxHeartbeats 4000000 in
theorem shown_any (w : World) : Calls Try.prog 9 #[] w (Ret (.bool true) w) := by
  have hnew := Lib.hid (show ∀ w, Calls Try.prog 10 #[.int .i64 2] w (NewPost 2 w) from fun w => new_any 2 w)
  obtain ⟨i0, hi0, hz0, _⟩ := T28.info
  have HZ := Lib.hid hz0; clear hz0
  have H0 := Lib.hid hi0; clear hi0
  have W0 := Lib.hid (Nw.refl w)
  go_enter Try.func9, Try.ntmps9
  go_wp2_with (first | (refine (hnew.out _).mono ?_; rintro e w1 h1; obtain ⟨g, rfl, s1, _, _⟩ := VS.of_new W0.out h1; have S1 := Lib.hid s1; clear s1 h1; unfold pv) |
    (refine wpList_alloc (size := 3) 31 rfl rfl w.heap.size i0 H0.out HZ.out rfl S1.out.nw.size ?_; intro y w2 a1 a2 a3; have A1 := Lib.hid a1; have A2 := Lib.hid a2; have A3 := Lib.hid a3; clear a1 a2 a3) |
    (refine wpList_store_own (cs := wc ⟨1, 3, 5⟩) 31 _ _ rfl rfl rfl rfl rfl i31 (wc_one _) A1.out (by decide) ?_; intro w3 s1 s2; have o3 := Own.row1' s1; rw [splice_all _ _ (by rfl)] at o3; have OY := Lib.hid (show W3 w3 y 1 3 5 from o3); have S3 := Lib.hid (S1.out.more (nw_of_gb A2.out s2 (by intro x e; injection e with e; have := A3.out; omega))); obtain ⟨d0, d1, d2⟩ := w3cells OY.out; clear o3 s1 s2))
  have n4 := World.grownBy_alloc w3 (.cells #[.int .i64 0, .int .i64 1, .int .i64 3, .int .i64 5] 33) none
  refine (set_any (S3.out.rep.nw n4) (rd_lit4 [⟨0, ⟨1, 3, 5⟩⟩] _ rfl) (by simp) (by simp) (by unfold okC okW okI; simp) (inv_zero 2).ok).mono ?_
  intro e w5 h5
  obtain ⟨rfl, s5, c5⟩ := (S3.out.more n4).set h5
  have S5 := Lib.hid s5; have OY5 := Lib.hid ((show W3 _ y 1 3 5 from Obj1.nw OY.out n4).chg (S3.out.rep.nw n4) c5)
  clear s5 c5 h5 n4 d0 d1 d2
  rw [show setF (List.replicate 2 w0) [⟨0, ⟨1, 3, 5⟩⟩] = (0, [⟨1, 3, 5⟩, w0]) from by decide] at S5 ⊢
  obtain ⟨d0, d1, d2⟩ := w3cells OY5.out
  go_wp2_with fail
  have n6 := World.grownBy_alloc w5 (.cells #[.int .i64 1, .int .i64 1, .int .i64 3, .int .i64 5] 33) none
  refine (set_any (S5.out.rep.nw n6) (rd_lit4 [⟨1, ⟨1, 3, 5⟩⟩] _ rfl) (by simp) (by simp) (by unfold okC okW okI; simp) (by unfold okW okI w0; simp)).mono ?_
  intro e w7 h7
  obtain ⟨rfl, s7, c7⟩ := (S5.out.more n6).set h7
  have S7 := Lib.hid s7; have OY7 := Lib.hid ((show W3 _ y 1 3 5 from Obj1.nw OY5.out n6).chg (S5.out.rep.nw n6) c7)
  clear s7 c7 h7 n6 d0 d1 d2
  rw [show setF [⟨1, 3, 5⟩, w0] [⟨1, ⟨1, 3, 5⟩⟩] = (9, [⟨1, 3, 5⟩, w0]) from by decide] at S7 ⊢
  obtain ⟨d0, d1, d2⟩ := w3cells OY7.out
  go_wp2_with fail
  have n8 := World.grownBy_alloc w7 (.cells #[.int .i64 0, .int .i64 0, .int .i64 0, .int .i64 0, .int .i64 1, .int .i64 1, .int .i64 3, .int .i64 5] 33) none
  refine (set_any (S7.out.rep.nw n8) (rd_lit4 [⟨0, w0⟩, ⟨1, ⟨1, 3, 5⟩⟩] _ rfl) (by simp) (by simp) (by unfold okC okW okI w0; simp) (by unfold okW okI w0; simp)).mono ?_
  intro e w9 h9
  obtain ⟨rfl, s9, c9⟩ := (S7.out.more n8).set h9
  have S9 := Lib.hid s9; have OY9 := Lib.hid ((show W3 _ y 1 3 5 from Obj1.nw OY7.out n8).chg (S7.out.rep.nw n8) c9)
  clear s9 c9 h9 n8 d0 d1 d2
  rw [show setF [⟨1, 3, 5⟩, w0] [⟨0, w0⟩, ⟨1, ⟨1, 3, 5⟩⟩] = (0, [w0, ⟨1, 3, 5⟩]) from by decide] at S9 ⊢
  obtain ⟨d0, d1, d2⟩ := w3cells OY9.out
  go_wp2_with fail
  refine (holder_any S9.out.rep ⟨1, 3, 5⟩).mono ?_
  rintro e w10 ⟨rfl, n10⟩
  rw [show look (heldOf [w0, ⟨1, 3, 5⟩]) ⟨1, 3, 5⟩ = some 1 from by decide]
  have S10 := Lib.hid (S9.out.more n10); clear n10 d0 d1 d2
  go_wp2_with (refine (len_any S10.out.rep).mono ?_; rintro e w11 ⟨rfl, rfl⟩)
  go_ret
  exact ⟨rfl, S10.out.nw⟩
end Go.Proofs.Ytfpllllglpjipaa

