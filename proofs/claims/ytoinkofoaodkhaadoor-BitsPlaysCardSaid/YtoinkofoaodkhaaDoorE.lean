/- What bits' Bytes and Of return. -/
import Derived.Test.YtoinkofoaodkhaaDoorD
namespace Go.Proofs.YtoinkofoaodkhaaDoor
open Go.RowKit Go.BW Go.BW.Bit

theorem T28 : El Tryd.prog 28 5 (.int .u8 0) 1 1 := El.mk' Tryd.underlying28 (by kernel_rfl) rfl (by decide)
theorem bv_one (bs : List UInt8) : ∀ u ∈ bs.map bv, u.oneCell' = true := by intro u hu; obtain ⟨x, _, rfl⟩ := List.mem_map.1 hu; rfl
theorem toList_made1 (n : Nat) : (madeCells (Value.int .u8 0).cells n).toList = (List.replicate n (0 : UInt8)).map bv := by
  apply List.ext_getElem?
  intro j
  by_cases hj : j < n
  · simp [madeCells, hj, Value.cells, bv, Nat.mod_one]
  · simp [madeCells, hj]
/-- so many of them, and then what there was -/
def upTo {α : Type} (z : α) (B : List α) (k : Nat) : List α := B.take k ++ List.replicate (B.length - k) z
theorem upTo_zero {α : Type} (z : α) (B : List α) : upTo z B 0 = List.replicate B.length z := by simp [upTo]
theorem upTo_all {α : Type} (z : α) (B : List α) : upTo z B B.length = B := by simp [upTo]
theorem upTo_len {α : Type} (z : α) (B : List α) (k : Nat) (hk : k ≤ B.length) : (upTo z B k).length = B.length := by simp [upTo]; omega
theorem upTo_cons {α : Type} (z : α) (B : List α) (k : Nat) (hk : k < B.length) : upTo z B k = B.take k ++ z :: List.replicate (B.length - (k + 1)) z := by
  unfold upTo
  rw [show B.length - k = (B.length - (k + 1)) + 1 by omega, List.replicate_succ]
theorem upTo_next {α : Type} (z : α) (B : List α) (k : Nat) (hk : k < B.length) : upTo z B (k + 1) = B.take k ++ B[k] :: List.replicate (B.length - (k + 1)) z := by
  unfold upTo
  rw [List.take_succ_eq_append_getElem hk, List.append_assoc]
  rfl
theorem upTo_set {α : Type} (z : α) (B : List α) (k : Nat) (hk : k < B.length) : (upTo z B k).set k B[k] = upTo z B (k + 1) := by
  rw [upTo_cons z B k hk, upTo_next z B k hk, List.set_append_right _ _ (by simp; omega), List.length_take, Nat.min_eq_left (by omega), Nat.sub_self, List.set_cons_zero]
theorem upTo_same {α : Type} (z : α) (B : List α) (k : Nat) (hk : k < B.length) (h : B[k] = z) : upTo z B k = upTo z B (k + 1) := by
  rw [upTo_cons z B k hk, upTo_next z B k hk, h]
theorem upTo_at {α : Type} (z : α) (B : List α) (k : Nat) (hk : k < B.length) : (upTo z B k)[k]? = some z := by
  rw [upTo_cons z B k hk, List.getElem?_append_right (by simp; omega), List.length_take, Nat.min_eq_left (by omega), Nat.sub_self]
  rfl
def BytesRel (w : World) (L l : Nat) (B : List UInt8) (k : Nat) (wr : World) : Prop := Own wr w.heap.size 5 1 (some ⟨l, 0, none⟩) L L ((upTo 0 B k).map bv) ∧ Nw w wr
set_option maxRecDepth 100000 in
set_option maxHeartbeats 4000000 in
theorem bytes_any {w : World} {g : Nat} {bs : List Bool} (h : BR w g bs) : Calls Tryd.prog 12 #[pv g] w (RetOwn 5 1 ((bytesOf bs).map bv) w) := by
  have hn := h.n
  obtain ⟨N, hN⟩ : ∃ N, bs.length = N := ⟨_, rfl⟩
  obtain ⟨L, hL⟩ : ∃ L, (N + 7) / 8 = L := ⟨_, rfl⟩
  have hN2 := h.2
  rw [hN] at hn hN2
  have HBL := Lib.hid (show (bytesOf bs).length = L from by rw [bytesOf_len, hN, hL])
  have HB := Lib.hid h; have HN := Lib.hid hN
  have HL := Lib.hid (show ((N : Int) + 7) / 8 = (L : Int) from by omega)
  have hL2 : L ≤ 8192 := by omega
  have hLN : L * 8 ≤ N + 7 := by omega
  clear h hN hL
  unfold pv
  go_enter Tryd.func12, Tryd.ntmps12
  go_wp2_with (refine wpList_make T28 _ _ rfl rfl w.heap.size .i64 .i64 _ _ L rfl rfl HL.out HL.out (by unfold maxLen; omega) (Nat.le_refl _) ?_; intro l w1 o1 n1 h1; have O1 := Lib.hid o1; have N1 := Lib.hid n1; clear o1 n1 h1)
  go_loopw [14] (fun i wr => ∃ k : Nat, k ≤ L ∧ i = .int .i64 k ∧ BytesRel w L l (bytesOf bs) k wr) (fun i _ => L - (intOf i).toNat)
  case atStart => exact ⟨0, Nat.zero_le _, rfl, by rw [upTo_zero, HBL.out, ← toList_made1]; have := O1.out; simpa using this, N1.out⟩
  case round =>
    obtain ⟨k, hk, rfl, ho, hnw⟩ := hrel
    have HO := Lib.hid ho; have HNW := Lib.hid hnw; clear ho hnw
    by_cases hlt : k < L
    · have hk2 : k / 8 < 1024 := by omega
      have hw := (HB.out.nw HNW.out).word hk2
      have HW := Lib.hid (byte_word bs k)
      have hlw := word_lt bs (k / 8)
      obtain ⟨W, hW⟩ : ∃ W, word bs (k / 8) = W := ⟨_, rfl⟩
      rw [hW] at hw HW hlw
      clear hW
      obtain ⟨u, _, hcu, hfu⟩ := HO.out.cellAt hlt
      go_wp2
      have HB2 := Lib.hid (show k < (bytesOf bs).length from by rw [HBL.out]; exact hlt)
      have HV := Lib.hid (show Value.int .u8 ((W : Int) / 2 ^ (k % 8 * 8) % 256) = bv ((bytesOf bs)[k]'HB2.out) from by
        rw [shr_cast]
        have e : (bytesOf bs)[k]'HB2.out = UInt8.ofNat (Bit.part bs (8 * k) 8) := by unfold bytesOf; simp
        rw [e, ← HW.out]
        unfold bv
        congr 1
        simp)
      rw [HV.out]
      obtain ⟨o3, g3⟩ := HO.out.set k (bv ((bytesOf bs)[k]'HB2.out))
      rw [← List.map_set, upTo_set _ _ _ HB2.out] at o3
      exact ⟨⟨k + 1, hlt, by go_num, o3, nw_of_gb HNW.out g3 HO.out.blk⟩, by simp [intOf]; omega⟩
    · have hk' : k = L := by omega
      subst hk'
      go_wp2
      go_ret
      have := HO.out
      rw [← HBL.out, upTo_all] at this
      exact ⟨_, _, _, rfl, by rw [HBL.out] at this; exact this, HNW.out⟩
/-! Of -/
theorem of_arg {w : World} (n : Int) (hn : n < 0 ∨ 65536 < n) (A : Option Addr) (m c : Nat) : Calls Tryd.prog 13 #[.int .i64 n, .slice A m c] w (Ret (.tuple #[.pointer none, .int .i64 1]) w) := by
  rcases (show n < 0 ∨ (¬ n < 0 ∧ 65536 < n) from by omega) with h0 | ⟨h0, h1⟩
  all_goals
    go_enter Tryd.func13, Tryd.ntmps13
    go_wp2
    go_ret2
    exact ⟨rfl, Nw.refl w⟩
theorem nw_of_chg {wb w w' : World} {F : List Nat} (h : Nw wb w) (k : Chg w w' F) (hF : ∀ x ∈ F, wb.heap.size ≤ x) : Nw wb w' :=
  ⟨k.os.trans h.os, k.tape.trans h.tape, k.output.trans h.output, Nat.le_trans h.size k.size, fun i hi _ => (k.block i (Nat.lt_of_lt_of_le hi h.size) (fun hm => by have := hF i hm; omega)).trans (h.block i hi (by simp))⟩
theorem and_u8_one (x : Nat) (hx : x < 256) : bits .and .u8 (x : Int) 1 = ((x &&& 1 : Nat) : Int) := by
  have h1 : (BitVec.ofInt 8 (x : Int)).toNat = x := by
    rw [BitVec.ofInt_natCast, BitVec.toNat_ofNat]; exact Nat.mod_eq_of_lt (by omega)
  have h2 : (BitVec.ofInt 8 1).toNat = 1 := rfl
  have hx2 : x &&& 1 < 2 ^ 8 := Nat.and_lt_two_pow _ (by decide)
  show IntKind.u8.wrap ((BitVec.ofInt 8 (x : Int) &&& BitVec.ofInt 8 1).toNat : Int) = _
  rw [BitVec.toNat_and, h1, h2]
  simp only [IntKind.wrap, IntKind.signed, IntKind.bits]
  simp
  omega
set_option maxHeartbeats 4000000 in
theorem of_form {w : World} (N : Nat) (hN : N ≤ 65536) {B : Nat} {A : Option Addr} {m c : Nat} {l : List UInt8} (hr : Rd w B 1 A m (l.map bv)) (h : okB N l = false) : Calls Tryd.prog 13 #[.int .i64 N, .slice A m c] w (Ret (.tuple #[.pointer none, .int .i64 2]) w) := by
  have hl : l.length = m := by have := hr.1; simpa using this
  obtain ⟨L, hL⟩ : ∃ L, (N + 7) / 8 = L := ⟨_, rfl⟩
  obtain ⟨s, hs⟩ : ∃ s, N % 8 = s := ⟨_, rfl⟩
  have hL1 : ((N : Int) + 7) / 8 = (L : Int) := by omega
  have hs1 : (N : Int) % 8 = (s : Int) := by omega
  unfold okB at h
  rw [hl, hL, hs] at h
  by_cases hml : m = L
  · have hc : s ≠ 0 ∧ ¬ (l.getD (m - 1) 0).toNat >>> s = 0 := by
      simp [hml] at h
      rw [hml]
      exact h
    obtain ⟨hs0, hx⟩ := hc
    subst hml
    have hm0 : 0 < m := by omega
    obtain ⟨b, off, rfl, hz, hcu⟩ := hr.atB (show m - 1 < m by omega)
    have e1 : l.getD (m - 1) 0 = l[m - 1] := by rw [List.getD_eq_getElem?_getD, List.getElem?_eq_getElem hz]; rfl
    rw [e1] at hx
    obtain ⟨y, hy⟩ : ∃ y, (l[m - 1]).toNat = y := ⟨_, rfl⟩
    rw [hy] at hx hcu
    have b2 : ((s : Int) != 0) = true := by simp; exact hs0
    have b3 : ((y : Int) / 2 ^ s != 0) = true := by rw [shr_cast, bne_iff_ne]; generalize y >>> s = q at hx ⊢; omega
    have hs8 : s < 8 := by omega
    have hm1 : (m : Int) - 1 < m := by omega
    clear h hr hl hL hs e1 hy hx hz
    go_enter Tryd.func13, Tryd.ntmps13
    go_wp2
    go_ret2
    exact ⟨rfl, Nw.refl w⟩
  · have b1 : ((m : Int) != (L : Int)) = true := by simp; omega
    clear h hr hl hL hs
    go_enter Tryd.func13, Tryd.ntmps13
    go_wp2
    go_ret2
    exact ⟨rfl, Nw.refl w⟩
end Go.Proofs.YtoinkofoaodkhaaDoor

