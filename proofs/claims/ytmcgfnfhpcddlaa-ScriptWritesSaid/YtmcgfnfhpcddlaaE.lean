/- What script.put and script.filled return, for all bytes and numbers. -/
import Derived.Test.YtmcgfnfhpcddlaaD
import Derived.Lib.SlBytesConst
namespace Go.Proofs.Ytmcgfnfhpcddlaa
open Go.RowKit Go.BW

theorem gb_join {w w1 w2 : World} {row row' : Option Nat} (h : w.grownBy w1 row) (k : w1.grownBy w2 row') (hr : ∀ g, row' = some g → row = some g ∨ w.heap.size ≤ g) : w.grownBy w2 row :=
  ⟨k.os.trans h.os, k.tape.trans h.tape, k.output.trans h.output, Nat.le_trans h.size k.size, fun i hi hne => (k.block i (Nat.lt_of_lt_of_le hi h.size) (fun e => by
    rcases hr i e.symm with h1 | h1
    · exact hne h1.symm
    · omega)).trans (h.block i hi hne)⟩
/-- bytes behind an own row -/
structure Grown (w : World) (base : Nat) (A : Option Addr) (n c : Nat) (A' : Option Addr) (n' c' : Nat) (bs : List UInt8) (w' : World) : Prop where
  own : Own w' base 5 1 A' n' c' (bs.map bv)
  gb : w.grownBy w' (Value.slice A n c).ownBlock
  blk : (Value.slice A' n' c').ownBlock = (Value.slice A n c).ownBlock ∨ ∃ g, w.heap.size ≤ g ∧ (Value.slice A' n' c').ownBlock = some g
section
variable {w w' w'' : World} {base n c n' c' n'' c'' : Nat} {A A' A'' : Option Addr} {bs bs' : List UInt8}
theorem Grown.zero (h : Own w base 5 1 A n c (bs.map bv)) : Grown w base A n c A n c bs w := ⟨h, World.grownBy.refl w _, .inl rfl⟩
theorem Grown.trans (h : Grown w base A n c A' n' c' bs w') (k : Grown w' base A' n' c' A'' n'' c'' bs' w'') : Grown w base A n c A'' n'' c'' bs' w'' := by
  refine ⟨k.own, gb_join h.gb k.gb fun g hg => ?_, ?_⟩
  · rcases h.blk with e | ⟨q, hq, e⟩
    · rw [e] at hg; exact .inl hg
    · rw [e] at hg; injection hg with hg; exact .inr (by omega)
  · rcases k.blk with e | ⟨q, hq, e⟩
    · rw [e]; exact h.blk
    · exact .inr ⟨q, Nat.le_trans h.gb.size hq, e⟩
theorem Grown.len (h : Grown w base A n c A' n' c' bs w') : bs.length = n' := by have := h.own.len; simpa using this
end
def PutPost (base : Nat) (A : Option Addr) (n c : Nat) (bs : List UInt8) (k : Nat) (w : World) (e : Ending) (w' : World) : Prop :=
  ∃ A' c', e = .returned (.slice A' (n + k) c') ∧ Grown w base A n c A' (n + k) c' bs w'
theorem be_take (v w t : Nat) (h : t < w) : (be w v).take (t + 1) = (be w v).take t ++ [UInt8.ofNat (v / 256 ^ (w - 1 - t))] := by
  induction w generalizing t with
  | zero => omega
  | succ w ih =>
    cases t with
    | zero => simp [be]
    | succ t =>
      show UInt8.ofNat (v / 256 ^ w) :: (be w v).take (t + 1) = UInt8.ofNat (v / 256 ^ w) :: (be w v).take t ++ _
      rw [ih t (by omega), show w + 1 - 1 - (t + 1) = w - 1 - t by omega]; rfl
theorem shr_byte (v i : Nat) : IntKind.u8.wrap ((v : Int) / 2 ^ (8 * i)) = ((UInt8.ofNat (v / 256 ^ i)).toNat : Int) := by
  have e : ((v : Int) / 2 ^ (8 * i)) = ((v / 256 ^ i : Nat) : Int) := by
    rw [Int.natCast_ediv, Int.natCast_pow, Int.pow_mul]; rfl
  rw [e, IntKind.wrap_u8]
  simp
set_option maxHeartbeats 2000000 in
theorem put_any {w : World} {base n c k : Nat} {A : Option Addr} {bs : List UInt8} (ho : Own w base 5 1 A n c (bs.map bv)) (hb : base ≤ w.heap.size) (v : Nat) (hv : v < 18446744073709551616) (hk : k ≤ 8) (hn : n ≤ 1000000) {K : Int} (hK : K = (k : Int)) :
    Calls Try.prog 35 #[.slice A n c, .int .u64 (v : Int), .int .i64 K] w (PutPost base A n c (bs ++ be k v) k w) := by
  subst hK
  have HO := Lib.hid ho
  go_enter Try.func35, Try.ntmps35
  go_wp2
  go_loopw [0, 7] (fun b i wr => ∃ (t c' : Nat) (A' : Option Addr), t ≤ k ∧ i = .int .i64 ((k : Int) - 1 - t) ∧ b = .slice A' (n + t) c' ∧ Grown w base A n c A' (n + t) c' (bs ++ (be k v).take t) wr) (fun _ i _ => (intOf i + 1).toNat)
  case atStart => exact ⟨0, c, A, Nat.zero_le _, by go_num, rfl, by simpa using Grown.zero ho⟩
  case round =>
    obtain ⟨t, c', A', ht, rfl, rfl, hg⟩ := hrel
    rcases (show t < k ∨ t = k by omega) with hlt | rfl
    · obtain ⟨i, hi⟩ : ∃ i : Nat, i = k - 1 - t := ⟨_, rfl⟩
      have hii : (k : Int) - 1 - (t : Int) = (i : Int) := by omega
      rw [hii]
      have hi7 : i ≤ 7 := by omega
      have HB := Lib.hid (shr_byte v i); have HT := Lib.hid (be_take v k t hlt)
      have HG := Lib.hid hg
      have h0 : (0 : Int) ≤ (i : Int) := by omega
      have hbs := Nat.le_trans hb hg.gb.size
      clear hg
      go_wp2_with (first
        | (at_builtin; refine wpList_app1_own T46 _ _ rfl rfl rfl rfl HG.out.own rfl (by unfold maxLen; omega) hbs ?_; intro A8 c8 w8 o8 g8 b8))
      go_roundw
      case rel =>
        refine ⟨t + 1, c8, A8, by omega, by go_num, rfl, HG.out.trans ⟨?_, g8, b8⟩⟩
        rw [HT.out, ← hi, ← List.append_assoc, List.map_append]
        have e := HB.out
        rw [IntKind.wrap_u8, hi] at e
        rw [e] at o8
        rw [hi]
        exact o8
      case measure => simp only [intOf]; omega
    · have hm : ((t : Int) - 1 - (t : Int)) = -1 := by omega
      rw [hm]
      have HG := Lib.hid hg
      rw [List.take_of_length_le (by rw [be_len]; exact Nat.le_refl _)] at HG
      clear hg
      go_wp2
      go_ret
      exact ⟨A', c', rfl, HG.out⟩
def PutNew (A : Option Addr) (n k : Nat) (bs : List UInt8) (w : World) (e : Ending) (w' : World) : Prop :=
  ∃ A' c', e = .returned (.slice A' (n + k) c') ∧ Own w' w.heap.size 5 1 A' (n + k) c' (bs.map bv) ∧ Nw w w'
set_option maxHeartbeats 2000000 in
/-- .. behind a slice that is full: it goes on elsewhere -/
theorem put_full_any {w : World} {B n k : Nat} {A : Option Addr} {bs : List UInt8} (ho : Rd w B 1 A n (bs.map bv)) (hb : B ≤ w.heap.size) (v : Nat) (hv : v < 18446744073709551616) (hk : k ≤ 8) (hk1 : 1 ≤ k) (hn : n ≤ 1000000) {K : Int} (hK : K = (k : Int)) :
    Calls Try.prog 35 #[.slice A n n, .int .u64 (v : Int), .int .i64 K] w (PutNew A n k (bs ++ be k v) w) := by
  subst hK
  have HO := Lib.hid ho
  go_enter Try.func35, Try.ntmps35
  go_wp2
  go_loopw [0, 7] (fun b i wr => ∃ (t c' : Nat) (A' : Option Addr), t ≤ k ∧ i = .int .i64 ((k : Int) - 1 - t) ∧ b = .slice A' (n + t) c' ∧ Hid ((t = 0 ∧ A' = A ∧ c' = n) ∨ Own wr w.heap.size 5 1 A' (n + t) c' ((bs ++ (be k v).take t).map bv)) ∧ Nw w wr) (fun _ i _ => (intOf i + 1).toNat)
  case atStart => exact ⟨0, n, A, Nat.zero_le _, by go_num, rfl, Lib.hid (.inl ⟨rfl, rfl, rfl⟩), Nw.refl _⟩
  case round =>
    obtain ⟨t, c', A', ht, rfl, rfl, hst, hnw⟩ := hrel
    rcases (show t < k ∨ t = k by omega) with hlt | rfl
    · obtain ⟨i, hi⟩ : ∃ i : Nat, i = k - 1 - t := ⟨_, rfl⟩
      have hii : (k : Int) - 1 - (t : Int) = (i : Int) := by omega
      rw [hii]
      have hi7 : i ≤ 7 := by omega
      have HB := Lib.hid (shr_byte v i); have HT := Lib.hid (be_take v k t hlt)
      have h0 : (0 : Int) ≤ (i : Int) := by omega
      have hbs := hnw.size
      have NR := Lib.hid hnw
      have hfin : ∀ (A8 : Option Addr) (c8 : Nat) (w8 : World), Own w8 w.heap.size 5 1 A8 (n + t + 1) c8 (List.map bv (bs ++ List.take t (be k v)) ++ [Value.int IntKind.u8 ((v : Int) / 2 ^ (8 * (k - 1 - t)) % 256)]) → Own w8 w.heap.size 5 1 A8 (n + (t + 1)) c8 ((bs ++ (be k v).take (t + 1)).map bv) := by
        intro A8 c8 w8 o8
        rw [HT.out, ← hi, ← List.append_assoc, List.map_append]
        have e := HB.out
        rw [IntKind.wrap_u8, hi] at e
        rw [e] at o8
        rw [hi]
        exact o8
      have HF := Lib.hid hfin
      rcases hst.out with ⟨rfl, rfl, rfl⟩ | hown
      · have hr := HO.out.nw hnw hb
        rw [show bs.map bv = (bs ++ List.take 0 (be k v)).map bv from by simp] at hr
        have HR := Lib.hid hr
        have hB := Nat.le_trans hb hbs
        clear hr hfin hnw hst
        go_wp2_with (first
          | (at_builtin; refine wpList_app1_full T46 _ _ rfl rfl w.heap.size rfl rfl HR.out hB (by unfold maxLen; omega) hbs ?_; intro A8 c8 w8 o8 g8))
        go_roundw
        case rel => exact ⟨0 + 1, c8, A8, by omega, by go_num, rfl, Lib.hid (.inr (HF.out _ _ _ o8)), gb_trans NR.out g8⟩
        case measure => simp only [intOf]; omega
      · have HW := Lib.hid hown
        have hblk := hown.blk
        clear hown hfin hnw hst
        go_wp2_with (first
          | (at_builtin; refine wpList_app1_own T46 _ _ rfl rfl rfl rfl HW.out rfl (by unfold maxLen; omega) hbs ?_; intro A8 c8 w8 o8 g8 b8))
        go_roundw
        case rel => exact ⟨t + 1, c8, A8, by omega, by go_num, rfl, Lib.hid (.inr (HF.out _ _ _ o8)), nw_of_gb NR.out g8 hblk⟩
        case measure => simp only [intOf]; omega
    · have hm : ((t : Int) - 1 - (t : Int)) = -1 := by omega
      rw [hm]
      have hown := hst.out.resolve_left (by omega)
      rw [List.take_of_length_le (by rw [be_len]; exact Nat.le_refl _)] at hown
      have HW := Lib.hid hown
      clear hst hown
      go_wp2
      go_ret
      exact ⟨A', c', rfl, HW.out, hnw⟩
theorem fill_step (s : List UInt8) {n : Nat} {c : UInt8} (hn : fillN s ≤ n + 1) (hc : s[n]? = some c) : (c = 0 → fillN s ≤ n) ∧ (c ≠ 0 → fillN s = n + 1) := by
  have hl := (List.getElem?_eq_some_iff.1 hc).1
  constructor
  · intro h0
    rcases Nat.lt_or_ge n (fillN s) with h | h
    · have he : fillN s = n + 1 := by omega
      exfalso
      unfold fillN at he
      have hd : (s.reverse.dropWhile (· == 0)) ≠ [] := by intro e; rw [e] at he; simp at he
      have hhead := List.head_dropWhile_not (p := (· == (0 : UInt8))) (l := s.reverse) (w := hd)
      have hsuf : s.reverse.dropWhile (· == 0) <:+ s.reverse := List.dropWhile_suffix _
      obtain ⟨t, ht⟩ := hsuf
      have hr := congrArg List.reverse ht
      rw [List.reverse_append, List.reverse_reverse] at hr
      obtain ⟨x, r, hx⟩ := List.exists_cons_of_ne_nil hd
      simp only [hx, List.head_cons] at hhead
      rw [hx] at hr he
      rw [← hr, List.reverse_cons, List.append_assoc, List.getElem?_append_right (by simp at he ⊢; omega)] at hc
      simp at he
      simp [he] at hc
      rw [hc] at hhead
      simp [h0] at hhead
    · exact h
  · intro h0
    rcases Nat.lt_or_ge n (fillN s) with h | h
    · omega
    · exfalso
      have hp := fill_pad s
      rw [hp, List.getElem?_append_right (by rw [List.length_take]; omega), List.length_take, List.getElem?_replicate] at hc
      split at hc
      · injection hc with hc; exact h0 hc.symm
      · cases hc
set_option maxHeartbeats 2000000 in
theorem filled_any (s : List UInt8) (hs : s.length = 64) (w : World) : Calls Try.prog 36 #[.agg (s.map bv).toArray] w (Ret (.int .i64 (fillN s)) w) := by
  have hbox := Obj1.new w 33 (s.map bv).toArray
  have hg0 := World.grownBy_alloc w (.cells (s.map bv).toArray 33) none
  obtain ⟨W, hW⟩ : ∃ W, w.alloc (.cells (s.map bv).toArray 33) = W := ⟨_, rfl⟩
  obtain ⟨y, hy⟩ : ∃ y, w.heap.size = y := ⟨_, rfl⟩
  rw [hW] at hbox hg0
  rw [hy] at hbox
  have BX := Lib.hid hbox; have N0 := Lib.hid hg0
  have hle := fillN_le s
  clear hbox hg0
  go_enter Try.func36, Try.ntmps36
  go_wp2
  go_loopw [3] (fun i wr => ∃ n : Nat, i = .int .i64 (n : Int) ∧ n ≤ 64 ∧ fillN s ≤ n ∧ Nw W wr) (fun i _ => (intOf i).toNat)
  case atStart => exact ⟨64, rfl, Nat.le_refl _, by omega, Nw.refl _⟩
  case round =>
    obtain ⟨n, rfl, hn, hfl, hnw⟩ := hrel
    rcases n with _ | n
    · have hz : fillN s = 0 := by omega
      have HZ := Lib.hid hz
      clear hfl hz hle
      go_wp2
      go_ret
      exact ⟨by rw [HZ.out]; rfl, gb_trans N0.out hnw⟩
    · have hc : s[n]? = some s[n] := List.getElem?_eq_getElem (by omega)
      obtain ⟨c, hcc⟩ : ∃ c, s[n] = c := ⟨_, rfl⟩
      rw [hcc] at hc
      have hf := fill_step s hfl hc
      have hcell : wr.cell? ⟨y, n, none⟩ = some (.int .u8 (c.toNat : Int)) := by
        rw [(BX.out.nw hnw).cell n, List.getElem?_toArray, List.getElem?_map, hc]; rfl
      have hlt : (0 : Int) < ((n + 1 : Nat) : Int) := by omega
      have hcast : ((n + 1 : Nat) : Int) - 1 = (n : Int) := by omega
      rcases Decidable.em (c = 0) with h0 | h0
      · have hh := Lib.hid (hf.1 h0)
        have hq : ((c.toNat : Int) == 0) = true := by rw [h0]; rfl
        clear hf hc hcc hfl h0 hle
        go_wp2
        go_roundw
        case rel => exact ⟨n, by go_num, by omega, hh.out, hnw⟩
        case measure => simp only [intOf]; omega
      · have hh := Lib.hid (hf.2 h0)
        have hq : ((c.toNat : Int) == 0) = false := by
          rw [beq_eq_false_iff_ne]
          intro e
          exact h0 (UInt8.toNat_inj.1 (by simpa using (show c.toNat = 0 by omega)))
        clear hf hc hcc hfl h0 hle
        go_wp2
        go_ret
        exact ⟨by rw [hh.out]; rfl, gb_trans N0.out hnw⟩
end Go.Proofs.Ytmcgfnfhpcddlaa

