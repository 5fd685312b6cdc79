/- The reference's numbers and filled bytes as strings, for all of them. -/
import Derived.Test.YtmcgfnfhpcddlaaM
import Derived.Test.YtmcgfnfhpcddlaaStr
namespace Go.Proofs.Ytmcgfnfhpcddlaa
open Go.RowKit Go.BW

def str (bs : List UInt8) : Value := .string ⟨bs.toArray⟩
theorem be_one (n : Nat) : be 1 n = [UInt8.ofNat n] := by
  show UInt8.ofNat (n / 256 ^ 0) :: be 0 n = _
  rw [Nat.pow_zero, Nat.div_one]; rfl
theorem be_le (n : Nat) : ∀ k, (be k n).length ≤ k := fun k => Nat.le_of_eq (be_len n k)
set_option maxHeartbeats 2000000 in
theorem num_any (v : Nat) (hv : v < 18446744073709551616) (k : Nat) (hk : k ≤ 8) {K : Int} (hK : K = (k : Int)) (w : World) : Calls Try.prog 37 #[.int .u64 (v : Int), .int .i64 K] w (Ret (str (be k v)) w) := by
  subst hK
  unfold str
  go_enter Try.func37, Try.ntmps37
  go_wp2
  go_loopw [0, 5, 6] (fun n t i wr => ∃ j : Nat, j ≤ k ∧ i = .int .i64 j ∧ n = .int .u64 ((v / 256 ^ j : Nat) : Int) ∧ t = .string ⟨(be j v).toArray⟩ ∧ Nw w wr) (fun _ _ i _ => k - (intOf i).toNat)
  case atStart => exact ⟨0, Nat.zero_le _, rfl, by simp, rfl, Nw.refl _⟩
  case round =>
    obtain ⟨j, hj, rfl, rfl, rfl, hnw⟩ := hrel
    rcases (show j < k ∨ j = k by omega) with hlt | rfl
    · have d1 : (j : Int) < (k : Int) := by omega
      have HB := Lib.hid (show be (j + 1) v = UInt8.ofNat (v / 256 ^ j) :: be j v from rfl)
      have HD := Lib.hid (show v / 256 ^ (j + 1) = v / 256 ^ j / 256 from by rw [Nat.pow_succ, Nat.div_div_eq_div_mul])
      have hN : v / 256 ^ j ≤ v := Nat.div_le_self _ _
      obtain ⟨N, hNN⟩ : ∃ N, v / 256 ^ j = N := ⟨_, rfl⟩
      rw [hNN] at HB HD hN
      rw [hNN]
      have t1 : ((N : Int)).tmod 256 = ((N % 256 : Nat) : Int) := by rw [Int.tmod_eq_emod_of_nonneg (by omega)]; omega
      have t2 : ((N : Int)).tdiv 256 = ((N / 256 : Nat) : Int) := by rw [Int.tdiv_eq_ediv_of_nonneg (by omega)]; omega
      have t3 : ((N % 256 : Nat) : Int) % 256 = ((N % 256 : Nat) : Int) := by omega
      have hbl := be_le v j
      obtain ⟨bj, hbj⟩ : ∃ b, be j v = b := ⟨_, rfl⟩
      rw [hbj] at HB hbl
      rw [hbj]
      have hcb : Value.int .u8 ((N % 256 : Nat) : Int) = bv (UInt8.ofNat N) := by unfold bv; congr 1
      have hrd : Rd (wr.alloc (.cells #[.int .u8 ((N % 256 : Nat) : Int)] 5)) (wr.heap.size + 1) 1 (some ⟨wr.heap.size, 0, none⟩) 1 ([UInt8.ofNat N].map bv) := by
        have := rd_lit (w0 := wr) [Value.int .u8 ((N % 256 : Nat) : Int)] 5 1 rfl
        rw [hcb] at this ⊢
        exact this
      have RD := Lib.hid hrd; have NR := Lib.hid hnw
      clear hNN hbj hcb hrd hnw
      go_wp2_with (first
        | (refine wpList_str_add 9 9 _ _ rfl rfl [UInt8.ofNat N] bj rfl rfl (by simp; omega) rfl ?_)
        | (refine wpList_bytes_str 46 9 5 Try.underlying46 Try.underlying5 Try.underlying9 _ rfl rfl rfl RD.out ?_))
      go_roundw
      case rel => exact ⟨j + 1, by omega, by go_num, (by rw [HD.out]; first | rfl | (congr 1; done) | (congr 1; omega)), (by rw [HB.out]; first | done | rfl), gb_trans NR.out (World.grownBy_alloc wr _ none)⟩
      case measure => simp only [intOf]; omega
    · have d1 : decide ((j : Int) < (j : Int)) = false := by simp
      have NR := Lib.hid hnw
      clear hnw
      go_wp2
      go_ret
      exact ⟨rfl, NR.out⟩
theorem wpList_secpart0 {ops : Array Oper} {rest : List Oper} {o : Oper} {a : Go.Act} {Q : Exit → Go.Act → World → Prop} {w : World} (x h : Operand) (hop : o.op = .slice 33 x none (some h) none) (hw : Region.wanted o (yielded ops a.tmps) = true) {g k : Nat}
    (hx : a.eval x = .pointer (some ⟨g, 0, none⟩)) (hh : a.eval h = .int .i64 (k : Int)) (hk : k ≤ 64) (hK : wpList Try.prog ops Q rest (a.put o.dst (.slice (some ⟨g, 0, none⟩) k 64)) w) : wpList Try.prog ops Q (o :: rest) a w := by
  refine wpList_ran hw (w' := w) ?_ hK
  have := run_arr_partO 33 5 64 Try.underlying33 i5 g 0 0 k none (some (.int .i64 k)) (by omega) hk (.inr ⟨rfl, rfl⟩) (.inl rfl) w
  unfold execOp
  simp [hop, hx, hh, this]
theorem rd_sec {w : World} {g : Nat} {s : List UInt8} (h : Obj1 w g 33 (s.map bv).toArray) (hs : s.length = 64) {k : Nat} (hk : k ≤ 64) : Rd w w.heap.size 1 (some ⟨g, 0, none⟩) k ((s.take k).map bv) := by
  refine ⟨by simp; omega, fun _ => ⟨g, 0, rfl, h.lt, fun j u hu => ?_⟩⟩
  rw [Nat.zero_add, h.cell j, List.getElem?_toArray]
  rw [List.getElem?_map, List.getElem?_take] at hu
  split at hu
  · rw [List.getElem?_map]; exact hu
  · cases hu
set_option maxHeartbeats 2000000 in
theorem rfilled_any (s : List UInt8) (hs : s.length = 64) (w : World) : Calls Try.prog 60 #[.agg (s.map bv).toArray] w (Ret (str (s.take (fillN s))) w) := by
  have hbox := Obj1.new w 33 (s.map bv).toArray
  have hg0 := World.grownBy_alloc w (.cells (s.map bv).toArray 33) none
  obtain ⟨W, hW⟩ : ∃ W, w.alloc (.cells (s.map bv).toArray 33) = W := ⟨_, rfl⟩
  obtain ⟨y, hy⟩ : ∃ y, w.heap.size = y := ⟨_, rfl⟩
  rw [hW] at hbox hg0
  rw [hy] at hbox
  have BX := Lib.hid hbox; have N0 := Lib.hid hg0
  have hle := fillN_le s
  obtain ⟨F, hF⟩ : ∃ F, fillN s = F := ⟨_, rfl⟩
  have HF := Lib.hid hF
  unfold str
  rw [hF]
  rw [hF] at hle
  clear hbox hg0 hF
  go_enter Try.func60, Try.ntmps60
  go_wp2
  go_loopw [3] (fun i wr => ∃ n : Nat, i = .int .i64 (n : Int) ∧ n ≤ 64 ∧ F ≤ n ∧ Nw W wr) (fun i _ => (intOf i).toNat)
  case atStart => exact ⟨64, rfl, Nat.le_refl _, by omega, Nw.refl _⟩
  case round =>
    obtain ⟨n, rfl, hn, hfl, hnw⟩ := hrel
    have HRD := Lib.hid (fun (k : Nat) (hk : k ≤ 64) => rd_sec (BX.out.nw hnw) hs hk)
    rcases n with _ | n
    · have hz : F = 0 := by omega
      subst hz
      clear hfl hle
      go_wp2_with (first | (refine wpList_bytes_str 46 9 5 Try.underlying46 Try.underlying5 Try.underlying9 _ rfl rfl rfl (HRD.out 0 (by omega)) ?_) | ((with_reducible refine wpList_secpart0 (k := 0) _ _ (by with_unfolding_all exact rfl) (by with_unfolding_all exact rfl) (by with_unfolding_all exact rfl) (by with_unfolding_all exact rfl) (by omega) ?_)))
      go_ret
      exact ⟨rfl, gb_trans N0.out hnw⟩
    · have hc : s[n]? = some s[n] := List.getElem?_eq_getElem (by omega)
      obtain ⟨c, hcc⟩ : ∃ c, s[n] = c := ⟨_, rfl⟩
      rw [hcc] at hc
      have hf := fill_step s (by rw [HF.out]; exact hfl) hc
      rw [HF.out] at hf
      have hcell : wr.cell? ⟨y, n, none⟩ = some (.int .u8 (c.toNat : Int)) := by
        rw [(BX.out.nw hnw).cell n, List.getElem?_toArray, List.getElem?_map, hc]; rfl
      have hlt : (0 : Int) < ((n + 1 : Nat) : Int) := by omega
      have hcast : ((n + 1 : Nat) : Int) - 1 = (n : Int) := by omega
      rcases Decidable.em (c = 0) with h0 | h0
      · have hh := Lib.hid (hf.1 h0)
        have hq : ((c.toNat : Int) == 0) = true := by rw [h0]; rfl
        clear hf hc hcc hfl h0 hle
        go_wp2
        go_roundw
        case rel => exact ⟨n, by go_num, by omega, hh.out, hnw⟩
        case measure => simp only [intOf]; omega
      · have hh := hf.2 h0
        have hq : ((c.toNat : Int) == 0) = false := by
          rw [beq_eq_false_iff_ne]
          intro e
          exact h0 (UInt8.toNat_inj.1 (by simpa using (show c.toNat = 0 by omega)))
        subst hh
        clear hf hc hcc hfl h0 hle
        go_wp2_with (first | (refine wpList_bytes_str 46 9 5 Try.underlying46 Try.underlying5 Try.underlying9 _ rfl rfl rfl (HRD.out (n + 1) hn) ?_) | ((with_reducible refine wpList_secpart0 (k := n + 1) _ _ (by with_unfolding_all exact rfl) (by with_unfolding_all exact rfl) (by with_unfolding_all exact rfl) (by with_unfolding_all exact rfl) hn ?_)))
        go_ret
        exact ⟨rfl, gb_trans N0.out hnw⟩
end Go.Proofs.Ytmcgfnfhpcddlaa

