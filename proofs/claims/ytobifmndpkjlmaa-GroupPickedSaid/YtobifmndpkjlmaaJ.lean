/- group.needing: the groups that have a disk. -/
import Derived.Test.YtobifmndpkjlmaaB
namespace Go.Proofs.Ytobifmndpkjlmaa
open Go.RowKit Go.BW

theorem gc_one1 (i k : Int) (A : Option Addr) (n c : Nat) : ∀ u ∈ [Value.int .i64 i, .int .i64 k, .slice A n c], u.oneCell' = true := by
  intro u hu; simp at hu; rcases hu with rfl | rfl | rfl <;> rfl
/-- the groups that have a disk -/
def needs (gs : List Gp) (lost : Int) : List Gp := gs.filter fun g => hasD g lost
theorem filter_snoc {α : Type} (p : α → Bool) {l : List α} {k : Nat} {x : α} (h : l[k]? = some x) : (l.take (k + 1)).filter p = (l.take k).filter p ++ if p x then [x] else [] := by
  obtain ⟨hk, rfl⟩ := List.getElem?_eq_some_iff.1 h
  rw [List.take_succ_eq_append_getElem hk, List.filter_append]
  cases h : p l[k] <;> simp [h]
theorem fl_one' (i k : Int) (A : Option Addr) (n c : Nat) (es : List Et) : fl gc [⟨i, k, A, n, c, es⟩] = [.int .i64 i, .int .i64 k, .slice A n c] := by simp [fl, gc]
set_option maxHeartbeats 4000000 in
theorem needing_any {w : World} {B m c2 : Nat} {A2 : Option Addr} {gs : List Gp} (hg : GsR w B A2 m gs) (hB : B ≤ w.heap.size) (hm : m ≤ 1000000) (lost : Int) :
    Calls Try.prog 33 #[.slice A2 m c2, .int .i64 lost] w (RetOwn 37 3 (fl gc (needs gs lost)) w) := by
  have hglen := hg.len
  have HG := Lib.hid hg; have HBW := Lib.hid hB; have HGL := Lib.hid hglen
  clear hg hB hglen
  go_enter Try.func33, Try.ntmps33
  go_wp2_with fail
  go_loopw [5, 10] (fun s v wr => ∃ (k : Nat) (A' : Option Addr) (n' c' : Nat), v = .int .i64 k ∧ s = .slice A' n' c' ∧ k ≤ m ∧ n' ≤ k ∧ Hid (Own wr w.heap.size 37 3 A' n' c' (fl gc ((gs.take k).filter fun g => hasD g lost))) ∧ Nw w wr) (fun _ v _ => m - (intOf v).toNat)
  case atStart => exact ⟨0, none, 0, 0, rfl, rfl, Nat.zero_le _, Nat.le_refl _, Lib.hid Own.nil, Nw.refl _⟩
  case round =>
    obtain ⟨k, A', n', c', rfl, rfl, hk, hnk, ho, hnw⟩ := hrel
    by_cases hlt : k < m
    · have hltz : (k : Int) < (m : Int) := by omega
      have HG3 := Lib.hid (HG.out.nw hnw HBW.out)
      have HB3 := Lib.hid (Nat.le_trans HBW.out hnw.size)
      obtain ⟨_, b, off, x, hA, _, hx, hc⟩ := HG3.out.rd.atL gc_len (by decide) hlt
      subst hA
      have HS := Lib.hid (filter_snoc (fun g => hasD g lost) hx)
      have hok := HG3.out.all x (List.mem_of_getElem? hx)
      obtain ⟨q, hq⟩ : ∃ q, hasD x lost = q := ⟨_, rfl⟩
      have HH := Lib.hid (fun (o : Obj) => has_any (hok.nw (World.grownBy_alloc wr o none) HB3.out) (Nat.le_trans HB3.out (World.grownBy_alloc wr o none).size) lost)
      rw [hq] at HH
      have HQ := Lib.hid hq
      unfold Ret gv at HH
      have HC := Lib.hid hc
      obtain ⟨xi, xk, xA, xn, xc, xe⟩ := x
      change Hid (∀ j u, [Value.int .i64 xi, .int .i64 xk, .slice xA xn xc][j]? = some u → _) at HC
      simp only at HH
      clear hx hok hq hc
      have hbx := Obj1.new wr 37 #[.int .i64 xi, .int .i64 xk, .slice xA xn xc]
      have HN1 := Lib.hid (World.grownBy_alloc wr (.cells #[.int .i64 xi, .int .i64 xk, .slice xA xn xc] 37) none)
      have HBX := Lib.hid hbx
      clear hbx
      rcases q with _ | _
      · have HO := Lib.hid (show (gs.take (k + 1)).filter (fun g => hasD g lost) = (gs.take k).filter (fun g => hasD g lost) by rw [HS.out, HQ.out]; simp)
        go_wp2_with (first
          | ((with_reducible refine (HH.out _).mono ?_); rintro e w2 ⟨rfl, n2⟩)
          | ((with_reducible refine wpList_load_agg 37 _ (by with_unfolding_all exact rfl) (by with_unfolding_all exact rfl) (by with_unfolding_all exact rfl) [Value.int .i64 xi, .int .i64 xk, .slice xA xn xc] HC.out _ Try.underlying37 (by with_unfolding_all exact rfl) (by kernel_rfl) ?_))
          | ((with_reducible refine wpList_load_obj 37 _ (by with_unfolding_all exact rfl) (by with_unfolding_all exact rfl) (by with_unfolding_all exact rfl) HBX.out _ Try.underlying37 (by with_unfolding_all exact rfl) (by kernel_rfl) ?_)))
        go_roundw
        case rel => exact ⟨k + 1, A', n', c', by go_num, rfl, by omega, by omega, Lib.hid (by rw [HO.out]; exact (ho.out.nw HN1.out).nw n2), gb_trans hnw (gb_trans HN1.out n2)⟩
        case measure => simp only [intOf]; omega
      · have HO := Lib.hid (show fl gc ((gs.take (k + 1)).filter (fun g => hasD g lost)) = fl gc ((gs.take k).filter (fun g => hasD g lost)) ++ [.int .i64 xi, .int .i64 xk, .slice xA xn xc] by rw [HS.out, HQ.out, if_pos rfl, fl_app, fl_one'])
        have hsm : (n' + 1) * 40 ≤ 140737488355328 ∧ n' + 1 ≤ maxLen := by unfold maxLen; omega
        go_wp2_with (first
          | (at_builtin; (with_reducible refine wpList_appN_own T28 _ _ (by with_unfolding_all exact rfl) (by with_unfolding_all exact rfl) (by with_unfolding_all exact rfl) (by with_unfolding_all exact rfl) ((ho.out.nw HN1.out).nw n2) (by with_unfolding_all exact rfl) (gc_one1 _ _ _ _ _) hsm HSZ.out ?_); intro A'' c'' w3 h2 h3 h4)
          | ((with_reducible refine wpList_load_obj 37 _ (by with_unfolding_all exact rfl) (by with_unfolding_all exact rfl) (by with_unfolding_all exact rfl) HB2.out _ Try.underlying37 (by with_unfolding_all exact rfl) (by kernel_rfl) ?_))
          | ((with_reducible refine (HH.out _).mono ?_); rintro e w2 ⟨rfl, n2⟩; have HB2 := Lib.hid (HBX.out.nw n2); have HSZ := Lib.hid (Nat.le_trans hnw.size (Nat.le_trans HN1.out.size n2.size)))
          | ((with_reducible refine wpList_load_agg 37 _ (by with_unfolding_all exact rfl) (by with_unfolding_all exact rfl) (by with_unfolding_all exact rfl) [Value.int .i64 xi, .int .i64 xk, .slice xA xn xc] HC.out _ Try.underlying37 (by with_unfolding_all exact rfl) (by kernel_rfl) ?_))
          | ((with_reducible refine wpList_load_obj 37 _ (by with_unfolding_all exact rfl) (by with_unfolding_all exact rfl) (by with_unfolding_all exact rfl) HBX.out _ Try.underlying37 (by with_unfolding_all exact rfl) (by kernel_rfl) ?_)))
        go_roundw
        case rel => exact ⟨k + 1, A'', n' + 1, c'', by go_num, rfl, by omega, by omega, Lib.hid (by rw [HO.out]; exact h2), nw_of_gb (gb_trans hnw (gb_trans HN1.out n2)) h3 (fun g hg => ho.out.blk g hg)⟩
        case measure => simp only [intOf]; omega
    · have hkm : k = m := by omega
      have HF := Lib.hid (show (gs.take k).filter (fun g => hasD g lost) = needs gs lost by rw [List.take_of_length_le (by rw [HGL.out]; omega)]; rfl)
      have HO := Lib.hid ho.out
      rw [HF.out] at HO
      clear hkm
      go_wp2
      go_ret
      exact ⟨A', n', c', rfl, HO.out, hnw⟩
end Go.Proofs.Ytobifmndpkjlmaa

