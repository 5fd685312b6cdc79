/- group.has and Has of the document: does a group have a disk? -/
import Derived.Test.YtobifmndpkjlmaaIXE
namespace Go.Proofs.Ytobifmndpkjlmaa
open Go.RowKit Go.BW

/-- has's closure -/
theorem is_any (m : Et) (b : Nat) (x : Int) (w : World) (h : w.cell? ⟨b, 0, none⟩ = some (.int .i64 x)) : Calls Try.prog 45 #[ev m, .pointer (some ⟨b, 0, none⟩)] w (Ret (.bool (m.dk == x)) w) := by
  unfold ev
  have h2 := fun o => cell_alloc (o := o) h
  go_enter Try.func45, Try.ntmps45
  go_wp2
  go_ret
  exact ⟨rfl, World.grownBy_alloc w _ none⟩
set_option maxHeartbeats 1000000 in
theorem has_any {w : World} {B : Nat} {x : Gp} (h : GOk w B x) (hB : B ≤ w.heap.size) (d : Int) : Calls Try.prog 32 #[gv x, .int .i64 d] w (Ret (.bool (hasD x d)) w) := by
  have hb : hasD x d = x.es.any (fun e => e.dk == d) := rfl
  rw [hb]
  obtain ⟨hr, _, _, hm⟩ := h
  unfold gv
  obtain ⟨i, k, A, n, c, es⟩ := x
  simp only at hr hm ⊢
  have hn := gb_trans (World.grownBy_alloc w (.cells #[.int .i64 i, .int .i64 k, .slice A n c] 37) none) (World.grownBy_alloc _ (.cells #[.int .i64 d] 3) none)
  have ho := obj_snd w (.cells #[.int .i64 i, .int .i64 k, .slice A n c] 37) 3 #[.int .i64 d]
  have HH := Lib.hid (has45_any (d := c) (hr.nw hn hB) (Nat.le_trans hB hn.size) hm (.pointer (some ⟨w.heap.size + 1, 0, none⟩)) (fun e => e.dk == d)
    (fun m _ w' hw' => is_any m _ d w' (cell_nw (ho.cell 0) hw')))
  have HN := Lib.hid hn
  clear ho hn hr hb
  go_enter Try.func32, Try.ntmps32
  go_wp2_with ((with_reducible refine HH.out.mono ?_); rintro e w2 ⟨rfl, n2⟩)
  go_ret
  exact ⟨rfl, gb_trans HN.out n2⟩
/-- .. the document's -/
theorem rhas_any {w : World} {B : Nat} {x : Gp} (h : GOk w B x) (hB : B ≤ w.heap.size) (d : Int) : Calls Try.prog 18 #[gv x, .int .i64 d] w (Ret (.bool (hasD x d)) w) := by
  have hb : hasD x d = x.es.any (fun e => e.dk == d) := rfl
  rw [hb]
  have hlen := h.len
  obtain ⟨hr, hnc, hcm, hm⟩ := h
  unfold gv
  obtain ⟨i, k, A, n, c, es⟩ := x
  simp only at hr hm hnc hcm hlen ⊢
  have hbox := Obj1.new w 37 #[.int .i64 i, .int .i64 k, .slice A n c]
  have hn := World.grownBy_alloc w (.cells #[.int .i64 i, .int .i64 k, .slice A n c] 37) none
  go_enter Try.func18, Try.ntmps18
  go_wp2_with fail
  have HBX := Lib.hid hbox
  have N0 := Lib.hid hn
  obtain ⟨W, hW⟩ : ∃ W, w.alloc (.cells #[.int .i64 i, .int .i64 k, .slice A n c] 37) = W := ⟨_, rfl⟩
  rw [hW] at HBX N0 ⊢
  obtain ⟨y, hy⟩ : ∃ y, w.heap.size = y := ⟨_, rfl⟩
  rw [hy] at HBX ⊢
  have hc2 := HBX.out.cell 2
  change W.cell? ⟨y, 2, none⟩ = some (.slice A n c) at hc2
  have HR := Lib.hid (hr.nw N0.out hB)
  clear hbox hW hr hy hn
  go_loopw [5] (fun v wr => ∃ k : Nat, k ≤ n ∧ v = .int .i64 k ∧ Hid ((es.take k).any (fun e => e.dk == d) = false) ∧ W = wr) (fun v _ => n - (intOf v).toNat)
  case atStart => exact ⟨0, Nat.zero_le _, rfl, Lib.hid rfl, rfl⟩
  case round =>
    obtain ⟨j, hj, rfl, hno, rfl⟩ := hrel
    by_cases hlt : j < n
    · obtain ⟨hln, b', off, x, rfl, _, hx, hc⟩ := HR.out.atL ec_len (by decide) hlt
      have hlt' : (j : Int) < (n : Int) := by omega
      have HX := Lib.hid hx
      have hc0 := hc 0 _ rfl
      rw [Nat.add_zero] at hc0
      obtain ⟨q, hq⟩ : ∃ q, (x.dk == d) = q := ⟨_, rfl⟩
      have HQ := Lib.hid hq
      obtain ⟨z, hz⟩ : ∃ z, x.dk = z := ⟨_, rfl⟩
      rw [hz] at hq hc0
      clear hc hx hz
      rcases q with _ | _
      · go_wp2
        go_roundw
        case rel => exact ⟨j + 1, by omega, by go_num, Lib.hid (by rw [any_snoc hno.out HX.out]; exact HQ.out), trivial⟩
        case measure => simp only [intOf]; omega
      · have HF := Lib.hid (show es.any (fun e => e.dk == d) = true from List.any_eq_true.2 ⟨x, List.mem_of_getElem? HX.out, HQ.out⟩)
        go_wp2
        go_ret
        exact ⟨by rw [HF.out]; rfl, N0.out⟩
    · have hk' : j = n := by omega
      subst hk'
      have hf : es.any (fun e => e.dk == d) = false := by
        have h1 := hno.out
        rwa [List.take_of_length_le (by omega)] at h1
      have H := Lib.hid hf
      clear hf
      go_wp2
      go_ret
      exact ⟨by rw [H.out]; rfl, N0.out⟩
end Go.Proofs.Ytobifmndpkjlmaa

