/- group.Pick: disks for a new group. -/
import Derived.Test.YtobifmndpkjlmaaR
namespace Go.Proofs.Ytobifmndpkjlmaa
open Go.RowKit Go.BW

theorem indexI_any {w : World} {B n c : Nat} {A : Option Addr} {zs : List Int} (hr : Rd w B 1 A n (zs.map iv)) (hs : n ≤ 9223372036854775807) (x : Int) : Calls Try.prog 42 #[.slice A n c, .int .i64 x] w (fun e w' => e = .returned (.int .i64 (idxZ (· == x) zs)) ∧ w = w') := by
  have hlen : zs.length = n := by have := hr.1; simpa using this
  have HR := Lib.hid hr
  clear hr
  go_enter Try.func42, Try.ntmps42
  go_wp2_with fail
  go_loopw [8] (fun v wr => ∃ k : Nat, k ≤ n ∧ v = .int .i64 k ∧ Hid ((zs.take k).any (· == x) = false) ∧ w = wr) (fun v _ => n - (intOf v).toNat)
  case atStart => exact ⟨0, Nat.zero_le _, rfl, Lib.hid rfl, by first | rfl | trivial⟩
  case round =>
    obtain ⟨j, hj, rfl, hno, rfl⟩ := hrel
    by_cases hlt : j < n
    · obtain ⟨b', off, rfl, hln, hc0⟩ := HR.out.atI hlt
      have hlt' : (j : Int) < (n : Int) := by omega
      have HX := Lib.hid (List.getElem?_eq_getElem hln)
      obtain ⟨z, hz⟩ : ∃ z, zs[j] = z := ⟨_, rfl⟩
      rw [hz] at HX hc0
      clear hz
      by_cases hzx : z = x
      · have hq : (x == z) = true := by simpa using hzx.symm
        have HF := Lib.hid (idxZ_at hno.out HX.out (by simpa using hzx))
        clear hzx
        go_wp2
        go_ret
        exact ⟨by rw [HF.out]; rfl, by first | rfl | trivial⟩
      · have hq : (x == z) = false := by rw [beq_eq_false_iff_ne]; exact fun e => hzx e.symm
        have HN := Lib.hid (show (zs.take (j + 1)).any (· == x) = false by rw [any_snoc hno.out HX.out]; simpa using hzx)
        clear hzx
        go_wp2
        go_roundw
        case rel => exact ⟨j + 1, by omega, by go_num, HN, by first | rfl | trivial⟩
        case measure => simp only [intOf]; omega
    · have hk' : j = n := by omega
      have H := Lib.hid (idxZ_no (show zs.any (· == x) = false by have h1 := hno.out; rwa [List.take_of_length_le (by omega)] at h1))
      clear hk'
      go_wp2
      go_ret
      exact ⟨by rw [H.out]; rfl, by first | rfl | trivial⟩
theorem contains_any {w : World} {B n c : Nat} {A : Option Addr} {zs : List Int} (hr : Rd w B 1 A n (zs.map iv)) (hs : n ≤ 9223372036854775807) (x : Int) : Calls Try.prog 28 #[.slice A n c, .int .i64 x] w (fun e w' => e = .returned (.bool (zs.any (· == x))) ∧ w = w') := by
  have HI := Lib.hid (indexI_any (c := c) hr hs x)
  have hv := idxZ_nn (· == x) zs
  obtain ⟨v, hvv⟩ : ∃ v, idxZ (· == x) zs = v := ⟨_, rfl⟩
  rw [hvv] at HI hv
  have HV := Lib.hid hv
  clear hr hvv hv
  go_enter Try.func28, Try.ntmps28
  go_wp2_with ((with_reducible refine HI.out.mono ?_); rintro e w2 ⟨rfl, rfl⟩)
  go_ret
  exact ⟨by rw [← HV.out]; rfl, rfl⟩
/-- Pick's closure: is a disk not banned? -/
theorem free_any {w : World} {B n c y : Nat} {A : Option Addr} {zs : List Int} (hr : Rd w B 1 A n (zs.map iv)) (hs : n ≤ 9223372036854775807) (hc : w.cell? ⟨y, 0, none⟩ = some (.slice A n c)) (x : Int) :
    Calls Try.prog 27 #[.int .i64 x, .pointer (some ⟨y, 0, none⟩)] w (Ret (.bool (!zs.any (· == x))) w) := by
  have HI := Lib.hid (contains_any (c := c) hr hs x)
  obtain ⟨q, hq⟩ : ∃ q, zs.any (· == x) = q := ⟨_, rfl⟩
  rw [hq] at HI ⊢
  clear hr hq
  go_enter Try.func27, Try.ntmps27
  go_wp2_with ((with_reducible refine HI.out.mono ?_); rintro e w2 ⟨rfl, rfl⟩)
  go_ret
  exact ⟨rfl, Nw.refl _⟩
def PickPost (rs : List Int) (wd : Int) (ban : List Int) (w : World) (e : Ending) (w' : World) : Prop :=
  ∃ l, Ranked rs (fun d => (d : Int) ∉ ban) l ∧ Nw w w' ∧
    (((wd < 1 ∨ (l.length : Int) < wd) ∧ e = .returned (.tuple #[.slice none 0 0, .bool false])) ∨
     ∃ (k : Nat) (A : Option Addr), wd = (k : Int) ∧ 1 ≤ k ∧ k ≤ l.length ∧ e = .returned (.tuple #[.slice A k k, .bool true]) ∧ Rd w' w'.heap.size 1 A k ((l.take k).map nv) ∧ (∀ b o, A = some ⟨b, o, none⟩ → w.heap.size ≤ b))
theorem ranked_congr {rs : List Int} {p q : Nat → Prop} {l : List Nat} (h : Ranked rs p l) (hpq : ∀ d, p d ↔ q d) : Ranked rs q l := ⟨h.ord, fun d => by rw [h.mem d, hpq d]⟩
set_option maxHeartbeats 2000000 in
theorem pick_any {K : Nat} (hK : StableOK K) {w : World} {B n c m c2 : Nat} {A A2 : Option Addr} {rs ban : List Int} (hr : Rd w B 1 A n (rs.map iv)) (hb : Rd w B 1 A2 m (ban.map iv)) (hB : B ≤ w.heap.size) (hn : n ≤ K) (hm : n ≤ 1000000) (hs : m ≤ 9223372036854775807)
    (wd : Int) : Calls Try.prog 11 #[.slice A n c, .int .i64 wd, .slice A2 m c2] w (PickPost rs wd ban w) := by
  have hbox := Obj1.new w 22 #[.slice A2 m c2]
  have hn0 := World.grownBy_alloc w (.cells #[.slice A2 m c2] 22) none
  have HC := Lib.hid (byroom27_any (c := c) hK (hr.nw hn0 hB) (Nat.le_trans hB hn0.size) hn hm (.pointer (some ⟨w.heap.size, 0, none⟩)) (fun d => !ban.any (· == (d : Int)))
    (fun d _ w' hw' => free_any ((hb.nw hn0 hB).nw hw' (Nat.le_trans hB hn0.size)) hs ((hbox.nw hw').cell 0) (d : Int)))
  have N0 := Lib.hid hn0
  have HP := Lib.hid (show ∀ d : Nat, (!ban.any (· == (d : Int))) = true ↔ (d : Int) ∉ ban from fun d => by rw [Bool.not_eq_true', any_not])
  unfold RoomPost at HC
  clear hbox hn0 hr hb hK
  go_enter Try.func11, Try.ntmps11
  go_upto_region 2 with ((with_reducible refine HC.out.mono ?_); rintro e w2 ⟨A', n', c', l, rfl, ho, hl, n2⟩; have HO := Lib.hid ho; have HL := Lib.hid hl; have N2 := Lib.hid (gb_trans N0.out n2); clear ho hl n2)
  have hlen : l.length = n' := by have := HO.out.len; simpa using this
  have HR := Lib.hid (ranked_congr HL.out HP.out)
  have hcap := HO.out.cap
  rcases (show wd < 1 ∨ 1 ≤ wd by omega) with h1 | h1
  · go_wp2
    go_ret2
    exact ⟨l, HR.out, N2.out, .inl ⟨.inl h1, rfl⟩⟩
  · have d1 : decide (wd < 1) = false := decide_eq_false (by omega)
    obtain ⟨k, rfl⟩ := Int.eq_ofNat_of_zero_le (show 0 ≤ wd by omega)
    rcases (show n' < k ∨ k ≤ n' by omega) with h2 | h2
    · have h2z : (n' : Int) < (k : Int) := by omega
      go_wp2
      go_ret2
      exact ⟨l, HR.out, N2.out, .inl ⟨.inr (by omega), rfl⟩⟩
    · have h2z : ¬ (n' : Int) < (k : Int) := by omega
      have h3z : (k : Int) ≤ (c' : Int) := by omega
      go_wp2
      go_ret2
      refine ⟨l, HR.out, N2.out, .inr ⟨k, A', rfl, by omega, by omega, rfl, ?_, ?_⟩⟩
      · have h := HO.out.rd.take h2
        rw [Nat.mul_one, ← List.map_take] at h
        exact h
      · rintro b o rfl
        obtain ⟨g, e, hg⟩ := HO.out.some_ (by omega)
        injection e with e; injection e with e1 e2
        rw [e1]
        exact Nat.le_trans N0.out.size hg
end Go.Proofs.Ytobifmndpkjlmaa

