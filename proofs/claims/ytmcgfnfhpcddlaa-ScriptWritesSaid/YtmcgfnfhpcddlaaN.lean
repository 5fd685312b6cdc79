/- The law's shown returns true, in every world. -/
import Derived.Test.YtmcgfnfhpcddlaaM
namespace Go.Proofs.Ytmcgfnfhpcddlaa
open Go.RowKit Go.BW

def scF : Scr := ⟨1, [160, 160, 160], 2, [a0 3]⟩
theorem rightF : rightS scF = true := by decide
theorem bytesF : bytesS scF = firstB := by decide
theorem sokF {w : World} {b b' : Nat} {Lz La : Option Addr} {cz ca : Nat} (hz : Own w b 3 1 Lz 3 cz ([160, 160, 160].map iv)) (ha : Own w b' 44 69 La 1 ca (fl actC [a0 3])) : SOk w w.heap.size ⟨1, Lz, 3, cz, [160, 160, 160], 2, La, 1, ca, [a0 3]⟩ :=
  ⟨hz.rd, hz.cap.1, hz.cap.2, ha.rd, ha.cap.1, ha.cap.2, by intro a h; rw [List.mem_singleton] at h; subst h; exact ⟨by simp [a0, z64], by simp [a0]⟩⟩
theorem sok0 {w : World} : SOk w w.heap.size ⟨0, Option.none, 0, 0, [], 0, Option.none, 0, 0, []⟩ := ⟨Rd.nil, Nat.le_refl _, Nat.zero_le _, Rd.nil, Nat.le_refl _, Nat.zero_le _, by simp⟩
set_option maxRecDepth 100000 in
set_option maxHeartbeats 8000000 in
theorem shown_any (w : World) : Calls Try.prog 12 #[] w (Ret (.bool true) w) := by
  have HF := Lib.hid (fun w' => first_any w')
  unfold FirstS at HF
  go_enter Try.func12, Try.ntmps12
  go_upto_region 2 with (first | ((with_reducible refine (HF.out _).mono ?_); rintro e w1 ⟨Lz, cz, La, ca, rfl, o1, p1, n1⟩))
  have gX := World.grownBy_alloc w1 (.cells #[.int .i64 1, .slice Lz 3 cz, .int .i64 2, .slice La 1 ca] 25) none
  have xX := Obj1.new w1 25 #[.int .i64 1, .slice Lz 3 cz, .int .i64 2, .slice La 1 ca]
  obtain ⟨V, hV⟩ : ∃ V, w1.alloc (.cells #[.int .i64 1, .slice Lz 3 cz, .int .i64 2, .slice La 1 ca] 25) = V := ⟨_, rfl⟩
  obtain ⟨y, hy⟩ : ∃ y, w1.heap.size = y := ⟨_, rfl⟩
  rw [hV] at gX xX
  rw [hy] at xX ⊢
  rw [hV]
  have X := Lib.hid xX; have N1 := Lib.hid (gb_trans n1 gX); have Z1 := Lib.hid (o1.nw gX); have A1 := Lib.hid (p1.nw gX)
  clear gX xX hV hy o1 p1 n1
  have HBY := Lib.hid (sbytes_any (sokF Z1.out A1.out) (Nat.le_refl _))
  unfold BytesPost sv at HBY
  rw [show scr ⟨1, Lz, 3, cz, [160, 160, 160], 2, La, 1, ca, [a0 3]⟩ = scF from rfl, show bytesE scF = 0 from by unfold bytesE; rw [rightF]; rfl, show bytesO scF = firstB from by unfold bytesO; rw [rightF, if_pos rfl, bytesF]] at HBY
  go_upto_region 3 with (first | ((with_reducible refine HBY.out.mono ?_); rintro e w2 ⟨A2, n2, c2, rfl, o2, k2⟩) | ((with_reducible refine wpList_load_obj 25 _ (by with_unfolding_all exact rfl) (by with_unfolding_all exact rfl) (by with_unfolding_all exact rfl) X.out _ Try.underlying25 (by with_unfolding_all exact rfl) (by kernel_rfl) ?_)))
  have hn2 : n2 = 16 := by have h := o2.len; simp [firstB] at h; omega
  subst hn2
  have X2 := Lib.hid (X.out.nw k2); have Z2 := Lib.hid (Z1.out.nw k2); have A2' := Lib.hid (A1.out.nw k2); have O2 := Lib.hid o2; have N2 := Lib.hid (gb_trans N1.out k2)
  have HPA := Lib.hid (parse_first o2.rd (Nat.le_refl _) o2.cap.1 o2.cap.2)
  unfold FirstPost at HPA
  clear o2 k2 X N1 Z1 A1 HBY
  go_upto_region 4 with (first | ((with_reducible refine HPA.out.mono ?_); rintro e w3 ⟨Lz3, cz3, La3, ca3, rfl, o3, p3, k3⟩))
  have gY := World.grownBy_alloc w3 (.cells #[.int .i64 1, .slice Lz3 3 cz3, .int .i64 2, .slice La3 1 ca3] 25) none
  have xY := Obj1.new w3 25 #[.int .i64 1, .slice Lz3 3 cz3, .int .i64 2, .slice La3 1 ca3]
  obtain ⟨Y, hY⟩ : ∃ V, w3.alloc (.cells #[.int .i64 1, .slice Lz3 3 cz3, .int .i64 2, .slice La3 1 ca3] 25) = V := ⟨_, rfl⟩
  obtain ⟨z, hz⟩ : ∃ y, w3.heap.size = y := ⟨_, rfl⟩
  rw [hY] at gY xY
  rw [hz] at xY ⊢
  rw [hY]
  have gk := gb_trans k3 gY
  have XY := Lib.hid (X2.out.nw gk); have ZY := Lib.hid (Z2.out.nw gk); have AY := Lib.hid (A2'.out.nw gk); have OY := Lib.hid (O2.out.nw gk); have NY := Lib.hid (gb_trans N2.out gk); have XT := Lib.hid xY
  have HSM := Lib.hid (same_any (sokF ZY.out AY.out) (sokF (o3.nw gY) (p3.nw gY)) (Nat.le_refl _) (Nat.le_refl _) rfl ⟨by simp only; omega, by simp only; omega⟩)
  unfold Ret sv at HSM
  have HPN := Lib.hid (fun w' => parse_nil w')
  have HB0 := Lib.hid (fun w' => sbytes_any (w := w') sok0 (Nat.le_refl _))
  unfold BytesPost sv at HB0
  rw [show scr ⟨0, Option.none, 0, 0, [], 0, Option.none, 0, 0, []⟩ = ⟨0, [], 0, []⟩ from rfl, show bytesE ⟨0, [], 0, []⟩ = 1 from by decide] at HB0
  have HR0 := Lib.hid (fun w' => right_any (w := w') sok0 (Nat.le_refl _))
  unfold Ret sv at HR0
  rw [show rightS (scr ⟨0, Option.none, 0, 0, [], 0, Option.none, 0, 0, []⟩) = false from by decide] at HR0
  clear gY xY hY hz gk o3 p3 k3 X2 Z2 A2' O2 N2 HPA
  go_upto_region 5 with (first
    | ((with_reducible refine HSM.out.mono ?_); rintro e w4 ⟨rfl, k4⟩)
    | ((with_reducible refine wpList_load_obj 25 _ (by with_unfolding_all exact rfl) (by with_unfolding_all exact rfl) (by with_unfolding_all exact rfl) XT.out _ Try.underlying25 (by with_unfolding_all exact rfl) (by kernel_rfl) ?_))
    | ((with_reducible refine wpList_load_obj 25 _ (by with_unfolding_all exact rfl) (by with_unfolding_all exact rfl) (by with_unfolding_all exact rfl) XY.out _ Try.underlying25 (by with_unfolding_all exact rfl) (by kernel_rfl) ?_)))
  have X4 := Lib.hid (XY.out.nw k4); have Z4 := Lib.hid (ZY.out.nw k4); have A4 := Lib.hid (AY.out.nw k4); have O4 := Lib.hid (OY.out.nw k4); have N4 := Lib.hid (gb_trans NY.out k4)
  clear XY ZY AY OY NY XT HSM k4
  go_upto_region 6 with (first | ((with_reducible refine (HPN.out _).mono ?_); rintro e w5 ⟨rfl, k5⟩))
  have gP := World.grownBy_alloc w5 (.cells #[.int .i64 0, .slice Option.none 0 0, .int .i64 0, .slice Option.none 0 0] 25) none
  obtain ⟨P, hP⟩ : ∃ V, w5.alloc (.cells #[.int .i64 0, .slice Option.none 0 0, .int .i64 0, .slice Option.none 0 0] 25) = V := ⟨_, rfl⟩
  rw [hP] at gP
  rw [hP]
  have gk := gb_trans k5 gP
  have X5 := Lib.hid (X4.out.nw gk); have Z5 := Lib.hid (Z4.out.nw gk); have A5 := Lib.hid (A4.out.nw gk); have O5 := Lib.hid (O4.out.nw gk); have N5 := Lib.hid (gb_trans N4.out gk)
  clear gP hP gk k5 X4 Z4 A4 O4 N4
  go_upto_region 7 with (first | ((with_reducible refine (HB0.out _).mono ?_); rintro e w6 ⟨A6, n6, c6, rfl, o6, k6⟩))
  have X6 := Lib.hid (X5.out.nw k6); have Z6 := Lib.hid (Z5.out.nw k6); have A6' := Lib.hid (A5.out.nw k6); have O6 := Lib.hid (O5.out.nw k6); have N6 := Lib.hid (gb_trans N5.out k6)
  have HRI := Lib.hid (right_any (sokF Z6.out A6'.out) (Nat.le_refl _))
  rw [show rightS (scr ⟨1, Lz, 3, cz, [160, 160, 160], 2, La, 1, ca, [a0 3]⟩) = true from rightF] at HRI
  unfold Ret sv at HRI
  clear X5 Z5 A5 O5 N5 o6 k6
  have hfb : firstB.toArray = #[66, 87, 0, 0, 0, 1, 3, 0, 160, 0, 160, 0, 160, 2, 1, 3] := rfl
  go_wp2_with (first
    | (refine wpList_bytes_str 46 9 5 Try.underlying46 Try.underlying5 Try.underlying9 _ rfl rfl rfl O8.out ?_; rw [hfb])
    | (go_at_call 15; (with_reducible refine (HR0.out _).mono ?_); rintro e w8 ⟨rfl, k8⟩; have O8 := Lib.hid ((O7.out.nw k8).rd); have N8 := Lib.hid (gb_trans N7.out k8))
    | (go_at_call 15; (with_reducible refine HRI.out.mono ?_); rintro e w7 ⟨rfl, k7⟩; have O7 := Lib.hid (O6.out.nw k7); have N7 := Lib.hid (gb_trans N6.out k7))
    | ((with_reducible refine wpList_load_obj 25 _ (by with_unfolding_all exact rfl) (by with_unfolding_all exact rfl) (by with_unfolding_all exact rfl) X6.out _ Try.underlying25 (by with_unfolding_all exact rfl) (by kernel_rfl) ?_)))
  go_ret
  exact ⟨rfl, N8.out⟩
end Go.Proofs.Ytmcgfnfhpcddlaa

