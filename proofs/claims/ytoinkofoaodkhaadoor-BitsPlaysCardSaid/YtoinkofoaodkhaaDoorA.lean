/- A map of bits in memory; what bits' in, Len, Count and Has return. -/
import Derived.Test.YtoinkofoaodkhaaDoorProg
import Derived.Test.YtoinkofoaodkhaaDoorLib
import Derived.Test.YtoinkofoaodkhaaDoorPL
import Derived.Test.YtoinkofoaodkhaaDoorReg
import Derived.Laws.Bits64b
namespace Go.Proofs.YtoinkofoaodkhaaDoor
open Go.RowKit Go.BW Go.BW.Bit

def uv (x : Nat) : Value := .int .u64 (x : Int)
def bc (bs : List Bool) : List Value := (List.range 1024).map (fun j => uv (word bs j)) ++ [iv bs.length, iv (cnt bs)]
theorem shr_cast (W s : Nat) : ((W : Int) / 2 ^ s) = ((W >>> s : Nat) : Int) := by
  rw [Nat.shiftRight_eq_div_pow, Int.natCast_ediv, Int.natCast_pow]; rfl
theorem bc_len (bs : List Bool) : (bc bs).length = 1026 := by simp [bc]
theorem bc_word (bs : List Bool) {j : Nat} (h : j < 1024) : (bc bs)[j]? = some (uv (word bs j)) := by
  unfold bc
  rw [List.getElem?_append_left (by simpa using h)]
  simp [h]
theorem bc_n (bs : List Bool) : (bc bs)[1024]? = some (iv bs.length) := by
  unfold bc
  rw [List.getElem?_append_right (by simp)]
  simp
theorem bc_k (bs : List Bool) : (bc bs)[1025]? = some (iv (cnt bs)) := by
  unfold bc
  rw [List.getElem?_append_right (by simp)]
  simp
def BR (w : World) (g : Nat) (bs : List Bool) : Prop := Obj1 w g 58 (bc bs).toArray ∧ bs.length ≤ 65536
def pv (p : Nat) : Value := .pointer (some ⟨p, 0, none⟩)
section
variable {w w' : World} {g : Nat} {bs : List Bool}
theorem BR.nw (h : BR w g bs) (k : Nw w w') : BR w' g bs := ⟨h.1.nw k, h.2⟩
theorem BR.word (h : BR w g bs) {j : Nat} (hj : j < 1024) : w.cell? ⟨g, j, none⟩ = some (.int .u64 (word bs j : Nat)) := by
  rw [h.1.cell j, List.getElem?_toArray, bc_word bs hj]; rfl
theorem BR.n (h : BR w g bs) : w.cell? ⟨g, 1024, none⟩ = some (.int .i64 bs.length) := by
  rw [h.1.cell 1024, List.getElem?_toArray, bc_n]; rfl
theorem BR.k (h : BR w g bs) : w.cell? ⟨g, 1025, none⟩ = some (.int .i64 (cnt bs)) := by
  rw [h.1.cell 1025, List.getElem?_toArray, bc_k]; rfl
end
def inB (n : Int) (N : Nat) : Bool := decide (0 ≤ n) && decide (n < N)
theorem in_any {w : World} {g : Nat} {bs : List Bool} (h : BR w g bs) (i : Int) : Calls Tryd.prog 27 #[pv g, .int .i64 i] w fun e w' => e = .returned (.bool (inB i bs.length)) ∧ w = w' := by
  have hn := h.n
  obtain ⟨N, hN⟩ : ∃ N, bs.length = N := ⟨_, rfl⟩
  rw [hN] at hn ⊢
  clear hN h
  unfold pv inB
  rcases (show ¬ 0 ≤ i ∨ (0 ≤ i ∧ i < N) ∨ (0 ≤ i ∧ ¬ i < N) from by omega) with h0 | ⟨h0, h1⟩ | ⟨h0, h1⟩
  all_goals
    go_enter Tryd.func27, Tryd.ntmps27
    go_wp2
    go_ret
    exact ⟨by first | rfl | (simp; omega), rfl⟩
theorem len_any {w : World} {g : Nat} {bs : List Bool} (h : BR w g bs) : Calls Tryd.prog 19 #[pv g] w fun e w' => e = .returned (.int .i64 bs.length) ∧ w = w' := by
  have hn := h.n
  clear h
  unfold pv
  go_enter Tryd.func19, Tryd.ntmps19
  go_wp2
  go_ret
  exact ⟨rfl, rfl⟩
theorem count_any {w : World} {g : Nat} {bs : List Bool} (h : BR w g bs) : Calls Tryd.prog 14 #[pv g] w fun e w' => e = .returned (.int .i64 (cnt bs)) ∧ w = w' := by
  have hn := h.k
  clear h
  unfold pv
  go_enter Tryd.func14, Tryd.ntmps14
  go_wp2
  go_ret
  exact ⟨rfl, rfl⟩
def hasB (bs : List Bool) (i : Int) : Bool := inB i bs.length && bs.getD i.toNat false
theorem has_any {w : World} {g : Nat} {bs : List Bool} (h : BR w g bs) (i : Int) : Calls Tryd.prog 15 #[pv g, .int .i64 i] w fun e w' => e = .returned (.bool (hasB bs i)) ∧ w = w' := by
  have hi := in_any h i
  unfold hasB
  cases hb : inB i bs.length with
  | false =>
    rw [hb] at hi
    clear hb h
    unfold pv at hi ⊢
    have HI := Lib.hid hi; clear hi
    go_enter Tryd.func15, Tryd.ntmps15
    go_wp2_with (refine HI.out.mono ?_; rintro e w2 ⟨rfl, rfl⟩)
    go_ret
    exact ⟨rfl, rfl⟩
  | true =>
    obtain ⟨k, rfl⟩ : ∃ k : Nat, i = k := ⟨i.toNat, by unfold inB at hb; simp at hb; omega⟩
    have hk : k < bs.length := by unfold inB at hb; simp at hb; omega
    have hk2 : k / 64 < 1024 := by have := h.2; omega
    have hw := h.word hk2
    have HW := Lib.hid (word_has bs k)
    have hlt := word_lt bs (k / 64)
    obtain ⟨W, hW⟩ : ∃ W, word bs (k / 64) = W := ⟨_, rfl⟩
    rw [hW] at hw HW hlt
    rw [hb] at hi
    have h65 : k < 65536 := by have := h.2; omega
    clear hb h hW hk
    unfold pv at hi ⊢
    have HI := Lib.hid hi; clear hi
    go_enter Tryd.func15, Tryd.ntmps15
    go_wp2_with (refine HI.out.mono ?_; rintro e w2 ⟨rfl, rfl⟩)
    go_ret
    refine ⟨?_, rfl⟩
    have e : bits .and .u64 ((W : Int) / 2 ^ (k % 64)) 1 = ((bs.getD k false).toNat : Int) := by
      rw [shr_cast, ← HW.out]
      exact bits_and_u64_nat _ 1 (Nat.lt_of_le_of_lt (Nat.shiftRight_le _ _) hlt) (by decide)
    rw [e, Int.toNat_natCast]
    cases bs.getD k false <;> rfl
theorem bc_set (bs : List Bool) (i : Nat) (b : Bool) (hi : i < bs.length) (_h : bs.length ≤ 65536) : bc (bs.set i b) = ((bc bs).set (i / 64) (uv (word (bs.set i b) (i / 64)))).set 1025 (iv (cnt (bs.set i b))) := by
  have h64 : i / 64 < 1024 := by omega
  have e : ∀ l : List Bool, (List.range 1024).map (fun j => uv (word l j)) = ((List.range 1024).map (word l)).map uv := fun l => by rw [List.map_map]; rfl
  unfold bc
  rw [e, e, words_set bs i 1024 b hi, List.length_set, List.map_set]
  rw [List.set_append_left _ _ (by simp; omega), List.set_append_right _ _ (by simp)]
  simp
theorem set2_BR {w : World} {g : Nat} {bs : List Bool} (h : BR w g bs) (k : Nat) (b : Bool) (hk : k < bs.length) :
    BR ((w.setCell ⟨g, k / 64, none⟩ (.int .u64 (word (bs.set k b) (k / 64) : Nat))).drew.setCell ⟨g, 1025, none⟩ (.int .i64 (cnt (bs.set k b) : Nat))) g (bs.set k b) := by
  have h1 : Obj1 (w.setCell ⟨g, k / 64, none⟩ (.int .u64 (word (bs.set k b) (k / 64) : Nat))).drew g 58 _ := h.1.set (k / 64) _
  have h2 := h1.set 1025 (.int .i64 (cnt (bs.set k b) : Nat))
  refine ⟨?_, by rw [List.length_set]; exact h.2⟩
  rw [bc_set bs k b hk h.2]
  simpa [uv, iv] using h2
theorem or_shl (W s : Nat) (hW : W < 18446744073709551616) (hs : s < 64) : bits .or .u64 (W : Int) (IntKind.u64.wrap (2 ^ s)) = ((W ||| 1 <<< s : Nat) : Int) := by
  have hp : (1 <<< s : Nat) < 18446744073709551616 := by rw [Nat.shiftLeft_eq, Nat.one_mul]; exact Nat.pow_lt_pow_right (by decide) hs
  have e : IntKind.u64.wrap (2 ^ s) = ((1 <<< s : Nat) : Int) := by
    have h2 : ((2 : Int) ^ s) = ((1 <<< s : Nat) : Int) := by rw [Nat.shiftLeft_eq, Nat.one_mul, Int.natCast_pow]; rfl
    rw [h2, IntKind.wrap_u64]
    generalize (1 <<< s : Nat) = p at hp
    omega
  rw [e, bits_or_u64_nat _ _ hW hp]
def takeF (bs : List Bool) (i : Int) : Int × List Bool := if inB i bs.length = false then (3, bs) else if bs.getD i.toNat false = true then (9, bs) else (0, bs.set i.toNat true)
def freeF (bs : List Bool) (i : Int) : Int × List Bool := if inB i bs.length = false then (3, bs) else if bs.getD i.toNat false = false then (9, bs) else (0, bs.set i.toNat false)
def BPost (g : Nat) (r : Int × List Bool) (w : World) (e : Ending) (w' : World) : Prop := e = .returned (.int .i64 r.1) ∧ BR w' g r.2 ∧ Chg w w' [g]
set_option maxRecDepth 100000 in
set_option maxHeartbeats 2000000 in
theorem takeAt_any {w : World} {g : Nat} {bs : List Bool} (h : BR w g bs) (i : Int) : Calls Tryd.prog 11 #[pv g, .int .i64 i] w (BPost g (takeF bs i) w) := by
  have hi := in_any h i
  have hh := has_any h i
  unfold takeF
  unfold hasB at hh
  cases hb : inB i bs.length with
  | false =>
    rw [hb] at hi
    clear hb hh
    have HB := Lib.hid h; clear h
    unfold pv at hi ⊢
    have HI := Lib.hid hi; clear hi
    go_enter Tryd.func11, Tryd.ntmps11
    go_wp2_with (refine HI.out.mono ?_; rintro e w2 ⟨rfl, rfl⟩)
    go_ret
    exact ⟨rfl, HB.out, Chg.refl _ _⟩
  | true =>
    rw [hb] at hi hh
    cases hv : bs.getD i.toNat false with
    | true =>
      rw [hv] at hh
      clear hb
      have HB := Lib.hid h; clear h
      unfold pv at hi hh ⊢
      have HI := Lib.hid hi; have HH := Lib.hid hh; clear hi hh hv
      go_enter Tryd.func11, Tryd.ntmps11
      go_wp2_with (first | (refine HI.out.mono ?_; rintro e w2 ⟨rfl, rfl⟩) | (refine HH.out.mono ?_; rintro e w2 ⟨rfl, rfl⟩))
      go_ret
      exact ⟨rfl, HB.out, Chg.refl _ _⟩
    | false =>
      rw [hv] at hh
      obtain ⟨k, rfl⟩ : ∃ k : Nat, i = k := ⟨i.toNat, by unfold inB at hb; simp at hb; omega⟩
      have hk : k < bs.length := by unfold inB at hb; simp at hb; omega
      rw [Int.toNat_natCast] at hv ⊢
      have hk2 : k / 64 < 1024 := by have := h.2; omega
      have hw := fun (w' : World) (n : Nw w w') => (h.nw n).word hk2
      have HW := Lib.hid (word_take bs k hk)
      have hlt := word_lt bs (k / 64)
      have bw : IntKind.i64.wrap ((k : Int) / 64) = ((k / 64 : Nat) : Int) := by have := h.2; rw [IntWalk.i64_in _ (by omega)]; omega
      have hs : k % 64 < 64 := Nat.mod_lt _ (by decide)
      have br : (k : Int).tmod 64 = ((k % 64 : Nat) : Int) := by rw [Int.tmod_eq_emod_of_nonneg (by omega)]; omega
      obtain ⟨q, hq⟩ : ∃ q, k / 64 = q := ⟨_, rfl⟩
      obtain ⟨s, hs'⟩ : ∃ s, k % 64 = s := ⟨_, rfl⟩
      obtain ⟨W, hW⟩ : ∃ W, word bs q = W := ⟨_, rfl⟩
      rw [hq] at HW hlt hw bw hk2
      rw [hW] at HW hlt hw
      rw [hs'] at hs br HW
      have hq3 : (q : Int) < 1024 := by omega
      have h65 : k < 65536 := by have := h.2; omega
      have HB := Lib.hid h; have HK := Lib.hid hk; have HV := Lib.hid hv
      have HQ := Lib.hid hq; have HS := Lib.hid hs'; clear hb h hW hk hv hq hs'
      unfold pv at hi hh ⊢
      have HI := Lib.hid hi; have HH := Lib.hid hh; clear hi hh
      go_enter Tryd.func11, Tryd.ntmps11
      go_wp2_with (first | (refine HI.out.mono ?_; rintro e w2 ⟨rfl, rfl⟩) | (refine HH.out.mono ?_; rintro e w2 ⟨rfl, rfl⟩))
      refine wp_region_U [14] (fun w' => Nw w w') (by kernel_rfl) ?_
      change wpU _ _ _ _ _ _ _ _ _ (World.drew w)
      refine U_segL (r := [0, 1, 2, 3, 4, 5, 6, 7, 8, 9, 10]) (fuel := 4) rfl (by kernel_rfl) (by kernel_rfl) (by simp only [List.filterMap_cons, List.filterMap_nil, List.getElem?_toArray, List.getElem?_cons_succ, List.getElem?_cons_zero]; rfl) (fun _ _ d _ _ h => by cases d <;> exact h) (gb_drew (Nw.refl w)) ?_
      iterate 11 (refine wpYield_step rfl (fun K hK => ?_)
                  apply Exists.intro
                  refine ⟨fun w' hw' => ?_, ?_⟩
                  · (go_simp; try with_reducible rfl)
                  go_simp
                  refine hK _ ?_
                  clear hK K)
      refine wpYield_nil ?_
      refine U_segP (r := [11, 12, 13]) (fuel := 1) rfl (by kernel_rfl) (by kernel_rfl) (by simp only [List.filterMap_cons, List.filterMap_nil, List.getElem?_toArray, List.getElem?_cons_succ, List.getElem?_cons_zero]; rfl) (fun _ _ d _ _ h => by cases d <;> exact h) (until_of (gb_drew (Nw.refl w))) ?_
      iterate 3 (refine wpYield_step rfl (fun K hK => ?_)
                 apply Exists.intro
                 refine ⟨fun w' hw' => ?_, ?_⟩
                 · (go_simp; try with_reducible rfl)
                 go_simp
                 refine hK _ ?_
                 clear hK K)
      refine wpYield_nil ?_
      refine U_eff 14 rfl (by kernel_rfl) rfl (fun K hK => ?_)
      have e0 := hw w.drew (gb_drew (Nw.refl w)); have f0 := HB.out.1.frozen q
      go_simp
      rw [or_shl _ _ hlt hs]
      refine hK _ _ ⟨until_past (by kernel_rfl), ?_⟩
      clear hK K
      refine U_done (by kernel_rfl) ?_ _
      clear e0 f0 hw
      obtain ⟨w2, hw2⟩ : ∃ w2, w2 = (w.setCell ⟨g, q, none⟩ (.int .u64 ((W ||| 1 <<< s : Nat) : Int))).drew := ⟨_, rfl⟩
      rw [← hw2]
      have o2 : Obj1 w2 g 58 ((bc bs).toArray.setIfInBounds q (.int .u64 ((W ||| 1 <<< s : Nat) : Int))) := by rw [hw2]; exact HB.out.1.set q _
      have c2 : w2.cell? ⟨g, 1025, none⟩ = some (.int .i64 (cnt bs)) := by
        rw [o2.cell 1025, Array.getElem?_setIfInBounds_ne (by omega), List.getElem?_toArray, bc_k]; rfl
      have f2 := o2.frozen 1025
      have hcnt : cnt bs ≤ 65536 := by have := cnt_le bs; have := HB.out.2; omega
      obtain ⟨C, hC⟩ : ∃ C, cnt bs = C := ⟨_, rfl⟩
      rw [hC] at c2 hcnt
      have HC := Lib.hid hC; have HW2 := Lib.hid hw2
      clear o2 hC hw2
      go_wp2
      go_ret
      refine ⟨rfl, ?_, ?_⟩
      · have := set2_BR HB.out k true HK.out
        rw [cnt_set _ _ HK.out HV.out, HC.out, HQ.out, ← HW.out, ← HW2.out] at this
        exact this
      · rw [HW2.out]
        exact ((Chg.set w (p := ⟨g, q, none⟩) (F := [g]) (by simp) _).drew).trans (Chg.set _ (p := ⟨g, 1025, none⟩) (F := [g]) (by simp) _) (fun x hx => .inl hx)
end Go.Proofs.YtoinkofoaodkhaaDoor

