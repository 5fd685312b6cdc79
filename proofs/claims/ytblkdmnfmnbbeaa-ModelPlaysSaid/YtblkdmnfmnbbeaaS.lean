/- What the reference's Fall does. -/
import Derived.Test.YtblkdmnfmnbbeaaR
namespace Go.Proofs.Ytblkdmnfmnbbeaa
open Go.RowKit Go.BW

def RPost (v : Value) (g : Nat) (M' : MB) (F : List Nat) (w : World) (e : Ending) (w' : World) : Prop :=
  e = .returned v ∧ ∃ F', RRep w' g M' F' ∧ Chg w w' F ∧ ∀ x ∈ F', x ∈ F ∨ w.heap.size ≤ x
theorem RR.subK {w w' : World} {g l c : Nat} {xs : List RB} (h : RR w g xs l c) (k : Chg w w' [l]) : ∀ x ∈ xs, Own w' 0 27 64 x.A x.n x.c (x.lt.map bv) ∧ x.n ≤ maxLen := by
  intro x hx
  obtain ⟨cur, ho⟩ := h.row.obj
  obtain ⟨h1, h2⟩ := h.sub x hx
  refine ⟨own_blk h1 fun a ha => k.block _ (by rw [ha] at h1; exact own_lt h1) ?_, h2⟩
  simp
  rintro e
  rw [ha] at h1
  obtain ⟨c1, ob⟩ : ∃ cur, Obj1 w a.block 27 cur := by
    rcases h1.2 with ⟨h3, _⟩ | ⟨g', cap, cur, hv, _, hg, _⟩
    · cases h3
    · injection hv with hv; injection hv with hv; subst hv
      exact ⟨cur, hg⟩
  exact ob.ne ho (by decide) e
/-- one element is another one now -/
theorem RR.put {w w' : World} {g l c i : Nat} {xs : List RB} {y : RB} (h : RR w g xs l c) (hrow : Own w' 0 61 66 (some ⟨l, 0, none⟩) xs.length c (fl rc (xs.set i y))) (k : Chg w w' [l]) (hy : Own w' 0 27 64 y.A y.n y.c (y.lt.map bv) ∧ y.n ≤ maxLen) :
    RR w' g (xs.set i y) l c := by
  obtain ⟨cur, ho⟩ := h.row.obj
  refine ⟨?_, by rw [List.length_set]; exact hrow, fun x hx => ?_⟩
  · rw [List.length_set]
    exact h.obj.chg k (by simpa using h.obj.ne ho (by decide))
  · rcases List.mem_or_eq_of_mem_set hx with hx | rfl
    · exact h.subK k x hx
    · exact hy
theorem cell_of {w : World} {l n c i : Nat} {xs : List RB} {x : RB} (h : Own w 0 61 66 (some ⟨l, 0, none⟩) n c (fl rc xs)) (hx : xs[i]? = some x) :
    w.cell? ⟨l, i * 66 + 64, none⟩ = some (.slice x.A x.n x.c) ∧ w.cell? ⟨l, i * 66 + 65, none⟩ = some (.bool x.op) ∧ (∀ j u, (x.la.map bv)[j]? = some u → w.cell? ⟨l, i * 66 + j, none⟩ = some u) ∧ w.frozen? ⟨l, i * 66 + 64, none⟩ = false ∧ w.frozen? ⟨l, i * 66 + 65, none⟩ = false := by
  have hh := h.atL rc_len (by omega) hx
  have hl : (x.la.map bv).length = 64 := by simp [x.hl]
  refine ⟨hh 64 _ ?_, hh 65 _ ?_, fun j u hu => hh j u ?_, World.ownsRow.frozenAt h _, World.ownsRow.frozenAt h _⟩
  · rw [rc, List.getElem?_append_right (by omega), hl]; rfl
  · rw [rc, List.getElem?_append_right (by omega), hl]; rfl
  · have := (List.getElem?_eq_some_iff.1 hu).1
    rw [rc, List.getElem?_append_left (by omega)]
    exact hu
def openR (x : RB) (v : Bool) : RB := ⟨x.la, x.A, x.n, x.c, x.lt, v, x.hl⟩
theorem openR_rc (x : RB) (v : Bool) : rc (openR x v) = (rc x).set 65 (.bool v) := by
  have hl : (x.la.map bv).length = 64 := by simp [x.hl]
  unfold rc openR
  rw [List.set_append, if_neg (by omega), hl]
  rfl
def FallRel (w : World) (g l c : Nat) (xs : List RB) (k : Nat) (wr : World) : Prop := RR wr g (mapTo (openR · true) xs k) l c ∧ Chg w wr [l]
set_option maxHeartbeats 2000000 in
theorem rfall_any {w : World} {g : Nat} {M : MB} {F : List Nat} (h : RRep w g M F) (hm : M.length ≤ 96) : Calls Try.prog 20 #[pv g] w (RPost (.tuple #[]) g (M.map fallB) F w) := by
  obtain ⟨l, c, xs, hr, hM, hF⟩ := h
  have hN : M.length = xs.length := by rw [hM, List.length_map]
  rw [hN] at hm
  obtain ⟨N, hNN⟩ : ∃ N, xs.length = N := ⟨_, rfl⟩
  rw [hNN] at hm
  have HR := Lib.hid hr; have HM := Lib.hid hM; have HF := Lib.hid hF; have HN := Lib.hid hNN
  clear hr hM hF hN hNN
  unfold pv
  go_enter Try.func20, Try.ntmps20
  go_wp2_with fail
  go_loopw [2] (fun i wr => ∃ k : Nat, k ≤ N ∧ i = .int .i64 k ∧ FallRel w g l c xs k wr) (fun i _ => N - (intOf i).toNat)
  case atStart => exact ⟨0, Nat.zero_le _, rfl, by rw [mapTo_zero]; exact HR.out, Chg.refl w _⟩
  case round =>
    obtain ⟨k, hk, rfl, hr, hcg⟩ := hrel
    have hln : (mapTo (openR · true) xs k).length = N := by rw [mapTo_len, HN.out]
    have ho := hr.obj
    rw [hln] at ho
    have hc0 := ho.cell 0
    rw [show (#[Value.slice (some ⟨l, 0, none⟩) N c])[0]? = some (.slice (some ⟨l, 0, none⟩) N c) from rfl] at hc0
    have HRR := Lib.hid hr; have HC := Lib.hid hcg; have HLN := Lib.hid hln
    clear hr hcg hln ho
    by_cases hlt : k < N
    · obtain ⟨x, hx⟩ : ∃ x, (mapTo (openR · true) xs k)[k]? = some x := ⟨(mapTo (openR · true) xs k)[k]'(by rw [HLN.out]; exact hlt), List.getElem?_eq_getElem _⟩
      obtain ⟨_, e65, _, _, f65⟩ := cell_of HRR.out.row hx
      have HX := Lib.hid hx; clear hx
      have st := Own.set HRR.out.row (k * 66 + 65) (.bool true)
      rw [fl_set1 rc_len (by omega) (openR_rc x true) _ _ HX.out] at st
      have ST := Lib.hid st; clear st
      go_wp2
      have cg : Chg wr (wr.setCell ⟨l, k * 66 + 65, none⟩ (.bool true)) [l] := Chg.set wr (p := ⟨l, k * 66 + 65, none⟩) (List.mem_cons_self ..) _
      have rr := HRR.out.put ST.out.1 cg (HRR.out.subK cg x (List.mem_of_getElem? HX.out))
      rw [mapTo_step (openR · true) xs k HX.out (by rw [HN.out]; exact hlt)] at rr
      exact ⟨⟨k + 1, hlt, by go_num, rr, HC.out.trans cg (fun x hx => .inl hx)⟩, by simp [intOf]; omega⟩
    · have hk' : k = N := by omega
      go_wp2
      go_end0
      have rr := HRR.out
      rw [hk', ← HN.out, mapTo_all] at rr
      refine ⟨rfl, F, ⟨l, c, _, rr, ?_, ?_⟩, ?_, fun x hx => .inl hx⟩
      · rw [HM.out, List.map_map, List.map_map]; rfl
      · rw [HF.out, List.flatMap_map]; rfl
      · refine HC.out.wide ?_
        rw [HF.out]
        intro x hx
        simp at hx
        simp [hx]
end Go.Proofs.Ytblkdmnfmnbbeaa

