/- A stage is set by the toy; for scripts that may be. -/
import Derived.Test.YtmcgfnfhpcddlaaJT
set_option linter.unusedVariables false
set_option linter.unusedSimpArgs false
/- A stage is set by the toy; for scripts that may be. -/
namespace Go.Proofs.Ytmcgfnfhpcddlaa
open Go.RowKit Go.BW

theorem aNew (t : Nat) : ∀ w : World, (nilAhead 285 28 (.pointer (some ⟨t, 0, none⟩)) "New").run Try.prog w = .ok (some false) w := fun w => by kernel_rfl
def SetN (q : Fx) (w : World) (p : Par) (K keep : Nat) (e : Ending) (w2 : World) : Prop :=
  e = .returned (.tuple #[tIf q.t, .int .i64 0]) ∧ Obj1 w2 q.st 70 #[pv q.b, .nilIface, pv q.g, tIf q.t, .int .i64 (p.bl : Int), .int .i64 (-1), .int .i64 0, .int .u64 0] ∧
      ∀ w3, w2.grownBy w3 (some q.st) → Obj1 w3 q.st 70 (stC q (tIf q.t) (tIf q.t) p.bl 0 (-1) 0) → SI w q 1 false p (newS p K keep) w3
theorem SI.rebase {w0 w1 w : World} {q : Fx} {K : Nat} {dn : Bool} {p : Par} {S : St} (h : SI w1 q K dn p S w) (n : Nw w0 w1) : SI w0 q K dn p S w := by
  obtain ⟨v, h⟩ := h
  exact ⟨v, h.tb, h.so, h.md, h.ml, h.dis, h.stF, h.rF, fun x hx => (h.base x hx).imp id (fun e => by have := n.size; omega), (Chg.of_nw n).trans h.chg (fun _ h => .inl h)⟩
theorem Obj1.drew' {w : World} {g : Nat} {t : TypeId} {cs : Array Value} (h : Obj1 w g t cs) : Obj1 w.drew g t cs := h
def SetPost' (t : Nat) (p : Par) (nd keep : Nat) (w : World) (e : Ending) (w' : World) : Prop := ∃ q : Fx, e = .returned (pv q.st) ∧ q.t = t ∧ SI w q 1 false p (newS p nd keep) w'
set_option maxHeartbeats 4000000 in
set_option maxRecDepth 100000 in
theorem set_any {w : World} {B t keep : Nat} {x : Sc} {p : Par} (h : SOk w B x) (hB : B ≤ w.heap.size) (hr : rightS (scr x) = true) (h0 : Toy0 w t keep p) (hbl : x.bl = (p.bl : Int)) (hod : p.odd.length = 64) (hat : p.at' ≤ 1000000) (hkp : keep < 18446744073709551616) :
    Calls Try.prog 26 #[sv x, tIf t] w (SetPost' t p x.n keep w) := by
  obtain ⟨num, A, n, c, sz, bl, D, m, d, acts⟩ := x
  obtain ⟨hp1, hp2, hp3, hp4, hp5, hp6⟩ := rightS_parts hr
  have hzl : sz.length = n := h.zl
  have HSZ := Lib.hid (show ∀ z ∈ sz, 160 ≤ z ∧ z ≤ 4096 from hp5)
  have hn12 : n ≤ 12 := by have : sz.length ≤ 12 := hp2.2; omega
  have HS := Lib.hid h; have HBB := Lib.hid hB
  have HBL := Lib.hid hbl
  have hbl : bl = (p.bl : Int) := hbl
  have hpb : 1 ≤ p.bl ∧ p.bl ≤ 96 := by have : 1 ≤ bl ∧ bl ≤ 96 := hp3; omega
  have HPB := Lib.hid hpb
  have hnum : Md.numN bl = p.bl := by unfold Md.numN; omega
  have HNUM := Lib.hid hnum
  have HT0 := Lib.hid h0
  have HOD := Lib.hid hod; have HAT := Lib.hid hat; have HKE := Lib.hid hkp
  have HZL := Lib.hid hzl
  have HN12 := Lib.hid hn12
  obtain ⟨W0, hW0⟩ : ∃ W0, w.alloc (.cells #[.int .i64 num, .slice A n c, .int .i64 bl, .slice D m d] 25) = W0 := ⟨_, rfl⟩
  obtain ⟨X, hX⟩ : ∃ X, w.heap.size = X := ⟨_, rfl⟩
  have n0 : Nw w W0 := by rw [← hW0]; exact World.grownBy_alloc w _ none
  have N0 := Lib.hid n0
  have OX := Lib.hid (show Obj1 W0 X 25 #[.int .i64 num, .slice A n c, .int .i64 bl, .slice D m d] from by rw [← hW0, ← hX]; exact Obj1.new w _ _)
  have HX := Lib.hid hX
  unfold sv tIf pv
  show Calls _ _ #[.agg #[.int .i64 num, .slice A n c, .int .i64 bl, .slice D m d], .iface 28 (.pointer (some ⟨t, 0, none⟩))] _ _
  clear h hr hB hp1 hp2 hp3 hp4 hp5 hp6 hzl hpb hnum n0 h0 hod hat hkp hbl hn12
  go_enter Try.func26, Try.ntmps26
  go_upto_region 1 with fail
  clear hW0 hX
  have c0 : ∀ w', Nw W0 w' → w'.cell? ⟨X, 0, none⟩ = some (.int .i64 num) := fun w' k => (OX.out.nw k).cell 0
  have c1 : ∀ w', Nw W0 w' → w'.cell? ⟨X, 1, none⟩ = some (.slice A n c) := fun w' k => (OX.out.nw k).cell 1
  have c2 : ∀ w', Nw W0 w' → w'.cell? ⟨X, 2, none⟩ = some (.int .i64 bl) := fun w' k => (OX.out.nw k).cell 2
  refine wp_region_U [3, 7, 8] (fun w' => Nw W0 w') (by kernel_rfl) ?_
  change wpU _ _ _ _ _ _ _ _ _ (World.drew W0)
  refine U_segP (r := [1, 4, 5]) (fuel := 7) rfl (by kernel_rfl) (by kernel_rfl) (by simp only [List.filterMap_cons, List.filterMap_nil, List.getElem?_toArray, List.getElem?_cons_succ, List.getElem?_cons_zero]; rfl) (fun _ _ d _ _ h => by cases d <;> exact h) (until_of (gb_drew (Nw.refl W0))) ?_
  iterate 3 (refine wpYield_step rfl (fun K hK => ?_)
             apply Exists.intro
             refine ⟨fun w' hw' => ?_, ?_⟩
             · (go_simp; try with_reducible rfl)
             go_simp
             refine hK _ ?_
             clear hK K)
  refine wpYield_nil ?_
  refine U_segL (r := [2, 6]) (fuel := 5) rfl (by kernel_rfl) (by kernel_rfl) (by simp only [List.filterMap_cons, List.filterMap_nil, List.getElem?_toArray, List.getElem?_cons_succ, List.getElem?_cons_zero]; rfl) (fun _ _ d _ _ h => by cases d <;> exact h) (gb_drew (Nw.refl W0)) ?_
  iterate 2 (refine wpYield_step rfl (fun K hK => ?_)
             apply Exists.intro
             refine ⟨fun w' hw' => ?_, ?_⟩
             · (go_simp; try with_reducible rfl)
             go_simp
             refine hK _ ?_
             clear hK K)
  refine wpYield_nil ?_
  clear c0 c1 c2
  refine U_eff 0 rfl (by kernel_rfl) rfl (fun K hK => ?_)
  go_simp
  refine (newBank_any _).mono ?_
  rintro e w1 ⟨rfl, b1, n1⟩
  have N1 := Lib.hid (gb_of_drew n1); have B1 := Lib.hid b1
  refine hK _ _ ⟨until_of N1.out, ?_⟩
  clear hK K n1 b1
  refine U_eff 3 rfl (by kernel_rfl) rfl (fun K hK => ?_)
  go_simp
  refine (Md.new_any _ _).mono ?_
  rintro e w2 ⟨g, F, rfl, r2, f2, n2⟩
  have N2 := Lib.hid (gb_trans N1.out n2); have N12 := Lib.hid n2; have R2 := Lib.hid r2; have F2 := Lib.hid f2
  refine hK _ _ ⟨until_of N2.out, ?_⟩
  clear hK K n2 r2 f2
  unfold Md.pv pv
  refine U_segL (r := [7]) (fuel := 2) rfl (by kernel_rfl) (by kernel_rfl) (by simp only [List.filterMap_cons, List.filterMap_nil, List.getElem?_toArray, List.getElem?_cons_succ, List.getElem?_cons_zero]; rfl) (fun _ _ d _ _ h => by cases d <;> exact h) N2.out ?_
  (refine wpYield_step rfl (fun K hK => ?_)
   apply Exists.intro
   refine ⟨fun w' hw' => ?_, ?_⟩
   · (go_simp; try with_reducible rfl)
   go_simp
   refine hK _ ?_
   clear hK K)
  refine wpYield_nil ?_
  refine U_eff 8 rfl (by kernel_rfl) rfl (fun K hK => ?_)
  go_simp
  obtain ⟨w3, hw3⟩ : ∃ w3, w2.alloc (.cells #[.pointer (some ⟨W0.heap.size, 0, none⟩), .nilIface, .pointer (some ⟨g, 0, none⟩), .iface 28 (.pointer (some ⟨t, 0, none⟩)), .int .i64 bl, .int .i64 (-1), .int .i64 0, .int .u64 0] 70) = w3 := ⟨_, rfl⟩
  have n3 : Nw w2 w3 := by rw [← hw3]; exact World.grownBy_alloc w2 _ none
  have N3 := Lib.hid (gb_trans N2.out n3); have N23 := Lib.hid n3
  have O3 := Lib.hid (show Obj1 w3 w2.heap.size 70 #[.pointer (some ⟨W0.heap.size, 0, none⟩), .nilIface, .pointer (some ⟨g, 0, none⟩), .iface 28 (.pointer (some ⟨t, 0, none⟩)), .int .i64 bl, .int .i64 (-1), .int .i64 0, .int .u64 0] from by rw [← hw3]; exact Obj1.new w2 _ _)
  refine hK _ _ ⟨until_of (by rw [hw3]; exact N3.out), ?_⟩
  clear hK K n3
  rw [hw3]
  clear hw3
  obtain ⟨bb, hbb⟩ : ∃ bb, W0.heap.size = bb := ⟨_, rfl⟩
  obtain ⟨st, hst⟩ : ∃ st, w2.heap.size = st := ⟨_, rfl⟩
  have HBE := Lib.hid hbb; have HSE := Lib.hid hst
  have R0 := Lib.hid (show SetR W0 ⟨st, t, bb, g⟩ (.iface 28 (.pointer (some ⟨t, 0, none⟩))) p n 0 F w3 from by
    have z0 := N0.out.size; have z1 := N1.out.size; have z2 := N12.out.size
    refine ⟨Nat.zero_le _, N3.out, ?_, ?_, fun x hx => by have := F2.out x hx; omega, by show W0.heap.size ≤ st; omega, fun hm => by have hx : st < w2.heap.size := R2.out.lt _ hm; omega, none, 0, [], rfl, ?_, ?_⟩
    · have hb : bl = (p.bl : Int) := HBL.out
      rw [← hb, ← hst, ← hbb]; exact O3.out
    · rw [← HNUM.out]; exact R2.out.nw N23.out
    · rw [← hbb]; exact (B1.out.nw N12.out).nw N23.out
    · intro x hx
      rcases hx with hx | hx
      · rcases fpB_out hx with e | ⟨m', hm', e⟩
        · have e : x = bb := e
          have hb1 : W0.heap.size < w1.heap.size := B1.out.lt _ (fpB_b _ _)
          exact ⟨by omega, fun hm => by have h1 := F2.out _ hm; omega⟩
        · cases hm'
      · simp [rowB, Value.ownBlock] at hx)
  have K3 := Lib.hid N3.out
  clear O3 B1 R2 F2 N1 N2 N12 N23
  rw [hbb, hst]
  refine U_segP (r := [9]) (fuel := 0) rfl (by kernel_rfl) (by kernel_rfl) (by simp only [List.filterMap_cons, List.filterMap_nil, List.getElem?_toArray, List.getElem?_cons_succ, List.getElem?_cons_zero]; rfl) (fun _ _ d _ _ h => by cases d <;> exact h) (until_past (by kernel_rfl)) ?_
  (refine wpYield_step rfl (fun K hK => ?_)
   apply Exists.intro
   refine ⟨fun w' hw' => ?_, ?_⟩
   · (go_simp; try with_reducible rfl)
   go_simp
   refine hK _ ?_
   clear hK K)
  refine wpYield_nil ?_
  refine U_done (by kernel_rfl) ?_ _
  have c1 : w3.cell? ⟨X, 1, none⟩ = some (.slice A n c) := (OX.out.nw K3.out).cell 1
  clear hbb hst HBE HSE
  go_wp2_with fail
  clear c1
  go_loopw [22] (fun i wr => ∃ k : Nat, i = .int .i64 k ∧ SetR W0 ⟨st, t, bb, g⟩ (.iface 28 (.pointer (some ⟨t, 0, none⟩))) p n k F wr) (fun i _ => n - (intOf i).toNat)
  case atStart => exact ⟨0, rfl, R0.out⟩
  case round =>
    clear R0 K3
    obtain ⟨k, rfl, hs⟩ := hrel
    have hk := hs.le
    have hn12 := HN12.out
    have SR := Lib.hid hs; clear hs
    rcases (show k < n ∨ k = n by omega) with hlt | rfl
    · have d1 : (k : Int) < (n : Int) := by omega
      obtain ⟨rb, off, rfl, hz, hc⟩ := (HS.out.z.nw (gb_trans N0.out SR.out.nw) HBB.out).atI hlt
      have hz' : k < sz.length := hz
      have hzz : 160 ≤ sz[k] ∧ sz[k] ≤ 4096 := HSZ.out (sz[k]) (List.getElem_mem hz')
      obtain ⟨zn, hzn⟩ : ∃ zn : Nat, sz[k] = (zn : Int) := ⟨sz[k].toNat, by omega⟩
      rw [hzn] at hc
      obtain ⟨Ab, cb, ms, hml, hb, hf⟩ := SR.out.bk
      have HA := add_any hb zn (by rw [hzn] at hzz; omega) (by omega)
      have HP := Lib.hid (fun e w' (a : AddPost bb 0 Ab cb ms zn wr e w') => SR.out.add hlt hml hb hf a)
      have s0 : wr.cell? ⟨st, 0, none⟩ = some (.pointer (some ⟨bb, 0, none⟩)) := SR.out.so.cell 0
      have HA2 : Calls Try.prog 48 #[.pointer (some ⟨bb, 0, none⟩), .int .i64 zn] wr (fun e w' => (∃ v, e = .returned v) ∧ SetR W0 ⟨st, t, bb, g⟩ (.iface 28 (.pointer (some ⟨t, 0, none⟩))) p n (k + 1) F w') := HA.mono fun e w' a => HP.out e w' a
      have HA' := Lib.hid HA2
      clear HA HA2 HP hb hf hml hz hz' hzz hzn
      go_wp2_with (go_at_call 48; (with_reducible refine HA'.out.mono ?_); rintro e w5 ⟨⟨vv, rfl⟩, h5⟩; have H5 := Lib.hid h5; clear h5)
      exact ⟨⟨k + 1, rfl, H5.out⟩, by simp [intOf]; omega⟩
    · have d1 : decide ((k : Int) < (k : Int)) = false := decide_eq_false (by omega)
      go_upto_region 7 with fail
      have s0 : ∀ w', Nw wr w' → w'.cell? ⟨st, 0, none⟩ = some (.pointer (some ⟨bb, 0, none⟩)) := fun w' q => (SR.out.so.nw q).cell 0
      have OXR := Lib.hid (OX.out.nw SR.out.nw)
      have c0 : ∀ w', Nw wr w' → w'.cell? ⟨X, 0, none⟩ = some (.int .i64 num) := fun w' q => (OXR.out.nw q).cell 0
      have c2 : ∀ w', Nw wr w' → w'.cell? ⟨X, 2, none⟩ = some (.int .i64 bl) := fun w' q => (OXR.out.nw q).cell 2
      have m1 := mNew t wr.drew
      have a1 := aNew t
      have TN := tnew_any (b := bb) (nd := k) (num := num) (show Toy0 wr.drew t keep p from Obj1.nw (Obj1.nw HT0.out N0.out) (gb_drew SR.out.nw)) HPB.out HOD.out HAT.out HKE.out
      have FN := Lib.hid (fun e w2 (a : TNewPost t bb keep p k wr.drew e w2) => SR.out.fin (gb_drew (Nw.refl wr)) (Obj1.nw HT0.out N0.out) a HOD.out)
      have TN2 : Calls Try.prog 114 #[.pointer (some ⟨t, 0, none⟩), .pointer (some ⟨bb, 0, none⟩), .int .i64 num, .int .i64 p.bl] wr.drew (SetN ⟨st, t, bb, g⟩ W0 p k keep) := TN.mono fun e w2 a => FN.out e w2 a
      have TN' := Lib.hid TN2
      clear TN TN2 FN
      have KW := Lib.hid (gb_trans N0.out SR.out.nw)
      refine wp_region_U [12] (fun w' => Nw wr w') (by kernel_rfl) ?_
      change wpU _ _ _ _ _ _ _ _ _ (World.drew wr)
      refine U_segP (r := [0, 1, 2, 3, 5, 7]) (fuel := 12) rfl (by kernel_rfl) (by kernel_rfl) (by simp only [List.filterMap_cons, List.filterMap_nil, List.getElem?_toArray, List.getElem?_cons_succ, List.getElem?_cons_zero]; rfl) (fun _ _ d _ _ h => by cases d <;> exact h) (until_of (gb_drew (Nw.refl wr))) ?_
      iterate 6 (refine wpYield_step rfl (fun K hK => ?_)
                 apply Exists.intro
                 refine ⟨fun w' hw' => ?_, ?_⟩
                 · (go_simp; try with_reducible rfl)
                 go_simp
                 refine hK _ ?_
                 clear hK K)
      refine wpYield_nil ?_
      refine U_segL (r := [4, 6, 8]) (fuel := 9) rfl (by kernel_rfl) (by kernel_rfl) (by simp only [List.filterMap_cons, List.filterMap_nil, List.getElem?_toArray, List.getElem?_cons_succ, List.getElem?_cons_zero]; rfl) (fun _ _ d _ _ h => by cases d <;> exact h) (gb_drew (Nw.refl wr)) ?_
      iterate 3 (refine wpYield_step rfl (fun K hK => ?_)
                 apply Exists.intro
                 refine ⟨fun w' hw' => ?_, ?_⟩
                 · (go_simp; try with_reducible rfl)
                 go_simp
                 refine hK _ ?_
                 clear hK K)
      refine wpYield_nil ?_
      refine U_segP (r := [9, 10, 11]) (fuel := 6) rfl (by kernel_rfl) (by kernel_rfl) (by simp only [List.filterMap_cons, List.filterMap_nil, List.getElem?_toArray, List.getElem?_cons_succ, List.getElem?_cons_zero]; rfl) (fun _ _ d _ _ h => by cases d <;> exact h) (until_of (gb_drew (Nw.refl wr))) ?_
      iterate 3 (refine wpYield_step rfl (fun K hK => ?_)
                 apply Exists.intro
                 refine ⟨fun w' hw' => ?_, ?_⟩
                 · (go_simp; try with_reducible rfl)
                 go_simp
                 refine hK _ ?_
                 clear hK K)
      refine wpYield_nil ?_
      clear s0 c0 c2
      refine U_eff 12 rfl (by kernel_rfl) rfl (fun K hK => ?_)
      go_simp
      refine TN'.out.mono ?_
      rintro e w5 ⟨rfl, o5, fin5⟩
      have O5 := Lib.hid o5; have FI := Lib.hid fin5
      have d1 : w5.cell? ⟨st, 1, none⟩ = some .nilIface := o5.cell 1
      have d1f := o5.frozen 1
      clear o5 fin5
      refine hK _ _ ⟨until_past (by kernel_rfl), ?_⟩
      clear hK K m1 a1
      unfold tIf pv
      refine U_segP (r := [13, 14, 15, 16, 17]) (fuel := 0) rfl (by kernel_rfl) (by kernel_rfl) (by simp only [List.filterMap_cons, List.filterMap_nil, List.getElem?_toArray, List.getElem?_cons_succ, List.getElem?_cons_zero]; rfl) (fun _ _ d _ _ h => by cases d <;> exact h) (until_past (by kernel_rfl)) ?_
      iterate 5 (refine wpYield_step rfl (fun K hK => ?_)
                 apply Exists.intro
                 refine ⟨fun w' hw' => ?_, ?_⟩
                 · (go_simp; try with_reducible rfl)
                 go_simp
                 refine hK _ ?_
                 clear hK K)
      refine wpYield_nil ?_
      refine U_done (by kernel_rfl) ?_ _
      go_wp2
      go_ret
      exact ⟨⟨st, t, bb, g⟩, rfl, rfl, (FI.out _ (gb_set w5 st 1 _) (O5.out.set 1 (tIf t))).rebase N0.out⟩
end Go.Proofs.Ytmcgfnfhpcddlaa


/- The stage's writes. -/
namespace Go.Proofs.Ytmcgfnfhpcddlaa
open Go.RowKit Go.BW

section
variable {w0 w w' : World} {q : Fx} {v : Vr} {K : Nat} {dn dn' : Bool} {p : Par} {S S' : St}
theorem SIv.more {K' : Nat} (h : SIv w0 q v K dn p S w) (hK : K ≤ K') : SIv w0 q v K' dn p S w := ⟨h.tb, h.so, h.md.more hK, h.ml, h.dis, h.stF, h.rF, h.base, h.chg⟩
def S1 (S T : St) : St := { T with M := S.M }
/-- behind the toy's Write -/
def WrS (w0 : World) (q : Fx) (v : Vr) (K : Nat) (p : Par) (S : St) (k : Nat) (s : List UInt8) (x : Nat) (e1 : Int) (e : Ending) (w' : World) : Prop :=
  e = .returned (.int .i64 e1) ∧ SIv w0 q v K (writeP p S k s).2.1 p (S1 S (writeP p S k s).2.2) w' ∧ Obj1 w' x 33 (s.map bv).toArray
theorem writeP_again (p : Par) (S : St) (k : Nat) (s : List UInt8) : (writeP p S k s).2.2.again = S.again := by unfold writeP; split <;> (try split) <;> (try split) <;> rfl
theorem wrS_any {x : Nat} {s : List UInt8} (h : SIv w0 q v K false p S w) (hc : S.calls ≤ 1000000) (hn : 1 ≤ S.nd ∧ S.nd ≤ 30) (ha : S.ar ≤ 1000) (k : Nat) (hs : s.length = 64) (ox : Obj1 w x 33 (s.map bv).toArray) (hx : x ∉ fpT (v.y q)) :
    Calls Try.prog 119 #[pv q.t, .int .i64 k, .agg (s.map bv).toArray] w (WrS w0 q v K p S k s x (WV p S k s)) :=
  (twrite_any h.tb hc hn ha k s hs).mono fun e w' he => ⟨he.1, h.toy0 he.2.2 (he.2.1.same rfl rfl rfl rfl rfl rfl rfl) rfl (writeP_again p S k s), ox.chg he.2.2 hx⟩
/-- the model's Write -/
theorem mdw_any {s : List UInt8} {T : St} (h : SIv w0 q v K dn p (S1 S T) w) (hK : K ≤ 999) (hs : s.length = 64) {k : Nat} (hk : k < p.bl) (hm : S.M.length = p.bl) (hT : T.M = S.M.set k ((S.M.getD k ([], false)).1 ++ s, false)) :
    Calls Try.prog 61 #[pv q.g, .int .i64 k, .agg (s.map bv).toArray] w (fun e w' => e = .returned (.int .i64 0) ∧ SI w0 q (K + 1) dn p T w') := by
  have hb : S.M[k]? = some (S.M.getD k ([], false)) := by rw [List.getD_eq_getElem?_getD, List.getElem?_eq_getElem (by omega)]; rfl
  have hmd : Md.Rep w q.g S.M v.F K := h.md
  refine (Md.write_ok hmd (by omega) k _ hb s hs).mono ?_
  rintro e w' ⟨rfl, F', r5, k5, f5⟩
  refine ⟨rfl, { v with F := F' }, ?_⟩
  have := h.mod k5 r5 f5 (by rw [List.length_set]; exact hm)
  refine this.same rfl rfl ?_ rfl rfl rfl rfl rfl rfl
  exact hT
set_option maxHeartbeats 4000000 in
set_option maxRecDepth 100000 in
theorem writes_any (h : SIv w0 q v K false p S w) (hc : S.calls ≤ 1000000) (hn : 1 ≤ S.nd ∧ S.nd ≤ 30) (ha : S.ar ≤ 1000) (hK : K ≤ 999) (k : Nat) (s : List UInt8) (hs : s.length = 64) :
    Calls Try.prog 49 #[pv q.st, .int .i64 k, .agg (s.map bv).toArray] w (fun e w' => e = .returned (.bool (writeP p S k s).1) ∧ SI w0 q (K + 1) (writeP p S k s).2.1 p (writeP p S k s).2.2 w') := by
  obtain ⟨w1, hw1⟩ : ∃ w1, w.alloc (.cells (s.map bv).toArray 33) = w1 := ⟨_, rfl⟩
  obtain ⟨x, hx⟩ : ∃ x, w.heap.size = x := ⟨_, rfl⟩
  have n1 : Nw w w1 := by rw [← hw1]; exact World.grownBy_alloc w _ none
  have H1 := Lib.hid (h.nw n1)
  have O1 := Lib.hid (show Obj1 w1 x 33 (s.map bv).toArray from by rw [← hw1, ← hx]; exact Obj1.new w _ _)
  have XF := Lib.hid (show x ∉ fpT (v.y q) from fun hm => by have := h.lt x hm; omega)
  have HS := Lib.hid hs
  have HW := wrS_any (H1.out.drew) hc hn ha k hs O1.out XF.out
  have HML := Lib.hid h.ml
  obtain ⟨N, hN⟩ : ∃ N, p.bl = N := ⟨_, rfl⟩
  have HN := Lib.hid hN
  obtain ⟨e1, he1⟩ : ∃ e1, WV p S k s = e1 := ⟨_, rfl⟩
  have HE1 := Lib.hid he1
  rw [he1] at HW
  have HMW := Lib.hid (fun w2 (h2 : SIv w0 q v K (writeP p S k s).2.1 p (S1 S (writeP p S k s).2.2) w2) (hk : k < p.bl) (hT : (writeP p S k s).2.2.M = S.M.set k ((S.M.getD k ([], false)).1 ++ s, false)) => mdw_any h2 hK hs hk HML.out hT)
  have HDN := Lib.hid (fun w2 (h2 : SIv w0 q v K (writeP p S k s).2.1 p (S1 S (writeP p S k s).2.2) w2) (e : Int) => down_any h2 e)
  unfold WrS pv at HW
  unfold pv at HMW HDN
  have HW' := Lib.hid HW
  have m1 := mWrite q.t w1.drew
  unfold pv
  have LD := Lib.hid (show ∀ w', Nw w1 w' → ∀ j u, (s.map bv)[j]? = some u → w'.cell? ⟨x, 0 + j, none⟩ = some u from fun w' k j u hu => by rw [Nat.zero_add, (O1.out.nw k).cell j]; simpa using hu)
  have c1 : ∀ w', Nw w1 w' → w'.cell? ⟨q.st, 1, none⟩ = some (.iface 28 (.pointer (some ⟨q.t, 0, none⟩))) := fun w' k => (H1.out.so.nw k).cell 1
  clear h HW hc hn ha hK hs n1 he1 hN
  go_enter Try.func49, Try.ntmps49
  go_upto_region 1 with fail
  clear hw1 hx
  refine wp_region_U [6] (fun w' => Nw w1 w') (by kernel_rfl) ?_
  change wpU _ _ _ _ _ _ _ _ _ (World.drew w1)
  refine U_segP (r := [0, 1, 2, 4]) (fuel := 4) rfl (by kernel_rfl) (by kernel_rfl) (by simp only [List.filterMap_cons, List.filterMap_nil, List.getElem?_toArray, List.getElem?_cons_succ, List.getElem?_cons_zero]; rfl) (fun _ _ d _ _ h => by cases d <;> exact h) (until_of (gb_drew (Nw.refl w1))) ?_
  iterate 4 (refine wpYield_step rfl (fun K hK => ?_)
             apply Exists.intro
             refine ⟨fun w' hw' => ?_, ?_⟩
             · (go_simp; try with_reducible rfl)
             go_simp
             refine hK _ ?_
             clear hK K)
  refine wpYield_nil ?_
  refine U_segL (r := [3, 5]) (fuel := 2) rfl (by kernel_rfl) (by kernel_rfl) (by simp only [List.filterMap_cons, List.filterMap_nil, List.getElem?_toArray, List.getElem?_cons_succ, List.getElem?_cons_zero]; rfl) (fun _ _ d _ _ h => by cases d <;> exact h) (gb_drew (Nw.refl w1)) ?_
  (refine wpYield_step rfl (fun K hK => ?_)
   apply Exists.intro
   refine ⟨fun w' hw' => ?_, ?_⟩
   · (go_simp; try with_reducible rfl)
   go_simp
   refine hK _ ?_
   clear hK K)
  refine wpYield_load_agg 33 _ rfl rfl rfl (s.map bv) (fun w' hw' j u hu => LD.out w' hw' j u hu) _ Try.underlying33 rfl (i33' HS.out) ?_
  refine wpYield_nil ?_
  clear c1
  refine U_eff 6 rfl (by kernel_rfl) rfl (fun K hK => ?_)
  go_simp
  refine HW'.out.mono ?_
  rintro e w2 ⟨rfl, h2, o2⟩
  have H2 := Lib.hid h2; have O2 := Lib.hid o2
  refine hK _ _ ⟨until_past (by kernel_rfl), ?_⟩
  clear hK K m1 h2 o2 HW' LD
  refine U_segP (r := [7]) (fuel := 0) rfl (by kernel_rfl) (by kernel_rfl) (by simp only [List.filterMap_cons, List.filterMap_nil, List.getElem?_toArray, List.getElem?_cons_succ, List.getElem?_cons_zero]; rfl) (fun _ _ d _ _ h => by cases d <;> exact h) (until_past (by kernel_rfl)) ?_
  (refine wpYield_step rfl (fun K hK => ?_)
   apply Exists.intro
   refine ⟨fun w' hw' => ?_, ?_⟩
   · (go_simp; try with_reducible rfl)
   go_simp
   refine hK _ ?_
   clear hK K)
  refine wpYield_nil ?_
  refine U_done (by kernel_rfl) ?_ _
  have c4 : w2.cell? ⟨q.st, 4, none⟩ = some (.int .i64 N) := cell4 H2.out HN.out
  rcases (show N ≤ k ∨ k < N by omega) with hk | hk
  · have d1 : decide ((N : Int) ≤ (k : Int)) = true := decide_eq_true (by omega)
    have hle : p.bl ≤ k := by rw [HN.out]; exact hk
    have hW : writeP p S k s = (!lieB p S, false, lieS p S) := by unfold writeP; rw [if_pos hle]
    have hv : e1 = if lieB p S then 0 else 3 := by rw [← HE1.out]; unfold WV; rw [if_pos hle]
    obtain ⟨qq, hqq⟩ : ∃ qq, lieB p S = qq := ⟨_, rfl⟩
    rw [hqq] at hW hv
    have HWW := Lib.hid hW
    clear hqq hW hle
    rcases qq with _ | _
    · simp only [Bool.false_eq_true, if_false] at hv
      subst hv
      go_wp2
      go_ret
      exact ⟨by rw [HWW.out]; rfl, v, by rw [HWW.out]; have hh := H2.out; rw [HWW.out] at hh; exact (hh.same rfl rfl rfl rfl rfl rfl rfl rfl rfl).more (Nat.le_succ _)⟩
    · simp only [if_true] at hv
      subst hv
      go_wp2
      go_ret
      exact ⟨by rw [HWW.out]; rfl, v, by rw [HWW.out]; have hh := H2.out; rw [HWW.out] at hh; exact (hh.same rfl rfl rfl rfl rfl rfl rfl rfl rfl).more (Nat.le_succ _)⟩
  · have d1 : decide ((N : Int) ≤ (k : Int)) = false := decide_eq_false (by omega)
    have hle : ¬ p.bl ≤ k := by rw [HN.out]; exact Nat.not_le.2 hk
    have HK := Lib.hid (show k < N from hk)
    rcases hl : lieB p S with _ | _
    rotate_left
    · have hW : writeP p S k s = (false, false, lieS p S) := by unfold writeP; rw [if_neg hle, hl, if_pos rfl]
      have hv : e1 = 5 := by rw [← HE1.out]; unfold WV; rw [if_neg hle, hl, if_pos rfl]
      subst hv
      have HD := HDN.out w2 H2.out 5
      rw [hW, show (decide ((5 : Int) = 6) && _) = false from rfl] at HD
      unfold Still at HD
      have HD' := Lib.hid HD
      have HWW := Lib.hid hW
      clear HD hW hle
      clear hl
      go_wp2_with ((with_reducible refine HD'.out.mono ?_); rintro e w3 ⟨rfl, rfl⟩)
      go_ret
      exact ⟨by rw [HWW.out]; rfl, v, by rw [HWW.out]; have hh := H2.out; rw [HWW.out] at hh; exact (hh.same rfl rfl rfl rfl rfl rfl rfl rfl rfl).more (Nat.le_succ _)⟩
    by_cases hno : s = noS
    · have hW : writeP p S k s = (true, false, lieS p S) := by unfold writeP; rw [if_neg hle, hl, if_neg Bool.false_ne_true, if_pos hno]
      have hv : e1 = 4 := by rw [← HE1.out]; unfold WV; rw [if_neg hle, hl, if_neg Bool.false_ne_true, if_pos hno]
      subst hv
      have HD := HDN.out w2 H2.out 4
      rw [hW, show (decide ((4 : Int) = 6) && _) = false from rfl] at HD
      unfold Still at HD
      have HD' := Lib.hid HD
      have HWW := Lib.hid hW
      clear HD hW hle
      clear hl hno
      go_wp2_with ((with_reducible refine HD'.out.mono ?_); rintro e w3 ⟨rfl, rfl⟩)
      go_ret
      exact ⟨by rw [HWW.out]; rfl, v, by rw [HWW.out]; have hh := H2.out; rw [HWW.out] at hh; exact (hh.same rfl rfl rfl rfl rfl rfl rfl rfl rfl).more (Nat.le_succ _)⟩
    rcases hd : powD S with _ | _
    · have hW : writeP p S k s = (true, false, { powS (lieS p S) with N := if !powD S || decide (S.keep % 2 = 1) then setAt S.N k s else S.N, M := S.M.set k ((S.M.getD k ([], false)).1 ++ s, false) }) := by unfold writeP; rw [if_neg hle, hl, if_neg Bool.false_ne_true, if_neg hno, hd]
      have hv : e1 = 0 := by rw [← HE1.out]; unfold WV; rw [if_neg hle, hl, if_neg Bool.false_ne_true, if_neg hno, hd]; rfl
      subst hv
      have HWW := Lib.hid hW
      clear hW hle hl hno hd
      go_upto_region 5 with fail
      have f2 : ∀ w', Nw w2 w' → w'.cell? ⟨q.st, 2, none⟩ = some (.pointer (some ⟨q.g, 0, none⟩)) := fun w' k => (H2.out.so.nw k).cell 2
      have LD := Lib.hid (show ∀ w', Nw w2 w' → ∀ j u, (s.map bv)[j]? = some u → w'.cell? ⟨x, 0 + j, none⟩ = some u from fun w' k j u hu => by rw [Nat.zero_add, (O2.out.nw k).cell j]; simpa using hu)
      have HSE := HMW.out w2.drew H2.out.drew (by rw [HN.out]; exact HK.out) (by rw [HWW.out])
      have HSE' := Lib.hid HSE
      clear HSE c4
      refine wp_region_U [6] (fun w' => Nw w2 w') (by kernel_rfl) ?_
      change wpU _ _ _ _ _ _ _ _ _ (World.drew w2)
      refine U_segP (r := [0, 1, 2, 4]) (fuel := 3) rfl (by kernel_rfl) (by kernel_rfl) (by simp only [List.filterMap_cons, List.filterMap_nil, List.getElem?_toArray, List.getElem?_cons_succ, List.getElem?_cons_zero]; rfl) (fun _ _ d _ _ h => by cases d <;> exact h) (until_of (gb_drew (Nw.refl w2))) ?_
      iterate 4 (refine wpYield_step rfl (fun K hK => ?_)
                 apply Exists.intro
                 refine ⟨fun w' hw' => ?_, ?_⟩
                 · (go_simp; try with_reducible rfl)
                 go_simp
                 refine hK _ ?_
                 clear hK K)
      refine wpYield_nil ?_
      refine U_segL (r := [3, 5]) (fuel := 1) rfl (by kernel_rfl) (by kernel_rfl) (by simp only [List.filterMap_cons, List.filterMap_nil, List.getElem?_toArray, List.getElem?_cons_succ, List.getElem?_cons_zero]; rfl) (fun _ _ d _ _ h => by cases d <;> exact h) (gb_drew (Nw.refl w2)) ?_
      (refine wpYield_step rfl (fun K hK => ?_)
       apply Exists.intro
       refine ⟨fun w' hw' => ?_, ?_⟩
       · (go_simp; try with_reducible rfl)
       go_simp
       refine hK _ ?_
       clear hK K)
      refine wpYield_load_agg 33 _ rfl rfl rfl (s.map bv) (fun w' hw' j u hu => LD.out w' hw' j u hu) _ Try.underlying33 rfl (i33' HS.out) ?_
      refine wpYield_nil ?_
      clear f2
      refine U_eff 6 rfl (by kernel_rfl) rfl (fun K hK => ?_)
      go_simp
      refine HSE'.out.mono ?_
      rintro e w5 ⟨rfl, h5⟩
      have H5 := Lib.hid h5
      refine hK _ _ ⟨until_past (by kernel_rfl), ?_⟩
      clear hK K h5
      refine U_done (by kernel_rfl) ?_ _
      go_wp2
      go_ret
      exact ⟨by rw [HWW.out]; rfl, H5.out⟩
    · have hW : writeP p S k s = (true, true, { powS (lieS p S) with N := if !powD S || decide (S.keep % 2 = 1) then setAt S.N k s else S.N, M := S.M.set k ((S.M.getD k ([], false)).1 ++ s, false) }) := by unfold writeP; rw [if_neg hle, hl, if_neg Bool.false_ne_true, if_neg hno, hd]
      have hv : e1 = 6 := by rw [← HE1.out]; unfold WV; rw [if_neg hle, hl, if_neg Bool.false_ne_true, if_neg hno, hd]; rfl
      subst hv
      have HD := HDN.out w2 H2.out 6
      rw [hW, show (decide ((6 : Int) = 6) && _) = true from rfl] at HD
      unfold Still at HD
      have HD' := Lib.hid HD
      have HWW := Lib.hid hW
      clear HD hW hle
      clear hl hno hd
      go_upto_region 5 with ((with_reducible refine HD'.out.mono ?_); rintro e w3 ⟨rfl, rfl⟩)
      have f2 : ∀ w', Nw w2 w' → w'.cell? ⟨q.st, 2, none⟩ = some (.pointer (some ⟨q.g, 0, none⟩)) := fun w' k => (H2.out.so.nw k).cell 2
      have LD := Lib.hid (show ∀ w', Nw w2 w' → ∀ j u, (s.map bv)[j]? = some u → w'.cell? ⟨x, 0 + j, none⟩ = some u from fun w' k j u hu => by rw [Nat.zero_add, (O2.out.nw k).cell j]; simpa using hu)
      have HSE := HMW.out w2.drew H2.out.drew (by rw [HN.out]; exact HK.out) (by rw [HWW.out])
      have HSE' := Lib.hid HSE
      clear HSE c4
      refine wp_region_U [6] (fun w' => Nw w2 w') (by kernel_rfl) ?_
      change wpU _ _ _ _ _ _ _ _ _ (World.drew w2)
      refine U_segP (r := [0, 1, 2, 4]) (fuel := 3) rfl (by kernel_rfl) (by kernel_rfl) (by simp only [List.filterMap_cons, List.filterMap_nil, List.getElem?_toArray, List.getElem?_cons_succ, List.getElem?_cons_zero]; rfl) (fun _ _ d _ _ h => by cases d <;> exact h) (until_of (gb_drew (Nw.refl w2))) ?_
      iterate 4 (refine wpYield_step rfl (fun K hK => ?_)
                 apply Exists.intro
                 refine ⟨fun w' hw' => ?_, ?_⟩
                 · (go_simp; try with_reducible rfl)
                 go_simp
                 refine hK _ ?_
                 clear hK K)
      refine wpYield_nil ?_
      refine U_segL (r := [3, 5]) (fuel := 1) rfl (by kernel_rfl) (by kernel_rfl) (by simp only [List.filterMap_cons, List.filterMap_nil, List.getElem?_toArray, List.getElem?_cons_succ, List.getElem?_cons_zero]; rfl) (fun _ _ d _ _ h => by cases d <;> exact h) (gb_drew (Nw.refl w2)) ?_
      (refine wpYield_step rfl (fun K hK => ?_)
       apply Exists.intro
       refine ⟨fun w' hw' => ?_, ?_⟩
       · (go_simp; try with_reducible rfl)
       go_simp
       refine hK _ ?_
       clear hK K)
      refine wpYield_load_agg 33 _ rfl rfl rfl (s.map bv) (fun w' hw' j u hu => LD.out w' hw' j u hu) _ Try.underlying33 rfl (i33' HS.out) ?_
      refine wpYield_nil ?_
      clear f2
      refine U_eff 6 rfl (by kernel_rfl) rfl (fun K hK => ?_)
      go_simp
      refine HSE'.out.mono ?_
      rintro e w5 ⟨rfl, h5⟩
      have H5 := Lib.hid h5
      refine hK _ _ ⟨until_past (by kernel_rfl), ?_⟩
      clear hK K h5
      refine U_done (by kernel_rfl) ?_ _
      go_wp2
      go_ret
      exact ⟨by rw [HWW.out]; rfl, H5.out⟩
end
end Go.Proofs.Ytmcgfnfhpcddlaa


/- The stage's adds. -/
namespace Go.Proofs.Ytmcgfnfhpcddlaa
open Go.RowKit Go.BW

section
variable {w0 w w' : World} {q : Fx} {v : Vr} {K : Nat} {dn dn' : Bool} {p : Par} {S S' : St}
def AddQ (w0 : World) (q : Fx) (K : Nat) (p : Par) (S : St) (e : Ending) (w' : World) : Prop :=
  e = .returned (.tuple #[.int .i64 (S.nd : Int), .int .i64 0]) ∧ ∃ v', SIv w0 q v' K false p { S with nd := S.nd + 1 } w'
theorem SIv.add {n : Nat} {e : Ending} (h : SIv w0 q v K false p S w) (a : AddPost q.b (S.ar : Int) v.A v.c v.ms n w e w') : AddQ w0 q K p S e w' := by
  obtain ⟨rfl, A', c', m, hm, hb', hnew, hc, hr⟩ := a
  have hnd : v.ms.length = S.nd := h.tb.nd
  have hin : ∀ x ∈ q.b :: rowB v.A v.ms.length v.c, InS q v x := by
    intro x hx
    rcases List.mem_cons.1 hx with e | e
    · exact .inr (.inr (.inl (by rw [e]; exact fpT_b (v.y q) _ (fpB_b _ _))))
    · exact .inr (.inr (.inr e))
  have hout : ∀ (g : Nat) (t : TypeId) (cs : Array Value), Obj1 w g t cs → t ≠ 109 → t ≠ 115 → g ∉ q.b :: rowB v.A v.ms.length v.c := by
    intro g t cs ho h1 h2 hm
    rcases List.mem_cons.1 hm with e | e
    · obtain ⟨_, _, _, ob⟩ := h.tb.bk.obj; exact (ho.ne ob h1) e
    · obtain ⟨cur, hq⟩ := h.tb.bk.row.rowObj _ (rowB_mem.1 e); exact (ho.ne hq h2) rfl
  obtain ⟨_, o1⟩ := h.tb.ti.lobj; obtain ⟨_, o2⟩ := h.tb.ti.nobj
  have ti := h.tb.ti.chg hc (hout _ _ _ h.tb.ti.obj (by decide) (by decide)) (hout _ _ _ o1 (by decide) (by decide)) (hout _ _ _ o2 (by decide) (by decide))
  have hfp : ∀ x ∈ fpB q.b (v.ms ++ [m]), x ∈ fpB q.b v.ms ∨ w.heap.size ≤ x := by
    intro x hx
    rcases fpB_out hx with e | ⟨m', hm', e⟩
    · exact .inl (by rw [e]; exact fpB_b _ _)
    · rcases List.mem_append.1 hm' with h1 | h1
      · exact .inl (fpB_m h1 x (by simp; exact e))
      · rw [List.mem_singleton] at h1; subst h1
        exact .inr (hnew x (by simp; exact e))
  have hlt := h.tb.ti.lt
  have hfT : ∀ x ∈ fpT (({ v with A := A', c := c', ms := v.ms ++ [m] } : Vr).y q), x ∈ fpT (v.y q) ∨ w.heap.size ≤ x := by
    intro x hx
    rcases List.mem_cons.1 hx with e | hx
    · exact .inl (by rw [e]; exact List.mem_cons_self ..)
    rcases List.mem_cons.1 hx with e | hx
    · exact .inl (by rw [e]; exact List.mem_cons_of_mem _ (List.mem_cons_self ..))
    rcases List.mem_cons.1 hx with e | hx
    · exact .inl (by rw [e]; exact List.mem_cons_of_mem _ (List.mem_cons_of_mem _ (List.mem_cons_self ..)))
    · exact (hfp x hx).imp (fpT_b (v.y q) x) id
  have hrl : ∀ r ∈ rowB A' (v.ms ++ [m]).length c', r ∈ rowB v.A v.ms.length v.c ∨ w.heap.size ≤ r := by
    intro r hx; rw [List.length_append] at hx; exact hr r hx
  refine ⟨by rw [← hnd], { v with A := A', c := c', ms := v.ms ++ [m] }, ⟨⟨ti.obj, ti.lrow, ti.nrow, ti.ne, ti.odd, ti.bl, ti.at', ti.keep⟩, hb', by show (v.ms ++ [m]).length = S.nd + 1; rw [List.length_append, hnd]; rfl, ?_, ?_⟩, h.so.chg hc (hout _ _ _ h.so (by decide) (by decide)), h.md.chg hc (fun x hx hm => ?_), h.ml, ?_, h.stF, ?_, ?_, h.step hc hin⟩
  · intro hm
    rcases hfp _ hm with h1 | h1
    · exact h.tb.lo h1
    · have hx : v.lr < w.heap.size := hlt.2.1; have h2 : w.heap.size ≤ v.lr := h1; omega
  · intro hm
    rcases hfp _ hm with h1 | h1
    · exact h.tb.no h1
    · have hx : v.nr < w.heap.size := hlt.2.2; have h2 : w.heap.size ≤ v.nr := h1; omega
  · rcases List.mem_cons.1 hm with e | e
    · exact h.dis x hx (by rw [e]; exact fpT_b (v.y q) _ (fpB_b _ _))
    · exact h.rF x e hx
  · intro x hx hm
    rcases hfT x hm with h1 | h1
    · exact h.dis x hx h1
    · have := h.md.lt x hx; omega
  · intro x hx hm
    rcases hrl x hx with h1 | h1
    · exact h.rF x h1 hm
    · have := h.md.lt x hm; omega
  · intro x hx
    rcases hx with e | e | e | e
    · exact h.base x (.inl e)
    · exact h.base x (.inr (.inl e))
    · rcases hfT x e with h1 | h1
      · exact h.base x (.inr (.inr (.inl h1)))
      · right; have := h.chg.size; omega
    · rcases hrl x e with h1 | h1
      · exact h.base x (.inr (.inr (.inr h1)))
      · right; have := h.chg.size; omega
def TAddS (w0 : World) (q : Fx) (v : Vr) (K : Nat) (p : Par) (S : St) (e : Ending) (w' : World) : Prop :=
  (∃ u : Int, e = .returned (.int .i64 u) ∧ (lieB p S = true → u = 3) ∧ (lieB p S = false → u = 0 ∨ u = 1)) ∧ SIv w0 q v K false p (lieS p S) w'
theorem taddS_any (h : SIv w0 q v K false p S w) (hc : S.calls ≤ 1000000) (d : Nat) : Calls Try.prog 112 #[pv q.t, .int .i64 d] w (TAddS w0 q v K p S) :=
  (tadd_any h.tb hc d).mono fun e w' he => ⟨he.1, h.toy0 (he.2.2.wide (fpT_t (v.y q))) he.2.1 rfl rfl⟩
set_option maxHeartbeats 4000000 in
set_option maxRecDepth 100000 in
theorem adds_any (h : SIv w0 q v K false p S w) (hc : S.calls ≤ 1000000) (hn : 1 ≤ S.nd ∧ S.nd ≤ 30) (n : Int) (h0 : 0 ≤ n) :
    Calls Try.prog 53 #[pv q.st, .int .i64 n] w (fun e w' => e = .returned (.bool (addP p S n).1) ∧ SI w0 q K false p (addP p S n).2.2 w') := by
  have H := Lib.hid h
  have c0 : w.cell? ⟨q.st, 0, none⟩ = some (pv q.b) := h.so.cell 0
  have hnd : v.ms.length = S.nd := h.tb.nd
  have HCT := count_any h.tb.bk
  rw [show (v.y q).ms.length = S.nd from hnd, show (v.y q).b = q.b from rfl] at HCT
  obtain ⟨N, hN⟩ : ∃ N, S.nd = N := ⟨_, rfl⟩
  have HN := Lib.hid hN
  rw [hN] at HCT
  unfold pv at c0 HCT ⊢
  have HCT' := Lib.hid HCT
  have CC := Lib.hid hc
  have HNN := Lib.hid hn
  clear h HCT hc hn
  rcases (show 10 ≤ N ∨ N < 10 by omega) with h10 | h10
  · have d1 : decide ((10 : Int) ≤ (N : Int)) = true := decide_eq_true (by omega)
    have hA : addP p S n = (true, false, S) := by unfold addP; rw [if_pos (by omega)]
    have HA := Lib.hid hA
    clear hA hN hnd
    go_enter Try.func53, Try.ntmps53
    go_wp2_with ((with_reducible refine HCT'.out.mono ?_); rintro e w3 ⟨rfl, rfl⟩)
    go_ret
    exact ⟨by rw [HA.out]; rfl, v, by rw [HA.out]; exact H.out⟩
  · have d1 : decide ((10 : Int) ≤ (N : Int)) = false := decide_eq_false (by omega)
    rcases (show (n < 1 ∨ 4096 < n) ∨ (1 ≤ n ∧ n ≤ 4096) by omega) with hb | hg
    · have hA : addP p S n = (true, false, S) := by unfold addP; rw [if_neg (by omega), if_pos hb]
      have HA := Lib.hid hA
      have HAB := add_bad H.out.tb.bk n hb
      rw [show (v.y q).b = q.b from rfl] at HAB
      unfold pv at HAB
      have HAB' := Lib.hid HAB
      clear hA hN hnd HAB hb
      go_enter Try.func53, Try.ntmps53
      go_wp2_with (first | (go_at_call 48; (with_reducible refine HAB'.out.mono ?_); rintro e w3 ⟨rfl, rfl⟩) | (go_at_call 64; (with_reducible refine HCT'.out.mono ?_); rintro e w3 ⟨rfl, rfl⟩))
      go_ret
      exact ⟨by rw [HA.out]; rfl, v, by rw [HA.out]; exact H.out⟩
    · obtain ⟨m, rfl⟩ : ∃ m : Nat, n = (m : Int) := ⟨n.toNat, by omega⟩
      have hA : addP p S (m : Int) = (!lieB p S, false, { lieS p S with nd := S.nd + 1 }) := by unfold addP; rw [if_neg (by omega), if_neg (by omega)]
      have HAD := (add_any H.out.tb.bk m (by omega) (by show v.ms.length ≤ 30; omega)).mono fun e w' a => H.out.add a
      rw [show (v.y q).b = q.b from rfl] at HAD
      unfold AddQ pv at HAD
      rw [hN] at HAD
      have HAD' := Lib.hid HAD
      have HTA := Lib.hid (fun w2 v2 (h2 : SIv w0 q v2 K false p { S with nd := N + 1 } w2) => taddS_any h2 CC.out N)
      have HD3 := Lib.hid (fun w2 v2 (h2 : SIv w0 q v2 K false p (lieS p { S with nd := N + 1 }) w2) => down_any h2 3)
      have HS := Lib.hid (fun w2 v2 (h2 : SIv w0 q v2 K false p { S with nd := N + 1 } w2) => show w2.cell? ⟨q.st, 1, none⟩ = some (tIf q.t) from h2.so.cell 1)
      have HM := Lib.hid (fun w2 => mAdd q.t w2)
      obtain ⟨qq, hqq⟩ : ∃ qq, lieB p S = qq := ⟨_, rfl⟩
      have hqq' : lieB p { S with nd := N + 1 } = qq := hqq
      unfold TAddS pv at HTA
      rw [hqq'] at HTA
      unfold Still pv at HD3
      unfold tIf pv at HS
      rw [hqq, hN] at hA
      have HA := Lib.hid hA
      clear hA hN hnd HAD hqq hqq' hg h0
      go_enter Try.func53, Try.ntmps53
      go_upto_region 6 with (first | (go_at_call 48; (with_reducible refine HAD'.out.mono ?_); rintro e w3 ⟨rfl, v3, h3⟩) | (go_at_call 64; (with_reducible refine HCT'.out.mono ?_); rintro e w3 ⟨rfl, rfl⟩))
      have H3 := Lib.hid h3
      have s1 := HS.out w3 v3 h3
      have m1 := HM.out w3
      have HT := HTA.out w3 v3 h3
      have HT' := Lib.hid HT
      clear h3 HT HTA HS HM
      go_upto_region 7 with (go_at_call 112; (with_reducible refine HT'.out.mono ?_); rintro e w4 ⟨⟨u, rfl, u1, u2⟩, h4⟩)
      clear m1 s1
      rcases qq with _ | _
      · have hu := u2 rfl
        have H4 := Lib.hid h4
        clear u1 u2 h4 HD3
        rcases hu with rfl | rfl
        · go_wp2
          go_ret
          exact ⟨by rw [HA.out]; rfl, v3, by rw [HA.out]; exact H4.out⟩
        · go_wp2
          go_ret
          exact ⟨by rw [HA.out]; rfl, v3, by rw [HA.out]; exact H4.out⟩
      · have hu := u1 rfl
        subst hu
        have HD := HD3.out w4 v3 h4
        have H4 := Lib.hid h4
        have HD' := Lib.hid HD
        clear u1 u2 h4 HD3 HD
        go_wp2_with ((with_reducible refine HD'.out.mono ?_); rintro e w5 ⟨rfl, rfl⟩)
        go_ret
        exact ⟨by rw [HA.out]; rfl, v3, by rw [HA.out]; exact H4.out⟩
end
end Go.Proofs.Ytmcgfnfhpcddlaa


/- The stage's loses. -/
namespace Go.Proofs.Ytmcgfnfhpcddlaa
open Go.RowKit Go.BW

section
variable {w0 w w' : World} {q : Fx} {v : Vr} {K : Nat} {dn dn' : Bool} {p : Par} {S S' : St}
set_option maxHeartbeats 4000000 in
set_option maxRecDepth 100000 in
theorem loses_any {a : Act} (h : SIv w0 q v K false p S w) (hn : 1 ≤ S.nd ∧ S.nd ≤ 30) (h0 : 0 ≤ a.n ∧ a.n ≤ 255) :
    Calls Try.prog 54 #[pv q.st, .agg (actC a).toArray] w (fun e w' => e = .returned (.tuple #[]) ∧ SI w0 q K false p S w') := by
  obtain ⟨w1, hw1⟩ : ∃ w1, w.alloc (.cells (actC a).toArray 44) = w1 := ⟨_, rfl⟩
  obtain ⟨x, hx⟩ : ∃ x, w.heap.size = x := ⟨_, rfl⟩
  have n1 : Nw w w1 := by rw [← hw1]; exact World.grownBy_alloc w _ none
  have H1 := Lib.hid (h.nw n1)
  have O1 := Lib.hid (show ActO w1 x a from by rw [← hw1, ← hx]; exact Obj1.new w _ _)
  obtain ⟨N, hN⟩ : ∃ N, S.nd = N := ⟨_, rfl⟩
  have HN := Lib.hid hN
  have hnd : v.ms.length = S.nd := h.tb.nd
  have HND := Lib.hid hnd
  have HCT := count_any H1.out.tb.bk.drewB
  rw [show (v.y q).ms.length = S.nd from hnd, show (v.y q).b = q.b from rfl, hN] at HCT
  unfold pv at HCT ⊢
  have HCT' := Lib.hid HCT
  have c0 : ∀ w', Nw w1 w' → w'.cell? ⟨q.st, 0, none⟩ = some (.pointer (some ⟨q.b, 0, none⟩)) := fun w' k => (H1.out.so.nw k).cell 0
  obtain ⟨an, han⟩ : ∃ an, a.n = an := ⟨_, rfl⟩
  have a1 : ∀ w', Nw w1 w' → w'.cell? ⟨x, 66, none⟩ = some (.int .i64 an) := fun w' k => by rw [← han]; exact (O1.out.nw k).n
  obtain ⟨m, hm⟩ : ∃ m : Nat, a.n = (m : Int) := ⟨a.n.toNat, by omega⟩
  rw [han] at hm h0
  subst hm
  have hNz : 1 ≤ N ∧ N ≤ 30 := by rw [← hN]; exact hn
  have hNne : ¬ (N = 0) := by omega
  obtain ⟨r, hr⟩ : ∃ r : Nat, m % N = r := ⟨_, rfl⟩
  have htm : ((m : Int)).tmod (N : Int) = (r : Int) := by rw [← hr]; exact (Int.ofNat_tmod m N).symm
  have HR := Lib.hid (show r < v.ms.length from by rw [HND.out, HN.out, ← hr]; exact Nat.mod_lt _ (by omega))
  clear hr
  clear h HCT n1 hnd hN han hn
  go_enter Try.func54, Try.ntmps54
  go_upto_region 1 with fail
  clear hw1 hx
  refine wp_region_held (S := (fun w' => Nw w1 w')) (by kernel_rfl) ?_
  change wpAnyH _ _ _ _ _ _ _ _ (World.drew w1)
  refine held_seg' (l := [0, 1, 2, 3, 4, 5]) (fuel := 3) rfl (by kernel_rfl) (by kernel_rfl) (by simp only [List.filterMap_cons, List.filterMap_nil, List.getElem?_toArray, List.getElem?_cons_succ, List.getElem?_cons_zero]; rfl) (fun _ _ d _ _ h => by cases d <;> exact h) (gb_drew (Nw.refl w1)) ?_
  iterate 6 (refine wpYield_step rfl (fun K hK => ?_)
             apply Exists.intro
             refine ⟨fun w' hw' => ?_, ?_⟩
             · (go_simp; try with_reducible rfl)
             go_simp
             refine hK _ ?_
             clear hK K)
  refine wpYield_nil ?_
  refine held_eff 6 rfl (by kernel_rfl) rfl (fun K hK => ?_)
  go_simp
  refine HCT'.out.mono ?_
  rintro e w5 ⟨rfl, rfl⟩
  refine hK _ _ ⟨gb_drew (Nw.refl w1), ?_⟩
  clear hK K
  refine held_seg' (l := [7, 8]) (fuel := 0) rfl (by kernel_rfl) (by kernel_rfl) (by simp only [List.filterMap_cons, List.filterMap_nil, List.getElem?_toArray, List.getElem?_cons_succ, List.getElem?_cons_zero]; rfl) (fun _ _ d _ _ h => by cases d <;> exact h) (gb_drew (Nw.refl w1)) ?_
  iterate 2 (refine wpYield_step rfl (fun K hK => ?_)
             apply Exists.intro
             refine ⟨fun w' hw' => ?_, ?_⟩
             · (go_simp; try with_reducible rfl)
             go_simp
             refine hK _ ?_
             clear hK K)
  refine wpYield_nil ?_
  refine wpAnyH_done (by kernel_rfl) ?_ _
  have H2 := Lib.hid H1.out.drew
  have O2 := Lib.hid (show ActO w1.drew x a from O1.out)
  clear H1 O1 c0 a1 HCT'
  generalize w1.drew = w2 at H2 O2 ⊢
  obtain ⟨lo, hlo⟩ : ∃ lo, v.lost = lo := ⟨_, rfl⟩
  have s5 : w2.cell? ⟨q.st, 5, none⟩ = some (.int .i64 lo) := by rw [← hlo]; exact H2.out.so.cell 5
  have s5f := H2.out.so.frozen 5
  have s0 : w2.cell? ⟨q.st, 0, none⟩ = some (.pointer (some ⟨q.b, 0, none⟩)) := H2.out.so.cell 0
  have HDD := dead_any H2.out.tb.bk (r : Int)
  rw [show (v.y q).b = q.b from rfl] at HDD
  unfold pv at HDD
  have HDD' := Lib.hid HDD
  clear HDD hlo
  rcases (show 0 ≤ lo ∨ lo < 0 by omega) with hl | hl
  · have d1 : decide ((0 : Int) ≤ lo) = true := decide_eq_true hl
    go_wp2_with fail
    refine bodyPost_ret (results_none rfl _ _ _) rfl ?_
    exact ⟨rfl, v, H2.out⟩
  · have d1 : decide ((0 : Int) ≤ lo) = false := decide_eq_false (by omega)
    go_upto_if 25 with ((with_reducible refine HDD'.out.mono ?_); rintro e w5 ⟨⟨qd, rfl⟩, rfl⟩)
    rcases qd with _ | _
    rotate_left
    · go_wp2_with fail
      refine bodyPost_ret (results_none rfl _ _ _) rfl ?_
      exact ⟨rfl, v, H2.out⟩
    obtain ⟨w3, hw3⟩ : ∃ w3, w2.setCell ⟨q.st, 5, none⟩ (.int .i64 (r : Int)) = w3 := ⟨_, rfl⟩
    have o3 : Obj1 w3 q.st 70 (stC q (tIf q.t) (tIf q.t) p.bl S.again (r : Int) v.mask) := by rw [← hw3]; exact H2.out.so.set 5 (.int .i64 (r : Int))
    have H3 := Lib.hid ((H2.out.stg (lost := (r : Int)) (mask := v.mask) (ag := S.again) (by rw [← hw3]; exact Chg.set w2 (by simp) _) o3).same (S' := S) rfl rfl rfl rfl rfl rfl rfl rfl rfl)
    have O3 := Lib.hid (show ActO w3 x a from by
      rw [← hw3]
      exact O2.out.other (gb_set w2 q.st 5 _) (fun e => (Obj1.ne O2.out H2.out.so (by decide)) e))
    have t0 : w3.cell? ⟨q.st, 0, none⟩ = some (.pointer (some ⟨q.b, 0, none⟩)) := o3.cell 0
    have k0 : w3.cell? ⟨x, 0, none⟩ = some (.int .i64 a.k) := O3.out.k
    obtain ⟨ak, hak⟩ : ∃ ak, a.k = ak := ⟨_, rfl⟩
    rw [hak] at k0
    clear o3 hak HDD' d1
    rcases (show ak = 6 ∨ ak ≠ 6 by omega) with rfl | h6
    · have HFL := fail_any H3.out.tb.bk r (by exact HR.out) (by have := HND.out; have := HN.out; show v.ms.length ≤ 30; omega)
      rw [show (({ v with lost := (r : Int), mask := v.mask } : Vr).y q).b = q.b from rfl] at HFL
      unfold FailPost pv at HFL
      have HFL' := Lib.hid HFL
      clear HFL
      go_wp2_with (go_at_call 65; (with_reducible refine HFL'.out.mono ?_); rintro e w5 ⟨⟨u, rfl⟩, b5⟩; have B5 := Lib.hid b5; clear b5)
      go_end0
      exact ⟨rfl, _, (H3.out.bank B5.out).same (S' := S) rfl rfl rfl rfl rfl rfl rfl rfl rfl⟩
    · have e6 : (ak == 6) = false := by simp [h6]
      have e7 : ¬ ak = 6 := h6
      obtain ⟨aa, haa⟩ : ∃ aa, a.at' = aa := ⟨_, rfl⟩
      have g0 : ∀ w', Nw w3 w' → w'.cell? ⟨q.st, 0, none⟩ = some (.pointer (some ⟨q.b, 0, none⟩)) := fun w' k => (H3.out.so.nw k).cell 0
      have g1 : ∀ w', Nw w3 w' → w'.cell? ⟨x, 67, none⟩ = some (.int .i64 aa) := fun w' k => by rw [← haa]; exact (O3.out.nw k).t
      have HFA := Lib.hid (fun n => failAt_any H3.out.drew.tb.bk (r : Int) n)
      rw [show (({ v with lost := (r : Int), mask := v.mask } : Vr).y q).b = q.b from rfl] at HFA
      unfold BPost pv at HFA
      clear haa
      go_upto_region 6 with fail
      clear t0 k0 s0 s5 s5f hw3
      refine wp_region_U [7, 8] (fun w' => Nw w3 w') (by kernel_rfl) ?_
      change wpU _ _ _ _ _ _ _ _ _ (World.drew w3)
      refine U_segP (r := [0, 1, 2, 4, 5]) (fuel := 4) rfl (by kernel_rfl) (by kernel_rfl) (by simp only [List.filterMap_cons, List.filterMap_nil, List.getElem?_toArray, List.getElem?_cons_succ, List.getElem?_cons_zero]; rfl) (fun _ _ d _ _ h => by cases d <;> exact h) (until_of (gb_drew (Nw.refl w3))) ?_
      iterate 5 (refine wpYield_step rfl (fun K hK => ?_)
                 apply Exists.intro
                 refine ⟨fun w' hw' => ?_, ?_⟩
                 · (go_simp; try with_reducible rfl)
                 go_simp
                 refine hK _ ?_
                 clear hK K)
      refine wpYield_nil ?_
      refine U_segL (r := [3, 6, 7]) (fuel := 1) rfl (by kernel_rfl) (by kernel_rfl) (by simp only [List.filterMap_cons, List.filterMap_nil, List.getElem?_toArray, List.getElem?_cons_succ, List.getElem?_cons_zero]; rfl) (fun _ _ d _ _ h => by cases d <;> exact h) (gb_drew (Nw.refl w3)) ?_
      iterate 3 (refine wpYield_step rfl (fun K hK => ?_)
                 apply Exists.intro
                 refine ⟨fun w' hw' => ?_, ?_⟩
                 · (go_simp; try with_reducible rfl)
                 go_simp
                 refine hK _ ?_
                 clear hK K)
      refine wpYield_nil ?_
      clear g0 g1
      refine U_eff 8 rfl (by kernel_rfl) rfl (fun K hK => ?_)
      go_simp
      refine (HFA.out _).mono ?_
      rintro e w5 ⟨rfl, b5⟩
      have B5 := Lib.hid b5
      refine hK _ _ ⟨until_past (by kernel_rfl), ?_⟩
      clear hK K b5
      refine U_done (by kernel_rfl) ?_ _
      go_wp2
      all_goals go_end0
      all_goals exact ⟨rfl, _, (H3.out.drew.bank B5.out).same (S' := S) rfl rfl rfl rfl rfl rfl rfl rfl rfl⟩
end
end Go.Proofs.Ytmcgfnfhpcddlaa

