/- The toy's Open. -/
import Derived.Test.YtmcgfnfhpcddlaaJR
import Derived.Test.YtmcgfnfhpcddlaaJP
import Derived.Test.YtmcgfnfhpcddlaaJI
set_option linter.unusedVariables false
set_option linter.unusedSimpArgs false
/- The toy's Open. -/
namespace Go.Proofs.Ytmcgfnfhpcddlaa
open Go.RowKit Go.BW
open Md (secAt)

section
variable {w w' : World} {y : Ly} {dn dn' : Bool} {p : Par} {S S' : St} {t b lr lc nr nc : Nat}
def selS (S : St) (i : Nat) : St := { powS S with L := selL S.keep S.L S.N i, N := selN S.keep S.L S.N i }
def OpenR (y : Ly) (p : Par) (S : St) (w : World) (i : Nat) (wr : World) : Prop := i ≤ p.bl ∧ TB wr y false p (selS S i) ∧ Chg w wr (fpT y)
def TOpenPost (y : Ly) (p : Par) (S : St) (w : World) (e : Ending) (w' : World) : Prop :=
  (powD S = true ∧ e = .returned (.tuple #[.nilIface, .int .i64 6]) ∧ TB w' y true p (powS S) ∧ Chg w w' (fpT y)) ∨
  (powD S = false ∧ e = .returned (.tuple #[tIf y.t, .int .i64 0]) ∧ TB w' y false p { selS S p.bl with keep := nextK S.keep } ∧ Chg w w' (fpT y))
theorem keptI (kp k : Nat) (h : kp < 18446744073709551616) : (bits BinOp.and IntKind.u64 ((kp : Int) / 2 ^ (k % 64)) 1 == 1) = keptB kp k := by
  have e : (kp : Int) / 2 ^ (k % 64) = ((kp / 2 ^ (k % 64) : Nat) : Int) := by rw [Int.natCast_ediv, Int.natCast_pow]; rfl
  rw [e, kbit0 (Nat.lt_of_le_of_lt (Nat.div_le_self _ _) h)]
  rfl
theorem shp0 (h : TI w t b lr lc nr nc p S) : Shape p { S with M := List.replicate p.bl ([], false) } := ⟨by simp, h.llen, h.nlen⟩
theorem sel_same (h : TI w t b lr lc nr nc p S) {k : Nat} (hk : k ≤ p.bl) : secAt (selN S.keep S.L S.N k) k = secAt S.N k ∧ secAt (selL S.keep S.L S.N k) k = secAt S.L k := by
  have := sel_at (shp0 h) k k hk
  exact ⟨by rw [this.2, if_neg (by omega)], by rw [this.1, if_neg (by omega)]⟩
theorem o_store {w wr w5 : World} {k r : Nat} (h : TB w y false p S) (hk : k < p.bl) (ht : TB wr y false p (selS S k)) (hc : Chg w wr (fpT y)) (hr : r = y.lr ∨ r = y.nr) (g5 : wr.drew.grownBy w5 (some r))
    (hs : (r = y.lr ∧ keptB S.keep k = true ∧ Own w5 0 33 64 (some ⟨y.lr, 0, none⟩) p.bl y.lc ((setAt (selS S k).L k (secAt (selS S k).N k)).map bv)) ∨
      (r = y.nr ∧ keptB S.keep k = false ∧ Own w5 0 33 64 (some ⟨y.nr, 0, none⟩) p.bl y.nc ((setAt (selS S k).N k (secAt (selS S k).L k)).map bv))) : OpenR y p S w (k + 1) w5 := by
  have g : wr.grownBy w5 (some r) := gb_of_drew g5
  have ss := sel_same h.ti (k := k) (by omega)
  obtain ⟨_, o1⟩ := ht.ti.lobj; obtain ⟨_, o2⟩ := ht.ti.nobj
  have hne := ht.ti.ne
  have hto : y.t ≠ r := by rcases hr with e | e <;> subst e; exact ht.ti.obj.ne o1 (by decide); exact ht.ti.obj.ne o2 (by decide)
  have ot := ht.ti.obj.eq (g.block _ ht.ti.obj.lt (fun e => by injection e with e; exact hto e))
  refine ⟨by omega, ?_, hc.trans (Chg.of_gb (F := fpT y) g (by intro q e; injection e with e; subst e; rcases hr with e | e <;> simp [fpT, e])) (fun _ h => .inl h)⟩
  refine ht.tstep' (S' := selS S (k + 1)) (F := [r]) (Chg.of_gb g (by intro q e; injection e with e; simp [e])) (fun x hx => by rw [List.mem_singleton] at hx; subst hx; exact .inr hr) ?_ rfl rfl ht.lo ht.no
  rcases hs with ⟨hr', hb, hs⟩ | ⟨hr', hb, hs⟩
  · have e1 : (selS S (k + 1)).L = setAt (selS S k).L k (secAt (selS S k).N k) := by
      show selL S.keep S.L S.N (k + 1) = setAt (selL S.keep S.L S.N k) k (secAt (selN S.keep S.L S.N k) k)
      rw [ss.1]; show (if keptB S.keep k = true then _ else _) = _; rw [if_pos hb]
    have e2 : (selS S (k + 1)).N = (selS S k).N := by
      show (if keptB S.keep k = true then _ else _) = _; rw [if_pos hb]; rfl
    exact ⟨ot, by rw [e1]; exact hs, by rw [e2]; exact ht.ti.nrow.eqb (g.block _ o2.lt (fun e => by injection e with e; exact hne (by omega))), hne, ht.ti.odd, ht.ti.bl, ht.ti.at', ht.ti.keep⟩
  · have e1 : (selS S (k + 1)).N = setAt (selS S k).N k (secAt (selS S k).L k) := by
      show selN S.keep S.L S.N (k + 1) = setAt (selN S.keep S.L S.N k) k (secAt (selL S.keep S.L S.N k) k)
      rw [ss.2]; show (if keptB S.keep k = true then _ else _) = _; rw [if_neg (by rw [hb]; decide)]
    have e2 : (selS S (k + 1)).L = (selS S k).L := by
      show (if keptB S.keep k = true then _ else _) = _; rw [if_neg (by rw [hb]; decide)]; rfl
    exact ⟨ot, by rw [e2]; exact ht.ti.lrow.eqb (g.block _ o1.lt (fun e => by injection e with e; exact hne (by omega))), by rw [e1]; exact hs, hne, ht.ti.odd, ht.ti.bl, ht.ti.at', ht.ti.keep⟩
theorem ld_sec {w : World} {r n c k : Nat} {l : List UInt8} (o : Own w 0 33 64 (some ⟨r, 0, none⟩) n c (l.map bv)) (hk : k < n) : ∀ j u, ((secAt l k).map bv)[j]? = some u → w.cell? ⟨r, k * 64 + j, none⟩ = some u := fun j u hu => by
  have := Md.secAt_cell (off := 0) o.rd (i := k) hk j u hu
  rw [Nat.zero_add] at this; exact this
theorem spl_set (l s : List UInt8) (k : Nat) : splice (l.map bv) (k * 64) (s.map bv) = (setAt l k s).map bv := by unfold setAt splice; simp
theorem nextI (kp : Nat) (h : kp < 18446744073709551616) : IntKind.u64.wrap (IntKind.u64.wrap ((kp : Int) * 6364136223846793005) + 1442695040888963407) = ((nextK kp : Nat) : Int) := by
  unfold nextK
  simp only [IntKind.wrap, IntKind.bits, IntKind.signed]
  simp
set_option maxHeartbeats 4000000 in
set_option maxRecDepth 100000 in
theorem topen_any (h : TB w y false p S) (hn : 1 ≤ S.nd ∧ S.nd ≤ 30) (ha : S.ar ≤ 1000) (bv' : Value) : Calls Try.prog 115 #[pv y.t, bv'] w (TOpenPost y p S w) := by
  have HT := Lib.hid h
  obtain ⟨d, hd⟩ : ∃ d, powD S = d := ⟨_, rfl⟩
  obtain ⟨N, hN⟩ : ∃ N, p.bl = N := ⟨_, rfl⟩
  obtain ⟨kp, hkp⟩ : ∃ kp, S.keep = kp := ⟨_, rfl⟩
  have HP := power_any h hn ha
  unfold PowPost at HP
  rw [hd] at HP
  have HD := Lib.hid hd; have HN := Lib.hid hN; have HKP := Lib.hid hkp
  have HNB := Lib.hid (show 1 ≤ N ∧ N ≤ 96 from by rw [← hN]; exact h.ti.bl)
  unfold pv at HP
  have HP' := Lib.hid HP
  unfold pv
  clear h HP hd hN hkp hn ha
  rcases d with _ | _
  · go_enter Try.func115, Try.ntmps115
    go_wp2_with ((with_reducible refine HP'.out.mono ?_); rintro e w3 ⟨rfl, h3, k3⟩)
    have R0 := Lib.hid (show OpenR y p S w 0 w3 from ⟨Nat.zero_le _, h3.same rfl rfl rfl rfl rfl rfl rfl, k3.wide (fpT_b y)⟩)
    clear h3 k3 HP'
    go_loopw [6] (fun i wr => ∃ k : Nat, i = .int .i64 k ∧ OpenR y p S w k wr) (fun i _ => N - (intOf i).toNat)
    case atStart => exact ⟨0, rfl, R0.out⟩
    case round =>
      clear R0
      obtain ⟨k, rfl, hk, ht, hc⟩ := hrel
      rw [HN.out] at hk
      have T := Lib.hid ht; have C := Lib.hid hc
      have c1 : wr.cell? ⟨y.t, 1, none⟩ = some (.slice (some ⟨y.lr, 0, none⟩) N y.lc) := by rw [← HN.out]; exact ht.ti.obj.cell 1
      have c3 : wr.cell? ⟨y.t, 3, none⟩ = some (.int .u64 (kp : Int)) := by rw [← HKP.out]; exact ht.ti.obj.cell 3
      clear ht hc
      rcases (show k < N ∨ k = N by omega) with hlt | rfl
      · have e1 : decide ((k : Int) < (N : Int)) = true := decide_eq_true (by omega)
        have hN96 : N ≤ 96 := HNB.out.2
        have m1 : bits BinOp.and IntKind.i64 (k : Int) 63 = (k : Int) % 64 := and_m _ _ 6 (by decide) (by decide) _ (by decide)
        obtain ⟨kb, hkb⟩ : ∃ kb, keptB S.keep k = kb := ⟨_, rfl⟩
        have HB := Lib.hid hkb
        have m2 : (bits BinOp.and IntKind.u64 ((kp : Int) / 2 ^ (k % 64)) 1 == 1) = kb := by rw [← hkb, HKP.out]; exact keptI kp k (by rw [← HKP.out]; exact HT.out.ti.keep)
        clear hkb
        rcases kb with _ | _
        · go_upto_region 8 with fail
          have c1' : ∀ w', Nw wr w' → w'.cell? ⟨y.t, 1, none⟩ = some (.slice (some ⟨y.lr, 0, none⟩) N y.lc) := fun w' q => by rw [← HN.out]; exact (T.out.ti.obj.nw q).cell 1
          have c2' : ∀ w', Nw wr w' → w'.cell? ⟨y.t, 2, none⟩ = some (.slice (some ⟨y.nr, 0, none⟩) N y.nc) := fun w' q => by rw [← HN.out]; exact (T.out.ti.obj.nw q).cell 2
          obtain ⟨sk, hsk⟩ : ∃ sk, secAt (selS S k).L k = sk := ⟨_, rfl⟩
          have HSK := Lib.hid hsk
          have HSL := Lib.hid (show sk.length = 64 from by rw [← hsk]; exact secAt_len T.out.ti.llen (by rw [HN.out]; exact hlt))
          have LD := Lib.hid (show ∀ w', Nw wr w' → ∀ j u, (sk.map bv)[j]? = some u → w'.cell? ⟨y.lr, k * 64 + j, none⟩ = some u from fun w' q j u hu => by
            rw [← HSK.out] at hu; exact ld_sec (T.out.ti.lrow.nw q) (by rw [HN.out]; exact hlt) j u hu)
          clear hsk c1 c3
          refine wp_region_U [13] (fun w' => Nw wr w') (by kernel_rfl) ?_
          change wpU _ _ _ _ _ _ _ _ _ (World.drew wr)
          refine U_segL (r := [0, 1, 2, 3, 4, 5, 6, 7, 8, 9, 10, 11, 12]) (fuel := 1) rfl (by kernel_rfl) (by kernel_rfl) (by simp only [List.filterMap_cons, List.filterMap_nil, List.getElem?_toArray, List.getElem?_cons_succ, List.getElem?_cons_zero]; rfl) (fun _ _ d _ _ h => by cases d <;> exact h) (gb_drew (Nw.refl wr)) ?_
          iterate 11 (refine wpYield_step rfl (fun K hK => ?_)
                      apply Exists.intro
                      refine ⟨fun w' hw' => ?_, ?_⟩
                      · (go_simp; try with_reducible rfl)
                      go_simp
                      refine hK _ ?_
                      clear hK K)
          refine wpYield_load_agg 33 _ rfl rfl rfl (sk.map bv) (fun w' hw' j u hu => LD.out w' hw' j u hu) _ Try.underlying33 rfl (i33' HSL.out) ?_
          (refine wpYield_step rfl (fun K hK => ?_)
           apply Exists.intro
           refine ⟨fun w' hw' => ?_, ?_⟩
           · (go_simp; try with_reducible rfl)
           go_simp
           refine hK _ ?_
           clear hK K)
          refine wpYield_nil ?_
          refine U_eff 13 rfl (by kernel_rfl) rfl (fun K hK => ?_)
          refine wp_store_own (size := 64) (cs := sk.map bv) (off := k * 64) 33 _ _ rfl rfl (v := .agg (sk.map bv).toArray) rfl rfl (i33' HSL.out) (sec_one _) (T.out.ti.nrow.drew) (by rw [List.length_map, HSL.out, HN.out]; omega) (fun w5 s5 g5 => ?_)
          refine hK _ _ ⟨until_past (by kernel_rfl), ?_⟩
          clear hK K c1' c2'
          refine U_done (by kernel_rfl) ?_ _
          rw [spl_set, ← HSK.out] at s5
          have FIN := Lib.hid (o_store HT.out (by rw [HN.out]; exact hlt) T.out C.out (.inr rfl) g5 (.inr ⟨rfl, HB.out, s5⟩))
          clear s5 g5
          go_wp2
          exact ⟨⟨k + 1, rfl, FIN.out⟩, by simp [intOf]; omega⟩
        · go_upto_region 7 with fail
          have c1' : ∀ w', Nw wr w' → w'.cell? ⟨y.t, 1, none⟩ = some (.slice (some ⟨y.lr, 0, none⟩) N y.lc) := fun w' q => by rw [← HN.out]; exact (T.out.ti.obj.nw q).cell 1
          have c2' : ∀ w', Nw wr w' → w'.cell? ⟨y.t, 2, none⟩ = some (.slice (some ⟨y.nr, 0, none⟩) N y.nc) := fun w' q => by rw [← HN.out]; exact (T.out.ti.obj.nw q).cell 2
          obtain ⟨sk, hsk⟩ : ∃ sk, secAt (selS S k).N k = sk := ⟨_, rfl⟩
          have HSK := Lib.hid hsk
          have HSL := Lib.hid (show sk.length = 64 from by rw [← hsk]; exact secAt_len T.out.ti.nlen (by rw [HN.out]; exact hlt))
          have LD := Lib.hid (show ∀ w', Nw wr w' → ∀ j u, (sk.map bv)[j]? = some u → w'.cell? ⟨y.nr, k * 64 + j, none⟩ = some u from fun w' q j u hu => by
            rw [← HSK.out] at hu; exact ld_sec (T.out.ti.nrow.nw q) (by rw [HN.out]; exact hlt) j u hu)
          clear hsk c1 c3
          refine wp_region_U [13] (fun w' => Nw wr w') (by kernel_rfl) ?_
          change wpU _ _ _ _ _ _ _ _ _ (World.drew wr)
          refine U_segL (r := [0, 1, 2, 3, 4, 5, 6, 7, 8, 9, 10, 11, 12]) (fuel := 1) rfl (by kernel_rfl) (by kernel_rfl) (by simp only [List.filterMap_cons, List.filterMap_nil, List.getElem?_toArray, List.getElem?_cons_succ, List.getElem?_cons_zero]; rfl) (fun _ _ d _ _ h => by cases d <;> exact h) (gb_drew (Nw.refl wr)) ?_
          iterate 11 (refine wpYield_step rfl (fun K hK => ?_)
                      apply Exists.intro
                      refine ⟨fun w' hw' => ?_, ?_⟩
                      · (go_simp; try with_reducible rfl)
                      go_simp
                      refine hK _ ?_
                      clear hK K)
          refine wpYield_load_agg 33 _ rfl rfl rfl (sk.map bv) (fun w' hw' j u hu => LD.out w' hw' j u hu) _ Try.underlying33 rfl (i33' HSL.out) ?_
          (refine wpYield_step rfl (fun K hK => ?_)
           apply Exists.intro
           refine ⟨fun w' hw' => ?_, ?_⟩
           · (go_simp; try with_reducible rfl)
           go_simp
           refine hK _ ?_
           clear hK K)
          refine wpYield_nil ?_
          refine U_eff 13 rfl (by kernel_rfl) rfl (fun K hK => ?_)
          refine wp_store_own (size := 64) (cs := sk.map bv) (off := k * 64) 33 _ _ rfl rfl (v := .agg (sk.map bv).toArray) rfl rfl (i33' HSL.out) (sec_one _) (T.out.ti.lrow.drew) (by rw [List.length_map, HSL.out, HN.out]; omega) (fun w5 s5 g5 => ?_)
          refine hK _ _ ⟨until_past (by kernel_rfl), ?_⟩
          clear hK K c1' c2'
          refine U_done (by kernel_rfl) ?_ _
          rw [spl_set, ← HSK.out] at s5
          have FIN := Lib.hid (o_store HT.out (by rw [HN.out]; exact hlt) T.out C.out (.inl rfl) g5 (.inl ⟨rfl, HB.out, s5⟩))
          clear s5 g5
          go_wp2
          exact ⟨⟨k + 1, rfl, FIN.out⟩, by simp [intOf]; omega⟩
      · have e1 : decide ((k : Int) < (k : Int)) = false := decide_eq_false (by omega)
        have f3 := T.out.ti.obj.frozen 3
        obtain ⟨K1, hK1⟩ : ∃ K1, IntKind.u64.wrap ((kp : Int) * 6364136223846793005) = K1 := ⟨_, rfl⟩
        obtain ⟨K2, hK2⟩ : ∃ K2, IntKind.u64.wrap (K1 + 1442695040888963407) = K2 := ⟨_, rfl⟩
        have HK2 := Lib.hid (show K2 = ((nextK kp : Nat) : Int) from by rw [← hK2, ← hK1]; exact nextI kp (by rw [← HKP.out]; exact HT.out.ti.keep))
        have o5 := T.out.ti.obj.set 3 (.int .u64 K2)
        have k5 : Chg wr (wr.setCell ⟨y.t, 3, none⟩ (.int .u64 K2)) [y.t] := Chg.set wr (by simp) _
        have O5 := Lib.hid o5; have K5 := Lib.hid k5
        clear o5 k5
        go_wp2
        go_ret2
        have hkey : ((nextK kp : Nat) : Int) = K2 := HK2.out.symm
        rw [← hkey] at O5 K5 ⊢
        obtain ⟨_, o1⟩ := T.out.ti.lobj; obtain ⟨_, o2⟩ := T.out.ti.nobj
        refine .inr ⟨HD.out, rfl, ?_, C.out.trans (K5.out.wide (fpT_t y)) (fun _ h => .inl h)⟩
        rw [HN.out, HKP.out]
        refine T.out.tstep' (S' := { selS S k with keep := nextK kp }) K5.out (fun x hx => .inl (by simpa using hx)) ⟨O5.out, T.out.ti.lrow.eqb (K5.out.block _ o1.lt (fun hm => (o1.ne T.out.ti.obj (by decide)) (by simpa using hm))), T.out.ti.nrow.eqb (K5.out.block _ o2.lt (fun hm => (o2.ne T.out.ti.obj (by decide)) (by simpa using hm))), T.out.ti.ne, T.out.ti.odd, T.out.ti.bl, T.out.ti.at', ?_⟩ rfl rfl T.out.lo T.out.no
        exact Nat.mod_lt _ (by decide)
  · go_enter Try.func115, Try.ntmps115
    go_wp2_with ((with_reducible refine HP'.out.mono ?_); rintro e w3 ⟨rfl, h3, k3⟩)
    go_ret2
    exact .inl ⟨HD.out, rfl, h3, k3.wide (fpT_b y)⟩
end
end Go.Proofs.Ytmcgfnfhpcddlaa


/- A stage in memory: a bank, the toy on it, the model, and the stage's own object. -/
namespace Go.Proofs.Ytmcgfnfhpcddlaa
open Go.RowKit Go.BW

structure Fx where
  st : Nat
  t : Nat
  b : Nat
  g : Nat
structure Vr where
  lr : Nat
  lc : Nat
  nr : Nat
  nc : Nat
  A : Option Addr
  c : Nat
  ms : List Mem
  F : List Nat
  lost : Int
  mask : Nat
def Vr.y (v : Vr) (q : Fx) : Ly := ⟨q.t, q.b, v.lr, v.lc, v.nr, v.nc, v.A, v.c, v.ms⟩
def stC (q : Fx) (dv mk : Value) (bl again : Nat) (lost : Int) (mask : Nat) : Array Value := #[pv q.b, dv, pv q.g, mk, .int .i64 (bl : Int), .int .i64 lost, .int .i64 (again : Int), .int .u64 (mask : Int)]
def InS (q : Fx) (v : Vr) (x : Nat) : Prop := x = q.st ∨ x ∈ v.F ∨ x ∈ fpT (v.y q) ∨ x ∈ rowB v.A v.ms.length v.c
structure SIv (w0 : World) (q : Fx) (v : Vr) (K : Nat) (dn : Bool) (p : Par) (S : St) (w : World) : Prop where
  tb : TB w (v.y q) dn p S
  so : Obj1 w q.st 70 (stC q (tIf q.t) (tIf q.t) p.bl S.again v.lost v.mask)
  md : Md.Rep w q.g S.M v.F K
  ml : S.M.length = p.bl
  dis : ∀ x ∈ v.F, x ∉ fpT (v.y q)
  stF : q.st ∉ v.F
  rF : ∀ x ∈ rowB v.A v.ms.length v.c, x ∉ v.F
  base : ∀ x, InS q v x → x = q.t ∨ w0.heap.size ≤ x
  chg : Chg w0 w [q.t]
def SI (w0 : World) (q : Fx) (K : Nat) (dn : Bool) (p : Par) (S : St) (w : World) : Prop := ∃ v, SIv w0 q v K dn p S w
section
variable {w0 w w' : World} {q : Fx} {v : Vr} {K : Nat} {dn dn' : Bool} {p : Par} {S S' : St}
theorem SIv.step {F : List Nat} (h : SIv w0 q v K dn p S w) (k : Chg w w' F) (hF : ∀ x ∈ F, InS q v x) : Chg w0 w' [q.t] :=
  h.chg.trans k (fun x hx => (h.base x (hF x hx)).imp (fun e => by simp [e]) id)
theorem SIv.st_fpT (h : SIv w0 q v K dn p S w) : q.st ∉ fpT (v.y q) := by
  intro hm
  obtain ⟨_, o1⟩ := h.tb.ti.lobj; obtain ⟨_, o2⟩ := h.tb.ti.nobj
  rcases List.mem_cons.1 hm with e | hm
  · exact (h.so.ne h.tb.ti.obj (by decide)) e
  rcases List.mem_cons.1 hm with e | hm
  · exact (h.so.ne o1 (by decide)) e
  rcases List.mem_cons.1 hm with e | hm
  · exact (h.so.ne o2 (by decide)) e
  · exact h.tb.bk.not h.so (by decide) (by decide) (by decide) (by decide) hm
theorem SIv.lt (h : SIv w0 q v K dn p S w) : ∀ x ∈ fpT (v.y q), x < w.heap.size := fun x hm => by
  rcases List.mem_cons.1 hm with e | hm
  · rw [e]; exact h.tb.ti.lt.1
  rcases List.mem_cons.1 hm with e | hm
  · rw [e]; exact h.tb.ti.lt.2.1
  rcases List.mem_cons.1 hm with e | hm
  · rw [e]; exact h.tb.ti.lt.2.2
  · exact h.tb.bk.lt x hm
theorem SIv.rlt (h : SIv w0 q v K dn p S w) : ∀ x ∈ rowB v.A v.ms.length v.c, x < w.heap.size := fun x hm => by
  obtain ⟨cur, hc⟩ := h.tb.bk.row.rowObj x (rowB_mem.1 hm); exact hc.lt
/-- what the toy and the bank do -/
theorem SIv.toy {lr lc : Nat} (h : SIv w0 q v K dn p S w) (k : Chg w w' (fpT (v.y q))) (t' : TB w' ((v.y q).l lr lc) dn' p S') (hlr : lr = v.lr ∨ w.heap.size ≤ lr) (hM : S'.M = S.M) (ha : S'.again = S.again) :
    SIv w0 q { v with lr := lr, lc := lc } K dn' p S' w' := by
  have hst := h.st_fpT
  have hsub : ∀ x ∈ fpT (({ v with lr := lr, lc := lc } : Vr).y q), x ∈ fpT (v.y q) ∨ w.heap.size ≤ x := by
    intro x hx
    rcases List.mem_cons.1 hx with e | hx
    · exact .inl (by rw [e]; exact List.mem_cons_self ..)
    rcases List.mem_cons.1 hx with e | hx
    · have e : x = lr := e
      rcases hlr with h1 | h1
      · left; rw [e, h1]; exact List.mem_cons_of_mem _ (List.mem_cons_self ..)
      · right; omega
    · exact .inl (List.mem_cons_of_mem _ (List.mem_cons_of_mem _ hx))
  refine ⟨t', ?_, ?_, hM ▸ h.ml, ?_, h.stF, h.rF, ?_, h.step k (fun x hx => .inr (.inr (.inl hx)))⟩
  · rw [ha]; exact h.so.chg k hst
  · rw [hM]; exact h.md.chg k h.dis
  · intro x hx hm
    rcases hsub x hm with h1 | h1
    · exact h.dis x hx h1
    · have := h.md.lt x hx; omega
  · intro x hx
    rcases hx with e | e | e | e
    · exact h.base x (.inl e)
    · exact h.base x (.inr (.inl e))
    · rcases hsub x e with h1 | h1
      · exact h.base x (.inr (.inr (.inl h1)))
      · right; have := h.chg.size; omega
    · exact h.base x (.inr (.inr (.inr e)))
theorem SIv.toy0 (h : SIv w0 q v K dn p S w) (k : Chg w w' (fpT (v.y q))) (t' : TB w' (v.y q) dn' p S') (hM : S'.M = S.M) (ha : S'.again = S.again) : SIv w0 q v K dn' p S' w' :=
  h.toy (lr := v.lr) (lc := v.lc) k t' (.inl rfl) hM ha
theorem SIv.bank {ar : Nat} (h : SIv w0 q v K dn p S w) (k : BStep q.b v.A v.c v.ms dn' (ar : Int) w w') : SIv w0 q v K dn' p { S with ar := ar } w' :=
  h.toy0 (k.chg.wide (fpT_b (v.y q))) (h.tb.bstep k) rfl rfl
/-- what the model does -/
theorem SIv.mod {M' : List (List UInt8 × Bool)} {F' : List Nat} {K' : Nat} (h : SIv w0 q v K dn p S w) (k : Chg w w' v.F) (r : Md.Rep w' q.g M' F' K') (hF : ∀ x ∈ F', x ∈ v.F ∨ w.heap.size ≤ x) (hl : M'.length = p.bl) :
    SIv w0 q { v with F := F' } K' dn p { S with M := M' } w' := by
  have hd : ∀ x ∈ fpT (v.y q), x ∉ v.F := fun x hx hm => h.dis x hm hx
  have ti := h.tb.ti.chg k (hd _ (List.mem_cons_self ..)) (hd _ (List.mem_cons_of_mem _ (List.mem_cons_self ..))) (hd _ (List.mem_cons_of_mem _ (List.mem_cons_of_mem _ (List.mem_cons_self ..))))
  refine ⟨⟨⟨ti.obj, ti.lrow, ti.nrow, ti.ne, ti.odd, ti.bl, ti.at', ti.keep⟩, h.tb.bk.far k (fun x hx => hd x (fpT_b _ x hx)) (fun r hr => h.rF r (rowB_mem.2 hr)), h.tb.nd, h.tb.lo, h.tb.no⟩, h.so.chg k h.stF, r, hl, ?_, ?_, ?_, ?_, h.step k (fun x hx => .inr (.inl hx))⟩
  · intro x hx hm
    rcases hF x hx with h1 | h1
    · exact h.dis x h1 hm
    · have := h.lt x hm; omega
  · intro hm
    rcases hF _ hm with h1 | h1
    · exact h.stF h1
    · have := h.so.lt; omega
  · intro x hx hm
    rcases hF x hm with h1 | h1
    · exact h.rF x hx h1
    · have := h.rlt x hx; omega
  · intro x hx
    rcases hx with e | e | e | e
    · exact h.base x (.inl e)
    · rcases hF x e with h1 | h1
      · exact h.base x (.inr (.inl h1))
      · right; have := h.chg.size; omega
    · exact h.base x (.inr (.inr (.inl e)))
    · exact h.base x (.inr (.inr (.inr e)))
theorem SIv.nw (h : SIv w0 q v K dn p S w) (k : Nw w w') : SIv w0 q v K dn p S w' :=
  ⟨h.tb.nw k, h.so.nw k, h.md.nw k, h.ml, h.dis, h.stF, h.rF, h.base, h.chg.trans (Chg.of_nw (F := []) k) (by simp)⟩
theorem SIv.drew (h : SIv w0 q v K dn p S w) : SIv w0 q v K dn p S w.drew := h.nw (gb_drew (Nw.refl w))
/-- the stage's own object -/
theorem SIv.stg {lost : Int} {mask ag : Nat} (h : SIv w0 q v K dn p S w) (k : Chg w w' [q.st]) (so : Obj1 w' q.st 70 (stC q (tIf q.t) (tIf q.t) p.bl ag lost mask)) :
    SIv w0 q { v with lost := lost, mask := mask } K dn p { S with again := ag } w' := by
  have hst := h.st_fpT
  have hd : ∀ x ∈ fpT (v.y q), x ∉ [q.st] := fun x hx hm => hst (by rw [List.mem_singleton] at hm; rwa [← hm])
  have ti := h.tb.ti.chg k (hd _ (List.mem_cons_self ..)) (hd _ (List.mem_cons_of_mem _ (List.mem_cons_self ..))) (hd _ (List.mem_cons_of_mem _ (List.mem_cons_of_mem _ (List.mem_cons_self ..))))
  refine ⟨⟨⟨ti.obj, ti.lrow, ti.nrow, ti.ne, ti.odd, ti.bl, ti.at', ti.keep⟩, h.tb.bk.far k (fun x hx => hd x (fpT_b _ x hx)) (fun r hr hm => ?_), h.tb.nd, h.tb.lo, h.tb.no⟩, so, h.md.chg k (fun x hx hm => h.stF (by rw [List.mem_singleton] at hm; rwa [← hm])), h.ml, h.dis, h.stF, h.rF, h.base, h.step k (fun x hx => .inl (by simpa using hx))⟩
  obtain ⟨cur, hc⟩ := h.tb.bk.row.rowObj r hr
  rw [List.mem_singleton] at hm
  exact (hc.ne h.so (by decide)) hm
theorem SIv.same (h : SIv w0 q v K dn p S w) (ha : S'.ar = S.ar) (hn : S'.nd = S.nd) (hM : S'.M = S.M) (hL : S'.L = S.L) (hN : S'.N = S.N) (hk : S'.keep = S.keep) (hc : S'.calls = S.calls) (hl : S'.lied = S.lied) (hg : S'.again = S.again) : SIv w0 q v K dn p S' w := by
  have : S' = S := by cases S; cases S'; simp only at *; simp [ha, hn, hM, hL, hN, hk, hc, hl, hg]
  rw [this]; exact h
end
end Go.Proofs.Ytmcgfnfhpcddlaa


/- The stage's reads and looks. -/
namespace Go.Proofs.Ytmcgfnfhpcddlaa
open Go.RowKit Go.BW

theorem mRead (t : Nat) (w : World) : (method 285 28 (.pointer (some ⟨t, 0, none⟩)) "Read").run Try.prog w = .ok (116, .pointer (some ⟨t, 0, none⟩)) w := by kernel_rfl
theorem mWrite (t : Nat) (w : World) : (method 285 28 (.pointer (some ⟨t, 0, none⟩)) "Write").run Try.prog w = .ok (119, .pointer (some ⟨t, 0, none⟩)) w := by kernel_rfl
theorem mFlush (t : Nat) (w : World) : (method 285 28 (.pointer (some ⟨t, 0, none⟩)) "Flush").run Try.prog w = .ok (113, .pointer (some ⟨t, 0, none⟩)) w := by kernel_rfl
theorem mStep (t : Nat) (w : World) : (method 285 28 (.pointer (some ⟨t, 0, none⟩)) "Step").run Try.prog w = .ok (118, .pointer (some ⟨t, 0, none⟩)) w := by kernel_rfl
theorem mAdd (t : Nat) (w : World) : (method 285 28 (.pointer (some ⟨t, 0, none⟩)) "Add").run Try.prog w = .ok (112, .pointer (some ⟨t, 0, none⟩)) w := by kernel_rfl
theorem mStatus (t : Nat) (w : World) : (method 285 28 (.pointer (some ⟨t, 0, none⟩)) "Status").run Try.prog w = .ok (117, .pointer (some ⟨t, 0, none⟩)) w := by kernel_rfl
theorem mNew (t : Nat) (w : World) : (method 285 28 (.pointer (some ⟨t, 0, none⟩)) "New").run Try.prog w = .ok (114, .pointer (some ⟨t, 0, none⟩)) w := by kernel_rfl
theorem mOpen (t : Nat) (w : World) : (method 285 28 (.pointer (some ⟨t, 0, none⟩)) "Open").run Try.prog w = .ok (115, .pointer (some ⟨t, 0, none⟩)) w := by kernel_rfl
section
variable {w0 w w' : World} {q : Fx} {v : Vr} {K : Nat} {dn dn' : Bool} {p : Par} {S S' : St}
theorem down_any (h : SIv w0 q v K dn p S w) (e : Int) : Calls Try.prog 52 #[pv q.st, .int .i64 e] w (Still (.bool (decide (e = 6) && dn)) w) := by
  have HU := Lib.hid (up_any h.tb.bk)
  have c0 : w.cell? ⟨q.st, 0, none⟩ = some (pv q.b) := h.so.cell 0
  rw [show (v.y q).b = q.b from rfl] at HU
  unfold pv at HU c0 ⊢
  clear h
  by_cases he : e = 6
  · subst he
    go_enter Try.func52, Try.ntmps52
    go_wp2_with ((with_reducible refine HU.out.mono ?_); rintro e w3 ⟨rfl, rfl⟩)
    go_ret
    exact ⟨by simp, rfl⟩
  · have e1 : (e == 6) = false := by simp [he]
    have e2 : decide (e = 6) = false := decide_eq_false he
    go_enter Try.func52, Try.ntmps52
    go_wp2_with fail
    go_ret
    exact ⟨by simp [he], rfl⟩
theorem out_of {w : World} {x : Nat} (h : w.heap.size ≤ x) : ∀ g, some x = some g → w.heap.size ≤ g := fun g e => by injection e with e; omega
theorem cell4 {N : Nat} (h : SIv w0 q v K dn p S w) (hN : p.bl = N) : w.cell? ⟨q.st, 4, none⟩ = some (.int .i64 N) := by rw [← hN]; exact h.so.cell 4
/-- what the toy's Read leaves of a stage -/
def ReadS (w0 : World) (q : Fx) (v : Vr) (K : Nat) (p : Par) (S : St) (s : List UInt8) (e1 : Int) (e : Ending) (w' : World) : Prop :=
  e = .returned (.tuple #[.agg (s.map bv).toArray, .int .i64 e1]) ∧ SIv w0 q v K false p (lieS p S) w' ∧ w'.cell? ⟨q.st, 2, none⟩ = some (pv q.g) ∧ w'.cell? ⟨q.st, 4, none⟩ = some (.int .i64 p.bl)
theorem readS_any (h : SIv w0 q v K false p S w) (hc : S.calls ≤ 1000000) (k : Nat) : Calls Try.prog 116 #[pv q.t, .int .i64 k] w (ReadS w0 q v K p S (ReadV p S k).1 (ReadV p S k).2) :=
  (read_any h.tb.ti hc k).mono fun e w' he => by
    have hs := h.toy0 (he.2.2.wide (fpT_t (v.y q))) (h.tb.lies he.2.2 he.2.1) rfl rfl
    exact ⟨he.1, hs, hs.so.cell 2, hs.so.cell 4⟩
theorem readV_len (h : SIv w0 q v K dn p S w) (k : Nat) : (ReadV p S k).1.length = 64 := by
  unfold ReadV
  split
  · rfl
  · split
    · exact h.tb.ti.odd
    · exact secAt_len h.tb.ti.nlen (by omega)
set_option maxHeartbeats 2000000 in
set_option maxRecDepth 100000 in
theorem reads_any (h : SIv w0 q v K false p S w) (hc : S.calls ≤ 1000000) (hK : K ≤ 1000) (k : Nat) : Calls Try.prog 50 #[pv q.st, .int .i64 k] w (fun e w' => e = .returned (.bool (readP p S k).1) ∧ SI w0 q K false p (readP p S k).2 w') := by
  have c1 : w.cell? ⟨q.st, 1, none⟩ = some (tIf q.t) := h.so.cell 1
  have m1 := mRead q.t w
  obtain ⟨i0, hi0, hz0⟩ := info33
  have H0 := Lib.hid hi0
  obtain ⟨zb, hzb⟩ : ∃ zb, z64 = zb := ⟨_, rfl⟩
  rw [hzb] at hz0
  have HZ := Lib.hid hz0
  have hzs : (Value.agg (zb.map bv).toArray).cells.size = 64 := by rw [← hzb]; kernel_rfl
  have HZS := Lib.hid hzs
  have HSZ := Lib.hid (show (Value.agg (zb.map bv).toArray).cells.toList.toArray.size = 64 from by rw [List.size_toArray, Array.length_toList, hzs])
  clear hi0 hz0 hzb hzs
  have HR := readS_any h hc k
  have HLN := Lib.hid (readV_len h k)
  obtain ⟨s, hs⟩ : ∃ s, (ReadV p S k).1 = s := ⟨_, rfl⟩
  obtain ⟨e1, he1⟩ : ∃ e1, (ReadV p S k).2 = e1 := ⟨_, rfl⟩
  obtain ⟨N, hN⟩ : ∃ N, p.bl = N := ⟨_, rfl⟩
  rw [hs, he1] at HR
  rw [hs] at HLN
  unfold ReadS at HR
  rw [hN] at HR
  have HSV := Lib.hid hs; have HEV := Lib.hid he1; have HN := Lib.hid hN
  have HML := Lib.hid h.ml
  have HS64 := Lib.hid (show 64 = (s.map bv).length from by rw [List.length_map, HLN.out])
  unfold tIf pv at c1
  unfold pv at HR ⊢
  have HR' := Lib.hid HR
  have HKK := Lib.hid hK
  clear h HR hs he1 hN hK
  rcases (show N ≤ k ∨ k < N by omega) with hk | hk
  · have d1 : decide ((N : Int) ≤ (k : Int)) = true := decide_eq_true (by omega)
    have hle : p.bl ≤ k := by rw [HN.out]; exact hk
    have hr : readP p S k = (!lieB p S, lieS p S) := by unfold readP; rw [if_pos hle]
    have hv : e1 = if lieB p S then 0 else 3 := by rw [← HEV.out]; unfold ReadV; rw [if_pos hle]
    obtain ⟨qq, hqq⟩ : ∃ qq, lieB p S = qq := ⟨_, rfl⟩
    rw [hqq] at hv hr
    have HRP := Lib.hid hr
    clear hr hqq hle
    rcases qq with _ | _
    · simp only [Bool.false_eq_true, if_false] at hv
      subst hv
      go_enter Try.func50, Try.ntmps50
      go_wp2_with (first
        | (refine wpList_store_obj 33 _ _ rfl rfl (s.map bv) rfl rfl rfl (i33' HLN.out) (sec_one _) OX.out (HCS.out.trans HS64.out) ?_; intro w9 s9 g9; have N9 := Lib.hid (nw_of_gb N3.out g9 (out_of HX.out)); have H9 := Lib.hid (H2.out.nw N9.out); have S9 := Lib.hid s9; have d2 : w9.cell? ⟨q.st, 2, none⟩ = some (pv q.g) := H9.out.so.cell 2; have d4 := cell4 H9.out HN.out; unfold pv at d2; clear s9 g9)
        | (refine wpList_alloc (size := 64) 33 rfl rfl 0 i0 H0.out HZ.out HZS.out (Nat.zero_le _) ?_; intro x w3 ox n3 hx; obtain ⟨cs0, hcs0, ox0⟩ : ∃ cs : Array Value, cs.size = 64 ∧ Obj1 w3 x 33 cs := ⟨_, HSZ.out, ox.row1'⟩; have OX := Lib.hid ox0; have HCS := Lib.hid hcs0; have HX := Lib.hid hx; clear hcs0 ox0; have N3 := Lib.hid n3; clear ox n3 hx)
        | (go_at_call 116; (with_reducible refine HR'.out.mono ?_); rintro e w2 ⟨rfl, h2, c2, c4⟩; have H2 := Lib.hid h2; clear h2 c2 c4))
      go_ret
      exact ⟨by rw [HRP.out]; rfl, _, by rw [HRP.out]; exact H9.out⟩
    · simp only [if_true] at hv
      subst hv
      go_enter Try.func50, Try.ntmps50
      go_wp2_with (first
        | (refine wpList_store_obj 33 _ _ rfl rfl (s.map bv) rfl rfl rfl (i33' HLN.out) (sec_one _) OX.out (HCS.out.trans HS64.out) ?_; intro w9 s9 g9; have N9 := Lib.hid (nw_of_gb N3.out g9 (out_of HX.out)); have H9 := Lib.hid (H2.out.nw N9.out); have S9 := Lib.hid s9; have d2 : w9.cell? ⟨q.st, 2, none⟩ = some (pv q.g) := H9.out.so.cell 2; have d4 := cell4 H9.out HN.out; unfold pv at d2; clear s9 g9)
        | (refine wpList_alloc (size := 64) 33 rfl rfl 0 i0 H0.out HZ.out HZS.out (Nat.zero_le _) ?_; intro x w3 ox n3 hx; obtain ⟨cs0, hcs0, ox0⟩ : ∃ cs : Array Value, cs.size = 64 ∧ Obj1 w3 x 33 cs := ⟨_, HSZ.out, ox.row1'⟩; have OX := Lib.hid ox0; have HCS := Lib.hid hcs0; have HX := Lib.hid hx; clear hcs0 ox0; have N3 := Lib.hid n3; clear ox n3 hx)
        | (go_at_call 116; (with_reducible refine HR'.out.mono ?_); rintro e w2 ⟨rfl, h2, c2, c4⟩; have H2 := Lib.hid h2; clear h2 c2 c4))
      go_ret
      exact ⟨by rw [HRP.out]; rfl, _, by rw [HRP.out]; exact H9.out⟩
  · have d1 : decide ((N : Int) ≤ (k : Int)) = false := decide_eq_false (by omega)
    have hle : ¬ p.bl ≤ k := by rw [HN.out]; exact Nat.not_le.2 hk
    have hv : e1 = 0 := by rw [← HEV.out]; unfold ReadV; rw [if_neg hle]
    have hsv : s = if lieB p S then p.odd else Md.secAt S.N k := by rw [← HSV.out]; unfold ReadV; rw [if_neg hle]
    have hr : readP p S k = (Md.mayOf (S.M.getD k ([], false)) s, { lieS p S with M := S.M.set k (Md.settleB (S.M.getD k ([], false)) s) }) := by unfold readP; rw [if_neg hle, ← hsv]
    obtain ⟨bb, hbb⟩ : ∃ bb, S.M.getD k ([], false) = bb := ⟨_, rfl⟩
    have hkm : k < S.M.length := by rw [HML.out, HN.out]; exact hk
    have HBB := Lib.hid (show S.M[k]? = some bb from by rw [← hbb, List.getD_eq_getElem?_getD, List.getElem?_eq_getElem hkm]; rfl)
    rw [hbb] at hr
    obtain ⟨mm, hmm⟩ : ∃ mm, Md.mayOf bb s = mm := ⟨_, rfl⟩
    have HMM := Lib.hid hmm
    have HRP := Lib.hid hr
    have HNL := Lib.hid hle
    subst hv
    clear hr hbb hsv hle hkm hmm
    go_enter Try.func50, Try.ntmps50
    go_upto_region 4 with (first
        | (refine wpList_store_obj 33 _ _ rfl rfl (s.map bv) rfl rfl rfl (i33' HLN.out) (sec_one _) OX.out (HCS.out.trans HS64.out) ?_; intro w9 s9 g9; have N9 := Lib.hid (nw_of_gb N3.out g9 (out_of HX.out)); have H9 := Lib.hid (H2.out.nw N9.out); have S9 := Lib.hid s9; have d2 : w9.cell? ⟨q.st, 2, none⟩ = some (pv q.g) := H9.out.so.cell 2; have d4 := cell4 H9.out HN.out; unfold pv at d2; clear s9 g9)
        | (refine wpList_alloc (size := 64) 33 rfl rfl 0 i0 H0.out HZ.out HZS.out (Nat.zero_le _) ?_; intro x w3 ox n3 hx; obtain ⟨cs0, hcs0, ox0⟩ : ∃ cs : Array Value, cs.size = 64 ∧ Obj1 w3 x 33 cs := ⟨_, HSZ.out, ox.row1'⟩; have OX := Lib.hid ox0; have HCS := Lib.hid hcs0; have HX := Lib.hid hx; clear hcs0 ox0; have N3 := Lib.hid n3; clear ox n3 hx)
        | (go_at_call 116; (with_reducible refine HR'.out.mono ?_); rintro e w2 ⟨rfl, h2, c2, c4⟩; have H2 := Lib.hid h2; clear h2 c2 c4))
    have f2 : ∀ w', Nw w9 w' → w'.cell? ⟨q.st, 2, none⟩ = some (.pointer (some ⟨q.g, 0, none⟩)) := fun w' k => (H9.out.so.nw k).cell 2
    have LD := Lib.hid (show ∀ w', Nw w9 w' → ∀ j u, (s.map bv)[j]? = some u → w'.cell? ⟨x, 0 + j, none⟩ = some u from fun w' k j u hu => by rw [Nat.zero_add, (S9.out.nw k).cell j]; simpa using hu)
    have HSE := Md.settle_in H9.out.drew.md HKK.out k bb HBB.out s HLN.out
    unfold Md.pv Md.sv at HSE
    have HSE' := Lib.hid HSE
    clear HSE d2 d4
    refine wp_region_U [9] (fun w' => Nw w9 w') (by kernel_rfl) ?_
    change wpU _ _ _ _ _ _ _ _ _ (World.drew w9)
    refine U_segP (r := [0, 1, 2, 3, 4, 5, 7]) (fuel := 5) rfl (by kernel_rfl) (by kernel_rfl) (by simp only [List.filterMap_cons, List.filterMap_nil, List.getElem?_toArray, List.getElem?_cons_succ, List.getElem?_cons_zero]; rfl) (fun _ _ d _ _ h => by cases d <;> exact h) (until_of (gb_drew (Nw.refl w9))) ?_
    iterate 7 (refine wpYield_step rfl (fun K hK => ?_)
               apply Exists.intro
               refine ⟨fun w' hw' => ?_, ?_⟩
               · (go_simp; try with_reducible rfl)
               go_simp
               refine hK _ ?_
               clear hK K)
    refine wpYield_nil ?_
    refine U_segL (r := [6, 8]) (fuel := 3) rfl (by kernel_rfl) (by kernel_rfl) (by simp only [List.filterMap_cons, List.filterMap_nil, List.getElem?_toArray, List.getElem?_cons_succ, List.getElem?_cons_zero]; rfl) (fun _ _ d _ _ h => by cases d <;> exact h) (gb_drew (Nw.refl w9)) ?_
    (refine wpYield_step rfl (fun K hK => ?_)
     apply Exists.intro
     refine ⟨fun w' hw' => ?_, ?_⟩
     · (go_simp; try with_reducible rfl)
     go_simp
     refine hK _ ?_
     clear hK K)
    refine wpYield_load_agg 33 _ rfl rfl rfl (s.map bv) (fun w' hw' j u hu => LD.out w' hw' j u hu) _ Try.underlying33 rfl (i33' HLN.out) ?_
    refine wpYield_nil ?_
    refine U_eff 9 rfl (by kernel_rfl) rfl (fun K hK => ?_)
    go_simp
    refine HSE'.out.mono ?_
    rintro e w5 ⟨rfl, F', r5, k5, f5⟩
    refine hK _ _ ⟨until_past (by kernel_rfl), ?_⟩
    clear hK K f2
    have H5 := Lib.hid (H9.out.drew.mod k5 r5 f5 (by rw [List.length_set]; exact HML.out))
    clear k5 r5 f5
    refine U_segP (r := [10, 11]) (fuel := 0) rfl (by kernel_rfl) (by kernel_rfl) (by simp only [List.filterMap_cons, List.filterMap_nil, List.getElem?_toArray, List.getElem?_cons_succ, List.getElem?_cons_zero]; rfl) (fun _ _ d _ _ h => by cases d <;> exact h) (until_past (by kernel_rfl)) ?_
    iterate 2 (refine wpYield_step rfl (fun K hK => ?_)
               apply Exists.intro
               refine ⟨fun w' hw' => ?_, ?_⟩
               · (go_simp; try with_reducible rfl)
               go_simp
               refine hK _ ?_
               clear hK K)
    refine wpYield_nil ?_
    refine U_done (by kernel_rfl) ?_ _
    go_wp2
    go_ret
    exact ⟨by rw [HRP.out]; rfl, _, by rw [HRP.out]; exact H5.out⟩
theorem readP_calls (S : St) (k : Nat) : (readP p S k).2.calls = S.calls + 1 := by unfold readP; split <;> rfl
theorem lookP_calls (S : St) : ∀ k, (lookP p S k).2.calls ≤ S.calls + k
  | 0 => Nat.le_refl _
  | k + 1 => by
    have := lookP_calls S k
    unfold lookP
    split
    · rw [readP_calls]; omega
    · omega
theorem lookP_down {S : St} {k : Nat} (h : (lookP p S k).1 = false) : ∀ j, k ≤ j → lookP p S j = lookP p S k
  | 0, hj => by have : k = 0 := by omega
                subst this; rfl
  | j + 1, hj => by
    by_cases e : k = j + 1
    · subst e; rfl
    · have := lookP_down h j (by omega)
      rw [lookP, this, if_neg (by rw [h]; decide)]
set_option maxHeartbeats 2000000 in
set_option maxRecDepth 100000 in
theorem looks_any (h : SIv w0 q v K false p S w) (hc : S.calls ≤ 900000) (hK : K ≤ 1000) : Calls Try.prog 31 #[pv q.st] w (fun e w' => e = .returned (.bool (lookP p S p.bl).1) ∧ SI w0 q K false p (lookP p S p.bl).2 w') := by
  have HC := Lib.hid hc; have HKK := Lib.hid hK
  have HS := Lib.hid h
  obtain ⟨N, hN⟩ : ∃ N, p.bl = N := ⟨_, rfl⟩
  have HN := Lib.hid hN
  have HNB := Lib.hid (show N ≤ 96 from by rw [← hN]; exact h.tb.ti.bl.2)
  have c4 : w.cell? ⟨q.st, 4, none⟩ = some (.int .i64 N) := cell4 h hN
  rw [hN]
  unfold pv
  clear h hc hK hN
  go_enter Try.func31, Try.ntmps31
  go_wp2_with fail
  clear c4
  go_loopw [8] (fun i wr => ∃ k : Nat, i = .int .i64 k ∧ k ≤ N ∧ (lookP p S k).1 = true ∧ SI w0 q K false p (lookP p S k).2 wr) (fun i _ => N - (intOf i).toNat)
  case atStart => exact ⟨0, rfl, Nat.zero_le _, rfl, v, HS.out⟩
  case round =>
    obtain ⟨k, rfl, hk, h1, v1, hs⟩ := hrel
    have hNb := HNB.out
    rcases (show k < N ∨ k = N by omega) with hlt | rfl
    · have e1 : decide ((k : Int) < (N : Int)) = true := decide_eq_true (by omega)
      have HR := reads_any hs (by have := lookP_calls (p := p) S k; have := HC.out; omega) HKK.out k
      have hnext : lookP p S (k + 1) = readP p (lookP p S k).2 k := by rw [lookP, if_pos h1]
      rw [← hnext] at HR
      obtain ⟨r, hr⟩ : ∃ r, (lookP p S (k + 1)).1 = r := ⟨_, rfl⟩
      rw [hr] at HR
      have HRR := Lib.hid hr
      unfold pv at HR
      have HR' := Lib.hid HR
      clear HR hs h1 hnext hr
      rcases r with _ | _
      · go_wp2_with ((with_reducible refine HR'.out.mono ?_); rintro e w2 ⟨rfl, h2⟩; have H2 := Lib.hid h2; clear h2)
        go_ret
        have hd := lookP_down HRR.out N (by omega)
        exact ⟨by rw [hd, HRR.out]; rfl, by rw [hd]; exact H2.out⟩
      · go_wp2_with ((with_reducible refine HR'.out.mono ?_); rintro e w2 ⟨rfl, h2⟩; have H2 := Lib.hid h2; clear h2)
        exact ⟨⟨k + 1, rfl, hlt, HRR.out, H2.out⟩, by simp [intOf]; omega⟩
    · have e1 : decide ((k : Int) < (k : Int)) = false := decide_eq_false (by omega)
      have H1 := Lib.hid h1; have HSS := Lib.hid hs
      clear h1 hs
      go_wp2_with fail
      go_ret
      exact ⟨by rw [H1.out]; rfl, v1, HSS.out⟩
end
end Go.Proofs.Ytmcgfnfhpcddlaa

