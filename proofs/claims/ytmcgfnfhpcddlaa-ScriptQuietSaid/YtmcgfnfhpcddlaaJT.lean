/- A stage is set: for scripts that may be, by the toy. -/
import Derived.Test.YtmcgfnfhpcddlaaJS
import Derived.Test.YtmcgfnfhpcddlaaJJ
set_option linter.unusedVariables false
set_option linter.unusedSimpArgs false
/- A stage is set: for scripts that may be, by the toy. -/
namespace Go.Proofs.Ytmcgfnfhpcddlaa
open Go.RowKit Go.BW

/-- a stage that is being set: k disks are there -/
structure SetR (w : World) (q : Fx) (mk : Value) (p : Par) (K k : Nat) (F : List Nat) (wr : World) : Prop where
  le : k ≤ K
  nw : Nw w wr
  so : Obj1 wr q.st 70 #[pv q.b, .nilIface, pv q.g, mk, .int .i64 (p.bl : Int), .int .i64 (-1), .int .i64 0, .int .u64 0]
  md : Md.Rep wr q.g (List.replicate p.bl (Md.z64b, false)) F 1
  fn : ∀ x ∈ F, w.heap.size ≤ x
  sn : w.heap.size ≤ q.st
  sF : q.st ∉ F
  bk : ∃ A c ms, ms.length = k ∧ BankI wr q.b false 0 A c ms ∧ (∀ x, x ∈ fpB q.b ms ∨ x ∈ rowB A k c → w.heap.size ≤ x ∧ x ∉ F)
theorem SetR.add {w wr w' : World} {q : Fx} {mk : Value} {p : Par} {K k n : Nat} {F : List Nat} {e : Ending} {A : Option Addr} {c : Nat} {ms : List Mem} (h : SetR w q mk p K k F wr) (hk : k < K) (hl : ms.length = k) (hb : BankI wr q.b false 0 A c ms)
    (hf : ∀ x, x ∈ fpB q.b ms ∨ x ∈ rowB A k c → w.heap.size ≤ x ∧ x ∉ F) (a : AddPost q.b 0 A c ms n wr e w') : (∃ v, e = .returned v) ∧ SetR w q mk p K (k + 1) F w' := by
  obtain ⟨rfl, A', c', m, hm, hb', hnew, hc, hr⟩ := a
  rw [hl] at hc hr
  have hs := h.nw.size
  have hin : ∀ x ∈ q.b :: rowB A k c, w.heap.size ≤ x ∧ x ∉ F := by
    intro x hx
    rcases List.mem_cons.1 hx with e | e
    · subst e; exact hf _ (.inl (fpB_b _ _))
    · exact hf _ (.inr e)
  have hlt := h.md.lt
  refine ⟨⟨_, rfl⟩, hk, nw_chg h.nw hc (fun x hx => (hin x hx).1), ?_, h.md.chg hc (fun x hx hm => (hin x hm).2 hx), h.fn, h.sn, h.sF, A', c', ms ++ [m], by rw [List.length_append, hl]; rfl, hb', ?_⟩
  · refine h.so.chg hc (fun hm => ?_)
    rcases List.mem_cons.1 hm with e | e
    · obtain ⟨_, _, _, ob⟩ := hb.obj; exact (h.so.ne ob (by decide)) e
    · obtain ⟨cur, hq⟩ := hb.row.rowObj _ (by have := rowB_mem.1 e; rw [hl]; exact this); exact (hq.ne h.so (by decide)) rfl
  · have newok : ∀ x, wr.heap.size ≤ x → w.heap.size ≤ x ∧ x ∉ F := fun x hx => ⟨by omega, fun hm => by have := hlt x hm; omega⟩
    intro x hx
    rcases hx with hx | hx
    · rcases fpB_out hx with e | ⟨m', hm', e⟩
      · subst e; exact hf _ (.inl (fpB_b _ _))
      · rcases List.mem_append.1 hm' with h1 | h1
        · refine hf x (.inl (fpB_m h1 x ?_))
          simp; exact e
        · rw [List.mem_singleton] at h1; subst h1
          refine newok x (hnew x ?_)
          simp; exact e
    · rcases hr x hx with h1 | h1
      · exact hf x (.inr h1)
      · exact newok x h1
/-- the toy's New ends it -/
theorem SetR.fin {w wr w1 w2 : World} {q : Fx} {p : Par} {K keep : Nat} {F : List Nat} {e : Ending} {cs : Array Value} (h : SetR w q (tIf q.t) p K K F wr) (n1 : Nw wr w1) (ht : Obj1 w q.t 35 cs) (a : TNewPost q.t q.b keep p K w1 e w2) (hp : p.odd.length = 64) :
    e = .returned (.tuple #[tIf q.t, .int .i64 0]) ∧ Obj1 w2 q.st 70 #[pv q.b, .nilIface, pv q.g, tIf q.t, .int .i64 (p.bl : Int), .int .i64 (-1), .int .i64 0, .int .u64 0] ∧
      ∀ w3, w2.grownBy w3 (some q.st) → Obj1 w3 q.st 70 (stC q (tIf q.t) (tIf q.t) p.bl 0 (-1) 0) → SI w q 1 false p (newS p K keep) w3 := by
  obtain ⟨rfl, lr, nr, ti, hl, hn, hc⟩ := a
  have htlt := ht.lt
  have hs := h.nw.size
  have hs1 := n1.size
  have ot1 : Obj1 w1 q.t 35 cs := (ht.nw h.nw).nw n1
  have so1 := h.so.nw n1
  have stn : q.st ≠ q.t := so1.ne ot1 (by decide)
  have so2 := so1.chg hc (by simpa using stn)
  refine ⟨rfl, so2, fun w3 g3 so3 => ?_⟩
  obtain ⟨A, c, ms, hml, hb, hf⟩ := h.bk
  have hlt := h.md.lt
  have htF : q.t ∉ F := fun hm => by have := h.fn _ hm; omega
  have hb2 : BankI w2 q.b false 0 A c ms := (hb.nw n1).far hc (fun x hx hm => by
      rw [List.mem_singleton] at hm; have := (hf x (.inl hx)).1; omega) (fun r hr hm => by
      rw [List.mem_singleton] at hm; have := (hf r (.inr (rowB_mem.2 (by rw [← hml]; exact hr)))).1; omega)
  have hmd2 := (h.md.nw n1).chg hc (fun x hx hm => htF (by rw [List.mem_singleton] at hm; rwa [← hm]))
  have c3 : Chg w2 w3 [q.st] := Chg.of_gb g3 (by intro x e; injection e with e; simp [e])
  have hblt := hb.lt
  have hstb : q.st ∉ fpB q.b ms := hb.not h.so (by decide) (by decide) (by decide) (by decide)
  obtain ⟨_, ol⟩ := ti.lobj; obtain ⟨_, on⟩ := ti.nobj
  have ti3 := ti.chg c3 (by simpa using so2.ne ti.obj (by decide) |> fun h => fun e => h e.symm) (by simpa using so2.ne ol (by decide) |> fun h => fun e => h e.symm) (by simpa using so2.ne on (by decide) |> fun h => fun e => h e.symm)
  have hb3 : BankI w3 q.b false 0 A c ms := hb2.far c3 (fun x hx hm => hstb (by rw [List.mem_singleton] at hm; rwa [← hm])) (fun r hr hm => by
      obtain ⟨cur, hq⟩ := hb2.row.rowObj r hr; rw [List.mem_singleton] at hm; exact (hq.ne so2 (by decide)) hm)
  have cw : Chg w w3 [q.t] := (((Chg.of_nw (F := [q.t]) h.nw).trans (Chg.of_nw n1) (fun _ h => .inl h)).trans hc (fun _ h => .inl h)).trans c3 (fun x hx => .inr (by rw [List.mem_singleton] at hx; subst hx; exact h.sn))
  refine ⟨⟨lr, p.bl, nr, p.bl, A, c, ms, F, -1, 0⟩, ⟨ti3, hb3, hml, fun hm => by have hx : lr < wr.heap.size := hblt _ hm; omega, fun hm => by have hx : nr < wr.heap.size := hblt _ hm; omega⟩, so3, hmd2.chg c3 (fun x hx hm => h.sF (by rw [List.mem_singleton] at hm; rwa [← hm])), by simp [newS], ?_, h.sF, fun x hx => (hf x (.inr (by rw [← hml]; exact hx))).2, ?_, cw⟩
  · intro x hx hm
    rcases List.mem_cons.1 hm with e | hm
    · exact htF (by rw [← (show x = q.t from e)]; exact hx)
    rcases List.mem_cons.1 hm with e | hm
    · have e : x = lr := e; have := hlt x hx; omega
    rcases List.mem_cons.1 hm with e | hm
    · have e : x = nr := e; have := hlt x hx; omega
    · exact (hf x (.inl hm)).2 hx
  · intro x hx
    rcases hx with e | e | e | e
    · right; have := h.sn; omega
    · right; exact h.fn x e
    · rcases List.mem_cons.1 e with e | hm
      · exact .inl e
      rcases List.mem_cons.1 hm with e | hm
      · have e : x = lr := e; right; omega
      rcases List.mem_cons.1 hm with e | hm
      · have e : x = nr := e; right; omega
      · exact .inr (hf x (.inl hm)).1
    · exact .inr (hf x (.inr (by rw [← hml]; exact e))).1
end Go.Proofs.Ytmcgfnfhpcddlaa


/- A stage is not set by nobody; for scripts that may be. -/
namespace Go.Proofs.Ytmcgfnfhpcddlaa
open Go.RowKit Go.BW

theorem bNew (er : Int) : ∀ w : World, (nilAhead 285 41 (.agg #[.int .i64 er]) "New").run Try.prog w = .ok (some false) w := fun w => by kernel_rfl
theorem nNew (er : Int) (w : World) : (method 285 41 (.agg #[.int .i64 er]) "New").run Try.prog w = .ok (130, .agg #[.int .i64 er]) w := by kernel_rfl
theorem nnew_any (er : Int) (b : Value) (num bl : Int) (w : World) : Calls Try.prog 130 #[.agg #[.int .i64 er], b, .int .i64 num, .int .i64 bl] w (Ret (.tuple #[.nilIface, .int .i64 er]) w) := by
  go_enter Try.func130, Try.ntmps130
  go_wp2_with fail
  obtain ⟨w1, hw1⟩ : ∃ w1, w1 = w.alloc (.cells #[.int .i64 er] 41) := ⟨_, rfl⟩
  rw [← hw1]
  have n1 : Nw w w1 := by rw [hw1]; exact World.grownBy_alloc w _ none
  have o1 : Obj1 w1 w.heap.size 41 #[.int .i64 er] := by rw [hw1]; exact Obj1.new w _ _
  have c0 : ∀ w', Nw w1 w' → w'.cell? ⟨w.heap.size, 0, none⟩ = some (.int .i64 er) := fun w' k => (o1.nw k).cell 0
  have N1 := Lib.hid n1
  clear hw1 n1 o1
  refine wp_region_held (S := (fun w' => Nw w1 w')) (by kernel_rfl) ?_
  change wpAnyH _ _ _ _ _ _ _ _ (World.drew w1)
  refine held_seg' (l := [0, 1, 2, 3]) (fuel := 0) rfl (by kernel_rfl) (by kernel_rfl) (by simp only [List.filterMap_cons, List.filterMap_nil, List.getElem?_toArray, List.getElem?_cons_succ, List.getElem?_cons_zero]; rfl) (fun _ _ d _ _ h => by cases d <;> exact h) (gb_drew (Nw.refl w1)) ?_
  iterate 4 (refine wpYield_step rfl (fun K hK => ?_)
             apply Exists.intro
             refine ⟨fun w' hw' => ?_, ?_⟩
             · (go_simp; try with_reducible rfl)
             go_simp
             refine hK _ ?_
             clear hK K)
  refine wpYield_nil ?_
  refine wpAnyH_done (by kernel_rfl) ?_ _
  go_wp2
  go_ret2
  exact ⟨rfl, gb_drew N1.out⟩
set_option maxHeartbeats 4000000 in
set_option maxRecDepth 100000 in
theorem nset_any {w : World} {B : Nat} {x : Sc} (h : SOk w B x) (hB : B ≤ w.heap.size) (hr : rightS (scr x) = true) (er : Int) :
    Calls Try.prog 26 #[sv x, .iface 41 (.agg #[.int .i64 er])] w (Ret (.pointer none) w) := by
  obtain ⟨p, hbl⟩ : ∃ p : Par, x.bl = (p.bl : Int) := ⟨⟨x.bl.toNat, 0, []⟩, by have := (rightS_parts hr).2.2.1; show x.bl = ((x.bl.toNat : Nat) : Int); have h1 : 1 ≤ x.bl := this.1; omega⟩
  obtain ⟨num, A, n, c, sz, bl, D, m, d, acts⟩ := x
  obtain ⟨hp1, hp2, hp3, hp4, hp5, hp6⟩ := rightS_parts hr
  have hzl : sz.length = n := h.zl
  have HSZ := Lib.hid (show ∀ z ∈ sz, 160 ≤ z ∧ z ≤ 4096 from hp5)
  have hn12 : n ≤ 12 := by have : sz.length ≤ 12 := hp2.2; omega
  have HS := Lib.hid h; have HBB := Lib.hid hB
  have HBL := Lib.hid hbl
  have hbl : bl = (p.bl : Int) := hbl
  have hpb : 1 ≤ p.bl ∧ p.bl ≤ 96 := by have : 1 ≤ bl ∧ bl ≤ 96 := hp3; omega
  have HPB := Lib.hid hpb
  have hnum : Md.numN bl = p.bl := by unfold Md.numN; omega
  have HNUM := Lib.hid hnum
  have HZL := Lib.hid hzl
  have HN12 := Lib.hid hn12
  obtain ⟨W0, hW0⟩ : ∃ W0, w.alloc (.cells #[.int .i64 num, .slice A n c, .int .i64 bl, .slice D m d] 25) = W0 := ⟨_, rfl⟩
  obtain ⟨X, hX⟩ : ∃ X, w.heap.size = X := ⟨_, rfl⟩
  have n0 : Nw w W0 := by rw [← hW0]; exact World.grownBy_alloc w _ none
  have N0 := Lib.hid n0
  have OX := Lib.hid (show Obj1 W0 X 25 #[.int .i64 num, .slice A n c, .int .i64 bl, .slice D m d] from by rw [← hW0, ← hX]; exact Obj1.new w _ _)
  have HX := Lib.hid hX
  unfold sv
  show Calls _ _ #[.agg #[.int .i64 num, .slice A n c, .int .i64 bl, .slice D m d], .iface 41 (.agg #[.int .i64 er])] _ _
  clear h hr hB hp1 hp2 hp3 hp4 hp5 hp6 hzl hpb hnum n0 hbl hn12
  go_enter Try.func26, Try.ntmps26
  go_upto_region 1 with fail
  clear hW0 hX
  have c0 : ∀ w', Nw W0 w' → w'.cell? ⟨X, 0, none⟩ = some (.int .i64 num) := fun w' k => (OX.out.nw k).cell 0
  have c1 : ∀ w', Nw W0 w' → w'.cell? ⟨X, 1, none⟩ = some (.slice A n c) := fun w' k => (OX.out.nw k).cell 1
  have c2 : ∀ w', Nw W0 w' → w'.cell? ⟨X, 2, none⟩ = some (.int .i64 bl) := fun w' k => (OX.out.nw k).cell 2
  refine wp_region_U [3, 7, 8] (fun w' => Nw W0 w') (by kernel_rfl) ?_
  change wpU _ _ _ _ _ _ _ _ _ (World.drew W0)
  refine U_segP (r := [1, 4, 5]) (fuel := 7) rfl (by kernel_rfl) (by kernel_rfl) (by simp only [List.filterMap_cons, List.filterMap_nil, List.getElem?_toArray, List.getElem?_cons_succ, List.getElem?_cons_zero]; rfl) (fun _ _ d _ _ h => by cases d <;> exact h) (until_of (gb_drew (Nw.refl W0))) ?_
  iterate 3 (refine wpYield_step rfl (fun K hK => ?_)
             apply Exists.intro
             refine ⟨fun w' hw' => ?_, ?_⟩
             · (go_simp; try with_reducible rfl)
             go_simp
             refine hK _ ?_
             clear hK K)
  refine wpYield_nil ?_
  refine U_segL (r := [2, 6]) (fuel := 5) rfl (by kernel_rfl) (by kernel_rfl) (by simp only [List.filterMap_cons, List.filterMap_nil, List.getElem?_toArray, List.getElem?_cons_succ, List.getElem?_cons_zero]; rfl) (fun _ _ d _ _ h => by cases d <;> exact h) (gb_drew (Nw.refl W0)) ?_
  iterate 2 (refine wpYield_step rfl (fun K hK => ?_)
             apply Exists.intro
             refine ⟨fun w' hw' => ?_, ?_⟩
             · (go_simp; try with_reducible rfl)
             go_simp
             refine hK _ ?_
             clear hK K)
  refine wpYield_nil ?_
  clear c0 c1 c2
  refine U_eff 0 rfl (by kernel_rfl) rfl (fun K hK => ?_)
  go_simp
  refine (newBank_any _).mono ?_
  rintro e w1 ⟨rfl, b1, n1⟩
  have N1 := Lib.hid (gb_of_drew n1); have B1 := Lib.hid b1
  refine hK _ _ ⟨until_of N1.out, ?_⟩
  clear hK K n1 b1
  refine U_eff 3 rfl (by kernel_rfl) rfl (fun K hK => ?_)
  go_simp
  refine (Md.new_any _ _).mono ?_
  rintro e w2 ⟨g, F, rfl, r2, f2, n2⟩
  have N2 := Lib.hid (gb_trans N1.out n2); have N12 := Lib.hid n2; have R2 := Lib.hid r2; have F2 := Lib.hid f2
  refine hK _ _ ⟨until_of N2.out, ?_⟩
  clear hK K n2 r2 f2
  unfold Md.pv pv
  refine U_segL (r := [7]) (fuel := 2) rfl (by kernel_rfl) (by kernel_rfl) (by simp only [List.filterMap_cons, List.filterMap_nil, List.getElem?_toArray, List.getElem?_cons_succ, List.getElem?_cons_zero]; rfl) (fun _ _ d _ _ h => by cases d <;> exact h) N2.out ?_
  (refine wpYield_step rfl (fun K hK => ?_)
   apply Exists.intro
   refine ⟨fun w' hw' => ?_, ?_⟩
   · (go_simp; try with_reducible rfl)
   go_simp
   refine hK _ ?_
   clear hK K)
  refine wpYield_nil ?_
  refine U_eff 8 rfl (by kernel_rfl) rfl (fun K hK => ?_)
  go_simp
  obtain ⟨w3, hw3⟩ : ∃ w3, w2.alloc (.cells #[.pointer (some ⟨W0.heap.size, 0, none⟩), .nilIface, .pointer (some ⟨g, 0, none⟩), .iface 41 (.agg #[.int .i64 er]), .int .i64 bl, .int .i64 (-1), .int .i64 0, .int .u64 0] 70) = w3 := ⟨_, rfl⟩
  have n3 : Nw w2 w3 := by rw [← hw3]; exact World.grownBy_alloc w2 _ none
  have N3 := Lib.hid (gb_trans N2.out n3); have N23 := Lib.hid n3
  have O3 := Lib.hid (show Obj1 w3 w2.heap.size 70 #[.pointer (some ⟨W0.heap.size, 0, none⟩), .nilIface, .pointer (some ⟨g, 0, none⟩), .iface 41 (.agg #[.int .i64 er]), .int .i64 bl, .int .i64 (-1), .int .i64 0, .int .u64 0] from by rw [← hw3]; exact Obj1.new w2 _ _)
  refine hK _ _ ⟨until_of (by rw [hw3]; exact N3.out), ?_⟩
  clear hK K n3
  rw [hw3]
  clear hw3
  obtain ⟨bb, hbb⟩ : ∃ bb, W0.heap.size = bb := ⟨_, rfl⟩
  obtain ⟨st, hst⟩ : ∃ st, w2.heap.size = st := ⟨_, rfl⟩
  have HBE := Lib.hid hbb; have HSE := Lib.hid hst
  have R0 := Lib.hid (show SetR W0 ⟨st, 0, bb, g⟩ (.iface 41 (.agg #[.int .i64 er])) p n 0 F w3 from by
    have z0 := N0.out.size; have z1 := N1.out.size; have z2 := N12.out.size
    refine ⟨Nat.zero_le _, N3.out, ?_, ?_, fun x hx => by have := F2.out x hx; omega, by show W0.heap.size ≤ st; omega, fun hm => by have hx : st < w2.heap.size := R2.out.lt _ hm; omega, none, 0, [], rfl, ?_, ?_⟩
    · have hb : bl = (p.bl : Int) := HBL.out
      rw [← hb, ← hst, ← hbb]; exact O3.out
    · rw [← HNUM.out]; exact R2.out.nw N23.out
    · rw [← hbb]; exact (B1.out.nw N12.out).nw N23.out
    · intro x hx
      rcases hx with hx | hx
      · rcases fpB_out hx with e | ⟨m', hm', e⟩
        · have e : x = bb := e
          have hb1 : W0.heap.size < w1.heap.size := B1.out.lt _ (fpB_b _ _)
          exact ⟨by omega, fun hm => by have h1 := F2.out _ hm; omega⟩
        · cases hm'
      · simp [rowB, Value.ownBlock] at hx)
  have K3 := Lib.hid N3.out
  clear O3 B1 R2 F2 N1 N2 N12 N23
  rw [hbb, hst]
  refine U_segP (r := [9]) (fuel := 0) rfl (by kernel_rfl) (by kernel_rfl) (by simp only [List.filterMap_cons, List.filterMap_nil, List.getElem?_toArray, List.getElem?_cons_succ, List.getElem?_cons_zero]; rfl) (fun _ _ d _ _ h => by cases d <;> exact h) (until_past (by kernel_rfl)) ?_
  (refine wpYield_step rfl (fun K hK => ?_)
   apply Exists.intro
   refine ⟨fun w' hw' => ?_, ?_⟩
   · (go_simp; try with_reducible rfl)
   go_simp
   refine hK _ ?_
   clear hK K)
  refine wpYield_nil ?_
  refine U_done (by kernel_rfl) ?_ _
  have c1 : w3.cell? ⟨X, 1, none⟩ = some (.slice A n c) := (OX.out.nw K3.out).cell 1
  clear hbb hst HBE HSE
  go_wp2_with fail
  clear c1
  go_loopw [22] (fun i wr => ∃ k : Nat, i = .int .i64 k ∧ SetR W0 ⟨st, 0, bb, g⟩ (.iface 41 (.agg #[.int .i64 er])) p n k F wr) (fun i _ => n - (intOf i).toNat)
  case atStart => exact ⟨0, rfl, R0.out⟩
  case round =>
    clear R0 K3
    obtain ⟨k, rfl, hs⟩ := hrel
    have hk := hs.le
    have hn12 := HN12.out
    have SR := Lib.hid hs; clear hs
    rcases (show k < n ∨ k = n by omega) with hlt | rfl
    · have d1 : (k : Int) < (n : Int) := by omega
      obtain ⟨rb, off, rfl, hz, hc⟩ := (HS.out.z.nw (gb_trans N0.out SR.out.nw) HBB.out).atI hlt
      have hz' : k < sz.length := hz
      have hzz : 160 ≤ sz[k] ∧ sz[k] ≤ 4096 := HSZ.out (sz[k]) (List.getElem_mem hz')
      obtain ⟨zn, hzn⟩ : ∃ zn : Nat, sz[k] = (zn : Int) := ⟨sz[k].toNat, by omega⟩
      rw [hzn] at hc
      obtain ⟨Ab, cb, ms, hml, hb, hf⟩ := SR.out.bk
      have HA := add_any hb zn (by rw [hzn] at hzz; omega) (by omega)
      have HP := Lib.hid (fun e w' (a : AddPost bb 0 Ab cb ms zn wr e w') => SR.out.add hlt hml hb hf a)
      have s0 : wr.cell? ⟨st, 0, none⟩ = some (.pointer (some ⟨bb, 0, none⟩)) := SR.out.so.cell 0
      have HA2 : Calls Try.prog 48 #[.pointer (some ⟨bb, 0, none⟩), .int .i64 zn] wr (fun e w' => (∃ v, e = .returned v) ∧ SetR W0 ⟨st, 0, bb, g⟩ (.iface 41 (.agg #[.int .i64 er])) p n (k + 1) F w') := HA.mono fun e w' a => HP.out e w' a
      have HA' := Lib.hid HA2
      clear HA HA2 HP hb hf hml hz hz' hzz hzn
      go_wp2_with (go_at_call 48; (with_reducible refine HA'.out.mono ?_); rintro e w5 ⟨⟨vv, rfl⟩, h5⟩; have H5 := Lib.hid h5; clear h5)
      exact ⟨⟨k + 1, rfl, H5.out⟩, by simp [intOf]; omega⟩
    · have d1 : decide ((k : Int) < (k : Int)) = false := decide_eq_false (by omega)
      go_upto_region 7 with fail
      have s0 : ∀ w', Nw wr w' → w'.cell? ⟨st, 0, none⟩ = some (.pointer (some ⟨bb, 0, none⟩)) := fun w' q => (SR.out.so.nw q).cell 0
      have OXR := Lib.hid (OX.out.nw SR.out.nw)
      have c0 : ∀ w', Nw wr w' → w'.cell? ⟨X, 0, none⟩ = some (.int .i64 num) := fun w' q => (OXR.out.nw q).cell 0
      have c2 : ∀ w', Nw wr w' → w'.cell? ⟨X, 2, none⟩ = some (.int .i64 bl) := fun w' q => (OXR.out.nw q).cell 2
      have m1 := nNew er wr.drew
      have a1 := bNew er
      have TN' := Lib.hid (nnew_any er (.pointer (some ⟨bb, 0, none⟩)) num p.bl wr.drew)
      have KW := Lib.hid (gb_trans N0.out SR.out.nw)
      refine wp_region_U [12] (fun w' => Nw wr w') (by kernel_rfl) ?_
      change wpU _ _ _ _ _ _ _ _ _ (World.drew wr)
      refine U_segP (r := [0, 1, 2, 3, 5, 7]) (fuel := 12) rfl (by kernel_rfl) (by kernel_rfl) (by simp only [List.filterMap_cons, List.filterMap_nil, List.getElem?_toArray, List.getElem?_cons_succ, List.getElem?_cons_zero]; rfl) (fun _ _ d _ _ h => by cases d <;> exact h) (until_of (gb_drew (Nw.refl wr))) ?_
      iterate 6 (refine wpYield_step rfl (fun K hK => ?_)
                 apply Exists.intro
                 refine ⟨fun w' hw' => ?_, ?_⟩
                 · (go_simp; try with_reducible rfl)
                 go_simp
                 refine hK _ ?_
                 clear hK K)
      refine wpYield_nil ?_
      refine U_segL (r := [4, 6, 8]) (fuel := 9) rfl (by kernel_rfl) (by kernel_rfl) (by simp only [List.filterMap_cons, List.filterMap_nil, List.getElem?_toArray, List.getElem?_cons_succ, List.getElem?_cons_zero]; rfl) (fun _ _ d _ _ h => by cases d <;> exact h) (gb_drew (Nw.refl wr)) ?_
      iterate 3 (refine wpYield_step rfl (fun K hK => ?_)
                 apply Exists.intro
                 refine ⟨fun w' hw' => ?_, ?_⟩
                 · (go_simp; try with_reducible rfl)
                 go_simp
                 refine hK _ ?_
                 clear hK K)
      refine wpYield_nil ?_
      refine U_segP (r := [9, 10, 11]) (fuel := 6) rfl (by kernel_rfl) (by kernel_rfl) (by simp only [List.filterMap_cons, List.filterMap_nil, List.getElem?_toArray, List.getElem?_cons_succ, List.getElem?_cons_zero]; rfl) (fun _ _ d _ _ h => by cases d <;> exact h) (until_of (gb_drew (Nw.refl wr))) ?_
      iterate 3 (refine wpYield_step rfl (fun K hK => ?_)
                 apply Exists.intro
                 refine ⟨fun w' hw' => ?_, ?_⟩
                 · (go_simp; try with_reducible rfl)
                 go_simp
                 refine hK _ ?_
                 clear hK K)
      refine wpYield_nil ?_
      clear s0 c0 c2
      refine U_eff 12 rfl (by kernel_rfl) rfl (fun K hK => ?_)
      go_simp
      refine TN'.out.mono ?_
      rintro e w5 ⟨rfl, n5⟩
      have N5 := Lib.hid (gb_of_drew n5); clear n5
      refine hK _ _ ⟨until_past (by kernel_rfl), ?_⟩
      clear hK K m1 a1
      refine U_segP (r := [13, 14, 15, 16, 17]) (fuel := 0) rfl (by kernel_rfl) (by kernel_rfl) (by simp only [List.filterMap_cons, List.filterMap_nil, List.getElem?_toArray, List.getElem?_cons_succ, List.getElem?_cons_zero]; rfl) (fun _ _ d _ _ h => by cases d <;> exact h) (until_past (by kernel_rfl)) ?_
      iterate 5 (refine wpYield_step rfl (fun K hK => ?_)
                 apply Exists.intro
                 refine ⟨fun w' hw' => ?_, ?_⟩
                 · (go_simp; try with_reducible rfl)
                 go_simp
                 refine hK _ ?_
                 clear hK K)
      refine wpYield_nil ?_
      refine U_done (by kernel_rfl) ?_ _
      go_wp2
      go_ret
      exact ⟨rfl, gb_trans KW.out N5.out⟩
end Go.Proofs.Ytmcgfnfhpcddlaa

