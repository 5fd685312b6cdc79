/- Groups and extents: the data's words; the first that is so. -/
import Derived.Test.YtobifmndpkjlmaaProg
import Derived.Test.YtobifmndpkjlmaaJA
import Derived.Test.YtobifmndpkjlmaaJC
set_option linter.unusedVariables false
set_option linter.unusedSimpArgs false
/- Groups and extents: the data's words; the first that is so. -/
namespace Go.Proofs.Ytobifmndpkjlmaa
open Go.RowKit Go.BW

/-- an extent -/
structure Et where
  dk : Int
  pl : Int
  deriving DecidableEq
def ec (m : Et) : List Value := [.int .i64 m.dk, .int .i64 m.pl]
def ev (m : Et) : Value := .agg #[.int .i64 m.dk, .int .i64 m.pl]
theorem ec_len (m : Et) : (ec m).length = 2 := rfl
theorem ec_one (ms : List Et) : ∀ u ∈ fl ec ms, u.oneCell' = true := by
  intro u hu
  unfold fl at hu
  rw [List.mem_flatten] at hu
  obtain ⟨l, hl, hu⟩ := hu
  obtain ⟨m, _, rfl⟩ := List.mem_map.1 hl
  simp [ec] at hu
  rcases hu with rfl | rfl <;> rfl
/-- a group: its numbers, where its extents lie, and what they are -/
structure Gp where
  id : Int
  kd : Int
  A : Option Addr
  n : Nat
  c : Nat
  es : List Et
def gc (x : Gp) : List Value := [.int .i64 x.id, .int .i64 x.kd, .slice x.A x.n x.c]
def gv (x : Gp) : Value := .agg #[.int .i64 x.id, .int .i64 x.kd, .slice x.A x.n x.c]
def g0 : Gp := ⟨0, 0, none, 0, 0, []⟩
theorem gc_len (x : Gp) : (gc x).length = 3 := rfl
theorem gc_one (xs : List Gp) : ∀ u ∈ fl gc xs, u.oneCell' = true := by
  intro u hu
  unfold fl at hu
  rw [List.mem_flatten] at hu
  obtain ⟨l, hl, hu⟩ := hu
  obtain ⟨m, _, rfl⟩ := List.mem_map.1 hl
  simp [gc] at hu
  rcases hu with rfl | rfl | rfl <;> rfl
theorem T35 : El Try.prog 35 39 (ev ⟨0, 0⟩) 2 16 := El.mk' Try.underlying35 (by kernel_rfl) rfl (by decide)
theorem T28 : El Try.prog 28 37 (gv g0) 3 40 := El.mk' Try.underlying28 (by kernel_rfl) rfl (by decide)
theorem T22 : El Try.prog 22 3 (.int .i64 0) 1 8 := El.mk' Try.underlying22 (by kernel_rfl) rfl (by decide)
theorem T62 : El Try.prog 62 22 (.slice none 0 0) 1 24 := El.mk' Try.underlying62 (by kernel_rfl) rfl (by decide)
/-- its extents lie below B -/
structure GOk (w : World) (B : Nat) (x : Gp) : Prop where
  rd : Rd w B 2 x.A x.n (fl ec x.es)
  nc : x.n ≤ x.c
  cm : x.c ≤ maxLen
  nm : x.n ≤ 1000000
section
variable {w w' : World} {B B' : Nat} {x : Gp}
theorem GOk.len (h : GOk w B x) : x.es.length = x.n := h.rd.lenL ec_len (by decide)
theorem GOk.nw (h : GOk w B x) (k : Nw w w') (hB : B ≤ w.heap.size) : GOk w' B x := ⟨h.rd.nw k hB, h.nc, h.cm, h.nm⟩
theorem GOk.more (h : GOk w B x) (hB : B ≤ B') : GOk w B' x := ⟨h.rd.more hB, h.nc, h.cm, h.nm⟩
theorem GOk.below (h : GOk w B x) (hb : Below B w w') : GOk w' B x := ⟨h.rd.below hb, h.nc, h.cm, h.nm⟩
end
/-- a row of groups that lies below B -/
structure GsR (w : World) (B : Nat) (A : Option Addr) (n : Nat) (gs : List Gp) : Prop where
  rd : Rd w B 3 A n (fl gc gs)
  all : ∀ g ∈ gs, GOk w B g
section
variable {w w' : World} {B B' n : Nat} {A : Option Addr} {gs : List Gp}
theorem GsR.len (h : GsR w B A n gs) : gs.length = n := h.rd.lenL gc_len (by decide)
theorem GsR.nw (h : GsR w B A n gs) (k : Nw w w') (hB : B ≤ w.heap.size) : GsR w' B A n gs := ⟨h.rd.nw k hB, fun g hg => (h.all g hg).nw k hB⟩
theorem GsR.more (h : GsR w B A n gs) (hB : B ≤ B') : GsR w B' A n gs := ⟨h.rd.more hB, fun g hg => (h.all g hg).more hB⟩
theorem GsR.below (h : GsR w B A n gs) (hb : Below B w w') : GsR w' B A n gs := ⟨h.rd.below hb, fun g hg => (h.all g hg).below hb⟩
end
/-- a group's disks -/
def dks (x : Gp) : List Int := x.es.map (·.dk)
def hasD (x : Gp) (d : Int) : Bool := x.es.any fun e => e.dk == d
theorem hasD_iff (x : Gp) (d : Int) : hasD x d = true ↔ d ∈ dks x := by
  unfold hasD dks
  simp [List.any_eq_true]
theorem hasD_not (x : Gp) (d : Int) : hasD x d = false ↔ d ∉ dks x := by
  rw [← hasD_iff]; simp
theorem cell_alloc {w : World} {p : Addr} {v : Value} {o : Obj} (h : w.cell? p = some v) : (w.alloc o).cell? p = some v :=
  (World.cell?_of_block ((World.grownBy_alloc w o none).block p.block (World.block_lt_of_cell? w p h) (by simp))).trans h
theorem cell_nw {w w' : World} {p : Addr} {v : Value} (h : w.cell? p = some v) (k : Nw w w') : w'.cell? p = some v :=
  (World.cell?_of_block (k.block p.block (World.block_lt_of_cell? w p h) (by simp))).trans h
/-- the first that is so, or -1 -/
def idxZ {α : Type} (p : α → Bool) (l : List α) : Int := match l.findIdx? p with | some i => i | none => -1
theorem idxZ_at {α : Type} {p : α → Bool} {l : List α} {k : Nat} {x : α} (hno : (l.take k).any p = false) (hx : l[k]? = some x) (hp : p x = true) : idxZ p l = k := by
  have h : l.findIdx? p = some k := by
    obtain ⟨hk, rfl⟩ := List.getElem?_eq_some_iff.1 hx
    rw [List.findIdx?_eq_some_iff_getElem]
    refine ⟨hk, hp, fun j hj => ?_⟩
    have := List.any_eq_false.1 hno l[j] (by rw [List.mem_take_iff_getElem]; exact ⟨j, by omega, rfl⟩)
    simpa using this
  unfold idxZ; rw [h]
theorem idxZ_no {α : Type} {p : α → Bool} {l : List α} (h : l.any p = false) : idxZ p l = -1 := by
  have : l.findIdx? p = none := by rw [List.findIdx?_eq_none_iff]; intro x hx; simpa using List.any_eq_false.1 h x hx
  unfold idxZ; rw [this]
theorem idxZ_nn {α : Type} (p : α → Bool) (l : List α) : decide (0 ≤ idxZ p l) = l.any p := by
  rcases h : l.any p with _ | _
  · rw [idxZ_no h]; decide
  · unfold idxZ
    rcases h2 : l.findIdx? p with _ | i
    · exfalso
      rw [List.findIdx?_eq_none_iff] at h2
      obtain ⟨x, hx, hp⟩ := List.any_eq_true.1 h
      have := h2 x hx; rw [hp] at this; cases this
    · simp
theorem any_snoc {α : Type} {p : α → Bool} {l : List α} {k : Nat} {x : α} (hno : (l.take k).any p = false) (hx : l[k]? = some x) : (l.take (k + 1)).any p = p x := by
  obtain ⟨hk, rfl⟩ := List.getElem?_eq_some_iff.1 hx
  rw [List.take_succ_eq_append_getElem hk, List.any_append, hno]; simp
def IdxPost (v : Int) (w : World) (e : Ending) (w' : World) : Prop := e = .returned (.int .i64 v) ∧ Nw w w'
end Go.Proofs.Ytobifmndpkjlmaa


/- slices.IndexFunc over extents, for the closure that the program hands it; under a premise on the closure. Printed by gen_idx.py. -/
namespace Go.Proofs.Ytobifmndpkjlmaa
open Go.RowKit Go.BW

theorem index45_any {w : World} {B n d : Nat} {L : Option Addr} {ms : List Et} (hr : Rd w B 2 L n (fl ec ms)) (hB : B ≤ w.heap.size) (hn : n ≤ 1000000) (c1 : Value) (p : Et → Bool)
    (HF : ∀ m ∈ ms, ∀ w', Nw w w' → Calls Try.prog 45 #[ev m, c1] w' (Ret (.bool (p m)) w')) :
    Calls Try.prog 49 #[.slice L n d, .func (.func 45) #[] #[c1]] w (IdxPost (idxZ p ms) w) := by
  have HF' := Lib.hid HF
  clear HF
  go_enter Try.func49, Try.ntmps49
  go_wp2_with fail
  go_loopw [8] (fun i wr => ∃ k : Nat, k ≤ n ∧ i = .int .i64 k ∧ Hid ((ms.take k).any p = false) ∧ Nw w wr) (fun i _ => n - (intOf i).toNat)
  case atStart => exact ⟨0, Nat.zero_le _, rfl, Lib.hid rfl, Nw.refl _⟩
  case round =>
    obtain ⟨k, hk, rfl, hno, hnw⟩ := hrel
    by_cases hlt : k < n
    · obtain ⟨hln, b', off, x, rfl, _, hx, hc⟩ := (hr.nw hnw hB).atL ec_len (by decide) hlt
      have hlt' : (k : Int) < (n : Int) := by omega
      have HC := Lib.hid hc
      have HX := Lib.hid hx
      have HT := HF'.out x (List.mem_of_getElem? hx) wr hnw
      obtain ⟨q, hq⟩ : ∃ q, p x = q := ⟨_, rfl⟩
      rw [hq] at HT
      have HQ := Lib.hid hq
      have HT' := Lib.hid (show Calls Try.prog 45 #[.agg (ec x).toArray, c1] wr (fun e w' => e = .returned (.bool q) ∧ Nw wr w') from HT)
      clear hc hx hq HT
      rcases q with _ | _
      · go_wp2_with (first | ((with_reducible refine HT'.out.mono ?_); rintro e w2 ⟨rfl, n2⟩) | refine wpList_load_agg 39 _ rfl rfl rfl (ec x) HC.out _ Try.underlying39 rfl (by rw [ec_len]; kernel_rfl) ?_)
        go_roundw
        case rel => exact ⟨k + 1, by omega, by go_num, Lib.hid (by rw [any_snoc hno.out HX.out]; exact HQ.out), gb_trans hnw n2⟩
        case measure => simp only [intOf]; omega
      · go_wp2_with (first | ((with_reducible refine HT'.out.mono ?_); rintro e w2 ⟨rfl, n2⟩) | refine wpList_load_agg 39 _ rfl rfl rfl (ec x) HC.out _ Try.underlying39 rfl (by rw [ec_len]; kernel_rfl) ?_)
        go_ret
        exact ⟨by rw [idxZ_at hno.out HX.out HQ.out]; rfl, gb_trans hnw n2⟩
    · have hk' : k = n := by omega
      subst hk'
      have hf : ms.any p = false := by
        have h1 := hno.out
        rwa [List.take_of_length_le (by have := hr.lenL ec_len (by decide); omega)] at h1
      have H := Lib.hid (idxZ_no hf)
      clear hf
      go_wp2
      go_ret
      exact ⟨by rw [H.out]; rfl, hnw⟩
theorem has45_any {w : World} {B n d : Nat} {L : Option Addr} {ms : List Et} (hr : Rd w B 2 L n (fl ec ms)) (hB : B ≤ w.heap.size) (hn : n ≤ 1000000) (c1 : Value) (p : Et → Bool)
    (HF : ∀ m ∈ ms, ∀ w', Nw w w' → Calls Try.prog 45 #[ev m, c1] w' (Ret (.bool (p m)) w')) :
    Calls Try.prog 44 #[.slice L n d, .func (.func 45) #[] #[c1]] w (Ret (.bool (ms.any p)) w) := by
  have HI := Lib.hid (index45_any (d := d) hr hB hn c1 p HF)
  have hv := idxZ_nn p ms
  unfold IdxPost at HI
  obtain ⟨v, hvv⟩ : ∃ v, idxZ p ms = v := ⟨_, rfl⟩
  rw [hvv] at HI hv
  have HV := Lib.hid hv
  clear hr HF hvv hv
  go_enter Try.func44, Try.ntmps44
  go_wp2_with ((with_reducible refine HI.out.mono ?_); rintro e w2 ⟨rfl, n2⟩)
  go_ret
  exact ⟨by rw [← HV.out]; rfl, n2⟩

end Go.Proofs.Ytobifmndpkjlmaa


/- group.has and Has of the document: does a group have a disk? -/
namespace Go.Proofs.Ytobifmndpkjlmaa
open Go.RowKit Go.BW

/-- has's closure -/
theorem is_any (m : Et) (b : Nat) (x : Int) (w : World) (h : w.cell? ⟨b, 0, none⟩ = some (.int .i64 x)) : Calls Try.prog 45 #[ev m, .pointer (some ⟨b, 0, none⟩)] w (Ret (.bool (m.dk == x)) w) := by
  unfold ev
  have h2 := fun o => cell_alloc (o := o) h
  go_enter Try.func45, Try.ntmps45
  go_wp2
  go_ret
  exact ⟨rfl, World.grownBy_alloc w _ none⟩
set_option maxHeartbeats 1000000 in
theorem has_any {w : World} {B : Nat} {x : Gp} (h : GOk w B x) (hB : B ≤ w.heap.size) (d : Int) : Calls Try.prog 32 #[gv x, .int .i64 d] w (Ret (.bool (hasD x d)) w) := by
  have hb : hasD x d = x.es.any (fun e => e.dk == d) := rfl
  rw [hb]
  obtain ⟨hr, _, _, hm⟩ := h
  unfold gv
  obtain ⟨i, k, A, n, c, es⟩ := x
  simp only at hr hm ⊢
  have hn := gb_trans (World.grownBy_alloc w (.cells #[.int .i64 i, .int .i64 k, .slice A n c] 37) none) (World.grownBy_alloc _ (.cells #[.int .i64 d] 3) none)
  have ho := obj_snd w (.cells #[.int .i64 i, .int .i64 k, .slice A n c] 37) 3 #[.int .i64 d]
  have HH := Lib.hid (has45_any (d := c) (hr.nw hn hB) (Nat.le_trans hB hn.size) hm (.pointer (some ⟨w.heap.size + 1, 0, none⟩)) (fun e => e.dk == d)
    (fun m _ w' hw' => is_any m _ d w' (cell_nw (ho.cell 0) hw')))
  have HN := Lib.hid hn
  clear ho hn hr hb
  go_enter Try.func32, Try.ntmps32
  go_wp2_with ((with_reducible refine HH.out.mono ?_); rintro e w2 ⟨rfl, n2⟩)
  go_ret
  exact ⟨rfl, gb_trans HN.out n2⟩
/-- .. the document's -/
theorem rhas_any {w : World} {B : Nat} {x : Gp} (h : GOk w B x) (hB : B ≤ w.heap.size) (d : Int) : Calls Try.prog 18 #[gv x, .int .i64 d] w (Ret (.bool (hasD x d)) w) := by
  have hb : hasD x d = x.es.any (fun e => e.dk == d) := rfl
  rw [hb]
  have hlen := h.len
  obtain ⟨hr, hnc, hcm, hm⟩ := h
  unfold gv
  obtain ⟨i, k, A, n, c, es⟩ := x
  simp only at hr hm hnc hcm hlen ⊢
  have hbox := Obj1.new w 37 #[.int .i64 i, .int .i64 k, .slice A n c]
  have hn := World.grownBy_alloc w (.cells #[.int .i64 i, .int .i64 k, .slice A n c] 37) none
  go_enter Try.func18, Try.ntmps18
  go_wp2_with fail
  have HBX := Lib.hid hbox
  have N0 := Lib.hid hn
  obtain ⟨W, hW⟩ : ∃ W, w.alloc (.cells #[.int .i64 i, .int .i64 k, .slice A n c] 37) = W := ⟨_, rfl⟩
  rw [hW] at HBX N0 ⊢
  obtain ⟨y, hy⟩ : ∃ y, w.heap.size = y := ⟨_, rfl⟩
  rw [hy] at HBX ⊢
  have hc2 := HBX.out.cell 2
  change W.cell? ⟨y, 2, none⟩ = some (.slice A n c) at hc2
  have HR := Lib.hid (hr.nw N0.out hB)
  clear hbox hW hr hy hn
  go_loopw [5] (fun v wr => ∃ k : Nat, k ≤ n ∧ v = .int .i64 k ∧ Hid ((es.take k).any (fun e => e.dk == d) = false) ∧ W = wr) (fun v _ => n - (intOf v).toNat)
  case atStart => exact ⟨0, Nat.zero_le _, rfl, Lib.hid rfl, rfl⟩
  case round =>
    obtain ⟨j, hj, rfl, hno, rfl⟩ := hrel
    by_cases hlt : j < n
    · obtain ⟨hln, b', off, x, rfl, _, hx, hc⟩ := HR.out.atL ec_len (by decide) hlt
      have hlt' : (j : Int) < (n : Int) := by omega
      have HX := Lib.hid hx
      have hc0 := hc 0 _ rfl
      rw [Nat.add_zero] at hc0
      obtain ⟨q, hq⟩ : ∃ q, (x.dk == d) = q := ⟨_, rfl⟩
      have HQ := Lib.hid hq
      obtain ⟨z, hz⟩ : ∃ z, x.dk = z := ⟨_, rfl⟩
      rw [hz] at hq hc0
      clear hc hx hz
      rcases q with _ | _
      · go_wp2
        go_roundw
        case rel => exact ⟨j + 1, by omega, by go_num, Lib.hid (by rw [any_snoc hno.out HX.out]; exact HQ.out), trivial⟩
        case measure => simp only [intOf]; omega
      · have HF := Lib.hid (show es.any (fun e => e.dk == d) = true from List.any_eq_true.2 ⟨x, List.mem_of_getElem? HX.out, HQ.out⟩)
        go_wp2
        go_ret
        exact ⟨by rw [HF.out]; rfl, N0.out⟩
    · have hk' : j = n := by omega
      subst hk'
      have hf : es.any (fun e => e.dk == d) = false := by
        have h1 := hno.out
        rwa [List.take_of_length_le (by omega)] at h1
      have H := Lib.hid hf
      clear hf
      go_wp2
      go_ret
      exact ⟨by rw [H.out]; rfl, N0.out⟩
end Go.Proofs.Ytobifmndpkjlmaa


/- The document's in and most. -/
namespace Go.Proofs.Ytobifmndpkjlmaa
open Go.RowKit Go.BW

theorem in_any {w : World} {B n c : Nat} {A : Option Addr} {zs : List Int} (hr : Rd w B 1 A n (zs.map iv)) (hs : n ≤ maxLen) (x : Int) : Calls Try.prog 43 #[.slice A n c, .int .i64 x] w (fun e w' => e = .returned (.bool (zs.any (· == x))) ∧ w = w') := by
  have hlen : zs.length = n := by have := hr.1; simpa using this
  have HR := Lib.hid hr
  have hs' : n ≤ 9223372036854775807 := hs
  clear hr hs
  go_enter Try.func43, Try.ntmps43
  go_wp2_with fail
  go_loopw [5] (fun v wr => ∃ k : Nat, k ≤ n ∧ v = .int .i64 k ∧ Hid ((zs.take k).any (· == x) = false) ∧ w = wr) (fun v _ => n - (intOf v).toNat)
  case atStart => exact ⟨0, Nat.zero_le _, rfl, Lib.hid rfl, by first | rfl | trivial⟩
  case round =>
    obtain ⟨j, hj, rfl, hno, rfl⟩ := hrel
    by_cases hlt : j < n
    · obtain ⟨b', off, rfl, hln, hc0⟩ := HR.out.atI hlt
      have hlt' : (j : Int) < (n : Int) := by omega
      have HX := Lib.hid (List.getElem?_eq_getElem hln)
      obtain ⟨z, hz⟩ : ∃ z, zs[j] = z := ⟨_, rfl⟩
      rw [hz] at HX hc0
      obtain ⟨q, hq⟩ : ∃ q, (z == x) = q := ⟨_, rfl⟩
      have HQ := Lib.hid hq
      clear hz
      rcases q with _ | _
      · go_wp2
        go_roundw
        case rel => exact ⟨j + 1, by omega, by go_num, Lib.hid (by rw [any_snoc hno.out HX.out]; exact HQ.out), by first | rfl | trivial⟩
        case measure => simp only [intOf]; omega
      · have HF := Lib.hid (show zs.any (· == x) = true from List.any_eq_true.2 ⟨z, List.mem_of_getElem? HX.out, HQ.out⟩)
        go_wp2
        go_ret
        exact ⟨by rw [HF.out]; rfl, by first | rfl | trivial⟩
    · have hk' : j = n := by omega
      subst hk'
      have hf : zs.any (· == x) = false := by
        have h1 := hno.out
        rwa [List.take_of_length_le (by omega)] at h1
      have H := Lib.hid hf
      clear hf
      go_wp2
      go_ret
      exact ⟨by rw [H.out]; rfl, by first | rfl | trivial⟩
theorem any_mem {zs : List Int} {x : Int} : zs.any (· == x) = true ↔ x ∈ zs := by simp [List.any_eq_true]
theorem any_not {zs : List Int} {x : Int} : zs.any (· == x) = false ↔ x ∉ zs := by rw [← any_mem, Bool.not_eq_true]
def MostPost (rs no : List Int) (w : World) (e : Ending) (w' : World) : Prop := ∃ r, e = .returned (.int .i64 r) ∧ MostOf rs no r ∧ Nw w w'
theorem getD_at {zs : List Int} {k : Nat} (h : k < zs.length) : zs[k] = zs.getD k 0 := by simp [List.getD_eq_getElem?_getD, h]
/-- a cell of a row of ints -/
theorem atD {w : World} {B n k : Nat} {A : Option Addr} {zs : List Int} (h : Rd w B 1 A n (zs.map iv)) (hk : k < n) : ∃ b off, A = some ⟨b, off, none⟩ ∧ w.cell? ⟨b, off + k, none⟩ = some (.int .i64 (zs.getD k 0)) := by
  obtain ⟨b, off, e, hl, hc⟩ := h.atI hk
  exact ⟨b, off, e, by rw [← getD_at hl]; exact hc⟩
set_option maxHeartbeats 1000000 in
theorem most_any {w : World} {B n c m c2 : Nat} {A A2 : Option Addr} {rs no : List Int} (hr : Rd w B 1 A n (rs.map iv)) (hn : Rd w B 1 A2 m (no.map iv)) (hB : B ≤ w.heap.size) (hs : n ≤ maxLen) (hs2 : m ≤ maxLen) :
    Calls Try.prog 29 #[.slice A n c, .slice A2 m c2] w (MostPost rs no w) := by
  have hlen : rs.length = n := by have := hr.1; simpa using this
  have HR := Lib.hid hr; have HN := Lib.hid hn; have HBW := Lib.hid hB
  have hs' : n ≤ 9223372036854775807 := hs
  have HS2 := Lib.hid hs2
  clear hr hn hB hs hs2
  go_enter Try.func29, Try.ntmps29
  go_wp2_with fail
  go_loopw [5, 6] (fun r v wr => ∃ (k : Nat) (z : Int), k ≤ n ∧ v = .int .i64 k ∧ r = .int .i64 z ∧ Hid (MostUp rs no k z) ∧ Nw w wr) (fun _ v _ => n - (intOf v).toNat)
  case atStart => exact ⟨0, -1, Nat.zero_le _, rfl, rfl, Lib.hid (MostUp.zero _ _), Nw.refl _⟩
  case round =>
    obtain ⟨k, z, hk, rfl, rfl, hm, hnw⟩ := hrel
    have HR2 := Lib.hid (HR.out.nw hnw HBW.out)
    have HN2 := Lib.hid (HN.out.nw hnw HBW.out)
    by_cases hlt : k < n
    · have hlt' : (k : Int) < (n : Int) := by omega
      have HI := Lib.hid (in_any (c := c2) HN2.out HS2.out (k : Int))
      obtain ⟨q, hq⟩ : ∃ q, no.any (· == (k : Int)) = q := ⟨_, rfl⟩
      rw [hq] at HI
      have HQ := Lib.hid hq
      obtain ⟨b, off, rfl, hc0⟩ := atD HR2.out hlt
      have hnat := hm.out.nat
      obtain ⟨x, hx⟩ : ∃ x, rs.getD k 0 = x := ⟨_, rfl⟩
      rw [hx] at hc0
      have HX := Lib.hid hx
      clear hq hx
      rcases (show x ≤ 0 ∨ 0 < x by omega) with h0 | h0
      · have H2 := Lib.hid (hm.out.pass (.inl (by rw [HX.out]; omega)))
        have d0 : decide ((0 : Int) < x) = false := decide_eq_false (by omega)
        clear hm hnat
        go_wp2_with ((with_reducible refine HI.out.mono ?_); rintro e w2 ⟨rfl, rfl⟩)
        go_quiet (fail)
        go_wp2
        go_roundw
        case rel => exact ⟨k + 1, z, by omega, by go_num, rfl, H2, by first | exact hnw | exact gb_drewN hnw _ | exact gb_drew hnw | exact gb_drewN (gb_drew hnw) _⟩
        case measure => simp only [intOf]; omega
      · have d0 : decide ((0 : Int) < x) = true := decide_eq_true h0
        rcases q with _ | _
        · have hno : (k : Int) ∉ no := any_not.1 HQ.out
          rcases hnat with hz | ⟨d, hz, hdk⟩
          · have H2 := Lib.hid (hm.out.take (by rw [HX.out]; exact h0) hno (.inl (by omega)))
            clear hm hno
            subst hz
            go_wp2_with ((with_reducible refine HI.out.mono ?_); rintro e w2 ⟨rfl, rfl⟩)
            go_quiet (fail)
            go_wp2
            go_roundw
            case rel => exact ⟨k + 1, k, by omega, by go_num, rfl, H2, by first | exact hnw | exact gb_drewN hnw _ | exact gb_drew hnw | exact gb_drewN (gb_drew hnw) _⟩
            case measure => simp only [intOf]; omega
          · subst hz
            obtain ⟨b2, off2, e2, hc1⟩ := atD HR2.out (show d < n by omega)
            obtain ⟨y, hy⟩ : ∃ y, rs.getD d 0 = y := ⟨_, rfl⟩
            rw [hy] at hc1
            injection e2 with e2
            injection e2 with e2 e3
            subst e2
            subst e3
            have hdn : (d : Int) < (n : Int) := by omega
            have HY := Lib.hid hy
            clear hy
            have d1 : decide ((d : Int) < 0) = false := decide_eq_false (by omega)
            rcases (show y < x ∨ x ≤ y by omega) with h5 | h5
            · have H2 := Lib.hid (hm.out.take (by rw [HX.out]; exact h0) hno (.inr ⟨d, rfl, by rw [HX.out, HY.out]; exact h5⟩))
              have d2 : decide (y < x) = true := decide_eq_true h5
              clear hm hno
              go_wp2_with ((with_reducible refine HI.out.mono ?_); rintro e w2 ⟨rfl, rfl⟩)
              go_quiet (fail)
              go_wp2
              go_roundw
              case rel => exact ⟨k + 1, k, by omega, by go_num, rfl, H2, by first | exact hnw | exact gb_drewN hnw _ | exact gb_drew hnw | exact gb_drewN (gb_drew hnw) _⟩
              case measure => simp only [intOf]; omega
            · have H2 := Lib.hid (hm.out.pass (.inr (.inr ⟨d, rfl, by rw [HX.out, HY.out]; exact h5⟩)))
              have d2 : decide (y < x) = false := decide_eq_false (by omega)
              clear hm hno
              go_wp2_with ((with_reducible refine HI.out.mono ?_); rintro e w2 ⟨rfl, rfl⟩)
              go_quiet (fail)
              go_wp2
              go_roundw
              case rel => exact ⟨k + 1, d, by omega, by go_num, rfl, H2, by first | exact hnw | exact gb_drewN hnw _ | exact gb_drew hnw | exact gb_drewN (gb_drew hnw) _⟩
              case measure => simp only [intOf]; omega
        · have H2 := Lib.hid (hm.out.pass (.inr (.inl (any_mem.1 HQ.out))))
          clear hm hnat
          go_wp2_with ((with_reducible refine HI.out.mono ?_); rintro e w2 ⟨rfl, rfl⟩)
          go_quiet (fail)
          go_wp2
          go_roundw
          case rel => exact ⟨k + 1, z, by omega, by go_num, rfl, H2, by first | exact hnw | exact gb_drewN hnw _ | exact gb_drew hnw | exact gb_drewN (gb_drew hnw) _⟩
          case measure => simp only [intOf]; omega
    · have hkn : k = rs.length := by omega
      have H := Lib.hid (show MostOf rs no z from by rw [hkn] at hm; exact hm.out.all)
      clear hkn hm
      go_wp2
      go_ret
      exact ⟨z, rfl, H.out, hnw⟩
end Go.Proofs.Ytobifmndpkjlmaa


/- The document's only: do all disks that a group may get stand in a set? -/
namespace Go.Proofs.Ytobifmndpkjlmaa
open Go.RowKit Go.BW

theorem shr_cast (W s : Nat) : ((W : Int) / 2 ^ s) = ((W >>> s : Nat) : Int) := by
  rw [Nat.shiftRight_eq_div_pow]
  rw [Int.natCast_ediv, Int.natCast_pow]; rfl
theorem bit_even (s d : Nat) : (((s : Int) / 2 ^ d).tmod 2 == 0) = !s.testBit d := by
  rw [shr_cast, Int.tmod_eq_emod_of_nonneg (Int.natCast_nonneg _), Nat.testBit_eq_decide_div_mod_eq, ← Nat.shiftRight_eq_div_pow]
  have h : ((s >>> d : Nat) : Int) % 2 = ((s >>> d % 2 : Nat) : Int) := by omega
  rw [h]
  rcases Nat.mod_two_eq_zero_or_one (s >>> d) with h0 | h0 <;> rw [h0] <;> simp
theorem bit_odd (s d : Nat) : (((s : Int) / 2 ^ d).tmod 2 == 1) = s.testBit d := by
  rw [shr_cast, Int.tmod_eq_emod_of_nonneg (Int.natCast_nonneg _), Nat.testBit_eq_decide_div_mod_eq, ← Nat.shiftRight_eq_div_pow]
  have h : ((s >>> d : Nat) : Int) % 2 = ((s >>> d % 2 : Nat) : Int) := by omega
  rw [h]
  rcases Nat.mod_two_eq_zero_or_one (s >>> d) with h0 | h0 <;> rw [h0] <;> simp
/-- .. of the first k disks -/
def hangsUp (S : Nat → Bool) (rs g : List Int) (k : Nat) : Prop := ∀ d, d < k → 0 < rs.getD d 0 → (d : Int) ∉ g → S d = true
set_option maxHeartbeats 1000000 in
theorem only_any {w : World} {B n c s : Nat} {A : Option Addr} {rs : List Int} {x : Gp} (h : GOk w B x) (hr : Rd w B 1 A n (rs.map iv)) (hB : B ≤ w.heap.size) (h8 : n ≤ 8) (hs : s < 256) :
    Calls Try.prog 37 #[gv x, .slice A n c, .int .i64 s] w (Ret (.bool (hangs s.testBit rs (dks x))) w) := by
  have hlen : rs.length = n := by have := hr.1; simpa using this
  have HG := Lib.hid (fun (w' : World) (hw : Nw w w') (d : Int) => rhas_any (h.nw hw hB) (Nat.le_trans hB hw.size) d)
  obtain ⟨P, hP⟩ : ∃ P : Bool, hangs s.testBit rs (dks x) = P := ⟨_, rfl⟩
  have HP := Lib.hid hP
  rw [hP]
  clear hP h
  obtain ⟨hh, hhe⟩ : ∃ f : Int → Bool, hasD x = f := ⟨_, rfl⟩
  have HM := Lib.hid (show ∀ d : Nat, (d : Int) ∉ dks x ↔ hh d = false from fun d => by rw [← hhe]; exact (hasD_not x d).symm)
  rw [hhe] at HG
  unfold Ret gv at HG
  unfold gv
  obtain ⟨gi, gk, gA, gn, gcap, ges⟩ := x
  simp only at HG HP HM ⊢
  have hbox := Obj1.new w 37 #[.int .i64 gi, .int .i64 gk, .slice gA gn gcap]
  have hn := World.grownBy_alloc w (.cells #[.int .i64 gi, .int .i64 gk, .slice gA gn gcap] 37) none
  go_enter Try.func37, Try.ntmps37
  go_wp2_with fail
  have HBX := Lib.hid hbox
  have N0 := Lib.hid hn
  obtain ⟨W, hW⟩ : ∃ W, w.alloc (.cells #[.int .i64 gi, .int .i64 gk, .slice gA gn gcap] 37) = W := ⟨_, rfl⟩
  rw [hW] at HBX N0 ⊢
  obtain ⟨y, hy⟩ : ∃ y, w.heap.size = y := ⟨_, rfl⟩
  rw [hy] at HBX ⊢
  have HR := Lib.hid (hr.nw N0.out hB)
  have HBW := Lib.hid (Nat.le_trans hB N0.out.size)
  have HL := Lib.hid hlen
  clear hbox hW hr hy hn hhe hlen hB
  go_loopw [7] (fun v wr => ∃ k : Nat, k ≤ n ∧ v = .int .i64 k ∧ Hid (hangsUp s.testBit rs (dks ⟨gi, gk, gA, gn, gcap, ges⟩) k) ∧ Nw W wr) (fun v _ => n - (intOf v).toNat)
  case atStart => exact ⟨0, Nat.zero_le _, rfl, Lib.hid (fun d hd => absurd hd (by omega)), Nw.refl _⟩
  case round =>
    obtain ⟨k, hk, rfl, hu, hnw⟩ := hrel
    have HC := Lib.hid (HG.out wr (gb_trans N0.out hnw) (k : Int))
    have HX2 := Lib.hid (HBX.out.nw hnw)
    by_cases hlt : k < n
    · have hlt' : (k : Int) < (n : Int) := by omega
      have H1 := Lib.hid (fun (w' : World) (hw : Nw wr w') => atD ((HR.out.nw hnw HBW.out).nw hw (Nat.le_trans HBW.out hnw.size)) hlt)
      obtain ⟨b, off, hA, _⟩ := H1.out wr (Nw.refl _)
      subst hA
      have H2 := Lib.hid (show ∀ w', Nw wr w' → w'.cell? ⟨b, off + k, none⟩ = some (.int .i64 (rs.getD k 0)) from fun w' hw => by
        obtain ⟨b2, off2, e, h2⟩ := H1.out w' hw
        injection e with e; injection e with e1 e2; subst e1; subst e2; exact h2)
      clear H1
      obtain ⟨q, hq⟩ : ∃ q, hh k = q := ⟨_, rfl⟩
      rw [hq] at HC
      have HQ := Lib.hid ((HM.out k).trans (by rw [hq]))
      obtain ⟨x, hx⟩ : ∃ x, rs.getD k 0 = x := ⟨_, rfl⟩
      rw [hx] at H2
      have HX := Lib.hid hx
      have hbit := bit_even s k
      obtain ⟨t, ht⟩ : ∃ t, s.testBit k = t := ⟨_, rfl⟩
      rw [ht] at hbit
      have HT := Lib.hid ht
      clear hq hx ht
      rcases (show x ≤ 0 ∨ 0 < x by omega) with h0 | h0
      · have HU := Lib.hid (show hangsUp s.testBit rs (dks ⟨gi, gk, gA, gn, gcap, ges⟩) (k + 1) from fun d hd h1 h2 => by
          by_cases hdk : d = k
          · subst hdk; rw [HX.out] at h1; omega
          · exact hu.out d (by omega) h1 h2)
        clear hu
        go_wp2_with (first
          | ((with_reducible refine HC.out.mono ?_); rintro e w2 ⟨rfl, n2⟩; have hcell := H2.out w2 n2)
          | (refine wpList_load_obj 37 _ rfl rfl rfl HX2.out _ Try.underlying37 rfl (by kernel_rfl) ?_))
        go_roundw
        case rel => exact ⟨k + 1, by omega, by go_num, HU, gb_trans hnw n2⟩
        case measure => simp only [intOf]; omega
      · rcases q with _ | _
        · have hno : (k : Int) ∉ dks ⟨gi, gk, gA, gn, gcap, ges⟩ := HQ.out.2 rfl
          rcases t with _ | _
          · have HF := Lib.hid (show P = false by
              rw [← HP.out, ← Bool.not_eq_true, hangs_iff]
              intro hall
              have := hall k (by rw [HL.out]; exact hlt) (by rw [HX.out]; exact h0) hno
              rw [HT.out] at this; cases this)
            clear hno
            go_wp2_with (first
              | ((with_reducible refine HC.out.mono ?_); rintro e w2 ⟨rfl, n2⟩; have hcell := H2.out w2 n2)
              | (refine wpList_load_obj 37 _ rfl rfl rfl HX2.out _ Try.underlying37 rfl (by kernel_rfl) ?_))
            go_ret
            exact ⟨by rw [HF.out]; rfl, gb_trans N0.out (gb_trans hnw n2)⟩
          · have HU := Lib.hid (show hangsUp s.testBit rs (dks ⟨gi, gk, gA, gn, gcap, ges⟩) (k + 1) from fun d hd h1 h2 => by
              by_cases hdk : d = k
              · subst hdk; exact HT.out
              · exact hu.out d (by omega) h1 h2)
            clear hu
            clear hno
            go_wp2_with (first
              | ((with_reducible refine HC.out.mono ?_); rintro e w2 ⟨rfl, n2⟩; have hcell := H2.out w2 n2)
              | (refine wpList_load_obj 37 _ rfl rfl rfl HX2.out _ Try.underlying37 rfl (by kernel_rfl) ?_))
            go_roundw
            case rel => exact ⟨k + 1, by omega, by go_num, HU, gb_trans hnw n2⟩
            case measure => simp only [intOf]; omega
        · have HU := Lib.hid (show hangsUp s.testBit rs (dks ⟨gi, gk, gA, gn, gcap, ges⟩) (k + 1) from fun d hd h1 h2 => by
            by_cases hdk : d = k
            · subst hdk; exact absurd (HQ.out.1 h2) (by simp)
            · exact hu.out d (by omega) h1 h2)
          clear hu
          go_wp2_with (first
            | ((with_reducible refine HC.out.mono ?_); rintro e w2 ⟨rfl, n2⟩; have hcell := H2.out w2 n2)
            | (refine wpList_load_obj 37 _ rfl rfl rfl HX2.out _ Try.underlying37 rfl (by kernel_rfl) ?_))
          go_roundw
          case rel => exact ⟨k + 1, by omega, by go_num, HU, gb_trans hnw n2⟩
          case measure => simp only [intOf]; omega
    · have hkn : k = n := by omega
      subst hkn
      have HF := Lib.hid (show P = true by
        rw [← HP.out, hangs_iff, HL.out]
        exact hu.out)
      clear hu
      go_wp2
      go_ret
      exact ⟨by rw [HF.out]; rfl, gb_trans N0.out hnw⟩
end Go.Proofs.Ytobifmndpkjlmaa


/- The document's Safe and AllSafe: of each set of disks no more groups hang on it alone than it has room. -/
namespace Go.Proofs.Ytobifmndpkjlmaa
open Go.RowKit Go.BW

/-- does a group that has a disk hang on a set of others alone? -/
def hangB (rs : List Int) (lost : Int) (s : Nat) (g : Gp) : Bool := hasD g lost && hangs s.testBit rs (dks g)
def needOf (gs : List Gp) (rs : List Int) (lost : Int) (s : Nat) : Nat := gs.countP (hangB rs lost s)
def hallB (gs : List Gp) (rs : List Int) (lost : Int) : Bool := (List.range (2 ^ rs.length)).all fun s => decide (needOf gs rs lost s ≤ roomS s.testBit rs 0)
theorem hallB_no {gs : List Gp} {rs : List Int} {lost : Int} {s : Nat} (hs : s < 2 ^ rs.length) (h : roomS s.testBit rs 0 < needOf gs rs lost s) : hallB gs rs lost = false := by
  unfold hallB
  rw [← Bool.not_eq_true, List.all_eq_true]
  intro h2
  have := h2 s (List.mem_range.2 hs)
  rw [decide_eq_true_eq] at this
  omega
theorem hallB_yes {gs : List Gp} {rs : List Int} {lost : Int} (h : ∀ s, s < 2 ^ rs.length → needOf gs rs lost s ≤ roomS s.testBit rs 0) : hallB gs rs lost = true := by
  unfold hallB
  rw [List.all_eq_true]
  intro s hs
  rw [decide_eq_true_eq]
  exact h s (List.mem_range.1 hs)
theorem roomS_drop (S : Nat → Bool) (rs : List Int) (d : Nat) (h : d < rs.length) : roomS S (rs.drop d) d = (if S d then (rs.getD d 0).toNat else 0) + roomS S (rs.drop (d + 1)) (d + 1) := by
  rw [List.drop_eq_getElem_cons h, roomS, getD_at h]
theorem roomS_le (S : Nat → Bool) (M : Nat) : ∀ (rs : List Int) (k : Nat), (∀ r ∈ rs, r ≤ (M : Int)) → roomS S rs k ≤ rs.length * M
  | [], _, _ => by simp [roomS]
  | r :: rs, k, h => by
    have ih := roomS_le S M rs (k + 1) fun x hx => h x (List.mem_cons_of_mem _ hx)
    have := h r (by simp)
    rw [roomS, List.length_cons, Nat.succ_mul]
    split <;> omega
theorem countP_drop {α : Type} (p : α → Bool) {l : List α} {i : Nat} {x : α} (h : l[i]? = some x) : (l.drop i).countP p = (if p x then 1 else 0) + (l.drop (i + 1)).countP p := by
  obtain ⟨hi, rfl⟩ := List.getElem?_eq_some_iff.1 h
  rw [List.drop_eq_getElem_cons hi, List.countP_cons, Nat.add_comm]
set_option maxHeartbeats 4000000 in
theorem rsafe_any {w : World} {B n c m c2 : Nat} {A A2 : Option Addr} {rs : List Int} {gs : List Gp} (hg : GsR w B A2 m gs) (hr : Rd w B 1 A n (rs.map iv)) (hB : B ≤ w.heap.size) (h8 : n ≤ 8) (hm : m ≤ 1000000)
    (hM : ∀ r ∈ rs, r ≤ ((1000000 : Nat) : Int)) (lost : Int) :
    Calls Try.prog 21 #[.slice A2 m c2, .slice A n c, .int .i64 lost] w (Ret (.bool (hallB gs rs lost)) w) := by
  have hlen : rs.length = n := by have := hr.1; simpa using this
  have hglen := hg.len
  obtain ⟨R, hR⟩ : ∃ R, hallB gs rs lost = R := ⟨_, rfl⟩
  have HRES := Lib.hid hR
  rw [hR]
  have hp : 2 ^ n ≤ 2 ^ 8 := Nat.pow_le_pow_right (by decide) h8
  obtain ⟨N, hN⟩ : ∃ N, 2 ^ n = N := ⟨_, rfl⟩
  have hN8 : N ≤ 256 := by rw [← hN]; exact hp
  have HN := Lib.hid (show 2 ^ rs.length = N by rw [hlen]; exact hN)
  have hNz : ((2 : Int) ^ n) = (N : Int) := by rw [← hN, Int.natCast_pow]; rfl
  have HG := Lib.hid hg; have HR := Lib.hid hr; have HBW := Lib.hid hB; have HL := Lib.hid hlen; have HGL := Lib.hid hglen; have HMX := Lib.hid hM
  have HCP := Lib.hid (fun s => (List.countP_le_length : gs.countP (hangB rs lost s) ≤ gs.length))
  have HRM := Lib.hid (fun s => roomS_le (Nat.testBit s) 1000000 rs 0 hM)
  clear hR hp hN hg hr hB hlen hglen hM
  go_enter Try.func21, Try.ntmps21
  go_wp2_with fail
  go_loopw [7] (fun v wr => ∃ s : Nat, s ≤ N ∧ v = .int .i64 s ∧ Hid (∀ t, t < s → needOf gs rs lost t ≤ roomS t.testBit rs 0) ∧ Nw w wr) (fun v _ => N - (intOf v).toNat)
  case atStart => exact ⟨0, Nat.zero_le _, rfl, Lib.hid (fun d hd => absurd hd (by omega)), Nw.refl _⟩
  case round =>
    obtain ⟨s, hs, rfl, hu, hnw⟩ := hrel
    obtain ⟨wa, rfl⟩ : ∃ q, q = wr := ⟨_, rfl⟩
    by_cases hlt : s < N
    · have hlt' : (s : Int) < (N : Int) := by omega
      obtain ⟨T, hT⟩ : ∃ T, roomS (Nat.testBit s) rs 0 = T := ⟨_, rfl⟩
      have hT8 : T ≤ 8000000 := by have := HRM.out s; rw [hT, HL.out] at this; omega
      have HT := Lib.hid hT
      clear hT
      go_wp2_with fail
      go_loopw [8, 9] (fun r v wr2 => ∃ (d acc : Nat), d ≤ n ∧ v = .int .i64 d ∧ r = .int .i64 acc ∧ acc ≤ T ∧ Hid (acc + roomS (Nat.testBit s) (rs.drop d) d = T) ∧ Nw wa wr2) (fun _ v _ => n - (intOf v).toNat)
      case atStart => exact ⟨0, 0, Nat.zero_le _, rfl, rfl, Nat.zero_le _, Lib.hid (by rw [List.drop_zero, HT.out, Nat.zero_add]), Nw.refl _⟩
      case round =>
        obtain ⟨d, acc, hd, rfl, rfl, hacc, hsum, hnw2⟩ := hrel
        obtain ⟨wb, rfl⟩ : ∃ q, q = wr := ⟨_, rfl⟩
        by_cases hlt2 : d < n
        · have hlt2' : (d : Int) < (n : Int) := by omega
          obtain ⟨b, off, hA, hcell⟩ := atD ((HR.out.nw hnw HBW.out).nw hnw2 (Nat.le_trans HBW.out hnw.size)) hlt2
          subst hA
          obtain ⟨x, hx⟩ : ∃ x, rs.getD d 0 = x := ⟨_, rfl⟩
          have hstep := hsum.out
          rw [roomS_drop _ _ _ (by rw [HL.out]; exact hlt2), hx] at hstep
          rw [hx] at hcell
          have hbit := bit_odd s d
          obtain ⟨t, ht⟩ : ∃ t, s.testBit d = t := ⟨_, rfl⟩
          rw [ht] at hbit hstep
          clear hx ht hsum
          rcases t with _ | _
          · simp only [Bool.false_eq_true, if_false, Nat.zero_add] at hstep
            have HS := Lib.hid hstep
            clear hstep
            go_wp2
            go_roundw
            case rel => exact ⟨d + 1, acc, by omega, by go_num, rfl, hacc, HS, hnw2⟩
            case measure => simp only [intOf]; omega
          · simp only [if_true] at hstep
            rcases (show x ≤ 0 ∨ 0 < x by omega) with h0 | h0
            · have HS := Lib.hid (show acc + roomS (Nat.testBit s) (rs.drop (d + 1)) (d + 1) = T by omega)
              clear hstep
              go_wp2
              go_roundw
              case rel => exact ⟨d + 1, acc, by omega, by go_num, rfl, hacc, HS, hnw2⟩
              case measure => simp only [intOf]; omega
            · obtain ⟨z, rfl⟩ := Int.eq_ofNat_of_zero_le (Int.le_of_lt h0)
              have HS := Lib.hid (show acc + z + roomS (Nat.testBit s) (rs.drop (d + 1)) (d + 1) = T by simp at hstep; omega)
              have hz : acc + z ≤ T := by have := HS.out; omega
              have h0' : (0 : Int) < (z : Int) := h0
              clear hstep h0
              go_wp2
              go_roundw
              case rel => exact ⟨d + 1, acc + z, by omega, by go_num, by go_num, hz, HS, hnw2⟩
              case measure => simp only [intOf]; omega
        · have hd' : d = n := by omega
          have hT' : acc = T := by
            have := hsum.out
            rw [hd', List.drop_of_length_le (by rw [HL.out]; exact Nat.le_refl _)] at this
            simpa [roomS] using this
          subst hT'
          have hdn : ¬ (d : Int) < (n : Int) := by omega
          clear hsum hd'
          go_wp2_with fail
          go_loopw [10, 11] (fun r v wr3 => ∃ (i ne : Nat), i ≤ m ∧ v = .int .i64 i ∧ r = .int .i64 ne ∧ ne ≤ i ∧ Hid (ne + (gs.drop i).countP (hangB rs lost s) = needOf gs rs lost s) ∧ Nw wb wr3) (fun _ v _ => m - (intOf v).toNat)
          case atStart => exact ⟨0, 0, Nat.zero_le _, rfl, rfl, Nat.zero_le _, Lib.hid (by rw [List.drop_zero, Nat.zero_add]; rfl), Nw.refl _⟩
          case round =>
            obtain ⟨i, ne, hi, rfl, rfl, hne, hsum, hnw3⟩ := hrel
            have NW := Lib.hid (gb_trans (gb_trans hnw hnw2) hnw3)
            by_cases hlt3 : i < m
            · have hlt3' : (i : Int) < (m : Int) := by omega
              have HG3 := Lib.hid (HG.out.nw NW.out HBW.out)
              have HB3 := Lib.hid (Nat.le_trans HBW.out NW.out.size)
              obtain ⟨_, b, off, x, hA, _, hx, _⟩ := HG3.out.rd.atL gc_len (by decide) hlt3
              subst hA
              have HC := Lib.hid (show ∀ w', Nw wr w' → ∀ j u, (gc x)[j]? = some u → w'.cell? ⟨b, off + i * 3 + j, none⟩ = some u from fun w' hw => by
                obtain ⟨_, b2, off2, x2, e, _, hx2, hc2⟩ := (HG3.out.rd.nw hw HB3.out).atL gc_len (by decide) hlt3
                injection e with e; injection e with e1 e2; subst e1; subst e2
                have : x2 = x := by rw [hx] at hx2; injection hx2 with hx2; exact hx2.symm
                subst this; exact hc2)
              have hok := HG3.out.all x (List.mem_of_getElem? hx)
              have HH := Lib.hid (show Calls Try.prog 18 #[.agg (gc x).toArray, .int .i64 lost] wr (Ret (.bool (hasD x lost)) wr) from rhas_any hok HB3.out lost)
              have HO := Lib.hid (fun (w' : World) (hw : Nw wr w') => show Calls Try.prog 37 #[.agg (gc x).toArray, .slice A n c, .int .i64 s] w' (Ret (.bool (hangs s.testBit rs (dks x))) w') from
                only_any (hok.nw hw HB3.out) (HR.out.nw (gb_trans NW.out hw) HBW.out) (Nat.le_trans HB3.out hw.size) h8 (by omega))
              have hstep := hsum.out
              rw [countP_drop _ hx] at hstep
              have hpq : hangB rs lost s x = (hasD x lost && hangs s.testBit rs (dks x)) := rfl
              obtain ⟨q1, h1⟩ : ∃ q, hasD x lost = q := ⟨_, rfl⟩
              obtain ⟨q2, h2⟩ : ∃ q, hangs s.testBit rs (dks x) = q := ⟨_, rfl⟩
              rw [h1, h2] at hpq
              rw [hpq] at hstep
              rw [h1] at HH
              rw [h2] at HO
              unfold Ret at HH HO
              clear h1 h2 hpq hsum hok hx
              rcases q1 with _ | _
              · have HS := Lib.hid (show ne + (gs.drop (i + 1)).countP (hangB rs lost s) = needOf gs rs lost s by simpa using hstep)
                clear hstep
                go_wp2_with (first | ((with_reducible refine (HO.out _ n2).mono ?_); rintro e w3 ⟨rfl, n3⟩) | ((with_reducible refine HH.out.mono ?_); rintro e w2 ⟨rfl, n2⟩; have HC2 := Lib.hid (HC.out w2 n2)) | (refine wpList_load_agg 37 _ rfl rfl rfl (gc x) HC2.out _ Try.underlying37 rfl (by rw [gc_len]; kernel_rfl) ?_) | (refine wpList_load_agg 37 _ rfl rfl rfl (gc x) (HC.out wr (Nw.refl _)) _ Try.underlying37 rfl (by rw [gc_len]; kernel_rfl) ?_))
                go_roundw
                case rel => exact ⟨i + 1, ne, by omega, by go_num, rfl, by omega, HS, gb_trans hnw3 (gb_trans n2 n3)⟩
                case measure => simp only [intOf]; omega
              · rcases q2 with _ | _
                · have HS := Lib.hid (show ne + (gs.drop (i + 1)).countP (hangB rs lost s) = needOf gs rs lost s by simpa using hstep)
                  clear hstep
                  go_wp2_with (first | ((with_reducible refine (HO.out _ n2).mono ?_); rintro e w3 ⟨rfl, n3⟩) | ((with_reducible refine HH.out.mono ?_); rintro e w2 ⟨rfl, n2⟩; have HC2 := Lib.hid (HC.out w2 n2)) | (refine wpList_load_agg 37 _ rfl rfl rfl (gc x) HC2.out _ Try.underlying37 rfl (by rw [gc_len]; kernel_rfl) ?_) | (refine wpList_load_agg 37 _ rfl rfl rfl (gc x) (HC.out wr (Nw.refl _)) _ Try.underlying37 rfl (by rw [gc_len]; kernel_rfl) ?_))
                  go_roundw
                  case rel => exact ⟨i + 1, ne, by omega, by go_num, rfl, by omega, HS, gb_trans hnw3 (gb_trans n2 n3)⟩
                  case measure => simp only [intOf]; omega
                · have HS := Lib.hid (show ne + 1 + (gs.drop (i + 1)).countP (hangB rs lost s) = needOf gs rs lost s by simp at hstep; omega)
                  clear hstep
                  go_wp2_with (first | ((with_reducible refine (HO.out _ n2).mono ?_); rintro e w3 ⟨rfl, n3⟩) | ((with_reducible refine HH.out.mono ?_); rintro e w2 ⟨rfl, n2⟩; have HC2 := Lib.hid (HC.out w2 n2)) | (refine wpList_load_agg 37 _ rfl rfl rfl (gc x) HC2.out _ Try.underlying37 rfl (by rw [gc_len]; kernel_rfl) ?_) | (refine wpList_load_agg 37 _ rfl rfl rfl (gc x) (HC.out wr (Nw.refl _)) _ Try.underlying37 rfl (by rw [gc_len]; kernel_rfl) ?_))
                  go_roundw
                  case rel => exact ⟨i + 1, ne + 1, by omega, by go_num, by go_num, by omega, HS, gb_trans hnw3 (gb_trans n2 n3)⟩
                  case measure => simp only [intOf]; omega
            · have hne' : ne = needOf gs rs lost s := by
                have := hsum.out
                rw [List.drop_of_length_le (by rw [HGL.out]; omega)] at this
                simpa using this
              have HNE := Lib.hid hne'
              clear hne' hsum
              rcases (show ne ≤ acc ∨ acc < ne by omega) with h5 | h5
              · have HU := Lib.hid (show ∀ t, t < s + 1 → needOf gs rs lost t ≤ roomS t.testBit rs 0 from fun t ht => by
                  by_cases hts : t = s
                  · subst hts; rw [← HNE.out, HT.out]; exact h5
                  · exact hu.out t (by omega))
                have h5' : (ne : Int) ≤ (acc : Int) := by omega
                go_wp2
                go_roundw
                case rel => exact ⟨s + 1, by omega, by go_num, HU, NW.out⟩
                case measure => simp only [intOf]; omega
              · have HF := Lib.hid (show R = false by
                  rw [← HRES.out]
                  refine hallB_no (s := s) (by rw [HN.out]; exact hlt) ?_
                  rw [← HNE.out, HT.out]; exact h5)
                have h5' : (acc : Int) < (ne : Int) := by omega
                go_wp2
                go_ret
                exact ⟨by rw [HF.out]; rfl, NW.out⟩
    · have hsn : s = N := by omega
      subst hsn
      have HF := Lib.hid (show R = true by
        rw [← HRES.out]
        refine hallB_yes fun t ht => hu.out t (by rwa [HN.out] at ht))
      clear hu
      go_wp2
      go_ret
      exact ⟨by rw [HF.out]; rfl, hnw⟩
end Go.Proofs.Ytobifmndpkjlmaa

