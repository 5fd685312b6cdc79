/- The program's reader of bytes: what its take, number and byte return, for all bytes. -/
import Derived.Test.YtmcgfnfhpcddlaaF
import Derived.Laws.Bits64b
namespace Go.Proofs.Ytmcgfnfhpcddlaa
open Go.RowKit Go.BW

/-- a reader: what is left lies below B -/
def RO (w : World) (B g : Nat) (r : Rs) : Prop := B ≤ g ∧ ∃ A n c, Obj1 w g 85 #[.slice A n c, .bool r.sh] ∧ Rd w B 1 A n (r.l.map bv) ∧ n ≤ c ∧ c ≤ maxLen
section
variable {w w' : World} {B g : Nat} {r : Rs} {F : List Nat}
theorem RO.chg (h : RO w B g r) (k : Chg w w' F) (hg : g ∉ F) (hF : ∀ q ∈ F, B ≤ q) : RO w' B g r := by
  obtain ⟨h1, A, n, c, h2, h3, h4⟩ := h
  have hlt := h2.lt
  exact ⟨h1, A, n, c, h2.chg k hg, h3.keep (fun p hp => World.cell?_of_block (k.block p.block (by omega) (fun hm => by have := hF _ hm; omega))), h4⟩
theorem RO.lt (h : RO w B g r) : g < w.heap.size := by obtain ⟨_, _, _, _, h2, _⟩ := h; exact h2.lt
theorem RO.nw (h : RO w B g r) (k : Nw w w') : RO w' B g r := h.chg (F := []) (Chg.of_nw k) (by simp) (by simp)
end
def TakePost (B g n : Nat) (r : Rs) (w : World) (e : Ending) (w' : World) : Prop :=
  ∃ A c, e = .returned (.slice A n c) ∧ n ≤ c ∧ Rd w' w'.heap.size 1 A n ((takeR n r).1.map bv) ∧ RO w' B g (takeR n r).2 ∧ Chg w w' [g]
theorem made_zero (n : Nat) : (madeCells (Value.int .u8 0).cells (n * 1)).toList = (List.replicate n (0 : UInt8)).map bv := by
  rw [Nat.mul_one]
  unfold madeCells
  apply List.ext_getElem
  · simp [Value.cells]
  · intro i h1 h2
    simp [Value.cells, bv, Nat.mod_one]
set_option maxHeartbeats 2000000 in
theorem take_any {w : World} {B g : Nat} {r : Rs} (h : RO w B g r) (n : Nat) (hn : n ≤ 1000000) {K : Int} (hK : K = (n : Int)) : Calls Try.prog 41 #[.pointer (some ⟨g, 0, none⟩), .int .i64 K] w (TakePost B g n r w) := by
  subst hK
  obtain ⟨hB, A, m, c, ho, hr, hc, hcm⟩ := h
  have hl : r.l.length = m := by have := hr.1; simpa using this
  have c0 := ho.cell 0; have c1 := ho.cell 1; have f0 := ho.frozen 0; have f1 := ho.frozen 1
  have OB := Lib.hid ho; have HR := Lib.hid hr
  have hlt := ho.lt
  unfold maxLen at hcm
  rcases Nat.lt_or_ge m n with h1 | h1
  · have d1 : (m : Int) < (n : Int) := by omega
    have e1 : takeR n r = (List.replicate n 0, ⟨r.l, true⟩) := by unfold takeR; rw [if_pos (by omega)]
    have HE := Lib.hid e1
    have o1 : Obj1 (w.setCell ⟨g, 1, none⟩ (.bool true)) g 85 #[.slice A m c, .bool true] := ho.set 1 _
    have k1 : Chg w (w.setCell ⟨g, 1, none⟩ (.bool true)) [g] := Chg.set w (p := ⟨g, 1, none⟩) (List.mem_cons_self ..) _
    obtain ⟨W, hW⟩ : ∃ W, w.setCell ⟨g, 1, none⟩ (.bool true) = W := ⟨_, rfl⟩
    rw [hW] at o1 k1
    have O1 := Lib.hid o1; have K1 := Lib.hid k1
    clear ho hr o1 k1 e1
    go_enter Try.func41, Try.ntmps41
    go_wp2_with (first | (refine wpList_make T46 _ _ rfl rfl W.heap.size .i64 .i64 _ _ n rfl rfl rfl rfl (by unfold maxLen; omega) (Nat.le_refl _) ?_; intro t w3 o3 n3 t3))
    go_ret
    rw [made_zero] at o3
    have hr2 : Rd w3 B 1 A m (r.l.map bv) := HR.out.keep (fun p hp => (World.cell?_of_block (n3.block p.block (by have := K1.out.size; omega) (by simp))).trans (World.cell?_of_block (K1.out.block p.block (by omega) (by simp; omega))))
    refine ⟨_, _, rfl, Nat.le_refl _, ?_, ?_, K1.out.trans (Chg.of_nw n3) (fun x hx => .inl hx)⟩
    · rw [HE.out]; exact o3.rd
    · rw [HE.out]; exact ⟨hB, A, m, c, O1.out.nw n3, hr2, hc, by unfold maxLen; omega⟩
  · have d1 : decide ((m : Int) < (n : Int)) = false := by simp; omega
    have e1 : takeR n r = (r.l.take n, ⟨r.l.drop n, r.sh⟩) := by unfold takeR; rw [if_neg (by omega)]
    have HE := Lib.hid e1
    obtain ⟨A', hA'⟩ : ∃ A', cutA A c n 1 = A' := ⟨_, rfl⟩
    have hrd := hr.drop (k := n) (cap := c) h1 hc
    rw [show (if c = n then A else A.map (·.add (n * 1))) = A' from hA'] at hrd
    have o1 : Obj1 (w.setCell ⟨g, 0, none⟩ (.slice A' (m - n) (c - n))) g 85 #[.slice A' (m - n) (c - n), .bool r.sh] := ho.set 0 _
    have k1 : Chg w (w.setCell ⟨g, 0, none⟩ (.slice A' (m - n) (c - n))) [g] := Chg.set w (p := ⟨g, 0, none⟩) (List.mem_cons_self ..) _
    have O1 := Lib.hid o1; have K1 := Lib.hid k1; have RD := Lib.hid hrd
    have hkc : n ≤ c := by omega
    clear ho hr o1 k1 e1 hrd
    go_enter Try.func41, Try.ntmps41
    go_wp2_with (first
      | (refine wpList_slice_lo 46 5 Try.underlying46 1 i5 _ _ rfl rfl A m c n _ rfl rfl rfl h1 hc hA' rfl rfl ?_)
      | (refine wpList_slice_hi 46 5 Try.underlying46 (size := 1) i5 _ _ rfl rfl A m c n rfl rfl hkc ?_))
    go_ret
    have hk : ∀ p : Addr, p.block < B → (w.setCell ⟨g, 0, none⟩ (.slice A' (m - n) (c - n))).cell? p = w.cell? p := fun p hp => World.cell?_of_block (K1.out.block p.block (by omega) (by simp; omega))
    refine ⟨A, c, rfl, hkc, ?_, ?_, K1.out⟩
    · rw [HE.out]
      have := ((HR.out.take h1).keep hk).more (B' := (w.setCell ⟨g, 0, none⟩ (.slice A' (m - n) (c - n))).heap.size) (by have := K1.out.size; omega)
      simpa [List.map_take] using this
    · rw [HE.out]
      have := RD.out.keep hk
      exact ⟨hB, A', m - n, c - n, O1.out, by simpa [List.map_drop] using this, by omega, by unfold maxLen; omega⟩
def NumPost (B g w0 : Nat) (r : Rs) (w : World) (e : Ending) (w' : World) : Prop := e = .returned (.int .u64 ((numR w0 r).1 : Int)) ∧ RO w' B g (numR w0 r).2 ∧ Chg w w' [g]
theorem val_snoc (l : List UInt8) (c : UInt8) : val (l ++ [c]) = val l * 256 + c.toNat := by
  unfold val; rw [List.foldl_append]; rfl
theorem or_u64 (V d : Nat) (hV : V < 72057594037927936) (hd : d < 256) : bits .or .u64 ((V : Int) * 256) (d : Int) = ((V * 256 + d : Nat) : Int) := by
  have e : ((V : Int) * 256) = ((V * 256 : Nat) : Int) := by omega
  rw [e, bits_or_u64_nat _ _ (by omega) (by omega)]
  have e2 : V * 256 = V <<< 8 := by rw [Nat.shiftLeft_eq]
  rw [e2, ← Nat.shiftLeft_add_eq_or_of_lt (by omega : d < 2 ^ 8)]
set_option maxHeartbeats 2000000 in
theorem number_any {w : World} {B g : Nat} {r : Rs} (h : RO w B g r) (n : Nat) (hn : n ≤ 8) {K : Int} (hK : K = (n : Int)) : Calls Try.prog 42 #[.pointer (some ⟨g, 0, none⟩), .int .i64 K] w (NumPost B g n r w) := by
  subst hK
  have HT := Lib.hid (take_any h n (by omega) rfl)
  unfold TakePost at HT
  have hlen := takeR_len n r
  have hN : numR n r = (val (takeR n r).1, (takeR n r).2) := rfl
  unfold NumPost
  rw [hN]
  obtain ⟨p, hp⟩ : ∃ p, takeR n r = p := ⟨_, rfl⟩
  rw [hp] at HT hlen ⊢
  obtain ⟨ds, r2⟩ := p
  simp only at HT hlen ⊢
  clear hN hp
  go_enter Try.func42, Try.ntmps42
  go_wp2_with (first | ((with_reducible refine HT.out.mono ?_); rintro e w2 ⟨A, c, rfl, hc, rd, ro, kk⟩; have RD := Lib.hid rd; have RO2 := Lib.hid ro; have KK := Lib.hid kk; clear rd ro kk))
  go_loopw [5, 12] (fun v i wr => ∃ k : Nat, k ≤ n ∧ i = .int .i64 k ∧ v = .int .u64 (val (ds.take k) : Int) ∧ Nw w2 wr) (fun _ i _ => n - (intOf i).toNat)
  case atStart => exact ⟨0, Nat.zero_le _, rfl, rfl, Nw.refl _⟩
  case round =>
    obtain ⟨k, hk, rfl, rfl, hnw⟩ := hrel
    by_cases hlt : k < n
    · obtain ⟨b, off, rfl, hz, hcell⟩ := (RD.out.nw hnw (Nat.le_refl _)).atB hlt
      have hlt' : (k : Int) < (n : Int) := by omega
      have hv := val_lt (ds.take k)
      rw [List.length_take, Nat.min_eq_left (by omega)] at hv
      have hp : (256 : Nat) ^ k ≤ 256 ^ 7 := Nat.pow_le_pow_right (by decide) (by omega)
      have hstep : val (ds.take (k + 1)) = val (ds.take k) * 256 + ds[k].toNat := by
        rw [List.take_succ_eq_append_getElem hz, val_snoc]
      have HS := Lib.hid hstep
      obtain ⟨V, hV⟩ : ∃ V, val (ds.take k) = V := ⟨_, rfl⟩
      obtain ⟨d, hd⟩ : ∃ d, ds[k] = d := ⟨_, rfl⟩
      rw [hV] at HS hv
      rw [hd] at HS hcell
      have hV7 : V < 72057594037927936 := Nat.lt_of_lt_of_le hv (by simpa using hp)
      have hd8 : d.toNat < 256 := d.toNat_lt
      rw [hV]
      clear hstep hd hV hv hp hz
      go_wp2
      go_roundw
      case rel =>
        refine ⟨k + 1, by omega, by go_num, ?_, hnw⟩
        rw [HS.out, or_u64 V d.toNat hV7 hd8]
      case measure => simp only [intOf]; omega
    · have hkn : k = n := by omega
      subst hkn
      have hd : decide ((k : Int) < (k : Int)) = false := by simp
      rw [List.take_of_length_le (by omega)]
      go_wp2
      go_ret
      exact ⟨rfl, RO2.out.nw hnw, KK.out.trans (Chg.of_nw hnw) (fun x hx => .inl hx)⟩
def BytePost (B g : Nat) (r : Rs) (w : World) (e : Ending) (w' : World) : Prop := e = .returned (.int .i64 ((numR 1 r).1 : Int)) ∧ RO w' B g (numR 1 r).2 ∧ Chg w w' [g]
theorem byte_any {w : World} {B g : Nat} {r : Rs} (h : RO w B g r) : Calls Try.prog 43 #[.pointer (some ⟨g, 0, none⟩)] w (BytePost B g r w) := by
  have HN := Lib.hid (number_any h 1 (by omega) (K := 1) rfl)
  have hlt := numR_lt 1 r
  unfold NumPost at HN
  unfold BytePost
  obtain ⟨p, hp⟩ : ∃ p, numR 1 r = p := ⟨_, rfl⟩
  rw [hp] at HN hlt ⊢
  obtain ⟨v, r2⟩ := p
  simp only at HN hlt ⊢
  have hv : v < 256 := by simpa using hlt
  clear hp hlt
  go_enter Try.func43, Try.ntmps43
  go_wp2_with (first | ((with_reducible refine HN.out.mono ?_); rintro e w2 ⟨rfl, ro, kk⟩))
  go_ret
  exact ⟨by first | rfl | (congr 2; omega), ro, kk⟩
end Go.Proofs.Ytmcgfnfhpcddlaa

