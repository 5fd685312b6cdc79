/- The program's reader of bytes: what its take, number and byte return, for all bytes. -/
import Derived.Test.YtmcgfnfhpcddlaaJG
import Derived.Laws.Bits64b
import Derived.ScopeJumps
import Derived.WalkMore
set_option linter.unusedVariables false
set_option linter.unusedSimpArgs false
/- The program's reader of bytes: what its take, number and byte return, for all bytes. -/
namespace Go.Proofs.Ytmcgfnfhpcddlaa
open Go.RowKit Go.BW

/-- a reader: what is left lies below B -/
def RO (w : World) (B g : Nat) (r : Rs) : Prop := B ≤ g ∧ ∃ A n c, Obj1 w g 85 #[.slice A n c, .bool r.sh] ∧ Rd w B 1 A n (r.l.map bv) ∧ n ≤ c ∧ c ≤ maxLen
section
variable {w w' : World} {B g : Nat} {r : Rs} {F : List Nat}
theorem RO.chg (h : RO w B g r) (k : Chg w w' F) (hg : g ∉ F) (hF : ∀ q ∈ F, B ≤ q) : RO w' B g r := by
  obtain ⟨h1, A, n, c, h2, h3, h4⟩ := h
  have hlt := h2.lt
  exact ⟨h1, A, n, c, h2.chg k hg, h3.keep (fun p hp => World.cell?_of_block (k.block p.block (by omega) (fun hm => by have := hF _ hm; omega))), h4⟩
theorem RO.lt (h : RO w B g r) : g < w.heap.size := by obtain ⟨_, _, _, _, h2, _⟩ := h; exact h2.lt
theorem RO.nw (h : RO w B g r) (k : Nw w w') : RO w' B g r := h.chg (F := []) (Chg.of_nw k) (by simp) (by simp)
end
def TakePost (B g n : Nat) (r : Rs) (w : World) (e : Ending) (w' : World) : Prop :=
  ∃ A c, e = .returned (.slice A n c) ∧ n ≤ c ∧ Rd w' w'.heap.size 1 A n ((takeR n r).1.map bv) ∧ RO w' B g (takeR n r).2 ∧ Chg w w' [g]
theorem made_zero (n : Nat) : (madeCells (Value.int .u8 0).cells (n * 1)).toList = (List.replicate n (0 : UInt8)).map bv := by
  rw [Nat.mul_one]
  unfold madeCells
  apply List.ext_getElem
  · simp [Value.cells]
  · intro i h1 h2
    simp [Value.cells, bv, Nat.mod_one]
set_option maxHeartbeats 2000000 in
theorem take_any {w : World} {B g : Nat} {r : Rs} (h : RO w B g r) (n : Nat) (hn : n ≤ 1000000) {K : Int} (hK : K = (n : Int)) : Calls Try.prog 41 #[.pointer (some ⟨g, 0, none⟩), .int .i64 K] w (TakePost B g n r w) := by
  subst hK
  obtain ⟨hB, A, m, c, ho, hr, hc, hcm⟩ := h
  have hl : r.l.length = m := by have := hr.1; simpa using this
  have c0 := ho.cell 0; have c1 := ho.cell 1; have f0 := ho.frozen 0; have f1 := ho.frozen 1
  have OB := Lib.hid ho; have HR := Lib.hid hr
  have hlt := ho.lt
  unfold maxLen at hcm
  rcases Nat.lt_or_ge m n with h1 | h1
  · have d1 : (m : Int) < (n : Int) := by omega
    have e1 : takeR n r = (List.replicate n 0, ⟨r.l, true⟩) := by unfold takeR; rw [if_pos (by omega)]
    have HE := Lib.hid e1
    have o1 : Obj1 (w.setCell ⟨g, 1, none⟩ (.bool true)) g 85 #[.slice A m c, .bool true] := ho.set 1 _
    have k1 : Chg w (w.setCell ⟨g, 1, none⟩ (.bool true)) [g] := Chg.set w (p := ⟨g, 1, none⟩) (List.mem_cons_self ..) _
    obtain ⟨W, hW⟩ : ∃ W, w.setCell ⟨g, 1, none⟩ (.bool true) = W := ⟨_, rfl⟩
    rw [hW] at o1 k1
    have O1 := Lib.hid o1; have K1 := Lib.hid k1
    clear ho hr o1 k1 e1
    go_enter Try.func41, Try.ntmps41
    go_wp2_with (first | (refine wpList_make T46 _ _ rfl rfl W.heap.size .i64 .i64 _ _ n rfl rfl rfl rfl (by unfold maxLen; omega) (Nat.le_refl _) ?_; intro t w3 o3 n3 t3))
    go_ret
    rw [made_zero] at o3
    have hr2 : Rd w3 B 1 A m (r.l.map bv) := HR.out.keep (fun p hp => (World.cell?_of_block (n3.block p.block (by have := K1.out.size; omega) (by simp))).trans (World.cell?_of_block (K1.out.block p.block (by omega) (by simp; omega))))
    refine ⟨_, _, rfl, Nat.le_refl _, ?_, ?_, K1.out.trans (Chg.of_nw n3) (fun x hx => .inl hx)⟩
    · rw [HE.out]; exact o3.rd
    · rw [HE.out]; exact ⟨hB, A, m, c, O1.out.nw n3, hr2, hc, by unfold maxLen; omega⟩
  · have d1 : decide ((m : Int) < (n : Int)) = false := by simp; omega
    have e1 : takeR n r = (r.l.take n, ⟨r.l.drop n, r.sh⟩) := by unfold takeR; rw [if_neg (by omega)]
    have HE := Lib.hid e1
    obtain ⟨A', hA'⟩ : ∃ A', cutA A c n 1 = A' := ⟨_, rfl⟩
    have hrd := hr.drop (k := n) (cap := c) h1 hc
    rw [show (if c = n then A else A.map (·.add (n * 1))) = A' from hA'] at hrd
    have o1 : Obj1 (w.setCell ⟨g, 0, none⟩ (.slice A' (m - n) (c - n))) g 85 #[.slice A' (m - n) (c - n), .bool r.sh] := ho.set 0 _
    have k1 : Chg w (w.setCell ⟨g, 0, none⟩ (.slice A' (m - n) (c - n))) [g] := Chg.set w (p := ⟨g, 0, none⟩) (List.mem_cons_self ..) _
    have O1 := Lib.hid o1; have K1 := Lib.hid k1; have RD := Lib.hid hrd
    have hkc : n ≤ c := by omega
    clear ho hr o1 k1 e1 hrd
    go_enter Try.func41, Try.ntmps41
    go_wp2_with (first
      | (refine wpList_slice_lo 46 5 Try.underlying46 1 i5 _ _ rfl rfl A m c n _ rfl rfl rfl h1 hc hA' rfl rfl ?_)
      | (refine wpList_slice_hi 46 5 Try.underlying46 (size := 1) i5 _ _ rfl rfl A m c n rfl rfl hkc ?_))
    go_ret
    have hk : ∀ p : Addr, p.block < B → (w.setCell ⟨g, 0, none⟩ (.slice A' (m - n) (c - n))).cell? p = w.cell? p := fun p hp => World.cell?_of_block (K1.out.block p.block (by omega) (by simp; omega))
    refine ⟨A, c, rfl, hkc, ?_, ?_, K1.out⟩
    · rw [HE.out]
      have := ((HR.out.take h1).keep hk).more (B' := (w.setCell ⟨g, 0, none⟩ (.slice A' (m - n) (c - n))).heap.size) (by have := K1.out.size; omega)
      simpa [List.map_take] using this
    · rw [HE.out]
      have := RD.out.keep hk
      exact ⟨hB, A', m - n, c - n, O1.out, by simpa [List.map_drop] using this, by omega, by unfold maxLen; omega⟩
def NumPost (B g w0 : Nat) (r : Rs) (w : World) (e : Ending) (w' : World) : Prop := e = .returned (.int .u64 ((numR w0 r).1 : Int)) ∧ RO w' B g (numR w0 r).2 ∧ Chg w w' [g]
theorem val_snoc (l : List UInt8) (c : UInt8) : val (l ++ [c]) = val l * 256 + c.toNat := by
  unfold val; rw [List.foldl_append]; rfl
theorem or_u64 (V d : Nat) (hV : V < 72057594037927936) (hd : d < 256) : bits .or .u64 ((V : Int) * 256) (d : Int) = ((V * 256 + d : Nat) : Int) := by
  have e : ((V : Int) * 256) = ((V * 256 : Nat) : Int) := by omega
  rw [e, bits_or_u64_nat _ _ (by omega) (by omega)]
  have e2 : V * 256 = V <<< 8 := by rw [Nat.shiftLeft_eq]
  rw [e2, ← Nat.shiftLeft_add_eq_or_of_lt (by omega : d < 2 ^ 8)]
set_option maxHeartbeats 2000000 in
theorem number_any {w : World} {B g : Nat} {r : Rs} (h : RO w B g r) (n : Nat) (hn : n ≤ 8) {K : Int} (hK : K = (n : Int)) : Calls Try.prog 42 #[.pointer (some ⟨g, 0, none⟩), .int .i64 K] w (NumPost B g n r w) := by
  subst hK
  have HT := Lib.hid (take_any h n (by omega) rfl)
  unfold TakePost at HT
  have hlen := takeR_len n r
  have hN : numR n r = (val (takeR n r).1, (takeR n r).2) := rfl
  unfold NumPost
  rw [hN]
  obtain ⟨p, hp⟩ : ∃ p, takeR n r = p := ⟨_, rfl⟩
  rw [hp] at HT hlen ⊢
  obtain ⟨ds, r2⟩ := p
  simp only at HT hlen ⊢
  clear hN hp
  go_enter Try.func42, Try.ntmps42
  go_wp2_with (first | ((with_reducible refine HT.out.mono ?_); rintro e w2 ⟨A, c, rfl, hc, rd, ro, kk⟩; have RD := Lib.hid rd; have RO2 := Lib.hid ro; have KK := Lib.hid kk; clear rd ro kk))
  go_loopw [5, 12] (fun v i wr => ∃ k : Nat, k ≤ n ∧ i = .int .i64 k ∧ v = .int .u64 (val (ds.take k) : Int) ∧ Nw w2 wr) (fun _ i _ => n - (intOf i).toNat)
  case atStart => exact ⟨0, Nat.zero_le _, rfl, rfl, Nw.refl _⟩
  case round =>
    obtain ⟨k, hk, rfl, rfl, hnw⟩ := hrel
    by_cases hlt : k < n
    · obtain ⟨b, off, rfl, hz, hcell⟩ := (RD.out.nw hnw (Nat.le_refl _)).atB hlt
      have hlt' : (k : Int) < (n : Int) := by omega
      have hv := val_lt (ds.take k)
      rw [List.length_take, Nat.min_eq_left (by omega)] at hv
      have hp : (256 : Nat) ^ k ≤ 256 ^ 7 := Nat.pow_le_pow_right (by decide) (by omega)
      have hstep : val (ds.take (k + 1)) = val (ds.take k) * 256 + ds[k].toNat := by
        rw [List.take_succ_eq_append_getElem hz, val_snoc]
      have HS := Lib.hid hstep
      obtain ⟨V, hV⟩ : ∃ V, val (ds.take k) = V := ⟨_, rfl⟩
      obtain ⟨d, hd⟩ : ∃ d, ds[k] = d := ⟨_, rfl⟩
      rw [hV] at HS hv
      rw [hd] at HS hcell
      have hV7 : V < 72057594037927936 := Nat.lt_of_lt_of_le hv (by simpa using hp)
      have hd8 : d.toNat < 256 := d.toNat_lt
      rw [hV]
      clear hstep hd hV hv hp hz
      go_wp2
      go_roundw
      case rel =>
        refine ⟨k + 1, by omega, by go_num, ?_, hnw⟩
        rw [HS.out, or_u64 V d.toNat hV7 hd8]
      case measure => simp only [intOf]; omega
    · have hkn : k = n := by omega
      subst hkn
      have hd : decide ((k : Int) < (k : Int)) = false := by simp
      rw [List.take_of_length_le (by omega)]
      go_wp2
      go_ret
      exact ⟨rfl, RO2.out.nw hnw, KK.out.trans (Chg.of_nw hnw) (fun x hx => .inl hx)⟩
def BytePost (B g : Nat) (r : Rs) (w : World) (e : Ending) (w' : World) : Prop := e = .returned (.int .i64 ((numR 1 r).1 : Int)) ∧ RO w' B g (numR 1 r).2 ∧ Chg w w' [g]
theorem byte_any {w : World} {B g : Nat} {r : Rs} (h : RO w B g r) : Calls Try.prog 43 #[.pointer (some ⟨g, 0, none⟩)] w (BytePost B g r w) := by
  have HN := Lib.hid (number_any h 1 (by omega) (K := 1) rfl)
  have hlt := numR_lt 1 r
  unfold NumPost at HN
  unfold BytePost
  obtain ⟨p, hp⟩ : ∃ p, numR 1 r = p := ⟨_, rfl⟩
  rw [hp] at HN hlt ⊢
  obtain ⟨v, r2⟩ := p
  simp only at HN hlt ⊢
  have hv : v < 256 := by simpa using hlt
  clear hp hlt
  go_enter Try.func43, Try.ntmps43
  go_wp2_with (first | ((with_reducible refine HN.out.mono ?_); rintro e w2 ⟨rfl, ro, kk⟩))
  go_ret
  exact ⟨by first | rfl | (congr 2; omega), ro, kk⟩
end Go.Proofs.Ytmcgfnfhpcddlaa


/- A scope with jumps to several labels; and a frame of a known size laid out. -/
namespace Go.BW
/-- As Q; by a goto to label l: J l -/
def Exit.jumps (J : Nat → Act → World → Prop) (Q : Exit → Act → World → Prop) : Exit → Act → World → Prop
  | .goto l, a, w => J l a w
  | e, a, w => Q e a w
section
variable {P : Program} {a : Act} {w : World} {Q : Exit → Act → World → Prop}
theorem wp_scope_all {c : Code} (J : Nat → Act → World → Prop) (m : Nat → Act → World → Nat) (known : ∀ l a w, J l a w → ∃ rest, findLabel c l = some rest)
    (first : c.wp P (Exit.jumps J Q) a w)
    (pass : ∀ l rest a w, findLabel c l = some rest → J l a w → rest.wp P (Exit.jumps (fun l' a' w' => J l' a' w' ∧ m l' a' w' < m l a w) Q) a w) : (Code.scope c).wp P Q a w := by
  intro b k cs
  have key : ∀ n l a w, m l a w = n → J l a w → ∀ rest, findLabel c l = some rest → ∃ e a' w', Q e a' w' ∧ Arrives P (lone (b.at a (.code rest :: .inScope c :: k)) cs w) b k cs e a' w' := by
    intro n
    induction n using Nat.strongRecOn with
    | _ n ih =>
      intro l a w hn hJ rest hf
      obtain ⟨e, a₁, w₁, hq, harr⟩ := pass l rest a w hf hJ b (.inScope c :: k) cs
      cases e with
      | normal => exact ⟨.normal, a₁, w₁, hq, Steps.trans harr (.one step_inScope)⟩
      | exit id => exact ⟨.exit id, a₁, w₁, hq, fun k' hk => harr k' (by simp [exitTo, hk])⟩
      | goto l' =>
        obtain ⟨hJ', hlt⟩ := hq
        obtain ⟨rest', hf'⟩ := known _ _ _ hJ'
        obtain ⟨e₂, a₂, w₂, hq₂, harr₂⟩ := ih _ (by omega) l' a₁ w₁ rfl hJ' rest' hf'
        have hg : gotoIn l' (.inScope c :: k) = some (.code rest' :: .inScope c :: k) := by simp [gotoIn, hf']
        exact ⟨e₂, a₂, w₂, hq₂, .of_steps (harr _ hg) harr₂⟩
      | ret => exact ⟨_, a₁, w₁, hq, harr⟩
      | panic ch => exact ⟨_, a₁, w₁, hq, harr⟩
      | outgrown => exact ⟨_, a₁, w₁, hq, harr⟩
  obtain ⟨e, a₁, w₁, hq, harr⟩ := first b (.inScope c :: k) cs
  cases e with
  | normal => exact ⟨.normal, a₁, w₁, hq, .head step_scope (Steps.trans harr (.one step_inScope))⟩
  | exit id => exact ⟨.exit id, a₁, w₁, hq, fun k' hk => .head step_scope (harr k' (by simp [exitTo, hk]))⟩
  | goto l' =>
    obtain ⟨rest', hf'⟩ := known _ _ _ hq
    obtain ⟨e₂, a₂, w₂, hq₂, harr₂⟩ := key _ l' a₁ w₁ rfl hq rest' hf'
    have hg : gotoIn l' (.inScope c :: k) = some (.code rest' :: .inScope c :: k) := by simp [gotoIn, hf']
    exact ⟨e₂, a₂, w₂, hq₂, .of_steps (.head step_scope (harr _ hg)) harr₂⟩
  | ret => exact ⟨_, a₁, w₁, hq, .of_steps (.one step_scope) harr⟩
  | panic ch => exact ⟨_, a₁, w₁, hq, .of_steps (.one step_scope) harr⟩
  | outgrown => exact ⟨_, a₁, w₁, hq, .of_steps (.one step_scope) harr⟩
end
theorem ofFn_frame (t : Array Value) (n : Nat) (h : t.size = n) : t = Array.ofFn (n := n) fun i => t.getD i undef := by
  apply Array.ext
  · simp [h]
  · intro i h1 h2
    simp [h1]
set_option maxRecDepth 100000 in
theorem ofFn135 (f : Nat → Value) : (Array.ofFn (n := 135) fun i => f i) = #[f 0, f 1, f 2, f 3, f 4, f 5, f 6, f 7, f 8, f 9, f 10, f 11, f 12, f 13, f 14, f 15, f 16, f 17, f 18, f 19, f 20, f 21, f 22, f 23, f 24, f 25, f 26, f 27, f 28, f 29, f 30, f 31, f 32, f 33, f 34, f 35, f 36, f 37, f 38, f 39, f 40, f 41, f 42, f 43, f 44, f 45, f 46, f 47, f 48, f 49, f 50, f 51, f 52, f 53, f 54, f 55, f 56, f 57, f 58, f 59, f 60, f 61, f 62, f 63, f 64, f 65, f 66, f 67, f 68, f 69, f 70, f 71, f 72, f 73, f 74, f 75, f 76, f 77, f 78, f 79, f 80, f 81, f 82, f 83, f 84, f 85, f 86, f 87, f 88, f 89, f 90, f 91, f 92, f 93, f 94, f 95, f 96, f 97, f 98, f 99, f 100, f 101, f 102, f 103, f 104, f 105, f 106, f 107, f 108, f 109, f 110, f 111, f 112, f 113, f 114, f 115, f 116, f 117, f 118, f 119, f 120, f 121, f 122, f 123, f 124, f 125, f 126, f 127, f 128, f 129, f 130, f 131, f 132, f 133, f 134] := by kernel_rfl
set_option maxRecDepth 100000 in
theorem frame135 (t : Array Value) (h : t.size = 135) : ∃ f : Nat → Value, (∀ i, f i = t.getD i undef) ∧ t = #[f 0, f 1, f 2, f 3, f 4, f 5, f 6, f 7, f 8, f 9, f 10, f 11, f 12, f 13, f 14, f 15, f 16, f 17, f 18, f 19, f 20, f 21, f 22, f 23, f 24, f 25, f 26, f 27, f 28, f 29, f 30, f 31, f 32, f 33, f 34, f 35, f 36, f 37, f 38, f 39, f 40, f 41, f 42, f 43, f 44, f 45, f 46, f 47, f 48, f 49, f 50, f 51, f 52, f 53, f 54, f 55, f 56, f 57, f 58, f 59, f 60, f 61, f 62, f 63, f 64, f 65, f 66, f 67, f 68, f 69, f 70, f 71, f 72, f 73, f 74, f 75, f 76, f 77, f 78, f 79, f 80, f 81, f 82, f 83, f 84, f 85, f 86, f 87, f 88, f 89, f 90, f 91, f 92, f 93, f 94, f 95, f 96, f 97, f 98, f 99, f 100, f 101, f 102, f 103, f 104, f 105, f 106, f 107, f 108, f 109, f 110, f 111, f 112, f 113, f 114, f 115, f 116, f 117, f 118, f 119, f 120, f 121, f 122, f 123, f 124, f 125, f 126, f 127, f 128, f 129, f 130, f 131, f 132, f 133, f 134] :=
  ⟨fun i => t.getD i undef, fun _ => rfl, (ofFn_frame t 135 h).trans (ofFn135 (fun i => t.getD i undef))⟩
end Go.BW


/- What script.Parse returns for no bytes, and for those of one small script. -/
namespace Go.Proofs.Ytmcgfnfhpcddlaa
open Go.RowKit Go.BW

def pq (g : Nat) : Value := .pointer (some ⟨g, 0, none⟩)
theorem actCs (a : Act) : (Value.agg (actC a).toArray).cells.size = 69 := by show (actC a).toArray.size = 69; rw [List.size_toArray, actC_len]
theorem jumps_ret {J : Nat → Go.Act → World → Prop} {Q : Exit → Go.Act → World → Prop} {a : Go.Act} {w : World} (h : Q .ret a w) : Exit.jumps J Q .ret a w := h
def JNil (w : World) (l : Nat) (a : Go.Act) (w' : World) : Prop := l = 0 ∧ a.defers = [] ∧ a.tmps.size = 135 ∧ ∃ gq, a.tmps.getD 2 undef = pq gq ∧ Obj1 w' gq 25 #[.int .i64 0, .slice Option.none 0 0, .int .i64 0, .slice Option.none 0 0] ∧ w.heap.size ≤ gq ∧ Nw w w'
set_option maxRecDepth 100000 in
set_option maxHeartbeats 4000000 in
theorem parse_nil (w : World) : Calls Try.prog 21 #[.slice Option.none 0 0] w (fun e w' => e = .returned (.tuple #[.agg #[.int .i64 0, .slice Option.none 0 0, .int .i64 0, .slice Option.none 0 0], .int .i64 2]) ∧ Nw w w') := by
  go_enter Try.func21, Try.ntmps21
  go_wp2
  refine wp_scope_all (JNil w) (fun _ _ _ => 0) (fun l a w' h => by obtain ⟨rfl, _⟩ := h; exact ⟨_, rfl⟩) ?_ ?_
  · go_upto_region 5 with (first | ((with_reducible refine wpList_alloc44 (by with_unfolding_all exact rfl) (by with_unfolding_all exact rfl) ?_); intro ga w3 x3 n3 l3))
    have gA := gb_trans (World.grownBy_alloc w (.cells #[.int .i64 0, .slice Option.none 0 0, .int .i64 0, .slice Option.none 0 0] 25) none) (World.grownBy_alloc (w.alloc (.cells #[.int .i64 0, .slice Option.none 0 0, .int .i64 0, .slice Option.none 0 0] 25)) (.cells #[.int .i64 0, .slice Option.none 0 0, .int .i64 0, .slice Option.none 0 0] 25) none)
    have oq := (obj_fst w 25 #[.int .i64 0, .slice Option.none 0 0, .int .i64 0, .slice Option.none 0 0] (.cells #[.int .i64 0, .slice Option.none 0 0, .int .i64 0, .slice Option.none 0 0] 25)).nw n3
    have hql := oq.lt
    obtain ⟨gq, hgq⟩ : ∃ g, w.heap.size = g := ⟨_, rfl⟩
    rw [hgq] at oq hql ⊢
    have hw3 : w.heap.size ≤ w3.heap.size := (gb_trans gA n3).size
    have gR := World.grownBy_alloc w3 (.cells #[.slice Option.none 0 0, .bool false] 85) none
    have oR := Obj1.new w3 85 #[.slice Option.none 0 0, .bool false]
    have NA := gb_trans (gb_trans gA n3) gR
    have OQ := Lib.hid (oq.nw gR)
    obtain ⟨V, hV⟩ : ∃ V, w3.alloc (.cells #[.slice Option.none 0 0, .bool false] 85) = V := ⟨_, rfl⟩
    obtain ⟨gr, hgr⟩ : ∃ g, w3.heap.size = g := ⟨_, rfl⟩
    rw [hV] at oR NA OQ
    rw [hgr] at oR hql ⊢
    rw [hV]
    have hro : RO V w.heap.size gr ⟨[], false⟩ := ⟨by omega, Option.none, 0, 0, oR, Rd.nil, Nat.le_refl _, Nat.zero_le _⟩
    have HT := Lib.hid (take_any hro 2 (by omega) (K := 2) rfl)
    unfold TakePost at HT
    have HQ := OQ; have NV := Lib.hid NA
    have ht0 : (takeR 2 ⟨[], false⟩).1 = [0, 0] := rfl
    rw [ht0] at HT
    have hne : (!decide (([0, 0] : List UInt8) = [66, 87])) = true := rfl
    have hcmp : ((ByteArray.mk #[0, 0]) == (ByteArray.mk #[66, 87])) = false := by decide
    go_upto_region 6 with (first
      | (refine wpList_bytes_str 46 9 5 Try.underlying46 Try.underlying5 Try.underlying9 _ rfl rfl rfl RD.out ?_)
      | ((with_reducible refine HT.out.mono ?_); rintro e w5 ⟨A5, c5, rfl, hc5, rd, ro, kk⟩; have RD := Lib.hid rd; have KK := Lib.hid kk))
    go_step3
    have k5 := KK.out
    have hq5 := HQ.out.chg k5 (by simp; omega)
    exact (show JNil w 0 _ _ from ⟨rfl, rfl, rfl, gq, rfl, hq5, by omega, (Chg.nw ((Chg.of_nw (F := [gr]) NV.out).trans k5 (fun x hx => .inl hx)) (by simp; omega))⟩)
  · intro l rest a w' hf hJ
    obtain ⟨rfl, hd, hs, gq, h2, hq, hgq, hnw⟩ := hJ
    injection ((show findLabel _ 0 = some _ from rfl).symm.trans hf) with e
    subst e
    obtain ⟨f, hff, ht⟩ := frame135 a.tmps hs
    obtain ⟨tm, df⟩ := a
    simp only at hd h2 ht
    subst hd; subst ht
    rw [← hff 2] at h2
    rw [h2]
    clear hff hs hf h2
    unfold pq
    have HQ := Lib.hid hq
    clear hq
    go_wp2_with (first | ((with_reducible refine wpList_store_obj 25 _ _ (by with_unfolding_all exact rfl) (by with_unfolding_all exact rfl) [.int .i64 0, .slice Option.none 0 0, .int .i64 0, .slice Option.none 0 0] (by with_unfolding_all exact rfl) (by with_unfolding_all exact rfl) (by with_unfolding_all exact rfl) (by kernel_rfl) (sc_one _ _ _ _ _ _ _ _) HQ.out (by with_unfolding_all exact rfl) ?_); intro w4 s4 g4))
    refine jumps_ret ?_
    refine bodyPost_ret (res_cell_tmp rfl _ _ _ 25 _ _ rfl s4 Try.underlying25 rfl (by kernel_rfl)) rfl ?_
    exact ⟨rfl, nw_of_gb hnw g4 (fun q hq => by injection hq with hq; omega)⟩
/-- one cell of a variable stored -/
theorem wpList_store_obj' {P : Program} {ops : Array Oper} {rest : List Oper} {o : Oper} {a : Go.Act} {Q : Exit → Go.Act → World → Prop} {w : World} (ty : TypeId) (p x : Operand) (hop : o.op = .store ty p x) (hw : Region.wanted o (yielded ops a.tmps) = true) {g i : Nat} {t : TypeId} {c0 : Array Value} (v : Value)
    (hp : a.eval p = .pointer (some ⟨g, i, none⟩)) (hx : a.eval x = v) (hi : (P.info? ty).map (·.size) = some 1) (h1 : v.oneCell' = true) (ho : Obj1 w g t c0) (hv : v.cells = #[v]) (hl : decide (i < c0.size) = true)
    (hK : ∀ w', Obj1 w' g t (c0.setIfInBounds i v) → w.grownBy w' (some g) → wpList P ops Q rest (a.put o.dst undef) w') : wpList P ops Q (o :: rest) a w := by
  have hl := of_decide_eq_true hl
  refine wpList_store_own (cs := [v]) ty p x hop hw hp hx hv hi (one1 v h1) (ho.own rfl) (by simp; omega) fun w' h2 h3 => hK w' ?_ h3
  rw [splice_one (by simpa using hl)] at h2
  have h4 := h2.row1'
  have e : (c0.toList.set i v).toArray = c0.setIfInBounds i v := by apply Array.toList_inj.1; simp
  rwa [e] at h4
/-- the objects of Parse -/
structure PW (w : World) (gq gs ga gr : Nat) (S : Array Value) (a : Act) (r : Rs) (w' : World) : Prop where
  q : Obj1 w' gq 25 #[.int .i64 0, .slice Option.none 0 0, .int .i64 0, .slice Option.none 0 0]
  s : Obj1 w' gs 25 S
  a : ActO w' ga a
  r : RO w' w.heap.size gr r
  qs : gq ≠ gs
  lq : w.heap.size ≤ gq
  ls : w.heap.size ≤ gs
  la : w.heap.size ≤ ga
  n : Nw w w'
section
variable {w w' w'' : World} {gq gs ga gr : Nat} {S S' : Array Value} {a a' : Act} {r r' : Rs}
theorem PW.rg (h : PW w gq gs ga gr S a r w') : ∃ cs, Obj1 w' gr 85 cs := by obtain ⟨_, A, n, c, ho, _⟩ := h.r; exact ⟨_, ho⟩
theorem PW.ne (h : PW w gq gs ga gr S a r w') : gq ≠ gr ∧ gs ≠ gr ∧ ga ≠ gr ∧ gq ≠ ga ∧ gs ≠ ga := by
  obtain ⟨cs, ho⟩ := h.rg
  exact ⟨h.q.ne ho (by decide), h.s.ne ho (by decide), Obj1.ne h.a ho (by decide), h.q.ne h.a (by decide), h.s.ne h.a (by decide)⟩
theorem PW.new (h : PW w gq gs ga gr S a r w') (k : Nw w' w'') : PW w gq gs ga gr S a r w'' := ⟨h.q.nw k, h.s.nw k, h.a.nw k, h.r.nw k, h.qs, h.lq, h.ls, h.la, gb_trans h.n k⟩
theorem PW.read (h : PW w gq gs ga gr S a r w') (k : Chg w' w'' [gr]) (hr : RO w'' w.heap.size gr r') : PW w gq gs ga gr S a r' w'' := by
  obtain ⟨h1, h2, h3, _, _⟩ := h.ne
  exact ⟨h.q.chg k (by simpa using h1), h.s.chg k (by simpa using h2), Obj1.chg h.a k (by simpa using h3), hr, h.qs, h.lq, h.ls, h.la, Chg.nw ((Chg.of_nw h.n).trans k (fun x hx => .inl hx)) (by intro x hx; rw [List.mem_singleton] at hx; subst hx; exact hr.1)⟩
theorem PW.script (h : PW w gq gs ga gr S a r w') (k : w'.grownBy w'' (some gs)) (hs : Obj1 w'' gs 25 S') : PW w gq gs ga gr S' a r w'' := by
  obtain ⟨h1, h2, h3, h4, h5⟩ := h.ne
  have c : Chg w' w'' [gs] := Chg.of_gb k (by intro q hq; injection hq with hq; simp [hq])
  exact ⟨h.q.chg c (by simpa using h.qs), hs, Obj1.chg h.a c (by simpa using Ne.symm h5), h.r.chg c (by simpa using Ne.symm h2) (by intro x hx; rw [List.mem_singleton] at hx; subst hx; exact h.ls), h.qs, h.lq, h.ls, h.la, nw_of_gb h.n k (by intro g hg; injection hg with hg; have := h.ls; omega)⟩
theorem PW.act (h : PW w gq gs ga gr S a r w') (k : w'.grownBy w'' (some ga)) (hs : ActO w'' ga a') : PW w gq gs ga gr S a' r w'' := by
  obtain ⟨h1, h2, h3, h4, h5⟩ := h.ne
  have c : Chg w' w'' [ga] := Chg.of_gb k (by intro q hq; injection hq with hq; simp [hq])
  exact ⟨h.q.chg c (by simpa using h4), h.s.chg c (by simpa using h5), hs, h.r.chg c (by simpa using Ne.symm h3) (by intro x hx; rw [List.mem_singleton] at hx; subst hx; exact h.la), h.qs, h.lq, h.ls, h.la, nw_of_gb h.n k (by intro g hg; injection hg with hg; have := h.la; omega)⟩
theorem PW.row {b t s n c : Nat} {A : Option Addr} {xs : List Value} (h : PW w gq gs ga gr S a r w') (ho : Own w' b t s A n c xs) (hb : w.heap.size ≤ b) (h25 : t ≠ 25) (h85 : t ≠ 85) (h44 : ∀ q, (Value.slice A n c).ownBlock = some q → ga ≠ q) (k : w'.grownBy w'' (Value.slice A n c).ownBlock) : PW w gq gs ga gr S a r w'' := by
  obtain ⟨cs, hg⟩ := h.rg
  have e1 := own_obj' ho h.q (Ne.symm h25)
  have e2 := own_obj' ho h.s (Ne.symm h25)
  have e3 := own_obj' ho hg (Ne.symm h85)
  have hbk := ho.blk
  generalize (Value.slice A n c).ownBlock = row at *
  have c : Chg w' w'' row.toList := Chg.of_gb k (by intro q hq; simp [hq])
  have hmem : ∀ g, (∀ q, row = some q → g ≠ q) → g ∉ row.toList := by intro g hq; rcases row with _ | q <;> simp; exact hq q rfl
  exact ⟨h.q.chg c (hmem _ e1), h.s.chg c (hmem _ e2), Obj1.chg h.a c (hmem _ h44), h.r.chg c (hmem _ e3) (by intro x hx; have := hbk x (by simpa using hx); omega), h.qs, h.lq, h.ls, h.la, nw_of_gb h.n k (by intro g hg; have := hbk g hg; omega)⟩
end
theorem Own.keepChg {w w' : World} {b t s n c : Nat} {A : Option Addr} {xs : List Value} {F : List Nat} (h : Own w b t s A n c xs) (k : Chg w w' F) (hn : ∀ q, (Value.slice A n c).ownBlock = some q → q ∉ F) : Own w' b t s A n c xs := by
  refine ⟨h.1, ?_⟩
  rcases h.2 with h2 | ⟨g, cap, cur, hv, hb, hg, rest⟩
  · exact .inl h2
  · refine .inr ⟨g, cap, cur, hv, hb, ?_, rest⟩
    have : (Value.slice A n c).ownBlock = some g := by rw [hv]; rfl
    exact (k.block g (Array.getElem?_eq_some_iff.1 hg).1 (hn g this)).trans hg
theorem own_keep25 {w w' : World} {b s n c g : Nat} {t t' : TypeId} {A : Option Addr} {xs : List Value} {cs : Array Value} (h : Own w b t s A n c xs) (X : Obj1 w g t' cs) (k : w.grownBy w' (some g)) (ht : t ≠ t' := by decide) : Own w' b t s A n c xs :=
  h.kept k (fun r hr e => by injection hr with hr; subst hr; obtain ⟨_, ho⟩ := h.rowObj _ e; exact ho.ne X ht rfl)
def firstB : List UInt8 := [66, 87, 0, 0, 0, 1, 3, 0, 160, 0, 160, 0, 160, 2, 1, 3]
def JF (w : World) (l : Nat) (a : Go.Act) (w' : World) : Prop := (l = 5 ∨ l = 1 ∨ l = 2) ∧ a.defers = [] ∧ a.tmps.size = 135 ∧ ∃ (gq gs ga gr : Nat) (Lz La : Option Addr) (cz na ca : Nat),
  a.tmps.getD 2 undef = pq gq ∧ a.tmps.getD 4 undef = pq gs ∧ a.tmps.getD 5 undef = pq ga ∧ a.tmps.getD 6 undef = .int .i64 0 ∧ a.tmps.getD 7 undef = pq gr ∧
  Obj1 w' gq 25 #[.int .i64 0, .slice Option.none 0 0, .int .i64 0, .slice Option.none 0 0] ∧ Obj1 w' gs 25 #[.int .i64 1, .slice Lz 3 cz, .int .i64 2, .slice La na ca] ∧ Own w' w.heap.size 3 1 Lz 3 cz ([160, 160, 160].map iv) ∧ Own w' w.heap.size 44 69 La na ca (fl actC (if l = 5 then [] else [a0 3])) ∧ ActO w' ga (a0 3) ∧ RO w' w.heap.size gr ⟨[], false⟩ ∧ gq ≠ gs ∧
  w.heap.size ≤ gq ∧ w.heap.size ≤ gs ∧ w.heap.size ≤ ga ∧ Nw w w' ∧ (l = 5 → La = Option.none ∧ na = 0 ∧ ca = 0)
def mF (l : Nat) (_ : Go.Act) (_ : World) : Nat := if l = 5 then 3 else if l = 1 then 2 else 1
def FirstPost (w : World) (e : Ending) (w' : World) : Prop := ∃ Lz cz La ca, e = .returned (.tuple #[.agg #[.int .i64 1, .slice Lz 3 cz, .int .i64 2, .slice La 1 ca], .int .i64 0]) ∧ Own w' w.heap.size 3 1 Lz 3 cz ([160, 160, 160].map iv) ∧ Own w' w.heap.size 44 69 La 1 ca (fl actC [a0 3]) ∧ Nw w w'
theorem num_first (k : Nat) (hk : k < 3) : numR 2 ⟨firstB.drop (7 + 2 * k), false⟩ = (160, ⟨firstB.drop (7 + 2 * (k + 1)), false⟩) := by
  rcases (show k = 0 ∨ k = 1 ∨ k = 2 by omega) with rfl | rfl | rfl <;> rfl
set_option maxRecDepth 100000 in
set_option maxHeartbeats 8000000 in
theorem parse_first {w : World} {B c : Nat} {A : Option Addr} (hr : Rd w B 1 A 16 (firstB.map bv)) (hB : B ≤ w.heap.size) (hc : 16 ≤ c) (hcm : c ≤ maxLen) : Calls Try.prog 21 #[.slice A 16 c] w (FirstPost w) := by
  go_enter Try.func21, Try.ntmps21
  go_wp2
  refine wp_scope_all (JF w) mF (fun l a w' h => by obtain ⟨h1, _⟩ := h; rcases h1 with rfl | rfl | rfl <;> exact ⟨_, rfl⟩) ?_ ?_
  · go_upto_region 5 with (first | ((with_reducible refine wpList_alloc44 (by with_unfolding_all exact rfl) (by with_unfolding_all exact rfl) ?_); intro ga w3 x3 n3 l3))
    have gA := gb_trans (World.grownBy_alloc w (.cells #[.int .i64 0, .slice Option.none 0 0, .int .i64 0, .slice Option.none 0 0] 25) none) (World.grownBy_alloc (w.alloc (.cells #[.int .i64 0, .slice Option.none 0 0, .int .i64 0, .slice Option.none 0 0] 25)) (.cells #[.int .i64 0, .slice Option.none 0 0, .int .i64 0, .slice Option.none 0 0] 25) none)
    have oq := (obj_fst w 25 #[.int .i64 0, .slice Option.none 0 0, .int .i64 0, .slice Option.none 0 0] (.cells #[.int .i64 0, .slice Option.none 0 0, .int .i64 0, .slice Option.none 0 0] 25)).nw n3
    have os := (obj_snd w (.cells #[.int .i64 0, .slice Option.none 0 0, .int .i64 0, .slice Option.none 0 0] 25) 25 #[.int .i64 0, .slice Option.none 0 0, .int .i64 0, .slice Option.none 0 0]).nw n3
    have hql := oq.lt
    have hsl := os.lt
    have hgl := gA.size
    obtain ⟨gq, hgq⟩ : ∃ g, w.heap.size = g := ⟨_, rfl⟩
    rw [hgq] at oq os hql hsl ⊢
    obtain ⟨gs, hgs⟩ : ∃ g, gq + 1 = g := ⟨_, rfl⟩
    rw [hgs] at os hsl ⊢
    have hqs : gq ≠ gs := by omega
    have hga : w.heap.size ≤ ga := by omega
    have gR := World.grownBy_alloc w3 (.cells #[.slice A 16 c, .bool false] 85) none
    have oR := Obj1.new w3 85 #[.slice A 16 c, .bool false]
    have NA := gb_trans (gb_trans gA n3) gR
    have hw3 := (gb_trans gA n3).size
    have OQ := Lib.hid (oq.nw gR); have OS := Lib.hid (os.nw gR); have OA := Lib.hid (x3.nw gR)
    obtain ⟨V, hV⟩ : ∃ V, w3.alloc (.cells #[.slice A 16 c, .bool false] 85) = V := ⟨_, rfl⟩
    obtain ⟨gr, hgr⟩ : ∃ g, w3.heap.size = g := ⟨_, rfl⟩
    rw [hV] at oR NA OQ OS OA
    rw [hgr] at oR hql hsl ⊢
    rw [hV]
    have hro : RO V w.heap.size gr ⟨firstB, false⟩ := ⟨by omega, A, 16, c, oR, (hr.nw NA hB).more hB, hc, hcm⟩
    have HT := Lib.hid (take_any hro 2 (by omega) (K := 2) rfl)
    unfold TakePost at HT
    have NV := Lib.hid NA
    have hag : ga ≠ gr := by have := OA.out.own.obj; obtain ⟨_, h⟩ := this; exact h.ne oR (by decide)
    rw [show (takeR 2 ⟨firstB, false⟩).1 = [66, 87] from rfl, show (takeR 2 ⟨firstB, false⟩).2 = ⟨firstB.drop 2, false⟩ from rfl] at HT
    have hls : w.heap.size ≤ gs := by omega
    clear hgr hgs oq os gA n3 x3 l3 gR oR NA hro
    go_upto_region 6 with (first
      | (refine wpList_bytes_str 46 9 5 Try.underlying46 Try.underlying5 Try.underlying9 _ rfl rfl rfl RD.out ?_)
      | ((with_reducible refine HT.out.mono ?_); rintro e w5 ⟨A5, c5, rfl, hc5, rd, ro, kk⟩; have RD := Lib.hid rd; have KK := Lib.hid kk; have R5 := Lib.hid ro; clear rd kk ro))
    have P5 := Lib.hid (show PW w gq gs ga gr #[.int .i64 0, .slice Option.none 0 0, .int .i64 0, .slice Option.none 0 0] (a0 0) ⟨firstB.drop 2, false⟩ w5 from ⟨OQ.out.chg KK.out (by simp; omega), OS.out.chg KK.out (by simp; omega), Obj1.chg OA.out KK.out (by simp; omega), R5.out, hqs, by omega, by omega, hga, Chg.nw ((Chg.of_nw (F := [gr]) NV.out).trans KK.out (fun x hx => .inl hx)) (by simp; omega)⟩)
    have HN := Lib.hid (number_any R5.out 4 (by omega) (K := 4) rfl)
    unfold NumPost at HN
    rw [show numR 4 ⟨firstB.drop 2, false⟩ = (1, ⟨firstB.drop 6, false⟩) from rfl] at HN
    clear HT OQ OS OA NV KK R5 RD hr hsl hql hgl hw3 hag hga hqs
    go_upto_region 7 with (first
      | ((with_reducible refine wpList_store_obj' 3 _ _ (by with_unfolding_all exact rfl) (by with_unfolding_all exact rfl) (i := 0) (.int .i64 1) (by with_unfolding_all exact rfl) (by with_unfolding_all exact rfl) i3 (by with_unfolding_all exact rfl) P6.out.s (by with_unfolding_all exact rfl) (by with_unfolding_all exact rfl) ?_); intro w7 s7 g7)
      | ((with_reducible refine HN.out.mono ?_); rintro e w6 ⟨rfl, ro, kk⟩; have P6 := Lib.hid (P5.out.read kk ro); clear kk ro))
    have P7 := Lib.hid (P6.out.script g7 (S' := #[.int .i64 1, .slice Option.none 0 0, .int .i64 0, .slice Option.none 0 0]) s7)
    have HB := Lib.hid (byte_any P7.out.r)
    unfold BytePost at HB
    rw [show numR 1 ⟨firstB.drop 6, false⟩ = (3, ⟨firstB.drop 7, false⟩) from rfl] at HB
    clear P5 P6 HN s7 g7
    go_upto_region 8 with (first
      | ((with_reducible refine HB.out.mono ?_); rintro e w8 ⟨rfl, ro, kk⟩; have P8 := Lib.hid (P7.out.read kk ro); clear kk ro))
    go_loopw [6] (fun lv wr => ∃ (k : Nat) (Lz : Option Addr) (cz : Nat), k ≤ 3 ∧ lv = .int .i64 (3 - (k : Int)) ∧ PW w gq gs ga gr #[.int .i64 1, .slice Lz k cz, .int .i64 0, .slice Option.none 0 0] (a0 0) ⟨firstB.drop (7 + 2 * k), false⟩ wr ∧ Own wr w.heap.size 3 1 Lz k cz ((List.replicate k 160).map iv)) (fun i _ => (intOf i).toNat)
    case atStart => exact ⟨0, Option.none, 0, by omega, rfl, P8.out, Own.nil⟩
    case round =>
      obtain ⟨k, Lz, cz, hk, rfl, hp, hz⟩ := hrel
      rcases (show k < 3 ∨ k = 3 by omega) with hlt | rfl
      · have d1 : (0 : Int) < 3 - (k : Int) := by omega
        have PR := Lib.hid hp; have ZR := Lib.hid hz
        have HNF := Lib.hid (num_first k hlt)
        clear hp hz
        go_upto_region 10 with fail
        refine wp_region_U [8] (fun w' => w'.cell? ⟨gs, 1, none⟩ = some (.slice Lz k cz)) (by kernel_rfl) ?_
        change wpU _ _ _ _ _ _ _ _ _ (World.drew wr)
        have PD := Lib.hid (PR.out.new (gb_drew (Nw.refl wr))); have ZD := Lib.hid (show Own wr.drew w.heap.size 3 1 Lz k cz ((List.replicate k 160).map iv) from ZR.out)
        generalize wr.drew = wd at PD ZD ⊢
        clear PR ZR
        refine U_segL (r := [0, 1, 2]) (fuel := 6) rfl (by kernel_rfl) (by kernel_rfl) (by simp only [List.filterMap_cons, List.filterMap_nil, List.getElem?_toArray, List.getElem?_cons_succ, List.getElem?_cons_zero]; rfl) (fun _ _ d _ _ h => by cases d <;> exact h) (PD.out.s.cell 1) ?_
        iterate 3 (refine wpYield_step rfl (fun K hK => ?_)
                   apply Exists.intro
                   refine ⟨fun w' hw' => ?_, ?_⟩
                   · (go_simp; try with_reducible rfl)
                   go_simp
                   refine hK _ ?_
                   clear hK K)
        refine wpYield_nil ?_
        have hN := number_any PD.out.r 2 (by omega) (K := 2) rfl
        unfold NumPost at hN
        rw [HNF.out] at hN
        have HN := Lib.hid hN
        clear hN
        refine U_eff 3 rfl (by kernel_rfl) rfl (fun K hK => ?_)
        go_simp
        refine HN.out.mono ?_
        rintro e w9 ⟨rfl, ro, kk⟩
        have P9 := Lib.hid (PD.out.read kk ro)
        have hzk : ∀ q, (Value.slice Lz k cz).ownBlock = some q → q ∉ [gr] := by
          intro q hq
          obtain ⟨cs, hg⟩ := PD.out.rg
          have := own_obj' ZD.out hg (by decide) q hq
          simpa using Ne.symm this
        have Z9 := Lib.hid (Own.keepChg ZD.out kk hzk)
        refine hK _ _ ⟨until_of (P9.out.s.cell 1), ?_⟩
        clear hK K ro kk hzk PD ZD HN
        refine U_segP (r := [4]) (fuel := 4) rfl (by kernel_rfl) (by kernel_rfl) (by simp only [List.filterMap_cons, List.filterMap_nil, List.getElem?_toArray, List.getElem?_cons_succ, List.getElem?_cons_zero]; rfl) (fun _ _ d _ _ h => by cases d <;> exact h) (until_of (P9.out.s.cell 1)) ?_
        (refine wpYield_step rfl (fun K hK => ?_)
         apply Exists.intro
         refine ⟨fun w' hw' => ?_, ?_⟩
         · (go_simp; try with_reducible rfl)
         go_simp
         refine hK _ ?_
         clear hK K)
        refine wpYield_nil ?_
        refine U_eff 5 rfl (by kernel_rfl) rfl (fun K hK => ?_)
        go_simp
        have gB := World.grownBy_alloc w9 (.cells #[.int .i64 160] 3) none
        refine hK _ _ ⟨until_of ((P9.out.new gB).s.cell 1), ?_⟩
        clear hK K
        refine U_eff 6 rfl (by kernel_rfl) rfl (fun K hK => ?_)
        refine wp_app_own T22 _ _ rfl rfl rfl (Z9.out.nw gB) (rd_lit [.int .i64 160] 3 1 rfl) (by intro u hu; simp at hu; subst hu; rfl) (by unfold maxLen; omega) (Nat.le_trans P9.out.n.size gB.size) ?_
        intro A10 c10 w10 o10 g10 b10
        have P10 := Lib.hid ((P9.out.new gB).row (Z9.out.nw gB) (Nat.le_refl _) (by decide) (by decide) (own_obj' (Z9.out.nw gB) (P9.out.new gB).a (by decide)) g10)
        refine hK _ _ ⟨until_of (P10.out.s.cell 1), ?_⟩
        clear hK K g10 b10 P9 Z9 gB
        refine U_segP (r := [7]) (fuel := 1) rfl (by kernel_rfl) (by kernel_rfl) (by simp only [List.filterMap_cons, List.filterMap_nil, List.getElem?_toArray, List.getElem?_cons_succ, List.getElem?_cons_zero]; rfl) (fun _ _ d _ _ h => by cases d <;> exact h) (until_of (P10.out.s.cell 1)) ?_
        (refine wpYield_step rfl (fun K hK => ?_)
         apply Exists.intro
         refine ⟨fun w' hw' => ?_, ?_⟩
         · (go_simp; try with_reducible rfl)
         go_simp
         refine hK _ ?_
         clear hK K)
        refine wpYield_nil ?_
        refine U_eff 8 rfl (by kernel_rfl) rfl (fun K hK => ?_)
        have ho1 := P10.out.s.own (size := 4) rfl
        refine wp_store_own (cs := [.slice A10 (k + 1) c10]) 22 _ _ rfl rfl rfl rfl (by kernel_rfl) (one1 _ rfl) ho1 (by simp) (fun w11 s11 g11 => ?_)
        rw [splice_one (by simp)] at s11
        have P11 := Lib.hid (P10.out.script g11 (S' := #[.int .i64 1, .slice A10 (k + 1) c10, .int .i64 0, .slice Option.none 0 0]) s11.row1')
        have Z11 := Lib.hid (own_keep25 o10 P10.out.s g11)
        refine hK _ _ ⟨until_past (by kernel_rfl), ?_⟩
        clear hK K
        refine U_done (by kernel_rfl) ?_ _
        go_wp2
        go_roundw
        case rel => exact ⟨k + 1, A10, c10, by omega, by go_num, P11.out, by rw [List.replicate_succ']; simpa [iv] using Z11.out⟩
        case measure => simp only [intOf]; omega
      · rw [show (3 : Int) - ((3 : Nat) : Int) = 0 from rfl]
        have PR := Lib.hid hp; have ZR := Lib.hid hz
        clear hp hz
        have hB := byte_any PR.out.r
        unfold BytePost at hB
        rw [show numR 1 ⟨firstB.drop (7 + 2 * 3), false⟩ = (2, ⟨firstB.drop 14, false⟩) from rfl] at hB
        have HB1 := Lib.hid hB
        clear hB
        have hzr : ∀ w', PW w gq gs ga gr #[.int .i64 1, .slice Lz 3 cz, .int .i64 0, .slice Option.none 0 0] (a0 0) ⟨firstB.drop 14, false⟩ w' → Calls Try.prog 43 #[.pointer (some ⟨gr, 0, none⟩)] w' (fun e w2 => e = .returned (.int .i64 1) ∧ RO w2 w.heap.size gr ⟨firstB.drop 15, false⟩ ∧ Chg w' w2 [gr]) := fun w' hp => by
          have hB := byte_any hp.r
          unfold BytePost at hB
          exact hB
        have HZR := Lib.hid hzr
        have hzk : ∀ q, (Value.slice Lz 3 cz).ownBlock = some q → q ∉ [gr] := by
          intro q hq
          obtain ⟨cs, hg⟩ := PR.out.rg
          have := own_obj' ZR.out hg (by decide) q hq
          simpa using Ne.symm this
        have HZK := Lib.hid hzk
        clear hzr hzk
        go_upto_region 12 with (first
          | ((with_reducible refine wpList_store_obj' 3 _ _ (by with_unfolding_all exact rfl) (by with_unfolding_all exact rfl) (i := 2) (.int .i64 2) (by with_unfolding_all exact rfl) (by with_unfolding_all exact rfl) i3 (by with_unfolding_all exact rfl) P13.out.s (by with_unfolding_all exact rfl) (by with_unfolding_all exact rfl) ?_); intro w14 s14 g14)
          | (go_at_call 43; (with_reducible refine (HZR.out _ P12.out).mono ?_); rintro e w13 ⟨rfl, ro, kk⟩; have P13 := Lib.hid (P12.out.read kk ro); have Z13 := Lib.hid (Own.keepChg Z12.out kk HZK.out); clear kk ro)
          | (go_at_call 43; (with_reducible refine HB1.out.mono ?_); rintro e w12 ⟨rfl, ro, kk⟩; have P12 := Lib.hid (PR.out.read kk ro); have Z12 := Lib.hid (Own.keepChg ZR.out kk HZK.out); clear kk ro))
        have P14 := Lib.hid (P13.out.script g14 (S' := #[.int .i64 1, .slice Lz 3 cz, .int .i64 2, .slice Option.none 0 0]) s14)
        have Z14 := Lib.hid (own_keep25 Z13.out P13.out.s g14)
        clear s14 g14 P12 P13 Z12 Z13 PR ZR HZR HB1
        go_step3
        obtain ⟨_, Ar, nr, cr, hor, _⟩ := P14.out.r
        have kr := hor.cell 1
        have hB := byte_any P14.out.r
        unfold BytePost at hB
        rw [show numR 1 ⟨firstB.drop 15, false⟩ = (3, ⟨[], false⟩) from rfl] at hB
        have HB2 := Lib.hid hB
        clear hB hor
        go_wp2_with (first
          | ((with_reducible refine wpList_store44 _ _ (by with_unfolding_all exact rfl) (by with_unfolding_all exact rfl) (a0 3) (by with_unfolding_all exact rfl) (by with_unfolding_all exact rfl) P15.out.a ?_); intro w16 s16 g16; have P16 := Lib.hid (P15.out.act g16 s16); have Z16 := Lib.hid (own_keep Z15.out P15.out.a (by decide) g16); have hkk : w16.cell? ⟨ga, 0, none⟩ = some (.int .i64 3) := s16.k)
          | ((with_reducible refine wpList_build44 _ (by with_unfolding_all exact rfl) (by with_unfolding_all exact rfl) 3 (by with_unfolding_all exact rfl) ?_))
          | (go_at_call 43; (with_reducible refine HB2.out.mono ?_); rintro e w15 ⟨rfl, ro, kk⟩; have P15 := Lib.hid (P14.out.read kk ro); have Z15 := Lib.hid (Own.keepChg Z14.out kk HZK.out); clear kk ro))
        go_step3
        exact (show JF w 5 _ _ from ⟨.inl rfl, rfl, rfl, gq, gs, ga, gr, Lz, Option.none, cz, 0, 0, rfl, rfl, rfl, rfl, rfl, P16.out.q, P16.out.s, Z16.out, Own.nil, P16.out.a, P16.out.r, P16.out.qs, P16.out.lq, P16.out.ls, P16.out.la, P16.out.n, fun _ => ⟨rfl, rfl, rfl⟩⟩)
  · intro l rest a w' hf hJ
    obtain ⟨hl, hd, hs, gq, gs, ga, gr, Lz, La, cz, na, ca, h2, h4, h5, h6, h7, jq, js, jz, ja, jc, jr, jqs, j1, j2, j3, jn, jl⟩ := hJ
    obtain ⟨f, hff, ht⟩ := frame135 a.tmps hs
    obtain ⟨tm, df⟩ := a
    simp only at hd ht h2 h4 h5 h6 h7
    subst hd; subst ht
    rw [← hff 2] at h2
    rw [← hff 4] at h4
    rw [← hff 5] at h5
    rw [← hff 6] at h6
    rw [← hff 7] at h7
    rw [h2, h4, h5, h6, h7]
    clear hff hs h2 h4 h5 h6 h7
    unfold pq
    have PJ := Lib.hid (show PW w gq gs ga gr #[.int .i64 1, .slice Lz 3 cz, .int .i64 2, .slice La na ca] (a0 3) ⟨[], false⟩ w' from ⟨jq, js, jc, jr, jqs, j1, j2, j3, jn⟩)
    have ZJ := Lib.hid jz; have AJ := Lib.hid ja
    clear jq js jz ja jc jqs j1 j2 j3
    rcases hl with rfl | rfl | rfl
    · injection ((show findLabel _ 5 = some _ from rfl).symm.trans hf) with e
      subst e
      obtain ⟨rfl, rfl, rfl⟩ := jl rfl
      have hbs := jn.size
      have k3 := PJ.out.s.cell 3
      have AJ2 := Lib.hid (show Own w' w.heap.size 44 69 Option.none 0 0 (fl actC []) from AJ.out)
      clear hf AJ jl
      go_wp2_with (first
        | ((with_reducible refine wpList_store_obj' 23 _ _ (by with_unfolding_all exact rfl) (by with_unfolding_all exact rfl) (i := 3) (.slice A5 (0 + 1) c5) (by with_unfolding_all exact rfl) (by with_unfolding_all exact rfl) (by kernel_rfl) (by with_unfolding_all exact rfl) P5.out.s (by with_unfolding_all exact rfl) (by with_unfolding_all exact rfl) ?_); intro w6 s6 g6)
        | (at_builtin; refine wpList_appN_own T23 (cs := actC (a0 3)) _ _ rfl rfl rfl rfl AJ2.out (actC_len _) (actC_one _) (by unfold maxLen; omega) hbs ?_; intro A5 c5 w5 o5 g5 b5; have P5 := Lib.hid (PJ.out.row AJ2.out (Nat.le_refl _) (by decide) (by decide) (by intro q hq; simp [Value.ownBlock] at hq) g5))
        | ((with_reducible refine wpList_buildSlice1 T23 _ (by with_unfolding_all exact rfl) (by with_unfolding_all exact rfl) (v := .agg (actC (a0 3)).toArray) (by with_unfolding_all exact rfl) (actCs _) (by decide) ?_))
        | ((with_reducible refine wpList_load44 _ (by with_unfolding_all exact rfl) (by with_unfolding_all exact rfl) (by with_unfolding_all exact rfl) PJ.out.a ?_)))
      have P6 := P5.out.script g6 (S' := #[.int .i64 1, .slice Lz 3 cz, .int .i64 2, .slice A5 (0 + 1) c5]) s6
      have Z5 := ZJ.out.kept g5 (by intro q hq; simp [Value.ownBlock] at hq)
      have Z6 := own_keep25 Z5 P5.out.s g6
      have A6 := own_keep25 o5 P5.out.s g6
      go_step3
      exact (show JF w 1 _ _ ∧ mF 1 _ _ < mF 5 _ _ from ⟨⟨.inr (.inl rfl), rfl, rfl, gq, gs, ga, gr, Lz, A5, cz, 0 + 1, c5, rfl, rfl, rfl, rfl, rfl, P6.q, P6.s, Z6, (by rw [if_neg (by decide), fl_one]; exact A6), P6.a, P6.r, P6.qs, P6.lq, P6.ls, P6.la, P6.n, fun h => absurd h (by decide)⟩, by unfold mF; decide⟩)
    · injection ((show findLabel _ 1 = some _ from rfl).symm.trans hf) with e
      subst e
      obtain ⟨_, Ar, nr, cr, hor, _⟩ := PJ.out.r
      have kr := hor.cell 1
      clear hf jl
      go_wp2
      go_step3
      exact (show JF w 2 _ _ ∧ mF 2 _ _ < mF 1 _ _ from ⟨⟨.inr (.inr rfl), rfl, rfl, gq, gs, ga, gr, Lz, La, cz, na, ca, rfl, rfl, rfl, rfl, rfl, PJ.out.q, PJ.out.s, ZJ.out, (by have := AJ.out; rw [if_neg (by decide)] at this ⊢; exact this), PJ.out.a, PJ.out.r, PJ.out.qs, PJ.out.lq, PJ.out.ls, PJ.out.la, PJ.out.n, fun h => absurd h (by decide)⟩, by unfold mF; decide⟩)
    · injection ((show findLabel _ 2 = some _ from rfl).symm.trans hf) with e
      subst e
      obtain ⟨_, Ar, nr, cr, hor, hrr, _⟩ := PJ.out.r
      have hnr : nr = 0 := by have := hrr.1; simpa using this.symm
      subst hnr
      have kr := hor.cell 0
      rw [if_neg (by decide)] at AJ
      have hna : na = 1 := by have h := AJ.out.lenL actC_len (by decide); simpa using h.symm
      subst hna
      have HRI := Lib.hid (right_any (w := w') (B := w'.heap.size) (x := ⟨1, Lz, 3, cz, [160, 160, 160], 2, La, 1, ca, [a0 3]⟩) ⟨ZJ.out.rd, ZJ.out.cap.1, ZJ.out.cap.2, AJ.out.rd, AJ.out.cap.1, AJ.out.cap.2, (by intro a ha; rw [List.mem_singleton] at ha; subst ha; exact ⟨by simp [a0, z64], by simp [a0]⟩)⟩ (Nat.le_refl _))
      rw [show rightS (scr ⟨1, Lz, 3, cz, [160, 160, 160], 2, La, 1, ca, [a0 3]⟩) = true from by (show rightS ⟨1, [160, 160, 160], 2, [a0 3]⟩ = true); decide] at HRI
      unfold Ret sv at HRI
      clear hf jl hor hrr
      go_wp2_with (first
        | ((with_reducible refine wpList_store_obj 25 _ _ (by with_unfolding_all exact rfl) (by with_unfolding_all exact rfl) [.int .i64 1, .slice Lz 3 cz, .int .i64 2, .slice La 1 ca] (by with_unfolding_all exact rfl) (by with_unfolding_all exact rfl) (by with_unfolding_all exact rfl) (by kernel_rfl) (sc_one _ _ _ _ _ _ _ _) P4.out.q (by with_unfolding_all exact rfl) ?_); intro w5 s5 g5)
        | ((with_reducible refine wpList_load_obj 25 _ (by with_unfolding_all exact rfl) (by with_unfolding_all exact rfl) (by with_unfolding_all exact rfl) P4.out.s _ Try.underlying25 (by with_unfolding_all exact rfl) (by kernel_rfl) ?_))
        | ((with_reducible refine HRI.out.mono ?_); rintro e w4 ⟨rfl, k4⟩; have P4 := Lib.hid (PJ.out.new k4); have ZZ4 := Lib.hid (ZJ.out.nw k4); have A4 := Lib.hid (AJ.out.nw k4))
        | ((with_reducible refine wpList_load_obj 25 _ (by with_unfolding_all exact rfl) (by with_unfolding_all exact rfl) (by with_unfolding_all exact rfl) PJ.out.s _ Try.underlying25 (by with_unfolding_all exact rfl) (by kernel_rfl) ?_)))
      refine jumps_ret ?_
      refine bodyPost_ret (res_cell_tmp rfl _ _ _ 25 _ _ rfl s5 Try.underlying25 rfl (by kernel_rfl)) rfl ?_
      exact ⟨Lz, cz, La, ca, rfl, own_keep25 ZZ4.out P4.out.q g5, own_keep25 A4.out P4.out.q g5, nw_of_gb P4.out.n g5 (fun q hq => by injection hq with hq; have := P4.out.lq; omega)⟩
end Go.Proofs.Ytmcgfnfhpcddlaa

