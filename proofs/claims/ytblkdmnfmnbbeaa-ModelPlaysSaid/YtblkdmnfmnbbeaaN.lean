/- Two models at hand in one walk; steps that came in. -/
import Derived.Test.YtblkdmnfmnbbeaaM
namespace Go.Proofs.Ytblkdmnfmnbbeaa
open Go.RowKit Go.BW

abbrev MB := List (List UInt8 × Bool)
structure Tw (w0 w : World) (ga : Nat) (Ma : MB) (Fa : List Nat) (Ka gb : Nat) (Mb : MB) (Fb : List Nat) (Kb : Nat) (V : List Nat) : Prop where
  a : Rep w ga Ma Fa Ka
  b : Rep w gb Mb Fb Kb
  dis : ∀ x ∈ Fa, x ∉ Fb
  na : ∀ x ∈ Fa, w0.heap.size ≤ x
  nb : ∀ x ∈ Fb, w0.heap.size ≤ x
  nw : Nw w0 w
  var : ∀ x ∈ V, x ∉ Fa ∧ x ∉ Fb ∧ x < w.heap.size
section
variable {w0 w w' : World} {ga gb Ka Kb K' : Nat} {Ma Mb M' : MB} {Fa Fb V : List Nat} {v : Value} {e : Ending}
theorem Tw.stepA (h : Tw w0 w ga Ma Fa Ka gb Mb Fb Kb V) (k : Post v ga M' Fa K' w e w') : e = .returned v ∧ ∃ F', Tw w0 w' ga M' F' K' gb Mb Fb Kb V ∧ ∀ x ∈ V, w'.heap[x]? = w.heap[x]? := by
  obtain ⟨he, F', h1, h2, h3⟩ := k
  have hb := h.b.chg h2 (fun x hx hm => h.dis x hm hx)
  refine ⟨he, F', ⟨h1, hb, fun x hx hm => ?_, fun x hx => ?_, h.nb, ?_, fun x hx => ⟨fun hm => ?_, (h.var x hx).2.1, ?_⟩⟩, fun x hx => h2.block x (h.var x hx).2.2 (h.var x hx).1⟩
  · rcases h3 x hx with h4 | h4
    · exact h.dis x h4 hm
    · have := h.b.lt x hm; omega
  · rcases h3 x hx with h4 | h4
    · exact h.na x h4
    · exact Nat.le_trans h.nw.size h4
  · exact ⟨h2.os.trans h.nw.os, h2.tape.trans h.nw.tape, h2.output.trans h.nw.output, Nat.le_trans h.nw.size h2.size, fun i hi _ =>
      (h2.block i (Nat.lt_of_lt_of_le hi h.nw.size) (fun hm => by have := h.na i hm; omega)).trans (h.nw.block i hi (by simp))⟩
  · rcases h3 x hm with h4 | h4
    · exact (h.var x hx).1 h4
    · have := (h.var x hx).2.2; omega
  · exact Nat.lt_of_lt_of_le (h.var x hx).2.2 h2.size
theorem Tw.flip (h : Tw w0 w ga Ma Fa Ka gb Mb Fb Kb V) : Tw w0 w gb Mb Fb Kb ga Ma Fa Ka V :=
  ⟨h.b, h.a, fun x hx hm => h.dis x hm hx, h.nb, h.na, h.nw, fun x hx => ⟨(h.var x hx).2.1, (h.var x hx).1, (h.var x hx).2.2⟩⟩
theorem Tw.stepB (h : Tw w0 w ga Ma Fa Ka gb Mb Fb Kb V) (k : Post v gb M' Fb K' w e w') : e = .returned v ∧ ∃ F', Tw w0 w' ga Ma Fa Ka gb M' F' K' V ∧ ∀ x ∈ V, w'.heap[x]? = w.heap[x]? := by
  obtain ⟨he, F', h1, h2⟩ := h.flip.stepA k
  exact ⟨he, F', h1.flip, h2⟩
theorem Tw.more (h : Tw w0 w ga Ma Fa Ka gb Mb Fb Kb V) (k : Nw w w') : Tw w0 w' ga Ma Fa Ka gb Mb Fb Kb V :=
  ⟨h.a.nw k, h.b.nw k, h.dis, h.na, h.nb, gb_trans h.nw k, fun x hx => ⟨(h.var x hx).1, (h.var x hx).2.1, Nat.lt_of_lt_of_le (h.var x hx).2.2 k.size⟩⟩
theorem Tw.addVar (h : Tw w0 w ga Ma Fa Ka gb Mb Fb Kb V) (k : Nw w w') {x : Nat} (h1 : w.heap.size ≤ x) (h2 : x < w'.heap.size) : Tw w0 w' ga Ma Fa Ka gb Mb Fb Kb (x :: V) := by
  have m := h.more k
  refine ⟨m.a, m.b, m.dis, m.na, m.nb, m.nw, fun y hy => ?_⟩
  rcases List.mem_cons.1 hy with rfl | hy
  · exact ⟨fun hm => by have := h.a.lt _ hm; omega, fun hm => by have := h.b.lt _ hm; omega, h2⟩
  · exact m.var y hy
theorem Tw.noVar (h : Tw w0 w ga Ma Fa Ka gb Mb Fb Kb V) : Tw w0 w ga Ma Fa Ka gb Mb Fb Kb [] := ⟨h.a, h.b, h.dis, h.na, h.nb, h.nw, fun x hx => by cases hx⟩
theorem Tw.of_new {N N' : Nat} (h0 : Nw w0 w) (s : St w0 w ga (List.replicate N (z64b, false)) Fa 1 []) (h : NewPost N' w e w') : ∃ gb Fb, e = .returned (pv gb) ∧ Tw w0 w' ga (List.replicate N (z64b, false)) Fa 1 gb (List.replicate N' (z64b, false)) Fb 1 [] := by
  obtain ⟨gb, Fb, he, h1, h2, h3⟩ := h
  refine ⟨gb, Fb, he, s.rep.nw h3, h1, fun x hx hm => ?_, s.new, fun x hx => Nat.le_trans h0.size (h2 x hx), gb_trans h0 h3, fun x hx => by cases hx⟩
  have := s.rep.lt x hx
  have := h2 x hm
  omega
end
/-! steps that came in -/
def okO (o : Op) : Prop := (-9223372036854775808 ≤ o.k ∧ o.k ≤ 9223372036854775807) ∧ (-9223372036854775808 ≤ o.b ∧ o.b ≤ 9223372036854775807) ∧ o.s.length = 64
theorem i43 : (Try.prog.info? 43).map (·.size) = some 66 := by kernel_rfl
theorem oc_len {o : Op} (h : o.s.length = 64) : (oc o).length = 66 := by simp [oc, h]
def z66 : Op := ⟨0, 0, z64b⟩
theorem T36 : El Try.prog 36 43 (ov z66) 66 80 := El.mk' Try.underlying36 (by kernel_rfl) (by kernel_rfl) (by decide)
theorem op_open {H : Type} {enc : TypeId × Value → H} {w : World} {base : Nat} {spare : Nat → Bool} {held : Bool} {x : DataW H × List MemPlace} {cs : List Value} {n : Nat} (h : DataW.trod enc Try.prog w base spare held n 43 cs = some x) : ∃ o : Op, okO o ∧ cs = oc o := by
  have hl : cs.length = 66 := (struct_len Try.underlying43 h).trans (by kernel_rfl)
  obtain ⟨_, _, h0⟩ := field_open Try.underlying43 h 0 _ rfl
  obtain ⟨_, _, h1⟩ := field_open Try.underlying43 h 1 _ rfl
  obtain ⟨_, _, h2⟩ := field_open Try.underlying43 h 2 _ rfl
  obtain ⟨a, e0, b0⟩ := int_open Try.underlying3 h0
  obtain ⟨b, e1, b1⟩ := int_open Try.underlying3 h1
  obtain ⟨s, ls, e2⟩ := bytes_open (N := 64) Try.underlying27 Try.underlying5 (by kernel_rfl) (by kernel_rfl) h2
  refine ⟨⟨a, b, s⟩, ⟨b0, b1, ls⟩, ?_⟩
  have e0' : (cs.drop 0).take 1 = [iv a] := e0
  have e1' : (cs.drop 1).take 1 = [iv b] := e1
  have e2' : (cs.drop 2).take 64 = s.map bv := e2
  match cs, hl with
  | p :: q :: r, hl =>
    simp at e0' e1' e2' hl
    rw [List.take_of_length_le (by omega)] at e2'
    simp [oc, e0', e1', e2', iv]
abbrev InO (w : World) (A : Option Addr) (n c : Nat) (l : List Op) : Prop := InL w oc 66 okO A n c l
theorem inO_open {H : Type} {enc : TypeId × Value → H} {w : World} {base : Nat} {spare : Nat → Bool} {held : Bool} {x : DataW H × List MemPlace} {fuel : Nat} {a : Option Addr} {len cap : Nat} (h : DataW.trod enc Try.prog w base spare held fuel 36 [.slice a len cap] = some x) : ∃ os, InO w a len cap os :=
  inL_open Try.underlying36 (by kernel_rfl) (by omega) (fun _ _ _ h => op_open h) h
/-- the k-th step in memory -/
theorem op_at {w : World} {A : Option Addr} {n c k : Nat} {l : List Op} (h : InO w A n c l) (hk : k < n) : ∃ b off o, A = some ⟨b, off, none⟩ ∧ l[k]? = some o ∧ okO o ∧ ∀ w', Nw w w' → ∀ j u, (oc o)[j]? = some u → w'.cell? ⟨b, off + k * 66 + j, none⟩ = some u := by
  obtain ⟨hr, _, _, hl, hok⟩ := h
  have hx : l[k]? = some (l[k]'(by omega)) := List.getElem?_eq_getElem _
  have ho : okO (l[k]'(by omega)) := hok _ (List.mem_of_getElem? hx)
  have key : ∀ m, m ≤ l.length → (l.map oc).flatten.drop (m * 66) = ((l.drop m).map oc).flatten := by
    intro m
    induction m with
    | zero => intro _; simp
    | succ m ih =>
      intro hm
      have hd : l.drop m = l[m] :: l.drop (m + 1) := List.drop_eq_getElem_cons (by omega)
      have hl66 := oc_len (hok l[m] (List.getElem_mem _)).2.2
      rw [Nat.succ_mul, ← List.drop_drop, ih (by omega), hd, List.map_cons, List.flatten_cons, List.drop_append, hl66, List.drop_of_length_le (by omega), Nat.sub_self, List.drop_zero, List.nil_append]
  obtain ⟨b, off, e, _, _, _⟩ := hr.atN hk (by omega)
  refine ⟨b, off, _, e, hx, ho, fun w' k' j u hu => ?_⟩
  obtain ⟨b2, off2, e2, _, _, hc⟩ := (hr.nw k' (Nat.le_refl _)).atN hk (by omega)
  rw [e] at e2; injection e2 with e2; injection e2 with e3 e4; subst e3; subst e4
  refine hc j u ?_
  rw [key k (by omega), List.drop_eq_getElem_cons (by omega : k < l.length), List.map_cons, List.flatten_cons, List.take_append, oc_len ho.2.2, Nat.sub_self, List.take_zero, List.append_nil, List.take_of_length_le (by rw [oc_len ho.2.2]; exact Nat.le_refl _)]
  exact hu
def stepB (b : List UInt8 × Bool) (o : Op) : List UInt8 × Bool :=
  if o.k = 1 then (b.1 ++ o.s, false) else if o.k = 2 then flushB b else if o.k = 3 then fallB b else if o.k = 4 then settleB b o.s else b
theorem doesM_len (M : MB) (i : Nat) (b : List UInt8 × Bool) (o : Op) : (doesM M i b o).length = M.length := by
  unfold doesM
  split
  · simp
  · split
    · simp
    · split
      · simp
      · split <;> simp
theorem doesM_at {M : MB} {i : Nat} {b : List UInt8 × Bool} (h : M[i]? = some b) (o : Op) : (doesM M i b o)[i]? = some (stepB b o) := by
  have hi := (List.getElem?_eq_some_iff.1 h).1
  unfold doesM stepB
  split
  · simp [hi]
  · split
    · rw [List.getElem?_map, h]; rfl
    · split
      · rw [List.getElem?_map, h]; rfl
      · split
        · simp [hi]
        · exact h
theorem doesM_other {M : MB} {i j : Nat} {b : List UInt8 × Bool} (o : Op) (hk : o.k = 1 ∨ o.k = 4) (hij : i ≠ j) : (doesM M i b o)[j]? = M[j]? := by
  unfold doesM
  rcases hk with hk | hk
  · rw [if_pos hk, List.getElem?_set_ne hij]
  · rw [if_neg (by omega), if_neg (by omega), if_neg (by omega), if_pos hk, List.getElem?_set_ne hij]
theorem now_len {w : World} {g Z : Nat} {M : MB} {F : List Nat} (h : Rep w g M F Z) {i : Nat} {b : List UInt8 × Bool} (hb : M[i]? = some b) : (nowOf b).1.length = 64 := by
  obtain ⟨l, c, ho⟩ := h.obj
  have hi := (List.getElem?_eq_some_iff.1 hb).1
  obtain ⟨p, r, b', n, cc, A⟩ := h.at ho hi
  have hbb : b' = b := by have := A.elt; rw [hb] at this; injection this with this; exact this.symm
  subst hbb
  unfold nowOf
  split
  · rfl
  · exact lastB_len A.blk
theorem Tw.moreK {w0 w : World} {ga gb Ka Kb Ka' Kb' : Nat} {Ma Mb : MB} {Fa Fb V : List Nat} (h : Tw w0 w ga Ma Fa Ka gb Mb Fb Kb V) (h1 : Ka ≤ Ka') (h2 : Kb ≤ Kb') : Tw w0 w ga Ma Fa Ka' gb Mb Fb Kb' V := ⟨h.a.more h1, h.b.more h2, h.dis, h.na, h.nb, h.nw, h.var⟩
theorem rep_len {w : World} {g Z : Nat} {M : MB} {F : List Nat} (h : Rep w g M F Z) {i : Nat} {b : List UInt8 × Bool} (hb : M[i]? = some b) : 64 ≤ b.1.length := by
  obtain ⟨l, c, ho⟩ := h.obj
  have hi := (List.getElem?_eq_some_iff.1 hb).1
  obtain ⟨p, r, b', n, cc, A⟩ := h.at ho hi
  have hbb : b' = b := by have := A.elt; rw [hb] at this; injection this with this; exact this.symm
  subst hbb
  have h1 := A.blk.row.len
  have h2 := A.blk.pos
  simp at h1
  omega
theorem lastB_64 {bs : List UInt8} (h : 64 ≤ bs.length) : (lastB bs).length = 64 := by unfold lastB; rw [List.length_drop]; omega
theorem step_len {b : List UInt8 × Bool} {o : Op} (h : 64 ≤ b.1.length) (hs : o.s.length = 64) : 64 ≤ (stepB b o).1.length := by
  unfold stepB flushB fallB settleB
  split
  · simp; omega
  · split
    · split
      · exact h
      · simp [lastB_64 h]
    · split
      · exact h
      · split
        · split
          · simp [hs]
          · exact h
        · exact h
theorem now_64 {b : List UInt8 × Bool} (h : 64 ≤ b.1.length) : (nowOf b).1.length = 64 := by
  unfold nowOf
  split
  · rfl
  · exact lastB_64 h
end Go.Proofs.Ytblkdmnfmnbbeaa

