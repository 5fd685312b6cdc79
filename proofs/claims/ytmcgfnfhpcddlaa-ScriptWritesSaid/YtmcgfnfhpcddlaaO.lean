/- Scripts that came in. -/
import Derived.Test.YtmcgfnfhpcddlaaD
import Derived.Test.YtmcgfnfhpcddlaaOpen
namespace Go.Proofs.Ytmcgfnfhpcddlaa
open Go.RowKit Go.BW Go.ChangeShapes Go.WideShapes Go.Deep
section
variable {H : Type} {enc : TypeId × Value → H} {w : World} {base : Nat} {spare : Nat → Bool} {held : Bool} {x : DataW H × List MemPlace} {cs : List Value} {n : Nat}
theorem uint_open {t : TypeId} (ht : Try.prog.underlying t = some (.int .u64)) (h : DataW.trod enc Try.prog w base spare held n t cs = some x) : ∃ z : Nat, cs = [uv z] ∧ z < 18446744073709551616 := by
  obtain ⟨z, hz, _, hw⟩ := DataW.trod_int ht h
  have hb := bounds_u64 hw
  refine ⟨z.toNat, ?_, by omega⟩
  rw [hz]
  unfold uv
  rw [Int.toNat_of_nonneg hb.1]
theorem cut_act {l : List Value} {a b d e f : Value} {s : List Value} (hl : l.length = 69) (hs : s.length = 64) (h0 : (l.drop 0).take 1 = [a]) (h1 : (l.drop 1).take 1 = [b]) (h2 : (l.drop 2).take 64 = s) (h3 : (l.drop 66).take 1 = [d]) (h4 : (l.drop 67).take 1 = [e]) (h5 : (l.drop 68).take 1 = [f]) : l = [a, b] ++ (s ++ [d, e, f]) := by
  have e1 : l = l.take 2 ++ l.drop 2 := (List.take_append_drop 2 l).symm
  have e2 : l.drop 2 = (l.drop 2).take 64 ++ (l.drop 2).drop 64 := (List.take_append_drop 64 _).symm
  rw [List.drop_drop] at e2
  have t2 : l.take 2 = [a, b] := by
    match l, hl with
    | x :: y :: r, _ => simp at h0 h1; simp [h0, h1]
  obtain ⟨r, hr⟩ : ∃ r, l.drop 66 = r := ⟨_, rfl⟩
  have hrl : r.length = 3 := by rw [← hr, List.length_drop, hl]
  rw [show l.drop 67 = r.drop 1 from by rw [← hr, List.drop_drop]] at h4
  rw [show l.drop 68 = r.drop 2 from by rw [← hr, List.drop_drop]] at h5
  rw [hr] at h3
  have hr3 : r = [d, e, f] := by
    match r, hrl with
    | [x, y, z], _ => simp at h3 h4 h5; simp [h3, h4, h5]
  rw [e1, t2, e2, h2, hr, hr3]
set_option maxRecDepth 100000 in
theorem act_open (h : DataW.trod enc Try.prog w base spare held n 44 cs = some x) : ∃ o : Act, ActOk o ∧ cs = actC o := by
  have hl : cs.length = 69 := (struct_len Try.underlying44 h).trans (by kernel_rfl)
  obtain ⟨_, _, h0⟩ := field_open Try.underlying44 h 0 _ rfl
  obtain ⟨_, _, h1⟩ := field_open Try.underlying44 h 1 _ rfl
  obtain ⟨_, _, h2⟩ := field_open Try.underlying44 h 2 _ rfl
  obtain ⟨_, _, h3⟩ := field_open Try.underlying44 h 3 _ rfl
  obtain ⟨_, _, h4⟩ := field_open Try.underlying44 h 4 _ rfl
  obtain ⟨_, _, h5⟩ := field_open Try.underlying44 h 5 _ rfl
  obtain ⟨k, e0, _⟩ := int_open Try.underlying3 h0
  obtain ⟨b, e1, _⟩ := int_open Try.underlying3 h1
  obtain ⟨s, hs, e2⟩ := bytes_open (N := 64) Try.underlying33 Try.underlying5 (by kernel_rfl) (by kernel_rfl) h2
  obtain ⟨nn, e3, _⟩ := int_open Try.underlying3 h3
  obtain ⟨t, e4, _⟩ := int_open Try.underlying3 h4
  obtain ⟨m, e5, hm⟩ := uint_open Try.underlying31 h5
  refine ⟨⟨k, b, s, nn, t, m⟩, ⟨hs, hm⟩, ?_⟩
  unfold actC
  simp only
  rw [p64_of hs]
  exact cut_act hl (by simpa using hs) e0 e1 e2 e3 e4 e5
set_option maxRecDepth 100000 in
theorem acts_open (h : DataW.trod enc Try.prog w base spare held n 23 cs = some x) : ∃ A n c, cs = [.slice A n c] ∧ ∃ ms, InL w actC 69 ActOk A n c ms := by
  rcases open_slice Try.underlying23 h with ⟨hcs, _⟩ | ⟨ad, len', cap', m, n, D, Pl, hcs, _⟩
  · subst hcs
    exact ⟨_, _, _, rfl, inL_open Try.underlying23 (by kernel_rfl) (by omega) (fun _ _ _ h => act_open h) h⟩
  · subst hcs
    exact ⟨_, _, _, rfl, inL_open Try.underlying23 (by kernel_rfl) (by omega) (fun _ _ _ h => act_open h) h⟩
set_option maxRecDepth 100000 in
theorem sizes_open (h : DataW.trod enc Try.prog w base spare held n 22 cs = some x) : ∃ A n c, cs = [.slice A n c] ∧ ∃ ms, InL w (fun z : Int => [iv z]) 1 (fun _ => True) A n c ms := by
  rcases open_slice Try.underlying22 h with ⟨hcs, _⟩ | ⟨ad, len', cap', m, n, D, Pl, hcs, _⟩
  · subst hcs
    exact ⟨_, _, _, rfl, inL_open Try.underlying22 (by kernel_rfl) (by omega) (fun _ _ _ h => by obtain ⟨z, hz, _⟩ := int_open Try.underlying3 h; exact ⟨z, trivial, hz⟩) h⟩
  · subst hcs
    exact ⟨_, _, _, rfl, inL_open Try.underlying22 (by kernel_rfl) (by omega) (fun _ _ _ h => by obtain ⟨z, hz, _⟩ := int_open Try.underlying3 h; exact ⟨z, trivial, hz⟩) h⟩
theorem cut4 {l : List Value} {a b c d : Value} (hl : l.length = 4) (h0 : (l.drop 0).take 1 = [a]) (h1 : (l.drop 1).take 1 = [b]) (h2 : (l.drop 2).take 1 = [c]) (h3 : (l.drop 3).take 1 = [d]) : l = [a, b, c, d] := by
  match l, hl with
  | [x, y, z, u], _ => simp at h0 h1 h2 h3; simp [h0, h1, h2, h3]
def SIn (w : World) (x : Sc) : Prop := SOk w w.heap.size x
set_option maxRecDepth 100000 in
theorem script_open (h : DataW.trod enc Try.prog w base spare held n 25 cs = some x) : ∃ o : Sc, SIn w o ∧ cs = sc o := by
  have hl : cs.length = 4 := (struct_len Try.underlying25 h).trans (by kernel_rfl)
  obtain ⟨_, _, h0⟩ := field_open Try.underlying25 h 0 _ rfl
  obtain ⟨_, _, h1⟩ := field_open Try.underlying25 h 1 _ rfl
  obtain ⟨_, _, h2⟩ := field_open Try.underlying25 h 2 _ rfl
  obtain ⟨_, _, h3⟩ := field_open Try.underlying25 h 3 _ rfl
  obtain ⟨num, e0, _⟩ := int_open Try.underlying3 h0
  obtain ⟨A, nn, c, e1, sz, hr, hnc, hcm, _, _⟩ := sizes_open h1
  obtain ⟨bl, e2, _⟩ := int_open Try.underlying3 h2
  obtain ⟨D, m, d, e3, acts, ha, hac, ham, _, hok⟩ := acts_open h3
  rw [flat1] at hr
  exact ⟨⟨num, A, nn, c, sz, bl, D, m, d, acts⟩, ⟨hr, hnc, hcm, ha, hac, ham, hok⟩, cut4 hl e0 e1 e2 e3⟩
theorem sv_of (x : Sc) (cs : Array Value) (h : cs.toList = sc x) : Value.agg cs = sv x := by
  obtain ⟨l⟩ := cs
  simp at h
  subst h
  rfl
end
end Go.Proofs.Ytmcgfnfhpcddlaa

