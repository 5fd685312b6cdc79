/- Scripts made ones that may be, how long their bytes are, and what a beginning or another byte says; for all scripts. -/
import Derived.Test.YtmcgfnfhpcddlaaS3
namespace Go.Proofs.Ytmcgfnfhpcddlaa

def tameA (a : Act) : Act :=
  let k := 1 + a.k % 65536 % 10
  if k = 1 then ⟨k, a.b % 128, a.s, 0, 0, 0⟩ else if k = 2 then ⟨k, a.b % 128, z64, 0, 0, 0⟩ else if k = 4 then ⟨k, 0, z64, a.n % 16, 0, 0⟩ else if k = 5 then ⟨k, 0, z64, a.n % 8192, 0, 0⟩
  else if k = 6 then ⟨k, 0, z64, a.n % 256, 0, 0⟩ else if k = 7 then ⟨k, 0, z64, a.n % 32, 0, a.m⟩ else if k = 8 then ⟨k, 0, z64, a.n % 32, a.at' % 32, a.m⟩ else if k = 9 then ⟨k, 0, z64, a.n % 256, a.at' % 32, 0⟩ else a0 k
def tameZ (sz : List Int) : List Int := (sz.take 12 ++ List.replicate (3 - sz.length) 0).map (fun n => 160 + n % 256)
def cutS (s : Scr) : Scr := ⟨s.num, s.sz.take 15, s.bl, s.acts.take 125⟩
def tameS (s : Scr) : Scr := ⟨s.num % 4294967296, tameZ s.sz, 1 + s.bl % 128 % 96, (s.acts.take 120).map tameA⟩
theorem cut_ok {s : Scr} (h : ScrOk s) : ScrOk (cutS s) := ⟨fun a ha => h.a a (List.mem_of_mem_take ha)⟩
theorem tame_cut (s : Scr) : tameS (cutS s) = tameS s := by
  have hl : (s.sz.take 15).length = min 15 s.sz.length := List.length_take
  unfold tameS cutS tameZ
  simp only [List.take_take, hl]
  rw [show min 12 15 = 12 from rfl, show min 120 125 = 120 from rfl, show 3 - min 15 s.sz.length = 3 - s.sz.length by omega]
theorem tameA_ok {a : Act} (h : ActOk a) : ActOk (tameA a) := by
  have hz : z64.length = 64 := by simp [z64]
  unfold tameA
  simp only
  repeat' split
  all_goals refine ⟨?_, ?_⟩
  all_goals first | exact hz | exact h.s | exact h.m | (simp [a0]; done)
theorem tameA_right (a : Act) : rightA (tameA a) = true := by
  obtain ⟨k, b, s, n, t, m⟩ := a
  obtain ⟨K, hK⟩ : ∃ K, 1 + k % 65536 % 10 = K := ⟨_, rfl⟩
  have hk1 : 1 ≤ K ∧ K ≤ 10 := by omega
  unfold tameA
  simp only [hK]
  clear hK
  have h1 : knownK K = true := by unfold knownK; simp; omega
  unfold rightA
  rcases (show K = 1 ∨ K = 2 ∨ K = 3 ∨ K = 4 ∨ K = 5 ∨ K = 6 ∨ K = 7 ∨ K = 8 ∨ K = 9 ∨ K = 10 by omega) with e | e | e | e | e | e | e | e | e | e
  all_goals
    subst e
    simp [h1, bareA, a0, mostN, inR]
    try omega
theorem tameZ_len (sz : List Int) : 3 ≤ (tameZ sz).length ∧ (tameZ sz).length ≤ 12 := by
  unfold tameZ
  simp only [List.length_map, List.length_append, List.length_take, List.length_replicate]
  omega
theorem tameS_right (s : Scr) : rightS (tameS s) = true := by
  have h := tameZ_len s.sz
  unfold rightS tameS
  simp only [Bool.and_eq_true, inR_iff, decide_eq_true_eq, List.all_eq_true, List.length_map, List.length_take]
  refine ⟨⟨⟨⟨⟨by omega, by omega⟩, by omega⟩, by omega⟩, ?_⟩, ?_⟩
  · intro n hn
    unfold tameZ at hn
    obtain ⟨x, _, rfl⟩ := List.mem_map.1 hn
    omega
  · intro a ha
    obtain ⟨x, _, rfl⟩ := List.mem_map.1 ha
    exact tameA_right x
theorem tameS_ok {s : Scr} (h : ScrOk s) : ScrOk (tameS s) := ⟨fun a ha => by
  obtain ⟨x, hx, rfl⟩ := List.mem_map.1 ha
  exact tameA_ok (h.a x (List.mem_of_mem_take hx))⟩
/-- how many bytes an act has -/
def lenA (a : Act) : Nat := if a.k = 1 then 3 + fillN a.s else if a.k = 2 ∨ a.k = 4 ∨ a.k = 6 then 2 else if a.k = 5 ∨ a.k = 9 then 3 else if a.k = 7 then 10 else if a.k = 8 then 11 else 1
theorem actB_len (a : Act) : (actB a).length = lenA a := by
  have h := fillN_le a.s
  have h2 := be_len a.n.toNat 2
  have h8 := be_len a.m 8
  unfold actB lenA
  by_cases e1 : a.k = 1
  · rw [if_pos e1, if_pos e1]; simp only [List.length_cons, List.length_take]; omega
  rw [if_neg e1, if_neg e1]
  by_cases e2 : a.k = 2
  · rw [if_pos e2, if_pos (.inl e2)]; rfl
  rw [if_neg e2]
  by_cases e4 : a.k = 4 ∨ a.k = 6
  · rw [if_pos e4, if_pos (.inr e4)]; rfl
  rw [if_neg e4, if_neg (show ¬ (a.k = 2 ∨ a.k = 4 ∨ a.k = 6) by omega)]
  by_cases e5 : a.k = 5
  · rw [if_pos e5, if_pos (.inl e5), List.length_cons, h2]
  rw [if_neg e5]
  by_cases e7 : a.k = 7
  · rw [if_pos e7, if_neg (show ¬ (a.k = 5 ∨ a.k = 9) by omega), if_pos e7, List.length_cons, List.length_cons, h8]
  rw [if_neg e7]
  by_cases e8 : a.k = 8
  · rw [if_pos e8, if_neg (show ¬ (a.k = 5 ∨ a.k = 9) by omega), if_neg e7, if_pos e8, List.length_cons, List.length_cons, List.length_cons, h8]
  rw [if_neg e8]
  by_cases e9 : a.k = 9
  · rw [if_pos e9, if_pos (.inr e9)]; rfl
  rw [if_neg e9, if_neg (show ¬ (a.k = 5 ∨ a.k = 9) by omega), if_neg e7, if_neg e8]
  rfl
def frontB (s : Scr) : List UInt8 := headB s ++ (s.sz.map (fun n => be 2 n.toNat)).flatten ++ [b8 s.bl]
theorem frontB_len (s : Scr) : (frontB s).length = 8 + 2 * s.sz.length := by
  have h4 := be_len s.num.toNat 4
  have hz : ∀ l : List Int, ((l.map (fun n => be 2 n.toNat)).flatten).length = 2 * l.length := by
    intro l
    induction l with
    | nil => rfl
    | cons a l ih => rw [List.map_cons, List.flatten_cons, List.length_append, ih, be_len, List.length_cons]; omega
  unfold frontB headB
  simp only [List.length_append, List.length_cons, List.length_nil, h4, hz]
  omega
theorem bytes_parts (s : Scr) : bytesS s = frontB s ++ b8 s.acts.length :: (s.acts.map actB).flatten := by
  unfold bytesS frontB
  simp
def sumL (l : List Act) : Nat := (l.map lenA).sum
theorem acts_len (l : List Act) : ((l.map actB).flatten).length = sumL l := by
  unfold sumL
  induction l with
  | nil => rfl
  | cons a l ih => rw [List.map_cons, List.flatten_cons, List.length_append, ih, actB_len]; rfl
theorem bytes_len (s : Scr) : (bytesS s).length = 9 + 2 * s.sz.length + sumL s.acts := by
  rw [bytes_parts, List.length_append, List.length_cons, frontB_len, acts_len]; omega
theorem sum_take {l : List Act} {i : Nat} {a : Act} (h : l[i]? = some a) : sumL (l.take (i + 1)) = sumL (l.take i) + lenA a := by
  obtain ⟨hi, rfl⟩ := List.getElem?_eq_some_iff.1 h
  unfold sumL
  rw [List.take_succ_eq_append_getElem hi, List.map_append, List.sum_append]
  simp
/-- one script without its last act -/
def lessS (s : Scr) : Scr := ⟨s.num, s.sz, s.bl, s.acts.take (s.acts.length - 1)⟩
theorem less_right {s : Scr} (h : rightS s = true) : rightS (lessS s) = true := by
  obtain ⟨h1, h2, h3, h4, h5, h6⟩ := rightS_parts h
  unfold rightS lessS
  simp only [Bool.and_eq_true, inR_iff, decide_eq_true_eq, List.all_eq_true, List.length_take]
  exact ⟨⟨⟨⟨⟨h1, by omega⟩, h3⟩, by omega⟩, h5⟩, fun a ha => h6 a (List.mem_of_mem_take ha)⟩
theorem less_ok {s : Scr} (h : ScrOk s) : ScrOk (lessS s) := ⟨fun a ha => h.a a (List.mem_of_mem_take ha)⟩
theorem less_law {s : Scr} {a : Act} (h : s.acts[s.acts.length - 1]? = some a) :
    (bytesS (lessS s)).length + lenA a = (bytesS s).length ∧ (bytesS s)[8 + 2 * s.sz.length]? = some (b8 s.acts.length) ∧ (bytesS (lessS s))[8 + 2 * s.sz.length]? = some (b8 ((s.acts.length - 1 : Nat) : Int)) ∧
      (∀ i, i < (bytesS (lessS s)).length → i ≠ 8 + 2 * s.sz.length → (bytesS (lessS s))[i]? = (bytesS s)[i]?) ∧ (bytesS s)[(bytesS (lessS s)).length]? = some (b8 a.k) := by
  have hpos : s.acts.length - 1 < s.acts.length := (List.getElem?_eq_some_iff.1 h).1
  have hsplit : s.acts = s.acts.take (s.acts.length - 1) ++ [a] := by
    have := List.take_succ_eq_append_getElem hpos
    rw [show s.acts.length - 1 + 1 = s.acts.length by omega, List.take_length] at this
    rw [List.getElem?_eq_getElem hpos] at h
    injection h with h
    rw [← h]; exact this
  have hfl : (s.acts.map actB).flatten = ((s.acts.take (s.acts.length - 1)).map actB).flatten ++ actB a := by
    conv => lhs; rw [hsplit]
    simp
  have hll : (lessS s).acts.length = s.acts.length - 1 := by unfold lessS; rw [List.length_take]; omega
  have hF : frontB (lessS s) = frontB s := rfl
  have hb := bytes_parts s
  have hc := bytes_parts (lessS s)
  rw [hF, hll] at hc
  rw [hfl] at hb
  have hA : (lessS s).acts = s.acts.take (s.acts.length - 1) := rfl
  rw [hA] at hc
  have hfr := frontB_len s
  obtain ⟨F, hFF⟩ : ∃ F, frontB s = F := ⟨_, rfl⟩
  obtain ⟨Q, hQ⟩ : ∃ Q, ((s.acts.take (s.acts.length - 1)).map actB).flatten = Q := ⟨_, rfl⟩
  rw [hFF] at hb hc hfr
  rw [hQ] at hb hc
  rw [hb, hc, ← hfr]
  have hal := actB_len a
  refine ⟨?_, ?_, ?_, ?_, ?_⟩
  · simp only [List.length_append, List.length_cons]; omega
  · rw [List.getElem?_append_right (Nat.le_refl _), Nat.sub_self]; rfl
  · rw [List.getElem?_append_right (Nat.le_refl _), Nat.sub_self]; rfl
  · intro i hi hne
    rcases Nat.lt_or_ge i F.length with h1 | h1
    · rw [List.getElem?_append_left h1, List.getElem?_append_left h1]
    · rw [List.getElem?_append_right h1, List.getElem?_append_right h1]
      obtain ⟨j, hj⟩ : ∃ j, i - F.length = j + 1 := ⟨i - F.length - 1, by omega⟩
      rw [hj, List.getElem?_cons_succ, List.getElem?_cons_succ, List.getElem?_append_left]
      rw [List.length_append, List.length_cons] at hi
      omega
  · rw [show (F ++ b8 (s.acts.length : Int) :: (Q ++ actB a)) = (F ++ b8 (s.acts.length : Int) :: Q) ++ actB a from by simp]
    rw [show (F ++ b8 ((s.acts.length - 1 : Nat) : Int) :: Q).length = (F ++ b8 (s.acts.length : Int) :: Q).length from by simp]
    rw [List.getElem?_append_right (Nat.le_refl _), Nat.sub_self]
    unfold actB
    rfl
theorem parse_beginning {s : Scr} (h : rightS s = true) (ho : ScrOk s) {k : Nat} (hk : k < (bytesS s).length) : parseP ((bytesS s).take k) = none := by
  rcases hp : parseP ((bytesS s).take k) with _ | u
  · rfl
  · obtain ⟨h1, h2, h3⟩ := parseP_iff.1 hp
    have := (bytesS_inj h1 h2 h ho (r := (bytesS s).drop k) (by rw [h3]; exact List.take_append_drop k _)).2
    have hl := congrArg List.length this
    rw [List.length_drop, List.length_nil] at hl
    omega
theorem parse_more {s : Scr} (h : rightS s = true) (ho : ScrOk s) (c : UInt8) : parseP (bytesS s ++ [c]) = none := by
  rcases hp : parseP (bytesS s ++ [c]) with _ | u
  · rfl
  · obtain ⟨h1, h2, h3⟩ := parseP_iff.1 hp
    have := (bytesS_inj h ho h1 h2 h3.symm).2
    cases this
theorem parse_other {s u : Scr} {l : List UInt8} (hp : parseP l = some u) (hl : l ≠ bytesS s) : rightS u = true ∧ ScrOk u ∧ bytesS u = l ∧ u ≠ s := by
  obtain ⟨h1, h2, h3⟩ := parseP_iff.1 hp
  exact ⟨h1, h2, h3, by rintro rfl; exact hl h3.symm⟩
theorem set_xor_ne {l : List UInt8} {i : Nat} {c t : UInt8} (h : l[i]? = some c) (ht : t ≠ 0) : l.set i (c ^^^ t) ≠ l := by
  intro e
  have h2 := congrArg (fun l : List UInt8 => l[i]?) e
  simp only [List.getElem?_set_self (List.getElem?_eq_some_iff.1 h).1, h, Option.some.injEq] at h2
  have h3 : c ^^^ (c ^^^ t) = c ^^^ c := by rw [h2]
  rw [← UInt8.xor_assoc, UInt8.xor_self, UInt8.zero_xor] at h3
  exact ht h3
end Go.Proofs.Ytmcgfnfhpcddlaa

