/- Groups and rooms in plain Lean: each group is given a disk that it does not have (Mt), or some set of disks has too little room; each under the premises that it states. -/
import Derived.WalkKit
namespace Go.BW

/-- each of the groups (a group is the list of its disks) can be given a disk, one behind the other -/
def Mt : List (List Int) → List Int → Prop
  | [], _ => True
  | g :: l, rs => ∃ d, d < rs.length ∧ 0 < rs.getD d 0 ∧ (d : Int) ∉ g ∧ Mt l (rs.set d (rs.getD d 0 - 1))

/-- the room of a set of disks -/
def roomS (S : Nat → Bool) : List Int → Nat → Nat
  | [], _ => 0
  | r :: rs, k => (if S k then r.toNat else 0) + roomS S rs (k + 1)

/-- all disks that a group may get are among those of a set -/
def hangs (S : Nat → Bool) (rs : List Int) (g : List Int) : Bool :=
  (List.range rs.length).all fun d => !(decide (0 < rs.getD d 0) && !g.contains (d : Int)) || S d

theorem hangs_iff (S : Nat → Bool) (rs g : List Int) : hangs S rs g = true ↔ ∀ d, d < rs.length → 0 < rs.getD d 0 → (d : Int) ∉ g → S d = true := by
  simp only [hangs, List.all_eq_true, List.mem_range, Bool.or_eq_true, Bool.not_eq_true', Bool.and_eq_false_iff, decide_eq_false_iff_not, Bool.not_eq_false', List.contains_iff_mem]
  constructor
  · intro h d hd h0 hg
    rcases h d hd with (h1 | h1) | h1
    · exact absurd h0 h1
    · exact absurd h1 hg
    · exact h1
  · intro h d hd
    by_cases h0 : 0 < rs.getD d 0
    · by_cases hg : (d : Int) ∈ g
      · exact .inl (.inr hg)
      · exact .inr (h d hd h0 hg)
    · exact .inl (.inl h0)

theorem getD_set (rs : List Int) (d e : Nat) (v : Int) (hd : d < rs.length) : (rs.set d v).getD e 0 = if e = d then v else rs.getD e 0 := by
  simp only [List.getD_eq_getElem?_getD, List.getElem?_set]
  by_cases h : e = d
  · subst h; simp [hd]
  · rw [if_neg (fun h' => h h'.symm), if_neg h]

theorem roomS_set (S : Nat → Bool) : ∀ (rs : List Int) (d k : Nat), d < rs.length → 0 < rs.getD d 0 → roomS S (rs.set d (rs.getD d 0 - 1)) k + (if S (k + d) then 1 else 0) = roomS S rs k
  | [], d, k, h, _ => by simp at h
  | r :: rs, 0, k, _, h0 => by
    simp only [List.getD_cons_zero] at h0
    simp only [List.getD_cons_zero, List.set_cons_zero, roomS, Nat.add_zero]
    by_cases hs : S k = true
    · simp only [hs, if_true]; omega
    · simp only [hs, if_false, Bool.false_eq_true]; omega
  | r :: rs, d + 1, k, h, h0 => by
    have ih := roomS_set S rs d (k + 1) (by simpa using h) (by simpa using h0)
    simp only [List.getD_cons_succ, List.set_cons_succ, roomS]
    rw [show k + (d + 1) = k + 1 + d by omega]
    omega

theorem hangs_set {S : Nat → Bool} {rs g : List Int} {d : Nat} (hd : d < rs.length) (h : hangs S rs g = true) : hangs S (rs.set d (rs.getD d 0 - 1)) g = true := by
  rw [hangs_iff] at h ⊢
  intro e he h0 hg
  rw [List.length_set] at he
  rw [getD_set _ _ _ _ hd] at h0
  refine h e he ?_ hg
  split at h0
  · next hh => subst hh; omega
  · exact h0

/-- what can be given leaves no set of disks short -/
theorem Mt_hall (S : Nat → Bool) : ∀ (l : List (List Int)) (rs : List Int), Mt l rs → l.countP (hangs S rs) ≤ roomS S rs 0
  | [], _, _ => by simp
  | g :: l, rs, ⟨d, hd, h0, hg, hm⟩ => by
    have ih := Mt_hall S l _ hm
    have hr := roomS_set S rs d 0 hd h0
    have hmono : l.countP (hangs S rs) ≤ l.countP (hangs S (rs.set d (rs.getD d 0 - 1))) := List.countP_mono_left fun x _ hx => hangs_set hd hx
    rw [List.countP_cons]
    rw [Nat.zero_add] at hr
    by_cases hh : hangs S rs g = true
    · have hS : S d = true := (hangs_iff _ _ _).1 hh d hd h0 hg
      simp only [hS, if_true] at hr
      simp only [hh, if_true]
      omega
    · simp only [hh, if_false, Bool.false_eq_true]
      omega

/-- more room, no harm -/
theorem Mt_mono : ∀ (l : List (List Int)) (rs rs' : List Int), rs.length ≤ rs'.length → (∀ d, d < rs.length → rs.getD d 0 ≤ rs'.getD d 0) → Mt l rs → Mt l rs'
  | [], _, _, _, _, _ => trivial
  | g :: l, rs, rs', hl, hle, ⟨d, hd, h0, hg, hm⟩ => by
    refine ⟨d, by omega, by have := hle d hd; omega, hg, Mt_mono l _ _ (by simpa using hl) ?_ hm⟩
    intro e he
    rw [List.length_set] at he
    rw [getD_set _ _ _ _ hd, getD_set _ _ _ _ (by omega)]
    have h1 := hle e he
    split
    · next hh => subst hh; omega
    · exact h1

theorem Mt_swap (g h : List Int) (l : List (List Int)) (rs : List Int) : Mt (g :: h :: l) rs → Mt (h :: g :: l) rs := by
  rintro ⟨d, hd, h0, hg, e, he, h1, hh, hm⟩
  rw [List.length_set] at he
  rw [getD_set _ _ _ _ hd] at h1 hm
  refine ⟨e, he, ?_, hh, d, by simpa using hd, ?_, hg, ?_⟩
  · split at h1
    · next x => subst x; omega
    · exact h1
  · rw [getD_set _ _ _ _ he]
    split
    · next x => subst x; rw [if_pos rfl] at h1; exact h1
    · exact h0
  · rw [getD_set _ _ _ _ he]
    by_cases x : d = e
    · subst x; simpa using hm
    · rw [if_neg x]
      rw [if_neg (fun y => x y.symm)] at hm
      rwa [List.set_comm _ _ x] at hm

theorem Mt_perm {l l' : List (List Int)} (h : l.Perm l') : ∀ rs, Mt l rs → Mt l' rs := by
  induction h with
  | nil => exact fun _ h => h
  | cons x _ ih => rintro rs ⟨d, hd, h0, hg, hm⟩; exact ⟨d, hd, h0, hg, ih _ hm⟩
  | swap x y l => exact fun rs h => Mt_swap _ _ _ _ h
  | trans _ _ ih1 ih2 => exact fun rs h => ih2 _ (ih1 _ h)

/-- fewer groups, no harm -/
theorem Mt_tail (g : List Int) (l : List (List Int)) (rs : List Int) (h : Mt (g :: l) rs) : Mt l rs := by
  obtain ⟨d, hd, h0, hg, hm⟩ := h
  refine Mt_mono _ _ _ (by simp) (fun e he => ?_) hm
  rw [getD_set _ _ _ _ hd]
  split
  · next x => subst x; omega
  · omega
theorem Mt_sub {l' l : List (List Int)} (h : l'.Sublist l) : ∀ rs, Mt l rs → Mt l' rs := by
  induction h with
  | slnil => exact fun _ h => h
  | cons x _ ih => exact fun rs h => ih _ (Mt_tail _ _ _ h)
  | cons_cons x _ ih => rintro rs ⟨d, hd, h0, hg, hm⟩; exact ⟨d, hd, h0, hg, ih _ hm⟩

theorem Mt_one : ∀ (L : List (List Int)) (rest : List (List Int)) (rs : List Int) (d : Nat), d < rs.length → (L.length : Int) ≤ max 0 (rs.getD d 0) → (∀ g ∈ L, (d : Int) ∉ g) →
    Mt rest (rs.set d (rs.getD d 0 - L.length)) → Mt (L ++ rest) rs
  | [], rest, rs, d, hd, _, _, hm => by
    have : rs.set d (rs.getD d 0 - (([] : List (List Int)).length : Int)) = rs := by
      simp [List.getD_eq_getElem?_getD, List.getElem?_eq_getElem hd]
    rw [this] at hm
    exact hm
  | g :: L, rest, rs, d, hd, hlen, hno, hm => by
    simp only [List.length_cons] at hlen hm
    have h0 : 0 < rs.getD d 0 := by omega
    refine ⟨d, hd, h0, hno g (by simp), Mt_one L rest _ d (by simpa using hd) ?_ (fun x hx => hno x (List.mem_cons_of_mem _ hx)) ?_⟩
    · rw [getD_set _ _ _ _ hd, if_pos rfl]; omega
    · rw [getD_set _ _ _ _ hd, if_pos rfl, List.set_set]
      rwa [show rs.getD d 0 - 1 - (L.length : Int) = rs.getD d 0 - ((L.length + 1 : Nat) : Int) by omega]

/-- what is given, disk by disk -/
theorem Mt_given (l : Nat → List Int) : ∀ (G : List (List Nat)) (k : Nat) (rs : List Int), k + G.length ≤ rs.length →
    (∀ j, (hj : j < G.length) → ((G[j].length : Nat) : Int) ≤ max 0 (rs.getD (k + j) 0) ∧ ∀ x ∈ G[j], ((k + j : Nat) : Int) ∉ l x) → Mt (G.flatten.map l) rs
  | [], _, _, _, _ => by simp [Mt]
  | L :: G, k, rs, hl, h => by
    simp only [List.length_cons] at hl
    rw [List.flatten_cons, List.map_append]
    have h0 := h 0 (by simp)
    simp only [List.getElem_cons_zero, Nat.add_zero] at h0
    refine Mt_one _ _ rs k (by omega) (by simpa using h0.1) ?_ (Mt_given l G (k + 1) _ (by simp; omega) ?_)
    · intro g hg
      obtain ⟨x, hx, rfl⟩ := List.mem_map.1 hg
      exact h0.2 x hx
    · intro j hj
      have h1 := h (j + 1) (by simpa using hj)
      simp only [List.getElem_cons_succ] at h1
      rw [getD_set _ _ _ _ (by omega), if_neg (by omega), show k + 1 + j = k + (j + 1) by omega]
      exact h1

/-- all given: each has its disk -/
theorem Mt_of_given (l : List (List Int)) (G : List (List Nat)) (rs : List Int) (hl : G.length = rs.length) (hp : G.flatten.Perm (List.range l.length))
    (h : ∀ j, (hj : j < G.length) → ((G[j].length : Nat) : Int) ≤ max 0 (rs.getD j 0) ∧ ∀ x ∈ G[j], (j : Int) ∉ l.getD x []) : Mt l rs := by
  have h1 := Mt_given (fun x => l.getD x []) G 0 rs (by omega) (by simpa using h)
  have h2 := Mt_perm (hp.map (fun x => l.getD x [])) rs h1
  have h3 : (List.range l.length).map (fun x => l.getD x []) = l := by
    refine List.ext_getElem (by simp) fun i h1 h2 => ?_
    simp [List.getD_eq_getElem?_getD, List.getElem?_eq_getElem h2]
  rwa [h3] at h2

theorem countP_flatten (p : Nat → Bool) (S : Nat → Bool) : ∀ (G : List (List Nat)) (rs : List Int) (k : Nat), G.length = rs.length →
    (∀ j, (hj : j < G.length) → S (k + j) = true → (rs.getD j 0).toNat ≤ G[j].length ∧ ∀ x ∈ G[j], p x = true) → roomS S rs k ≤ G.flatten.countP p
  | [], [], _, _, _ => by simp [roomS]
  | [], _ :: _, _, h, _ => by simp at h
  | _ :: _, [], _, h, _ => by simp at h
  | L :: G, r :: rs, k, hl, h => by
    rw [List.flatten_cons, List.countP_append, roomS]
    have h0 := h 0 (by simp)
    simp only [List.getElem_cons_zero, Nat.add_zero, List.getD_cons_zero] at h0
    have ih := countP_flatten p S G rs (k + 1) (by simpa using hl) (fun j hj hs => by
      have h1 := h (j + 1) (by simpa using hj) (by rwa [show k + (j + 1) = k + 1 + j by omega])
      simpa using h1)
    by_cases hs : S k = true
    · have h1 := h0 hs
      have h2 : L.countP p = L.length := List.countP_eq_length.2 h1.2
      simp only [hs, if_true]
      omega
    · simp only [hs, if_false, Bool.false_eq_true]
      omega

/-- it went no further: a set of disks that is short -/
theorem short_of_given (l : List (List Int)) (G : List (List Nat)) (rs : List Int) (S : Nat → Bool) (k : Nat) (hk : k < l.length) (hl : G.length = rs.length) (hp : G.flatten.Perm (List.range k))
    (h : ∀ j, (hj : j < G.length) → S j = true → (rs.getD j 0).toNat ≤ G[j].length ∧ ∀ x ∈ G[j], hangs S rs (l.getD x []) = true) (hg : hangs S rs (l.getD k []) = true) :
    roomS S rs 0 < l.countP (hangs S rs) := by
  have h1 := countP_flatten (fun x => hangs S rs (l.getD x [])) S G rs 0 hl (by simpa using h)
  rw [hp.countP_eq] at h1
  have h2 : (List.range (k + 1)).countP (fun x => hangs S rs (l.getD x [])) = (List.range k).countP (fun x => hangs S rs (l.getD x [])) + 1 := by
    rw [List.range_succ, List.countP_append, List.countP_singleton, if_pos hg]
  have h3 : (List.range (k + 1)).countP (fun x => hangs S rs (l.getD x [])) ≤ (List.range l.length).countP (fun x => hangs S rs (l.getD x [])) :=
    List.Sublist.countP_le (List.range_sublist.2 (by omega))
  have h4 : (List.range l.length).countP (fun x => hangs S rs (l.getD x [])) = l.countP (hangs S rs) := by
    have e : (List.range l.length).map (fun x => l.getD x []) = l := by
      refine List.ext_getElem (by simp) fun i h1 h2 => ?_
      simp [List.getD_eq_getElem?_getD, List.getElem?_eq_getElem h2]
    conv => rhs; rw [← e]
    rw [List.countP_map]
    rfl
  omega

/-! ### one step of the giving -/
/-- to put behind one disk's row -/
theorem flatten_push (G : List (List Nat)) (d g : Nat) (hd : d < G.length) : (G.set d (G.getD d [] ++ [g])).flatten.Perm (g :: G.flatten) := by
  induction G generalizing d with
  | nil => simp at hd
  | cons L G ih =>
    cases d with
    | zero =>
      simp only [List.getD_cons_zero, List.set_cons_zero, List.flatten_cons, List.append_assoc]
      exact List.perm_middle
    | succ d =>
      simp only [List.getD_cons_succ, List.set_cons_succ, List.flatten_cons]
      exact ((ih d (by simpa using hd)).append_left L).trans List.perm_middle
theorem set_one (L : List Nat) (i g : Nat) (hi : i < L.length) : ∃ X, L.Perm (L.getD i 0 :: X) ∧ (L.set i g).Perm (g :: X) := by
  induction L generalizing i with
  | nil => simp at hi
  | cons x L ih =>
    cases i with
    | zero => exact ⟨L, by simp, by simp⟩
    | succ i =>
      obtain ⟨X, h1, h2⟩ := ih i (by simpa using hi)
      refine ⟨x :: X, ?_, ?_⟩
      · simp only [List.getD_cons_succ]
        exact (h1.cons x).trans (List.Perm.swap _ _ _)
      · simp only [List.set_cons_succ]
        exact (h2.cons x).trans (List.Perm.swap _ _ _)
/-- to put in one's place -/
theorem flatten_put (G : List (List Nat)) (d i g : Nat) (hd : d < G.length) (hi : i < (G.getD d []).length) :
    ∃ X, G.flatten.Perm ((G.getD d []).getD i 0 :: X) ∧ (G.set d ((G.getD d []).set i g)).flatten.Perm (g :: X) := by
  induction G generalizing d with
  | nil => simp at hd
  | cons L G ih =>
    cases d with
    | zero =>
      simp only [List.getD_cons_zero] at hi ⊢
      obtain ⟨X, h1, h2⟩ := set_one L i g hi
      refine ⟨X ++ G.flatten, ?_, ?_⟩
      · simp only [List.flatten_cons]; exact h1.append_right _
      · simp only [List.set_cons_zero, List.flatten_cons]; exact h2.append_right _
    | succ d =>
      simp only [List.getD_cons_succ] at hi ⊢
      obtain ⟨X, h1, h2⟩ := ih d (by simpa using hd) hi
      refine ⟨L ++ X, ?_, ?_⟩
      · simp only [List.flatten_cons]; exact (h1.append_left L).trans List.perm_middle
      · simp only [List.set_cons_succ, List.flatten_cons]; exact (h2.append_left L).trans List.perm_middle
theorem flatten_swapped (G G1 : List (List Nat)) (d i g : Nat) (hd : d < G1.length) (hi : i < (G1.getD d []).length) (h : G1.flatten.Perm ((G1.getD d []).getD i 0 :: G.flatten)) :
    (G1.set d ((G1.getD d []).set i g)).flatten.Perm (g :: G.flatten) := by
  obtain ⟨X, h1, h2⟩ := flatten_put G1 d i g hd hi
  have h3 : X.Perm G.flatten := List.Perm.cons_inv (h1.symm.trans h)
  exact h2.trans (h3.cons g)
end Go.BW

