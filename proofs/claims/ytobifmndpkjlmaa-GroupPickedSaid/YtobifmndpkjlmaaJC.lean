/- Groups and rooms in plain Lean: each group is given a disk that it does not have (Mt), or some set of disks has too little room; each under the premises that it states. -/
import Derived.WalkKit
set_option linter.unusedVariables false
set_option linter.unusedSimpArgs false
/- Groups and rooms in plain Lean: each group is given a disk that it does not have (Mt), or some set of disks has too little room; each under the premises that it states. -/
namespace Go.BW

/-- each of the groups (a group is the list of its disks) can be given a disk, one behind the other -/
def Mt : List (List Int) → List Int → Prop
  | [], _ => True
  | g :: l, rs => ∃ d, d < rs.length ∧ 0 < rs.getD d 0 ∧ (d : Int) ∉ g ∧ Mt l (rs.set d (rs.getD d 0 - 1))

/-- the room of a set of disks -/
def roomS (S : Nat → Bool) : List Int → Nat → Nat
  | [], _ => 0
  | r :: rs, k => (if S k then r.toNat else 0) + roomS S rs (k + 1)

/-- all disks that a group may get are among those of a set -/
def hangs (S : Nat → Bool) (rs : List Int) (g : List Int) : Bool :=
  (List.range rs.length).all fun d => !(decide (0 < rs.getD d 0) && !g.contains (d : Int)) || S d

theorem hangs_iff (S : Nat → Bool) (rs g : List Int) : hangs S rs g = true ↔ ∀ d, d < rs.length → 0 < rs.getD d 0 → (d : Int) ∉ g → S d = true := by
  simp only [hangs, List.all_eq_true, List.mem_range, Bool.or_eq_true, Bool.not_eq_true', Bool.and_eq_false_iff, decide_eq_false_iff_not, Bool.not_eq_false', List.contains_iff_mem]
  constructor
  · intro h d hd h0 hg
    rcases h d hd with (h1 | h1) | h1
    · exact absurd h0 h1
    · exact absurd h1 hg
    · exact h1
  · intro h d hd
    by_cases h0 : 0 < rs.getD d 0
    · by_cases hg : (d : Int) ∈ g
      · exact .inl (.inr hg)
      · exact .inr (h d hd h0 hg)
    · exact .inl (.inl h0)

theorem getD_set (rs : List Int) (d e : Nat) (v : Int) (hd : d < rs.length) : (rs.set d v).getD e 0 = if e = d then v else rs.getD e 0 := by
  simp only [List.getD_eq_getElem?_getD, List.getElem?_set]
  by_cases h : e = d
  · subst h; simp [hd]
  · rw [if_neg (fun h' => h h'.symm), if_neg h]

theorem roomS_set (S : Nat → Bool) : ∀ (rs : List Int) (d k : Nat), d < rs.length → 0 < rs.getD d 0 → roomS S (rs.set d (rs.getD d 0 - 1)) k + (if S (k + d) then 1 else 0) = roomS S rs k
  | [], d, k, h, _ => by simp at h
  | r :: rs, 0, k, _, h0 => by
    simp only [List.getD_cons_zero] at h0
    simp only [List.getD_cons_zero, List.set_cons_zero, roomS, Nat.add_zero]
    by_cases hs : S k = true
    · simp only [hs, if_true]; omega
    · simp only [hs, if_false, Bool.false_eq_true]; omega
  | r :: rs, d + 1, k, h, h0 => by
    have ih := roomS_set S rs d (k + 1) (by simpa using h) (by simpa using h0)
    simp only [List.getD_cons_succ, List.set_cons_succ, roomS]
    rw [show k + (d + 1) = k + 1 + d by omega]
    omega

theorem hangs_set {S : Nat → Bool} {rs g : List Int} {d : Nat} (hd : d < rs.length) (h : hangs S rs g = true) : hangs S (rs.set d (rs.getD d 0 - 1)) g = true := by
  rw [hangs_iff] at h ⊢
  intro e he h0 hg
  rw [List.length_set] at he
  rw [getD_set _ _ _ _ hd] at h0
  refine h e he ?_ hg
  split at h0
  · next hh => subst hh; omega
  · exact h0

/-- what can be given leaves no set of disks short -/
theorem Mt_hall (S : Nat → Bool) : ∀ (l : List (List Int)) (rs : List Int), Mt l rs → l.countP (hangs S rs) ≤ roomS S rs 0
  | [], _, _ => by simp
  | g :: l, rs, ⟨d, hd, h0, hg, hm⟩ => by
    have ih := Mt_hall S l _ hm
    have hr := roomS_set S rs d 0 hd h0
    have hmono : l.countP (hangs S rs) ≤ l.countP (hangs S (rs.set d (rs.getD d 0 - 1))) := List.countP_mono_left fun x _ hx => hangs_set hd hx
    rw [List.countP_cons]
    rw [Nat.zero_add] at hr
    by_cases hh : hangs S rs g = true
    · have hS : S d = true := (hangs_iff _ _ _).1 hh d hd h0 hg
      simp only [hS, if_true] at hr
      simp only [hh, if_true]
      omega
    · simp only [hh, if_false, Bool.false_eq_true]
      omega

/-- more room, no harm -/
theorem Mt_mono : ∀ (l : List (List Int)) (rs rs' : List Int), rs.length ≤ rs'.length → (∀ d, d < rs.length → rs.getD d 0 ≤ rs'.getD d 0) → Mt l rs → Mt l rs'
  | [], _, _, _, _, _ => trivial
  | g :: l, rs, rs', hl, hle, ⟨d, hd, h0, hg, hm⟩ => by
    refine ⟨d, by omega, by have := hle d hd; omega, hg, Mt_mono l _ _ (by simpa using hl) ?_ hm⟩
    intro e he
    rw [List.length_set] at he
    rw [getD_set _ _ _ _ hd, getD_set _ _ _ _ (by omega)]
    have h1 := hle e he
    split
    · next hh => subst hh; omega
    · exact h1

theorem Mt_swap (g h : List Int) (l : List (List Int)) (rs : List Int) : Mt (g :: h :: l) rs → Mt (h :: g :: l) rs := by
  rintro ⟨d, hd, h0, hg, e, he, h1, hh, hm⟩
  rw [List.length_set] at he
  rw [getD_set _ _ _ _ hd] at h1 hm
  refine ⟨e, he, ?_, hh, d, by simpa using hd, ?_, hg, ?_⟩
  · split at h1
    · next x => subst x; omega
    · exact h1
  · rw [getD_set _ _ _ _ he]
    split
    · next x => subst x; rw [if_pos rfl] at h1; exact h1
    · exact h0
  · rw [getD_set _ _ _ _ he]
    by_cases x : d = e
    · subst x; simpa using hm
    · rw [if_neg x]
      rw [if_neg (fun y => x y.symm)] at hm
      rwa [List.set_comm _ _ x] at hm

theorem Mt_perm {l l' : List (List Int)} (h : l.Perm l') : ∀ rs, Mt l rs → Mt l' rs := by
  induction h with
  | nil => exact fun _ h => h
  | cons x _ ih => rintro rs ⟨d, hd, h0, hg, hm⟩; exact ⟨d, hd, h0, hg, ih _ hm⟩
  | swap x y l => exact fun rs h => Mt_swap _ _ _ _ h
  | trans _ _ ih1 ih2 => exact fun rs h => ih2 _ (ih1 _ h)

/-- fewer groups, no harm -/
theorem Mt_tail (g : List Int) (l : List (List Int)) (rs : List Int) (h : Mt (g :: l) rs) : Mt l rs := by
  obtain ⟨d, hd, h0, hg, hm⟩ := h
  refine Mt_mono _ _ _ (by simp) (fun e he => ?_) hm
  rw [getD_set _ _ _ _ hd]
  split
  · next x => subst x; omega
  · omega
theorem Mt_sub {l' l : List (List Int)} (h : l'.Sublist l) : ∀ rs, Mt l rs → Mt l' rs := by
  induction h with
  | slnil => exact fun _ h => h
  | cons x _ ih => exact fun rs h => ih _ (Mt_tail _ _ _ h)
  | cons_cons x _ ih => rintro rs ⟨d, hd, h0, hg, hm⟩; exact ⟨d, hd, h0, hg, ih _ hm⟩

theorem Mt_one : ∀ (L : List (List Int)) (rest : List (List Int)) (rs : List Int) (d : Nat), d < rs.length → (L.length : Int) ≤ max 0 (rs.getD d 0) → (∀ g ∈ L, (d : Int) ∉ g) →
    Mt rest (rs.set d (rs.getD d 0 - L.length)) → Mt (L ++ rest) rs
  | [], rest, rs, d, hd, _, _, hm => by
    have : rs.set d (rs.getD d 0 - (([] : List (List Int)).length : Int)) = rs := by
      simp [List.getD_eq_getElem?_getD, List.getElem?_eq_getElem hd]
    rw [this] at hm
    exact hm
  | g :: L, rest, rs, d, hd, hlen, hno, hm => by
    simp only [List.length_cons] at hlen hm
    have h0 : 0 < rs.getD d 0 := by omega
    refine ⟨d, hd, h0, hno g (by simp), Mt_one L rest _ d (by simpa using hd) ?_ (fun x hx => hno x (List.mem_cons_of_mem _ hx)) ?_⟩
    · rw [getD_set _ _ _ _ hd, if_pos rfl]; omega
    · rw [getD_set _ _ _ _ hd, if_pos rfl, List.set_set]
      rwa [show rs.getD d 0 - 1 - (L.length : Int) = rs.getD d 0 - ((L.length + 1 : Nat) : Int) by omega]

/-- what is given, disk by disk -/
theorem Mt_given (l : Nat → List Int) : ∀ (G : List (List Nat)) (k : Nat) (rs : List Int), k + G.length ≤ rs.length →
    (∀ j, (hj : j < G.length) → ((G[j].length : Nat) : Int) ≤ max 0 (rs.getD (k + j) 0) ∧ ∀ x ∈ G[j], ((k + j : Nat) : Int) ∉ l x) → Mt (G.flatten.map l) rs
  | [], _, _, _, _ => by simp [Mt]
  | L :: G, k, rs, hl, h => by
    simp only [List.length_cons] at hl
    rw [List.flatten_cons, List.map_append]
    have h0 := h 0 (by simp)
    simp only [List.getElem_cons_zero, Nat.add_zero] at h0
    refine Mt_one _ _ rs k (by omega) (by simpa using h0.1) ?_ (Mt_given l G (k + 1) _ (by simp; omega) ?_)
    · intro g hg
      obtain ⟨x, hx, rfl⟩ := List.mem_map.1 hg
      exact h0.2 x hx
    · intro j hj
      have h1 := h (j + 1) (by simpa using hj)
      simp only [List.getElem_cons_succ] at h1
      rw [getD_set _ _ _ _ (by omega), if_neg (by omega), show k + 1 + j = k + (j + 1) by omega]
      exact h1

/-- all given: each has its disk -/
theorem Mt_of_given (l : List (List Int)) (G : List (List Nat)) (rs : List Int) (hl : G.length = rs.length) (hp : G.flatten.Perm (List.range l.length))
    (h : ∀ j, (hj : j < G.length) → ((G[j].length : Nat) : Int) ≤ max 0 (rs.getD j 0) ∧ ∀ x ∈ G[j], (j : Int) ∉ l.getD x []) : Mt l rs := by
  have h1 := Mt_given (fun x => l.getD x []) G 0 rs (by omega) (by simpa using h)
  have h2 := Mt_perm (hp.map (fun x => l.getD x [])) rs h1
  have h3 : (List.range l.length).map (fun x => l.getD x []) = l := by
    refine List.ext_getElem (by simp) fun i h1 h2 => ?_
    simp [List.getD_eq_getElem?_getD, List.getElem?_eq_getElem h2]
  rwa [h3] at h2

theorem countP_flatten (p : Nat → Bool) (S : Nat → Bool) : ∀ (G : List (List Nat)) (rs : List Int) (k : Nat), G.length = rs.length →
    (∀ j, (hj : j < G.length) → S (k + j) = true → (rs.getD j 0).toNat ≤ G[j].length ∧ ∀ x ∈ G[j], p x = true) → roomS S rs k ≤ G.flatten.countP p
  | [], [], _, _, _ => by simp [roomS]
  | [], _ :: _, _, h, _ => by simp at h
  | _ :: _, [], _, h, _ => by simp at h
  | L :: G, r :: rs, k, hl, h => by
    rw [List.flatten_cons, List.countP_append, roomS]
    have h0 := h 0 (by simp)
    simp only [List.getElem_cons_zero, Nat.add_zero, List.getD_cons_zero] at h0
    have ih := countP_flatten p S G rs (k + 1) (by simpa using hl) (fun j hj hs => by
      have h1 := h (j + 1) (by simpa using hj) (by rwa [show k + (j + 1) = k + 1 + j by omega])
      simpa using h1)
    by_cases hs : S k = true
    · have h1 := h0 hs
      have h2 : L.countP p = L.length := List.countP_eq_length.2 h1.2
      simp only [hs, if_true]
      omega
    · simp only [hs, if_false, Bool.false_eq_true]
      omega

/-- it went no further: a set of disks that is short -/
theorem short_of_given (l : List (List Int)) (G : List (List Nat)) (rs : List Int) (S : Nat → Bool) (k : Nat) (hk : k < l.length) (hl : G.length = rs.length) (hp : G.flatten.Perm (List.range k))
    (h : ∀ j, (hj : j < G.length) → S j = true → (rs.getD j 0).toNat ≤ G[j].length ∧ ∀ x ∈ G[j], hangs S rs (l.getD x []) = true) (hg : hangs S rs (l.getD k []) = true) :
    roomS S rs 0 < l.countP (hangs S rs) := by
  have h1 := countP_flatten (fun x => hangs S rs (l.getD x [])) S G rs 0 hl (by simpa using h)
  rw [hp.countP_eq] at h1
  have h2 : (List.range (k + 1)).countP (fun x => hangs S rs (l.getD x [])) = (List.range k).countP (fun x => hangs S rs (l.getD x [])) + 1 := by
    rw [List.range_succ, List.countP_append, List.countP_singleton, if_pos hg]
  have h3 : (List.range (k + 1)).countP (fun x => hangs S rs (l.getD x [])) ≤ (List.range l.length).countP (fun x => hangs S rs (l.getD x [])) :=
    List.Sublist.countP_le (List.range_sublist.2 (by omega))
  have h4 : (List.range l.length).countP (fun x => hangs S rs (l.getD x [])) = l.countP (hangs S rs) := by
    have e : (List.range l.length).map (fun x => l.getD x []) = l := by
      refine List.ext_getElem (by simp) fun i h1 h2 => ?_
      simp [List.getD_eq_getElem?_getD, List.getElem?_eq_getElem h2]
    conv => rhs; rw [← e]
    rw [List.countP_map]
    rfl
  omega

/-! ### one step of the giving -/
/-- to put behind one disk's row -/
theorem flatten_push (G : List (List Nat)) (d g : Nat) (hd : d < G.length) : (G.set d (G.getD d [] ++ [g])).flatten.Perm (g :: G.flatten) := by
  induction G generalizing d with
  | nil => simp at hd
  | cons L G ih =>
    cases d with
    | zero =>
      simp only [List.getD_cons_zero, List.set_cons_zero, List.flatten_cons, List.append_assoc]
      exact List.perm_middle
    | succ d =>
      simp only [List.getD_cons_succ, List.set_cons_succ, List.flatten_cons]
      exact ((ih d (by simpa using hd)).append_left L).trans List.perm_middle
theorem set_one (L : List Nat) (i g : Nat) (hi : i < L.length) : ∃ X, L.Perm (L.getD i 0 :: X) ∧ (L.set i g).Perm (g :: X) := by
  induction L generalizing i with
  | nil => simp at hi
  | cons x L ih =>
    cases i with
    | zero => exact ⟨L, by simp, by simp⟩
    | succ i =>
      obtain ⟨X, h1, h2⟩ := ih i (by simpa using hi)
      refine ⟨x :: X, ?_, ?_⟩
      · simp only [List.getD_cons_succ]
        exact (h1.cons x).trans (List.Perm.swap _ _ _)
      · simp only [List.set_cons_succ]
        exact (h2.cons x).trans (List.Perm.swap _ _ _)
/-- to put in one's place -/
theorem flatten_put (G : List (List Nat)) (d i g : Nat) (hd : d < G.length) (hi : i < (G.getD d []).length) :
    ∃ X, G.flatten.Perm ((G.getD d []).getD i 0 :: X) ∧ (G.set d ((G.getD d []).set i g)).flatten.Perm (g :: X) := by
  induction G generalizing d with
  | nil => simp at hd
  | cons L G ih =>
    cases d with
    | zero =>
      simp only [List.getD_cons_zero] at hi ⊢
      obtain ⟨X, h1, h2⟩ := set_one L i g hi
      refine ⟨X ++ G.flatten, ?_, ?_⟩
      · simp only [List.flatten_cons]; exact h1.append_right _
      · simp only [List.set_cons_zero, List.flatten_cons]; exact h2.append_right _
    | succ d =>
      simp only [List.getD_cons_succ] at hi ⊢
      obtain ⟨X, h1, h2⟩ := ih d (by simpa using hd) hi
      refine ⟨L ++ X, ?_, ?_⟩
      · simp only [List.flatten_cons]; exact (h1.append_left L).trans List.perm_middle
      · simp only [List.set_cons_succ, List.flatten_cons]; exact (h2.append_left L).trans List.perm_middle
theorem flatten_swapped (G G1 : List (List Nat)) (d i g : Nat) (hd : d < G1.length) (hi : i < (G1.getD d []).length) (h : G1.flatten.Perm ((G1.getD d []).getD i 0 :: G.flatten)) :
    (G1.set d ((G1.getD d []).set i g)).flatten.Perm (g :: G.flatten) := by
  obtain ⟨X, h1, h2⟩ := flatten_put G1 d i g hd hi
  have h3 : X.Perm G.flatten := List.Perm.cons_inv (h1.symm.trans h)
  exact h2.trans (h3.cons g)
end Go.BW


/- Disks in the order of their room, in plain Lean: the one order (bef), its row (Ranked), the insertion of one more; each under the premises that it states. -/
namespace Go.BW

/-- disk a stands ahead of disk b -/
def bef (rs : List Int) (a b : Nat) : Prop := rs.getD b 0 < rs.getD a 0 ∨ (rs.getD a 0 = rs.getD b 0 ∧ a < b)
theorem bef_trans {rs : List Int} {a b c : Nat} (h : bef rs a b) (k : bef rs b c) : bef rs a c := by
  unfold bef at *; omega
theorem bef_irrefl {rs : List Int} {a : Nat} : ¬ bef rs a a := by unfold bef; omega
theorem bef_asymm {rs : List Int} {a b : Nat} (h : bef rs a b) : ¬ bef rs b a := by unfold bef at *; omega
theorem bef_total {rs : List Int} {a b : Nat} (h : a ≠ b) : bef rs a b ∨ bef rs b a := by unfold bef; omega

/-- the disks that may be, in their order -/
structure Ranked (rs : List Int) (may : Nat → Prop) (l : List Nat) : Prop where
  ord : l.Pairwise (bef rs)
  mem : ∀ d, d ∈ l ↔ d < rs.length ∧ 0 < rs.getD d 0 ∧ may d

theorem Ranked.nodup {rs : List Int} {may : Nat → Prop} {l : List Nat} (h : Ranked rs may l) : l.Nodup :=
  h.ord.imp fun {a b} hab e => by subst e; exact bef_irrefl hab

/-- the first of what is left -/
theorem Ranked.first {rs : List Int} {may : Nat → Prop} {l : List Nat} (h : Ranked rs may l) {k : Nat} (hk : k < l.length) (e : Nat) (he : e < rs.length) (h0 : 0 < rs.getD e 0) (hm : may e) (hn : e ∉ l.take k) (hne : e ≠ l[k]) :
    bef rs l[k] e := by
  have hmem : e ∈ l := (h.mem e).2 ⟨he, h0, hm⟩
  obtain ⟨i, hi, rfl⟩ := List.getElem_of_mem hmem
  have hki : k < i := by
    rcases Nat.lt_trichotomy i k with hlt | heq | hgt
    · exact absurd (List.mem_take_iff_getElem.2 ⟨i, by omega, rfl⟩) hn
    · subst heq; exact absurd rfl hne
    · exact hgt
  exact List.pairwise_iff_getElem.1 h.ord k i hk hi hki

/-- the numbers as they stand in a slice of ints -/
def nz (l : List Nat) : List Int := l.map fun (d : Nat) => (d : Int)
theorem mem_nz {l : List Nat} {x : Int} : x ∈ nz l ↔ ∃ d ∈ l, (d : Int) = x := List.mem_map
/-- what the document takes next: the one with the most room (the least of these) that does not stand in a list; -1: none -/
def MostOf (rs : List Int) (no : List Int) (r : Int) : Prop :=
  (r = -1 ∧ ∀ d, d < rs.length → 0 < rs.getD d 0 → (d : Int) ∈ no) ∨
  ∃ d : Nat, r = d ∧ d < rs.length ∧ 0 < rs.getD d 0 ∧ (d : Int) ∉ no ∧ ∀ e, e < rs.length → 0 < rs.getD e 0 → (e : Int) ∉ no → e ≠ d → bef rs d e

theorem MostOf.uniq {rs no : List Int} {r s : Int} (h : MostOf rs no r) (k : MostOf rs no s) : r = s := by
  rcases h with ⟨rfl, h⟩ | ⟨d, rfl, h1, h2, h3, h4⟩
  · rcases k with ⟨rfl, _⟩ | ⟨e, rfl, k1, k2, k3, _⟩
    · rfl
    · exact absurd (h e k1 k2) k3
  · rcases k with ⟨rfl, k⟩ | ⟨e, rfl, k1, k2, k3, k4⟩
    · exact absurd (k d h1 h2) h3
    · by_cases hde : d = e
      · rw [hde]
      · exact absurd (h4 e k1 k2 k3 (fun x => hde x.symm)) (bef_asymm (k4 d h1 h2 h3 hde))

/-- .. is the next of the row -/
theorem Ranked.most {rs : List Int} {no : List Int} {l : List Nat} (h : Ranked rs (fun d => (d : Int) ∉ no) l) {k : Nat} (hk : k ≤ l.length) :
    MostOf rs (no ++ nz (l.take k)) (match l[k]? with | some d => (d : Int) | none => -1) := by
  by_cases hlt : k < l.length
  · rw [List.getElem?_eq_getElem hlt]
    right
    have hm := (h.mem l[k]).1 (List.getElem_mem hlt)
    refine ⟨l[k], rfl, hm.1, hm.2.1, ?_, ?_⟩
    · intro hx
      rcases List.mem_append.1 hx with hx | hx
      · exact hm.2.2 hx
      · obtain ⟨d, hd, e⟩ := mem_nz.1 hx
        have e' : d = l[k] := by omega
        subst e'
        obtain ⟨i, hi, e2⟩ := List.mem_take_iff_getElem.1 hd
        have := List.pairwise_iff_getElem.1 h.ord i k (by omega) hlt (by omega)
        rw [e2] at this
        exact bef_irrefl this
    · intro e he h0 hn hne
      refine h.first hlt e he h0 (fun hx => hn (List.mem_append_left _ hx)) (fun hx => hn (List.mem_append_right _ (mem_nz.2 ⟨e, hx, rfl⟩))) hne
  · have hk' : k = l.length := by omega
    rw [List.getElem?_eq_none (by omega)]
    left
    refine ⟨rfl, fun d hd h0 => ?_⟩
    by_cases hno : (d : Int) ∈ no
    · exact List.mem_append_left _ hno
    · refine List.mem_append_right _ (mem_nz.2 ⟨d, ?_, rfl⟩)
      rw [hk', List.take_length]
      exact (h.mem d).2 ⟨hd, h0, hno⟩

/-- there is one row -/
theorem Ranked.uniq {rs : List Int} {may : Nat → Prop} {l l' : List Nat} (h : Ranked rs may l) (h' : Ranked rs may l') : l = l' := by
  have hp : l.Perm l' := (List.perm_ext_iff_of_nodup h.nodup h'.nodup).2 fun d => (h.mem d).trans (h'.mem d).symm
  exact List.Perm.eq_of_pairwise (le := bef rs) (fun a b _ _ h1 h2 => absurd h2 (bef_asymm h1)) h.ord h'.ord hp

/-! ### insertion -/
/-- x goes down into a sorted row S: behind it stand what is less -/
theorem ins_stop {rs : List Int} {S : List Nat} {x j : Nat} (hS : S.Pairwise (bef rs)) (hj : j ≤ S.length) (hhi : ∀ y ∈ S.drop j, bef rs x y) (hlo : ∀ y ∈ S, y < x) (hst : j = 0 ∨ ∃ h : j - 1 < S.length, ¬ (rs.getD S[j - 1] 0 < rs.getD x 0)) :
    (S.take j ++ x :: S.drop j).Pairwise (bef rs) := by
  rw [List.pairwise_append]
  have hS2 := hS
  rw [← List.take_append_drop j S, List.pairwise_append] at hS2
  refine ⟨hS2.1, List.pairwise_cons.2 ⟨hhi, hS2.2.1⟩, fun a ha b hb => ?_⟩
  rcases List.mem_cons.1 hb with rfl | hb
  · rcases hst with h0 | ⟨h1, h2⟩
    · subst h0; simp at ha
    · have hlast : bef rs S[j - 1] b := by
        have := hlo S[j - 1] (List.getElem_mem _)
        unfold bef; omega
      obtain ⟨i, hi, rfl⟩ := List.mem_take_iff_getElem.1 ha
      by_cases hij : i = j - 1
      · subst hij; exact hlast
      · exact bef_trans (List.pairwise_iff_getElem.1 hS i (j - 1) (by omega) h1 (by omega)) hlast
  · exact hS2.2.2 a ha b hb
end Go.BW


/- The most room so far, in plain Lean. -/
namespace Go.BW
/-- .. among the first k disks -/
def MostUp (rs no : List Int) (k : Nat) (r : Int) : Prop :=
  (r = -1 ∧ ∀ d, d < k → 0 < rs.getD d 0 → (d : Int) ∈ no) ∨
  ∃ d : Nat, r = d ∧ d < k ∧ 0 < rs.getD d 0 ∧ (d : Int) ∉ no ∧ ∀ e, e < k → 0 < rs.getD e 0 → (e : Int) ∉ no → e ≠ d → bef rs d e
theorem MostUp.zero (rs no : List Int) : MostUp rs no 0 (-1) := .inl ⟨rfl, fun _ h => absurd h (by omega)⟩
theorem MostUp.all {rs no : List Int} {r : Int} (h : MostUp rs no rs.length r) : MostOf rs no r := h
theorem MostUp.take {rs no : List Int} {k : Nat} {r : Int} (h : MostUp rs no k r) (h0 : 0 < rs.getD k 0) (hn : (k : Int) ∉ no) (hr : r < 0 ∨ ∃ d : Nat, r = d ∧ rs.getD d 0 < rs.getD k 0) : MostUp rs no (k + 1) (k : Int) := by
  refine .inr ⟨k, rfl, by omega, h0, hn, fun e he he0 hen hne => ?_⟩
  have hek : e < k := by omega
  rcases h with ⟨rfl, h⟩ | ⟨d, rfl, h1, h2, h3, h4⟩
  · exact absurd (h e hek he0) hen
  · rcases hr with hr | ⟨d', hd, hr⟩
    · omega
    · have : d' = d := by omega
      subst this
      by_cases hed : e = d'
      · subst hed; exact .inl hr
      · exact bef_trans (.inl hr) (h4 e hek he0 hen hed)
theorem MostUp.pass {rs no : List Int} {k : Nat} {r : Int} (h : MostUp rs no k r) (hp : ¬ 0 < rs.getD k 0 ∨ (k : Int) ∈ no ∨ ∃ d : Nat, r = d ∧ rs.getD k 0 ≤ rs.getD d 0) : MostUp rs no (k + 1) r := by
  rcases h with ⟨rfl, h⟩ | ⟨d, rfl, h1, h2, h3, h4⟩
  · refine .inl ⟨rfl, fun d hd h0 => ?_⟩
    by_cases hdk : d = k
    · subst hdk
      rcases hp with hp | hp | ⟨e, he, _⟩
      · exact absurd h0 hp
      · exact hp
      · omega
    · exact h d (by omega) h0
  · refine .inr ⟨d, rfl, by omega, h2, h3, fun e he he0 hen hne => ?_⟩
    by_cases hek : e = k
    · subst hek
      rcases hp with hp | hp | ⟨d', hd, hr⟩
      · exact absurd he0 hp
      · exact absurd hp hen
      · have : d' = d := by omega
        subst this
        unfold bef; omega
    · exact h4 e (by omega) he0 hen hne
theorem MostUp.nat {rs no : List Int} {k : Nat} {r : Int} (h : MostUp rs no k r) : r = -1 ∨ ∃ d : Nat, r = d ∧ d < k := by
  rcases h with ⟨rfl, _⟩ | ⟨d, rfl, h1, _⟩
  · exact .inl rfl
  · exact .inr ⟨d, rfl, h1⟩
end Go.BW


/- The giving of disks, in plain Lean: what one call does to what is given, and to what is tried; each under the premises that it states. -/
namespace Go.BW

/-- what is given fits: no disk has more than its room, none has a group that has it -/
structure Gd (rs : List Int) (L : Nat → List Int) (N : Nat) (G : List (List Nat)) : Prop where
  len : G.length = rs.length
  fit : ∀ j, j < rs.length → ((G.getD j []).length : Int) ≤ max 0 (rs.getD j 0) ∧ ∀ x ∈ G.getD j [], x < N ∧ (j : Int) ∉ L x

structure GTrue (G : List (List Nat)) (T : Nat → Bool) (g : Nat) (G' : List (List Nat)) : Prop where
  perm : G'.flatten.Perm (g :: G.flatten)
  kept : ∀ d, T d = true → G'.getD d [] = G.getD d []
structure GFalse (rs : List Int) (L : Nat → List Int) (G : List (List Nat)) (T : Nat → Bool) (g : Nat) (T' : Nat → Bool) : Prop where
  sub : ∀ d, T d = true → T' d = true
  full : ∀ d, T' d = true → T d = false → (rs.getD d 0).toNat ≤ (G.getD d []).length ∧ ∀ x ∈ G.getD d [], hangs T' rs (L x) = true
  hang : hangs T' rs (L g) = true
/-- one disk more is tried -/
def more (T : Nat → Bool) (d : Nat) : Nat → Bool := fun e => e == d || T e
theorem more_same (T : Nat → Bool) (d : Nat) : more T d d = true := by simp [more]
theorem more_sub {T : Nat → Bool} {d e : Nat} (h : T e = true) : more T d e = true := by simp [more, h]
theorem more_ne {T : Nat → Bool} {d e : Nat} (h : e ≠ d) : more T d e = T e := by simp [more, h]
theorem hangs_mono {S S' : Nat → Bool} {rs g : List Int} (hs : ∀ d, S d = true → S' d = true) (h : hangs S rs g = true) : hangs S' rs g = true := by
  rw [hangs_iff] at h ⊢
  exact fun d h1 h2 h3 => hs d (h d h1 h2 h3)

/-- ahead of disk d -/
structure GLoop (rs : List Int) (L : Nat → List Int) (G : List (List Nat)) (T : Nat → Bool) (g d : Nat) (T1 : Nat → Bool) : Prop where
  sub : ∀ e, T e = true → T1 e = true
  full : ∀ e, T1 e = true → T e = false → (rs.getD e 0).toNat ≤ (G.getD e []).length ∧ ∀ x ∈ G.getD e [], hangs T1 rs (L x) = true
  up : ∀ e, e < d → 0 < rs.getD e 0 → (e : Int) ∉ L g → T1 e = true
/-- ahead of place i of disk d's row -/
structure GIn (rs : List Int) (L : Nat → List Int) (G : List (List Nat)) (T : Nat → Bool) (g d i : Nat) (T1 : Nat → Bool) : Prop where
  sub : ∀ e, T e = true → T1 e = true
  this : T1 d = true
  free : T d = false
  full : ∀ e, T1 e = true → T e = false → e ≠ d → (rs.getD e 0).toNat ≤ (G.getD e []).length ∧ ∀ x ∈ G.getD e [], hangs T1 rs (L x) = true
  up : ∀ e, e < d → 0 < rs.getD e 0 → (e : Int) ∉ L g → T1 e = true
  row : ∀ k, k < i → hangs T1 rs (L ((G.getD d []).getD k 0)) = true
section
variable {rs : List Int} {L : Nat → List Int} {N : Nat} {G : List (List Nat)} {T T1 T2 : Nat → Bool} {g d i : Nat}
theorem GLoop.start : GLoop rs L G T g 0 T := ⟨fun _ h => h, fun e h1 h2 => (by rw [h1] at h2; cases h2), fun e h => absurd h (by omega)⟩
theorem GLoop.skip (h : GLoop rs L G T g d T1) (hs : ¬ 0 < rs.getD d 0 ∨ T1 d = true ∨ (d : Int) ∈ L g) : GLoop rs L G T g (d + 1) T1 :=
  ⟨h.sub, h.full, fun e he h0 hn => by
    by_cases hed : e = d
    · subst hed
      rcases hs with hs | hs | hs
      · exact absurd h0 hs
      · exact hs
      · exact absurd hs hn
    · exact h.up e (by omega) h0 hn⟩
theorem GLoop.fin (h : GLoop rs L G T g rs.length T1) : GFalse rs L G T g T1 := ⟨h.sub, h.full, (hangs_iff _ _ _).2 h.up⟩
theorem GLoop.free (h : GLoop rs L G T g d T1) (hd : T1 d = false) : T d = false := by
  cases ht : T d
  · rfl
  · rw [h.sub d ht] at hd; cases hd
theorem GLoop.enter (h : GLoop rs L G T g d T1) (hd : T1 d = false) : GIn rs L G T g d 0 (more T1 d) :=
  ⟨fun e he => more_sub (h.sub e he), more_same _ _, h.free hd, fun e h1 h2 hne => by
    rw [more_ne hne] at h1
    obtain ⟨a, b⟩ := h.full e h1 h2
    exact ⟨a, fun x hx => hangs_mono (fun _ => more_sub) (b x hx)⟩,
   fun e he h0 hn => more_sub (h.up e he h0 hn), fun k hk => absurd hk (by omega)⟩
theorem GIn.next (h : GIn rs L G T g d i T1) (k : GFalse rs L G T1 ((G.getD d []).getD i 0) T2) : GIn rs L G T g d (i + 1) T2 :=
  ⟨fun e he => k.sub e (h.sub e he), k.sub d h.this, h.free, fun e h1 h2 hne => by
    cases ht : T1 e
    · exact k.full e h1 ht
    · obtain ⟨a, b⟩ := h.full e ht h2 hne
      exact ⟨a, fun x hx => hangs_mono k.sub (b x hx)⟩,
   fun e he h0 hn => k.sub e (h.up e he h0 hn), fun j hj => by
    by_cases hji : j = i
    · subst hji; exact k.hang
    · exact hangs_mono k.sub (h.row j (by omega))⟩
theorem GIn.leave (h : GIn rs L G T g d (G.getD d []).length T1) (hf : (rs.getD d 0).toNat ≤ (G.getD d []).length) : GLoop rs L G T g (d + 1) T1 :=
  ⟨h.sub, fun e h1 h2 => by
    by_cases hed : e = d
    · subst hed
      refine ⟨hf, fun x hx => ?_⟩
      obtain ⟨k, hk, rfl⟩ := List.getElem_of_mem hx
      have := h.row k hk
      rwa [List.getD_eq_getElem?_getD, List.getElem?_eq_getElem hk, Option.getD_some] at this
    · exact h.full e h1 h2 hed,
   fun e he h0 hn => by
    by_cases hed : e = d
    · subst hed; exact h.this
    · exact h.up e (by omega) h0 hn⟩
theorem getD_setL (G : List (List Nat)) (d e : Nat) (v : List Nat) (hd : d < G.length) : (G.set d v).getD e [] = if e = d then v else G.getD e [] := by
  simp only [List.getD_eq_getElem?_getD, List.getElem?_set]
  by_cases h : e = d
  · subst h; simp [hd]
  · rw [if_neg (fun h' => h h'.symm), if_neg h]
theorem Gd.push (h : Gd rs L N G) (hd : d < rs.length) (hg : g < N) (hno : (d : Int) ∉ L g) (hr : ((G.getD d []).length : Int) < rs.getD d 0) : Gd rs L N (G.set d (G.getD d [] ++ [g])) := by
  refine ⟨by rw [List.length_set]; exact h.len, fun j hj => ?_⟩
  rw [getD_setL _ _ _ _ (by rw [h.len]; exact hd)]
  split
  · next hjd =>
    subst hjd
    obtain ⟨_, b⟩ := h.fit j hj
    refine ⟨by rw [List.length_append, List.length_singleton]; omega, fun x hx => ?_⟩
    rcases List.mem_append.1 hx with hx | hx
    · exact b x hx
    · rw [List.mem_singleton] at hx; subst hx; exact ⟨hg, hno⟩
  · exact h.fit j hj
theorem Gd.put (h : Gd rs L N G) (hd : d < rs.length) (hg : g < N) (hno : (d : Int) ∉ L g) : Gd rs L N (G.set d ((G.getD d []).set i g)) := by
  refine ⟨by rw [List.length_set]; exact h.len, fun j hj => ?_⟩
  rw [getD_setL _ _ _ _ (by rw [h.len]; exact hd)]
  split
  · next hjd =>
    subst hjd
    obtain ⟨a, b⟩ := h.fit j hj
    refine ⟨by rw [List.length_set]; exact a, fun x hx => ?_⟩
    rcases List.mem_or_eq_of_mem_set hx with hx | rfl
    · exact b x hx
    · exact ⟨hg, hno⟩
  · exact h.fit j hj
theorem GLoop.push (h : GLoop rs L G T g d T1) (hd : T1 d = false) (hl : d < G.length) : GTrue G T g (G.set d (G.getD d [] ++ [g])) :=
  ⟨flatten_push G d g hl, fun e he => by
    rw [getD_setL _ _ _ _ hl, if_neg]
    rintro rfl
    rw [h.sub _ he] at hd; cases hd⟩
theorem GIn.put {G1 : List (List Nat)} (h : GIn rs L G T g d i T1) (k : GTrue G T1 ((G.getD d []).getD i 0) G1) (hl : d < G1.length) (hi : i < (G.getD d []).length) : GTrue G T g (G1.set d ((G1.getD d []).set i g)) := by
  have e := k.kept d h.this
  refine ⟨flatten_swapped G G1 d i g hl (by rw [e]; exact hi) (by rw [e]; exact k.perm), fun x hx => ?_⟩
  rw [getD_setL _ _ _ _ hl, if_neg]
  · exact k.kept x (h.sub x hx)
  · rintro rfl
    rw [h.free] at hx; cases hx
end
/-- how many disks are not tried -/
def un (n : Nat) (T : Nat → Bool) : Nat := (List.range n).countP fun d => !T d
theorem un_le {n : Nat} {T T' : Nat → Bool} (h : ∀ d, T d = true → T' d = true) : un n T' ≤ un n T :=
  List.countP_mono_left fun d _ hd => by
    cases ht : T d
    · rfl
    · rw [h d ht] at hd; cases hd
theorem un_lt {n : Nat} {T T' : Nat → Bool} {d : Nat} (h : ∀ d, T d = true → T' d = true) (hd : d < n) (h0 : T d = false) (h1 : T' d = true) : un n T' < un n T := by
  have e : ∀ m, d < m → (List.range m).countP (fun d => !T' d) < (List.range m).countP (fun d => !T d) := by
    intro m hm
    induction m with
    | zero => omega
    | succ m ih =>
      rw [List.range_succ, List.countP_append, List.countP_append]
      by_cases hdm : d = m
      · subst hdm
        have := un_le (n := d) h
        unfold un at this
        simp only [List.countP_singleton, h0, h1, Bool.not_true, Bool.not_false, Bool.false_eq_true, if_false, if_true]
        omega
      · have h3 := ih (by omega)
        have h4 : [m].countP (fun d => !T' d) ≤ [m].countP (fun d => !T d) := List.countP_mono_left fun x _ hx => by
          cases ht : T x
          · rfl
          · rw [h x ht] at hx; cases hx
        omega
  exact e n hd

/-- some set of disks is short -/
def Short (l : List (List Int)) (rs : List Int) : Prop := ∃ S, roomS S rs 0 < l.countP (hangs S rs)
theorem Mt_not_short {l : List (List Int)} {rs : List Int} (h : Mt l rs) : ¬ Short l rs := by
  rintro ⟨S, hs⟩
  have := Mt_hall S l rs h
  omega
theorem given_all {l : List (List Int)} {rs : List Int} {G : List (List Nat)} (h : Gd rs (fun x => l.getD x []) l.length G) (hp : G.flatten.Perm (List.range l.length)) : Mt l rs := by
  refine Mt_of_given l G rs h.len hp fun j hj => ?_
  obtain ⟨a, b⟩ := h.fit j (by rw [← h.len]; exact hj)
  have e : G.getD j [] = G[j] := by rw [List.getD_eq_getElem?_getD, List.getElem?_eq_getElem hj, Option.getD_some]
  rw [e] at a b
  exact ⟨a, fun x hx => (b x hx).2⟩
theorem given_short {l : List (List Int)} {rs : List Int} {G : List (List Nat)} {g : Nat} {T' : Nat → Bool} (h : Gd rs (fun x => l.getD x []) l.length G) (hp : G.flatten.Perm (List.range g)) (hg : g < l.length)
    (hf : GFalse rs (fun x => l.getD x []) G (fun _ => false) g T') : Short l rs := by
  refine ⟨T', short_of_given l G rs T' g hg h.len hp (fun j hj hs => ?_) hf.hang⟩
  obtain ⟨a, b⟩ := hf.full j hs rfl
  have e : G.getD j [] = G[j] := by rw [List.getD_eq_getElem?_getD, List.getElem?_eq_getElem hj, Option.getD_some]
  rw [e] at a b
  exact ⟨a, b⟩
end Go.BW

