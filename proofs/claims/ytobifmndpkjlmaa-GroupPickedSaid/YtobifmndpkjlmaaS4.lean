/- The giving of disks, in plain Lean: what one call does to what is given, and to what is tried; each under the premises that it states. -/
import Derived.Test.YtobifmndpkjlmaaS1
namespace Go.BW

/-- what is given fits: no disk has more than its room, none has a group that has it -/
structure Gd (rs : List Int) (L : Nat → List Int) (N : Nat) (G : List (List Nat)) : Prop where
  len : G.length = rs.length
  fit : ∀ j, j < rs.length → ((G.getD j []).length : Int) ≤ max 0 (rs.getD j 0) ∧ ∀ x ∈ G.getD j [], x < N ∧ (j : Int) ∉ L x

structure GTrue (G : List (List Nat)) (T : Nat → Bool) (g : Nat) (G' : List (List Nat)) : Prop where
  perm : G'.flatten.Perm (g :: G.flatten)
  kept : ∀ d, T d = true → G'.getD d [] = G.getD d []
structure GFalse (rs : List Int) (L : Nat → List Int) (G : List (List Nat)) (T : Nat → Bool) (g : Nat) (T' : Nat → Bool) : Prop where
  sub : ∀ d, T d = true → T' d = true
  full : ∀ d, T' d = true → T d = false → (rs.getD d 0).toNat ≤ (G.getD d []).length ∧ ∀ x ∈ G.getD d [], hangs T' rs (L x) = true
  hang : hangs T' rs (L g) = true
/-- one disk more is tried -/
def more (T : Nat → Bool) (d : Nat) : Nat → Bool := fun e => e == d || T e
theorem more_same (T : Nat → Bool) (d : Nat) : more T d d = true := by simp [more]
theorem more_sub {T : Nat → Bool} {d e : Nat} (h : T e = true) : more T d e = true := by simp [more, h]
theorem more_ne {T : Nat → Bool} {d e : Nat} (h : e ≠ d) : more T d e = T e := by simp [more, h]
theorem hangs_mono {S S' : Nat → Bool} {rs g : List Int} (hs : ∀ d, S d = true → S' d = true) (h : hangs S rs g = true) : hangs S' rs g = true := by
  rw [hangs_iff] at h ⊢
  exact fun d h1 h2 h3 => hs d (h d h1 h2 h3)

/-- ahead of disk d -/
structure GLoop (rs : List Int) (L : Nat → List Int) (G : List (List Nat)) (T : Nat → Bool) (g d : Nat) (T1 : Nat → Bool) : Prop where
  sub : ∀ e, T e = true → T1 e = true
  full : ∀ e, T1 e = true → T e = false → (rs.getD e 0).toNat ≤ (G.getD e []).length ∧ ∀ x ∈ G.getD e [], hangs T1 rs (L x) = true
  up : ∀ e, e < d → 0 < rs.getD e 0 → (e : Int) ∉ L g → T1 e = true
/-- ahead of place i of disk d's row -/
structure GIn (rs : List Int) (L : Nat → List Int) (G : List (List Nat)) (T : Nat → Bool) (g d i : Nat) (T1 : Nat → Bool) : Prop where
  sub : ∀ e, T e = true → T1 e = true
  this : T1 d = true
  free : T d = false
  full : ∀ e, T1 e = true → T e = false → e ≠ d → (rs.getD e 0).toNat ≤ (G.getD e []).length ∧ ∀ x ∈ G.getD e [], hangs T1 rs (L x) = true
  up : ∀ e, e < d → 0 < rs.getD e 0 → (e : Int) ∉ L g → T1 e = true
  row : ∀ k, k < i → hangs T1 rs (L ((G.getD d []).getD k 0)) = true
section
variable {rs : List Int} {L : Nat → List Int} {N : Nat} {G : List (List Nat)} {T T1 T2 : Nat → Bool} {g d i : Nat}
theorem GLoop.start : GLoop rs L G T g 0 T := ⟨fun _ h => h, fun e h1 h2 => (by rw [h1] at h2; cases h2), fun e h => absurd h (by omega)⟩
theorem GLoop.skip (h : GLoop rs L G T g d T1) (hs : ¬ 0 < rs.getD d 0 ∨ T1 d = true ∨ (d : Int) ∈ L g) : GLoop rs L G T g (d + 1) T1 :=
  ⟨h.sub, h.full, fun e he h0 hn => by
    by_cases hed : e = d
    · subst hed
      rcases hs with hs | hs | hs
      · exact absurd h0 hs
      · exact hs
      · exact absurd hs hn
    · exact h.up e (by omega) h0 hn⟩
theorem GLoop.fin (h : GLoop rs L G T g rs.length T1) : GFalse rs L G T g T1 := ⟨h.sub, h.full, (hangs_iff _ _ _).2 h.up⟩
theorem GLoop.free (h : GLoop rs L G T g d T1) (hd : T1 d = false) : T d = false := by
  cases ht : T d
  · rfl
  · rw [h.sub d ht] at hd; cases hd
theorem GLoop.enter (h : GLoop rs L G T g d T1) (hd : T1 d = false) : GIn rs L G T g d 0 (more T1 d) :=
  ⟨fun e he => more_sub (h.sub e he), more_same _ _, h.free hd, fun e h1 h2 hne => by
    rw [more_ne hne] at h1
    obtain ⟨a, b⟩ := h.full e h1 h2
    exact ⟨a, fun x hx => hangs_mono (fun _ => more_sub) (b x hx)⟩,
   fun e he h0 hn => more_sub (h.up e he h0 hn), fun k hk => absurd hk (by omega)⟩
theorem GIn.next (h : GIn rs L G T g d i T1) (k : GFalse rs L G T1 ((G.getD d []).getD i 0) T2) : GIn rs L G T g d (i + 1) T2 :=
  ⟨fun e he => k.sub e (h.sub e he), k.sub d h.this, h.free, fun e h1 h2 hne => by
    cases ht : T1 e
    · exact k.full e h1 ht
    · obtain ⟨a, b⟩ := h.full e ht h2 hne
      exact ⟨a, fun x hx => hangs_mono k.sub (b x hx)⟩,
   fun e he h0 hn => k.sub e (h.up e he h0 hn), fun j hj => by
    by_cases hji : j = i
    · subst hji; exact k.hang
    · exact hangs_mono k.sub (h.row j (by omega))⟩
theorem GIn.leave (h : GIn rs L G T g d (G.getD d []).length T1) (hf : (rs.getD d 0).toNat ≤ (G.getD d []).length) : GLoop rs L G T g (d + 1) T1 :=
  ⟨h.sub, fun e h1 h2 => by
    by_cases hed : e = d
    · subst hed
      refine ⟨hf, fun x hx => ?_⟩
      obtain ⟨k, hk, rfl⟩ := List.getElem_of_mem hx
      have := h.row k hk
      rwa [List.getD_eq_getElem?_getD, List.getElem?_eq_getElem hk, Option.getD_some] at this
    · exact h.full e h1 h2 hed,
   fun e he h0 hn => by
    by_cases hed : e = d
    · subst hed; exact h.this
    · exact h.up e (by omega) h0 hn⟩
theorem getD_setL (G : List (List Nat)) (d e : Nat) (v : List Nat) (hd : d < G.length) : (G.set d v).getD e [] = if e = d then v else G.getD e [] := by
  simp only [List.getD_eq_getElem?_getD, List.getElem?_set]
  by_cases h : e = d
  · subst h; simp [hd]
  · rw [if_neg (fun h' => h h'.symm), if_neg h]
theorem Gd.push (h : Gd rs L N G) (hd : d < rs.length) (hg : g < N) (hno : (d : Int) ∉ L g) (hr : ((G.getD d []).length : Int) < rs.getD d 0) : Gd rs L N (G.set d (G.getD d [] ++ [g])) := by
  refine ⟨by rw [List.length_set]; exact h.len, fun j hj => ?_⟩
  rw [getD_setL _ _ _ _ (by rw [h.len]; exact hd)]
  split
  · next hjd =>
    subst hjd
    obtain ⟨_, b⟩ := h.fit j hj
    refine ⟨by rw [List.length_append, List.length_singleton]; omega, fun x hx => ?_⟩
    rcases List.mem_append.1 hx with hx | hx
    · exact b x hx
    · rw [List.mem_singleton] at hx; subst hx; exact ⟨hg, hno⟩
  · exact h.fit j hj
theorem Gd.put (h : Gd rs L N G) (hd : d < rs.length) (hg : g < N) (hno : (d : Int) ∉ L g) : Gd rs L N (G.set d ((G.getD d []).set i g)) := by
  refine ⟨by rw [List.length_set]; exact h.len, fun j hj => ?_⟩
  rw [getD_setL _ _ _ _ (by rw [h.len]; exact hd)]
  split
  · next hjd =>
    subst hjd
    obtain ⟨a, b⟩ := h.fit j hj
    refine ⟨by rw [List.length_set]; exact a, fun x hx => ?_⟩
    rcases List.mem_or_eq_of_mem_set hx with hx | rfl
    · exact b x hx
    · exact ⟨hg, hno⟩
  · exact h.fit j hj
theorem GLoop.push (h : GLoop rs L G T g d T1) (hd : T1 d = false) (hl : d < G.length) : GTrue G T g (G.set d (G.getD d [] ++ [g])) :=
  ⟨flatten_push G d g hl, fun e he => by
    rw [getD_setL _ _ _ _ hl, if_neg]
    rintro rfl
    rw [h.sub _ he] at hd; cases hd⟩
theorem GIn.put {G1 : List (List Nat)} (h : GIn rs L G T g d i T1) (k : GTrue G T1 ((G.getD d []).getD i 0) G1) (hl : d < G1.length) (hi : i < (G.getD d []).length) : GTrue G T g (G1.set d ((G1.getD d []).set i g)) := by
  have e := k.kept d h.this
  refine ⟨flatten_swapped G G1 d i g hl (by rw [e]; exact hi) (by rw [e]; exact k.perm), fun x hx => ?_⟩
  rw [getD_setL _ _ _ _ hl, if_neg]
  · exact k.kept x (h.sub x hx)
  · rintro rfl
    rw [h.free] at hx; cases hx
end
/-- how many disks are not tried -/
def un (n : Nat) (T : Nat → Bool) : Nat := (List.range n).countP fun d => !T d
theorem un_le {n : Nat} {T T' : Nat → Bool} (h : ∀ d, T d = true → T' d = true) : un n T' ≤ un n T :=
  List.countP_mono_left fun d _ hd => by
    cases ht : T d
    · rfl
    · rw [h d ht] at hd; cases hd
theorem un_lt {n : Nat} {T T' : Nat → Bool} {d : Nat} (h : ∀ d, T d = true → T' d = true) (hd : d < n) (h0 : T d = false) (h1 : T' d = true) : un n T' < un n T := by
  have e : ∀ m, d < m → (List.range m).countP (fun d => !T' d) < (List.range m).countP (fun d => !T d) := by
    intro m hm
    induction m with
    | zero => omega
    | succ m ih =>
      rw [List.range_succ, List.countP_append, List.countP_append]
      by_cases hdm : d = m
      · subst hdm
        have := un_le (n := d) h
        unfold un at this
        simp only [List.countP_singleton, h0, h1, Bool.not_true, Bool.not_false, Bool.false_eq_true, if_false, if_true]
        omega
      · have h3 := ih (by omega)
        have h4 : [m].countP (fun d => !T' d) ≤ [m].countP (fun d => !T d) := List.countP_mono_left fun x _ hx => by
          cases ht : T x
          · rfl
          · rw [h x ht] at hx; cases hx
        omega
  exact e n hd

/-- some set of disks is short -/
def Short (l : List (List Int)) (rs : List Int) : Prop := ∃ S, roomS S rs 0 < l.countP (hangs S rs)
theorem Mt_not_short {l : List (List Int)} {rs : List Int} (h : Mt l rs) : ¬ Short l rs := by
  rintro ⟨S, hs⟩
  have := Mt_hall S l rs h
  omega
theorem given_all {l : List (List Int)} {rs : List Int} {G : List (List Nat)} (h : Gd rs (fun x => l.getD x []) l.length G) (hp : G.flatten.Perm (List.range l.length)) : Mt l rs := by
  refine Mt_of_given l G rs h.len hp fun j hj => ?_
  obtain ⟨a, b⟩ := h.fit j (by rw [← h.len]; exact hj)
  have e : G.getD j [] = G[j] := by rw [List.getD_eq_getElem?_getD, List.getElem?_eq_getElem hj, Option.getD_some]
  rw [e] at a b
  exact ⟨a, fun x hx => (b x hx).2⟩
theorem given_short {l : List (List Int)} {rs : List Int} {G : List (List Nat)} {g : Nat} {T' : Nat → Bool} (h : Gd rs (fun x => l.getD x []) l.length G) (hp : G.flatten.Perm (List.range g)) (hg : g < l.length)
    (hf : GFalse rs (fun x => l.getD x []) G (fun _ => false) g T') : Short l rs := by
  refine ⟨T', short_of_given l G rs T' g hg h.len hp (fun j hj hs => ?_) hf.hang⟩
  obtain ⟨a, b⟩ := hf.full j hs rfl
  have e : G.getD j [] = G[j] := by rw [List.getD_eq_getElem?_getD, List.getElem?_eq_getElem hj, Option.getD_some]
  rw [e] at a b
  exact ⟨a, b⟩
end Go.BW

