/- The reference's reader of scripts as a function, and that it reads back what was written; for all scripts that may be. -/
import Derived.Test.YtmcgfnfhpcddlaaS1
namespace Go.Proofs.Ytmcgfnfhpcddlaa

/-- a number of so many bytes; behind the end there are noughts -/
def rget (w : Nat) (l : List UInt8) : Nat × List UInt8 := (val ((l ++ List.replicate w 0).take w), l.drop w)
def rdata (n : Nat) (l : List UInt8) : List UInt8 := ((l ++ List.replicate n 0).take n).take 64 ++ List.replicate (64 - n) 0
def rAct (k : Int) (l : List UInt8) : Act × List UInt8 :=
  if k = 1 then (⟨k, (rget 1 l).1, rdata (rget 1 (l.drop 1)).1 (l.drop 2), 0, 0, 0⟩, (l.drop 2).drop (rget 1 (l.drop 1)).1)
  else if k = 2 then (⟨k, (rget 1 l).1, z64, 0, 0, 0⟩, l.drop 1)
  else if k = 4 ∨ k = 6 then (⟨k, 0, z64, (rget 1 l).1, 0, 0⟩, l.drop 1)
  else if k = 5 then (⟨k, 0, z64, (rget 2 l).1, 0, 0⟩, l.drop 2)
  else if k = 7 then (⟨k, 0, z64, (rget 1 l).1, 0, (rget 8 (l.drop 1)).1⟩, l.drop 9)
  else if k = 8 then (⟨k, 0, z64, (rget 1 (l.drop 1)).1, (rget 1 l).1, (rget 8 (l.drop 2)).1⟩, l.drop 10)
  else if k = 9 then (⟨k, 0, z64, (rget 1 l).1, (rget 1 (l.drop 1)).1, 0⟩, l.drop 2)
  else (a0 k, l)
def rActOf (l : List UInt8) : Act × List UInt8 := rAct (rget 1 l).1 (l.drop 1)
def rActs : Nat → List UInt8 → List Act × List UInt8
  | 0, l => ([], l)
  | n + 1, l => ((rActOf l).1 :: (rActs n (rActOf l).2).1, (rActs n (rActOf l).2).2)
def rSizes : Nat → List UInt8 → List Int × List UInt8
  | 0, l => ([], l)
  | n + 1, l => (((rget 2 l).1 : Int) :: (rSizes n (l.drop 2)).1, (rSizes n (l.drop 2)).2)
def rdec (l : List UInt8) : Scr × List UInt8 :=
  let sz := rSizes (rget 1 (l.drop 6)).1 (l.drop 7)
  let ac := rActs (rget 1 (sz.2.drop 1)).1 (sz.2.drop 2)
  (⟨(rget 4 (l.drop 2)).1, sz.1, (rget 1 sz.2).1, ac.1⟩, ac.2)

theorem rget_app {w : Nat} {d r : List UInt8} (h : d.length = w) : rget w (d ++ r) = (val d, r) := by
  subst h
  unfold rget
  rw [List.append_assoc, List.take_left, List.drop_left]
theorem rget_be {w v : Nat} (h : v < 256 ^ w) (r : List UInt8) : rget w (be w v ++ r) = (v, r) := by
  rw [rget_app (be_len v w), val_be, Nat.mod_eq_of_lt h]
theorem rget_one (c : UInt8) (r : List UInt8) : rget 1 (c :: r) = (c.toNat, r) := by
  have := rget_app (w := 1) (d := [c]) (r := r) rfl
  rw [List.singleton_append] at this
  rw [this, val_cons]; simp [val]
theorem rget_b8 {x : Int} (h0 : 0 ≤ x) (h1 : x ≤ 255) (r : List UInt8) : (((rget 1 (b8 x :: r)).1 : Nat) : Int) = x := by
  rw [rget_one, b8_nat h0 h1]
theorem inR_iff {n a b : Int} : inR n a b = true ↔ a ≤ n ∧ n ≤ b := by unfold inR; simp
theorem rightA_parts {a : Act} (h : rightA a = true) : (1 ≤ a.k ∧ a.k ≤ 10) ∧ bareA a = a ∧ (0 ≤ a.b ∧ a.b ≤ 255) ∧ (0 ≤ a.n ∧ a.n ≤ mostN a.k) ∧ (0 ≤ a.at' ∧ a.at' ≤ 255) := by
  unfold rightA knownK at h
  simp only [Bool.and_eq_true, inR_iff, decide_eq_true_eq] at h
  obtain ⟨⟨⟨⟨h1, h2⟩, h3⟩, h4⟩, h5⟩ := h
  exact ⟨h1, h2, h3, h4, h5⟩
/-- the sizes of an act's parts that the type itself says -/
structure ActOk (a : Act) : Prop where
  s : a.s.length = 64
  m : a.m < 18446744073709551616
theorem rdata_fill {s : List UInt8} (h : s.length = 64) (r : List UInt8) : rdata (fillN s) (s.take (fillN s) ++ r) = s := by
  have hl := fillN_le s
  have h1 : (s.take (fillN s)).length = fillN s := by rw [List.length_take]; omega
  unfold rdata
  rw [List.append_assoc, List.take_append_of_le_length (by omega), List.take_of_length_le (Nat.le_of_eq h1), List.take_of_length_le (by omega)]
  conv => rhs; rw [fill_pad s, h]
theorem ext_act {a b : Act} (h : a = b) : a.k = b.k ∧ a.b = b.b ∧ a.s = b.s ∧ a.n = b.n ∧ a.at' = b.at' ∧ a.m = b.m := by subst h; simp
theorem rAct_enc {a : Act} (h : rightA a = true) (ho : ActOk a) (r : List UInt8) : rActOf (actB a ++ r) = (a, r) := by
  obtain ⟨hk, hb, h1, h2, h3⟩ := rightA_parts h
  obtain ⟨hs, hm⟩ := ho
  unfold rActOf actB
  rw [List.cons_append, rget_one, b8_nat (by omega) (by omega), List.drop_one, List.tail_cons]
  obtain ⟨k, b, s, n, t, m⟩ := a
  simp only at hk hb h1 h2 h3 hs hm ⊢
  have hm' : m < 256 ^ 8 := hm
  have hfl := fillN_le s
  unfold bareA at hb
  simp only at hb
  unfold rAct
  rcases (show k = 1 ∨ k = 2 ∨ k = 3 ∨ k = 4 ∨ k = 5 ∨ k = 6 ∨ k = 7 ∨ k = 8 ∨ k = 9 ∨ k = 10 by omega) with e | e | e | e | e | e | e | e | e | e
  · subst e
    simp only [if_true, Act.mk.injEq, true_and] at hb ⊢
    obtain ⟨rfl, rfl, rfl⟩ := hb
    have hf : (UInt8.ofNat (fillN s)).toNat = fillN s := by simp; omega
    simp only [List.cons_append, List.drop_succ_cons, List.drop_zero, rget_one, hf, b8_nat h1.1 h1.2, rdata_fill hs]
    rw [show (s.take (fillN s) ++ r).drop (fillN s) = r from by
      have : (s.take (fillN s)).length = fillN s := by rw [List.length_take]; omega
      conv => lhs; arg 1; rw [← this]
      exact List.drop_left]
  · subst e
    simp at hb ⊢
    obtain ⟨rfl, rfl, rfl, rfl⟩ := hb
    simp [rget_one, b8_nat h1.1 h1.2]
  · subst e
    simp [a0] at hb ⊢
    obtain ⟨rfl, rfl, rfl, rfl, rfl⟩ := hb
    simp
  · subst e
    unfold mostN at h2
    simp at hb h2 ⊢
    obtain ⟨rfl, rfl, rfl, rfl⟩ := hb
    simp [rget_one, b8_nat h2.1 h2.2]
  · subst e
    unfold mostN at h2
    simp at hb h2 ⊢
    obtain ⟨rfl, rfl, rfl, rfl⟩ := hb
    rw [rget_be (by omega), show (be 2 n.toNat ++ r).drop 2 = r from by have := List.drop_left (l₁ := be 2 n.toNat) (l₂ := r); rwa [be_len] at this]
    simp
    omega
  · subst e
    unfold mostN at h2
    simp at hb h2 ⊢
    obtain ⟨rfl, rfl, rfl, rfl⟩ := hb
    simp [rget_one, b8_nat h2.1 h2.2]
  · subst e
    unfold mostN at h2
    simp at hb h2 ⊢
    obtain ⟨rfl, rfl, rfl⟩ := hb
    rw [rget_one, rget_be hm', show (be 8 m ++ r).drop 8 = r from by have := List.drop_left (l₁ := be 8 m) (l₂ := r); rwa [be_len] at this]
    simp [b8_nat h2.1 h2.2]
  · subst e
    unfold mostN at h2
    simp at hb h2 ⊢
    obtain ⟨rfl, rfl⟩ := hb
    rw [rget_one, rget_one, rget_be hm', show (be 8 m ++ r).drop 8 = r from by have := List.drop_left (l₁ := be 8 m) (l₂ := r); rwa [be_len] at this]
    simp [b8_nat h2.1 h2.2, b8_nat h3.1 h3.2]
  · subst e
    unfold mostN at h2
    simp at hb h2 ⊢
    obtain ⟨rfl, rfl, rfl⟩ := hb
    rw [rget_one, rget_one]
    simp [b8_nat h2.1 h2.2, b8_nat h3.1 h3.2]
  · subst e
    simp [a0] at hb ⊢
    obtain ⟨rfl, rfl, rfl, rfl, rfl⟩ := hb
    simp
theorem rActs_enc (r : List UInt8) : ∀ l : List Act, (∀ a ∈ l, rightA a = true ∧ ActOk a) → rActs l.length ((l.map actB).flatten ++ r) = (l, r)
  | [], _ => rfl
  | a :: l, h => by
    have h0 := h a (List.mem_cons_self ..)
    rw [List.map_cons, List.flatten_cons, List.append_assoc, List.length_cons]
    unfold rActs
    rw [rAct_enc h0.1 h0.2, rActs_enc r l (fun x hx => h x (List.mem_cons_of_mem _ hx))]
theorem rSizes_enc (r : List UInt8) : ∀ l : List Int, (∀ a ∈ l, 0 ≤ a ∧ a ≤ 65535) → rSizes l.length ((l.map (fun n => be 2 n.toNat)).flatten ++ r) = (l, r)
  | [], _ => rfl
  | a :: l, h => by
    have h0 := h a (List.mem_cons_self ..)
    rw [List.map_cons, List.flatten_cons, List.append_assoc, List.length_cons]
    unfold rSizes
    rw [rget_be (by omega), show (be 2 a.toNat ++ ((l.map (fun n => be 2 n.toNat)).flatten ++ r)).drop 2 = (l.map (fun n => be 2 n.toNat)).flatten ++ r from by
      have := List.drop_left (l₁ := be 2 a.toNat) (l₂ := (l.map (fun n => be 2 n.toNat)).flatten ++ r); rwa [be_len] at this, rSizes_enc r l (fun x hx => h x (List.mem_cons_of_mem _ hx))]
    rw [Int.toNat_of_nonneg h0.1]
structure ScrOk (s : Scr) : Prop where
  a : ∀ a ∈ s.acts, ActOk a
theorem rightS_parts {s : Scr} (h : rightS s = true) : (0 ≤ s.num ∧ s.num ≤ 4294967295) ∧ (3 ≤ s.sz.length ∧ s.sz.length ≤ 12) ∧ (1 ≤ s.bl ∧ s.bl ≤ 96) ∧ s.acts.length ≤ 120 ∧ (∀ n ∈ s.sz, 160 ≤ n ∧ n ≤ 4096) ∧ ∀ a ∈ s.acts, rightA a = true := by
  unfold rightS at h
  simp only [Bool.and_eq_true, inR_iff, decide_eq_true_eq, List.all_eq_true] at h
  obtain ⟨⟨⟨⟨⟨h1, h2⟩, h3⟩, h4⟩, h5⟩, h6⟩ := h
  exact ⟨h1, by omega, h3, h4, h5, h6⟩
theorem rdec_enc {s : Scr} (h : rightS s = true) (ho : ScrOk s) (r : List UInt8) : rdec (bytesS s ++ r) = (s, r) := by
  obtain ⟨h1, h2, h3, h4, h5, h6⟩ := rightS_parts h
  obtain ⟨num, sz, bl, acts⟩ := s
  simp only at h1 h2 h3 h4 h5 h6 ho
  unfold rdec bytesS headB
  simp only [List.append_assoc]
  have e4 := be_len num.toNat 4
  have d2 : ∀ l : List UInt8, ([66, 87] ++ l).drop 2 = l := fun l => rfl
  have d6 : ∀ l : List UInt8, ([66, 87] ++ (be 4 num.toNat ++ l)).drop 6 = l := fun l => by
    have := List.drop_left (l₁ := [66, 87] ++ be 4 num.toNat) (l₂ := l)
    rw [List.length_append, e4] at this
    simpa using this
  have d7 : ∀ l : List UInt8, ([66, 87] ++ (be 4 num.toNat ++ ([b8 sz.length] ++ l))).drop 7 = l := fun l => by
    have := d6 ([b8 sz.length] ++ l)
    rw [show (7 : Nat) = 6 + 1 from rfl, ← List.drop_drop, this]
    rfl
  rw [d2, d6, d7, rget_be (by omega), List.singleton_append, rget_one]
  have hn : (b8 (sz.length : Int)).toNat = sz.length := by have := b8_nat (x := (sz.length : Int)) (by omega) (by omega); omega
  simp only [hn]
  rw [rSizes_enc _ _ (fun a ha => by have := h5 a ha; omega)]
  have hb : ((b8 bl).toNat : Int) = bl := b8_nat (by omega) (by omega)
  have ha : (b8 (acts.length : Int)).toNat = acts.length := by have := b8_nat (x := (acts.length : Int)) (by omega) (by omega); omega
  simp only [List.cons_append, List.nil_append, rget_one, List.drop_succ_cons, List.drop_zero, ha, hb]
  rw [rActs_enc _ _ (fun a hm => ⟨h6 a hm, ho.a a hm⟩), Int.toNat_of_nonneg h1.1]
/-- no script's bytes begin with those of another one -/
theorem bytesS_inj {s t : Scr} (hs : rightS s = true) (ho : ScrOk s) (ht : rightS t = true) (hp : ScrOk t) {r : List UInt8} (h : bytesS s ++ r = bytesS t) : s = t ∧ r = [] := by
  have h1 := rdec_enc hs ho r
  have h2 := rdec_enc ht hp []
  rw [List.append_nil] at h2
  rw [h, h2] at h1
  injection h1 with h3 h4
  exact ⟨h3.symm, h4.symm⟩
end Go.Proofs.Ytmcgfnfhpcddlaa

