/- Scripts as plain data: which may be, their bytes, and that bytes say which script they are; for all scripts that may be. -/
import Derived.Test.YtmcgfnfhpcddlaaJA
set_option linter.unusedVariables false
set_option linter.unusedSimpArgs false
/- Scripts as plain data: which may be, their bytes, and that bytes say which script they are; for all scripts that may be. -/
namespace Go.Proofs.Ytmcgfnfhpcddlaa

/-! numbers of several bytes, the highest first -/
def be : Nat → Nat → List UInt8
  | 0, _ => []
  | w + 1, v => UInt8.ofNat (v / 256 ^ w) :: be w v
def val (l : List UInt8) : Nat := l.foldl (fun n c => n * 256 + c.toNat) 0
theorem be_len (v : Nat) : ∀ w, (be w v).length = w
  | 0 => rfl
  | w + 1 => by show (be w v).length + 1 = w + 1; rw [be_len v w]
theorem foldl_val (l : List UInt8) : ∀ n, l.foldl (fun n c => n * 256 + c.toNat) n = n * 256 ^ l.length + val l := by
  induction l with
  | nil => intro n; simp [val]
  | cons c l ih =>
    intro n
    unfold val
    rw [List.foldl_cons, List.foldl_cons, ih, ih (0 * 256 + c.toNat), List.length_cons, Nat.pow_succ]
    rw [Nat.add_mul, Nat.mul_assoc, Nat.mul_comm 256, Nat.zero_mul, Nat.zero_add]
    omega
theorem val_cons (c : UInt8) (l : List UInt8) : val (c :: l) = c.toNat * 256 ^ l.length + val l := by
  show (c :: l).foldl _ 0 = _
  rw [List.foldl_cons, foldl_val, Nat.zero_mul, Nat.zero_add]
theorem val_lt : ∀ l : List UInt8, val l < 256 ^ l.length
  | [] => by simp [val]
  | c :: l => by
    rw [val_cons, List.length_cons, Nat.pow_succ]
    have h1 := val_lt l
    have h2 : c.toNat < 256 := c.toNat_lt
    have h3 : c.toNat * 256 ^ l.length ≤ 255 * 256 ^ l.length := Nat.mul_le_mul_right _ (by omega)
    omega
theorem val_be (v : Nat) : ∀ w, val (be w v) = v % 256 ^ w
  | 0 => by show (0 : Nat) = v % 256 ^ 0; rw [Nat.pow_zero, Nat.mod_one]
  | w + 1 => by
    show val (UInt8.ofNat (v / 256 ^ w) :: be w v) = _
    rw [val_cons, be_len, val_be v w]
    have h1 : (UInt8.ofNat (v / 256 ^ w)).toNat = v / 256 ^ w % 256 := by simp
    rw [h1, Nat.pow_succ, Nat.mod_mul]
    rw [Nat.add_comm, Nat.mul_comm]
theorem be_mod (v : Nat) : ∀ w, be w (v % 256 ^ w) = be w v
  | 0 => rfl
  | w + 1 => by
    show UInt8.ofNat (v % 256 ^ (w + 1) / 256 ^ w) :: be w (v % 256 ^ (w + 1)) = UInt8.ofNat (v / 256 ^ w) :: be w v
    have h1 : v % 256 ^ (w + 1) / 256 ^ w = v / 256 ^ w % 256 := by
      rw [Nat.pow_succ, Nat.mod_mul_right_div_self]
    have h2 : be w (v % 256 ^ (w + 1)) = be w v := by
      rw [← be_mod (v % 256 ^ (w + 1)) w, Nat.pow_succ, Nat.mod_mul_right_mod, be_mod]
    rw [h1, h2]
    congr 1
    apply UInt8.toNat_inj.1
    simp
theorem be_val : ∀ l : List UInt8, be l.length (val l) = l
  | [] => rfl
  | c :: l => by
    show UInt8.ofNat (val (c :: l) / 256 ^ l.length) :: be l.length (val (c :: l)) = c :: l
    have hl := val_lt l
    have hp : 0 < 256 ^ l.length := Nat.pow_pos (by decide)
    have h1 : val (c :: l) / 256 ^ l.length = c.toNat := by
      rw [val_cons, Nat.mul_comm, Nat.mul_add_div hp, Nat.div_eq_of_lt hl, Nat.add_zero]
    have h2 : be l.length (val (c :: l)) = l := by
      rw [← be_mod, val_cons, Nat.mul_comm, Nat.mul_add_mod, Nat.mod_eq_of_lt hl, be_val l]
    rw [h1, h2]
    congr 1
    simp
theorem be_snoc (v : Nat) : ∀ w, be (w + 1) v = be w (v / 256) ++ [UInt8.ofNat v]
  | 0 => by simp [be]
  | w + 1 => by
    show UInt8.ofNat (v / 256 ^ (w + 1)) :: be (w + 1) v = (UInt8.ofNat (v / 256 / 256 ^ w) :: be w (v / 256)) ++ [UInt8.ofNat v]
    rw [be_snoc v w, Nat.div_div_eq_div_mul, Nat.pow_succ, Nat.mul_comm]
    rfl

/-! scripts -/
def b8 (x : Int) : UInt8 := UInt8.ofNat x.toNat
theorem b8_nat {x : Int} (h0 : 0 ≤ x) (h1 : x ≤ 255) : ((b8 x).toNat : Int) = x := by
  unfold b8
  simp
  omega
theorem b8_val (c : UInt8) : b8 (c.toNat : Int) = c := by
  unfold b8; simp
def z64 : List UInt8 := List.replicate 64 0
structure Act where
  k : Int
  b : Int
  s : List UInt8
  n : Int
  at' : Int
  m : Nat
deriving DecidableEq
structure Scr where
  num : Int
  sz : List Int
  bl : Int
  acts : List Act
deriving DecidableEq
def a0 (k : Int) : Act := ⟨k, 0, z64, 0, 0, 0⟩
/-- an act with just what its kind has -/
def bareA (a : Act) : Act :=
  if a.k = 1 then ⟨a.k, a.b, a.s, 0, 0, 0⟩ else if a.k = 2 then ⟨a.k, a.b, z64, 0, 0, 0⟩ else if a.k = 4 ∨ a.k = 5 ∨ a.k = 6 then ⟨a.k, 0, z64, a.n, 0, 0⟩
  else if a.k = 7 then ⟨a.k, 0, z64, a.n, 0, a.m⟩ else if a.k = 8 then ⟨a.k, 0, z64, a.n, a.at', a.m⟩ else if a.k = 9 then ⟨a.k, 0, z64, a.n, a.at', 0⟩ else a0 a.k
def knownK (k : Int) : Bool := decide (1 ≤ k ∧ k ≤ 10)
def inR (n a b : Int) : Bool := decide (a ≤ n ∧ n ≤ b)
def mostN (k : Int) : Int := if k = 5 then 65535 else 255
def rightA (a : Act) : Bool := knownK a.k && decide (bareA a = a) && inR a.b 0 255 && inR a.n 0 (mostN a.k) && inR a.at' 0 255
def rightS (s : Scr) : Bool := inR s.num 0 4294967295 && inR s.sz.length 3 12 && inR s.bl 1 96 && decide (s.acts.length ≤ 120) && s.sz.all (fun n => inR n 160 4096) && s.acts.all rightA
/-- how many bytes a sector has up to its last one that is not 0 -/
def fillN (s : List UInt8) : Nat := (s.reverse.dropWhile (· == 0)).length
theorem fillN_le (s : List UInt8) : fillN s ≤ s.length := by
  unfold fillN
  have := (List.dropWhile_suffix (p := (· == (0 : UInt8))) (l := s.reverse)).length_le
  simpa using this
theorem fill_pad : ∀ (s : List UInt8), s = s.take (fillN s) ++ List.replicate (s.length - fillN s) 0 := by
  intro s
  have key : ∀ r : List UInt8, r = List.replicate (r.length - (r.dropWhile (· == 0)).length) 0 ++ r.dropWhile (· == 0) := by
    intro r
    induction r with
    | nil => rfl
    | cons c r ih =>
      rw [List.dropWhile_cons]
      split
      · next h =>
        have hc : c = 0 := by simpa using h
        have hle := (List.dropWhile_suffix (p := (· == (0 : UInt8))) (l := r)).length_le
        rw [List.length_cons, show r.length + 1 - (r.dropWhile (· == 0)).length = (r.length - (r.dropWhile (· == 0)).length) + 1 by omega, List.replicate_succ, List.cons_append, ← ih, hc]
      · simp
  have h := key s.reverse
  have h2 := congrArg List.reverse h
  rw [List.reverse_reverse, List.reverse_append, List.reverse_replicate, List.length_reverse] at h2
  have h3 : s.take (fillN s) = (s.reverse.dropWhile (· == 0)).reverse := by
    have : fillN s = (s.reverse.dropWhile (· == 0)).reverse.length := by rw [List.length_reverse]; rfl
    obtain ⟨q, hq⟩ : ∃ q, (s.reverse.dropWhile (· == 0)).reverse = q := ⟨_, rfl⟩
    rw [hq] at this h2 ⊢
    rw [this]
    conv => lhs; rw [h2]
    exact List.take_left
  rw [h3]
  exact h2
theorem fillN_pad (d : List UInt8) (k : Nat) (h : fillN d = d.length) : fillN (d ++ List.replicate k 0) = d.length := by
  have : ∀ k, fillN (d ++ List.replicate k 0) = fillN d := by
    intro k
    unfold fillN
    rw [List.reverse_append, List.reverse_replicate]
    induction k with
    | zero => rfl
    | succ k ih => rw [List.replicate_succ, List.cons_append, List.dropWhile_cons]; exact ih
  rw [this, h]
def actB (a : Act) : List UInt8 :=
  b8 a.k :: (if a.k = 1 then b8 a.b :: UInt8.ofNat (fillN a.s) :: a.s.take (fillN a.s) else if a.k = 2 then [b8 a.b] else if a.k = 4 ∨ a.k = 6 then [b8 a.n] else if a.k = 5 then be 2 a.n.toNat
    else if a.k = 7 then b8 a.n :: be 8 a.m else if a.k = 8 then b8 a.at' :: b8 a.n :: be 8 a.m else if a.k = 9 then [b8 a.n, b8 a.at'] else [])
def headB (s : Scr) : List UInt8 := [66, 87] ++ be 4 s.num.toNat ++ [b8 s.sz.length]
def bytesS (s : Scr) : List UInt8 := headB s ++ (s.sz.map (fun n => be 2 n.toNat)).flatten ++ [b8 s.bl, b8 s.acts.length] ++ (s.acts.map actB).flatten
end Go.Proofs.Ytmcgfnfhpcddlaa


/- The reference's reader of scripts as a function, and that it reads back what was written; for all scripts that may be. -/
namespace Go.Proofs.Ytmcgfnfhpcddlaa

/-- a number of so many bytes; behind the end there are noughts -/
def rget (w : Nat) (l : List UInt8) : Nat × List UInt8 := (val ((l ++ List.replicate w 0).take w), l.drop w)
def rdata (n : Nat) (l : List UInt8) : List UInt8 := ((l ++ List.replicate n 0).take n).take 64 ++ List.replicate (64 - n) 0
def rAct (k : Int) (l : List UInt8) : Act × List UInt8 :=
  if k = 1 then (⟨k, (rget 1 l).1, rdata (rget 1 (l.drop 1)).1 (l.drop 2), 0, 0, 0⟩, (l.drop 2).drop (rget 1 (l.drop 1)).1)
  else if k = 2 then (⟨k, (rget 1 l).1, z64, 0, 0, 0⟩, l.drop 1)
  else if k = 4 ∨ k = 6 then (⟨k, 0, z64, (rget 1 l).1, 0, 0⟩, l.drop 1)
  else if k = 5 then (⟨k, 0, z64, (rget 2 l).1, 0, 0⟩, l.drop 2)
  else if k = 7 then (⟨k, 0, z64, (rget 1 l).1, 0, (rget 8 (l.drop 1)).1⟩, l.drop 9)
  else if k = 8 then (⟨k, 0, z64, (rget 1 (l.drop 1)).1, (rget 1 l).1, (rget 8 (l.drop 2)).1⟩, l.drop 10)
  else if k = 9 then (⟨k, 0, z64, (rget 1 l).1, (rget 1 (l.drop 1)).1, 0⟩, l.drop 2)
  else (a0 k, l)
def rActOf (l : List UInt8) : Act × List UInt8 := rAct (rget 1 l).1 (l.drop 1)
def rActs : Nat → List UInt8 → List Act × List UInt8
  | 0, l => ([], l)
  | n + 1, l => ((rActOf l).1 :: (rActs n (rActOf l).2).1, (rActs n (rActOf l).2).2)
def rSizes : Nat → List UInt8 → List Int × List UInt8
  | 0, l => ([], l)
  | n + 1, l => (((rget 2 l).1 : Int) :: (rSizes n (l.drop 2)).1, (rSizes n (l.drop 2)).2)
def rdec (l : List UInt8) : Scr × List UInt8 :=
  let sz := rSizes (rget 1 (l.drop 6)).1 (l.drop 7)
  let ac := rActs (rget 1 (sz.2.drop 1)).1 (sz.2.drop 2)
  (⟨(rget 4 (l.drop 2)).1, sz.1, (rget 1 sz.2).1, ac.1⟩, ac.2)

theorem rget_app {w : Nat} {d r : List UInt8} (h : d.length = w) : rget w (d ++ r) = (val d, r) := by
  subst h
  unfold rget
  rw [List.append_assoc, List.take_left, List.drop_left]
theorem rget_be {w v : Nat} (h : v < 256 ^ w) (r : List UInt8) : rget w (be w v ++ r) = (v, r) := by
  rw [rget_app (be_len v w), val_be, Nat.mod_eq_of_lt h]
theorem rget_one (c : UInt8) (r : List UInt8) : rget 1 (c :: r) = (c.toNat, r) := by
  have := rget_app (w := 1) (d := [c]) (r := r) rfl
  rw [List.singleton_append] at this
  rw [this, val_cons]; simp [val]
theorem rget_b8 {x : Int} (h0 : 0 ≤ x) (h1 : x ≤ 255) (r : List UInt8) : (((rget 1 (b8 x :: r)).1 : Nat) : Int) = x := by
  rw [rget_one, b8_nat h0 h1]
theorem inR_iff {n a b : Int} : inR n a b = true ↔ a ≤ n ∧ n ≤ b := by unfold inR; simp
theorem rightA_parts {a : Act} (h : rightA a = true) : (1 ≤ a.k ∧ a.k ≤ 10) ∧ bareA a = a ∧ (0 ≤ a.b ∧ a.b ≤ 255) ∧ (0 ≤ a.n ∧ a.n ≤ mostN a.k) ∧ (0 ≤ a.at' ∧ a.at' ≤ 255) := by
  unfold rightA knownK at h
  simp only [Bool.and_eq_true, inR_iff, decide_eq_true_eq] at h
  obtain ⟨⟨⟨⟨h1, h2⟩, h3⟩, h4⟩, h5⟩ := h
  exact ⟨h1, h2, h3, h4, h5⟩
/-- the sizes of an act's parts that the type itself says -/
structure ActOk (a : Act) : Prop where
  s : a.s.length = 64
  m : a.m < 18446744073709551616
theorem rdata_fill {s : List UInt8} (h : s.length = 64) (r : List UInt8) : rdata (fillN s) (s.take (fillN s) ++ r) = s := by
  have hl := fillN_le s
  have h1 : (s.take (fillN s)).length = fillN s := by rw [List.length_take]; omega
  unfold rdata
  rw [List.append_assoc, List.take_append_of_le_length (by omega), List.take_of_length_le (Nat.le_of_eq h1), List.take_of_length_le (by omega)]
  conv => rhs; rw [fill_pad s, h]
theorem ext_act {a b : Act} (h : a = b) : a.k = b.k ∧ a.b = b.b ∧ a.s = b.s ∧ a.n = b.n ∧ a.at' = b.at' ∧ a.m = b.m := by subst h; simp
theorem rAct_enc {a : Act} (h : rightA a = true) (ho : ActOk a) (r : List UInt8) : rActOf (actB a ++ r) = (a, r) := by
  obtain ⟨hk, hb, h1, h2, h3⟩ := rightA_parts h
  obtain ⟨hs, hm⟩ := ho
  unfold rActOf actB
  rw [List.cons_append, rget_one, b8_nat (by omega) (by omega), List.drop_one, List.tail_cons]
  obtain ⟨k, b, s, n, t, m⟩ := a
  simp only at hk hb h1 h2 h3 hs hm ⊢
  have hm' : m < 256 ^ 8 := hm
  have hfl := fillN_le s
  unfold bareA at hb
  simp only at hb
  unfold rAct
  rcases (show k = 1 ∨ k = 2 ∨ k = 3 ∨ k = 4 ∨ k = 5 ∨ k = 6 ∨ k = 7 ∨ k = 8 ∨ k = 9 ∨ k = 10 by omega) with e | e | e | e | e | e | e | e | e | e
  · subst e
    simp only [if_true, Act.mk.injEq, true_and] at hb ⊢
    obtain ⟨rfl, rfl, rfl⟩ := hb
    have hf : (UInt8.ofNat (fillN s)).toNat = fillN s := by simp; omega
    simp only [List.cons_append, List.drop_succ_cons, List.drop_zero, rget_one, hf, b8_nat h1.1 h1.2, rdata_fill hs]
    rw [show (s.take (fillN s) ++ r).drop (fillN s) = r from by
      have : (s.take (fillN s)).length = fillN s := by rw [List.length_take]; omega
      conv => lhs; arg 1; rw [← this]
      exact List.drop_left]
  · subst e
    simp at hb ⊢
    obtain ⟨rfl, rfl, rfl, rfl⟩ := hb
    simp [rget_one, b8_nat h1.1 h1.2]
  · subst e
    simp [a0] at hb ⊢
    obtain ⟨rfl, rfl, rfl, rfl, rfl⟩ := hb
    simp
  · subst e
    unfold mostN at h2
    simp at hb h2 ⊢
    obtain ⟨rfl, rfl, rfl, rfl⟩ := hb
    simp [rget_one, b8_nat h2.1 h2.2]
  · subst e
    unfold mostN at h2
    simp at hb h2 ⊢
    obtain ⟨rfl, rfl, rfl, rfl⟩ := hb
    rw [rget_be (by omega), show (be 2 n.toNat ++ r).drop 2 = r from by have := List.drop_left (l₁ := be 2 n.toNat) (l₂ := r); rwa [be_len] at this]
    simp
    omega
  · subst e
    unfold mostN at h2
    simp at hb h2 ⊢
    obtain ⟨rfl, rfl, rfl, rfl⟩ := hb
    simp [rget_one, b8_nat h2.1 h2.2]
  · subst e
    unfold mostN at h2
    simp at hb h2 ⊢
    obtain ⟨rfl, rfl, rfl⟩ := hb
    rw [rget_one, rget_be hm', show (be 8 m ++ r).drop 8 = r from by have := List.drop_left (l₁ := be 8 m) (l₂ := r); rwa [be_len] at this]
    simp [b8_nat h2.1 h2.2]
  · subst e
    unfold mostN at h2
    simp at hb h2 ⊢
    obtain ⟨rfl, rfl⟩ := hb
    rw [rget_one, rget_one, rget_be hm', show (be 8 m ++ r).drop 8 = r from by have := List.drop_left (l₁ := be 8 m) (l₂ := r); rwa [be_len] at this]
    simp [b8_nat h2.1 h2.2, b8_nat h3.1 h3.2]
  · subst e
    unfold mostN at h2
    simp at hb h2 ⊢
    obtain ⟨rfl, rfl, rfl⟩ := hb
    rw [rget_one, rget_one]
    simp [b8_nat h2.1 h2.2, b8_nat h3.1 h3.2]
  · subst e
    simp [a0] at hb ⊢
    obtain ⟨rfl, rfl, rfl, rfl, rfl⟩ := hb
    simp
theorem rActs_enc (r : List UInt8) : ∀ l : List Act, (∀ a ∈ l, rightA a = true ∧ ActOk a) → rActs l.length ((l.map actB).flatten ++ r) = (l, r)
  | [], _ => rfl
  | a :: l, h => by
    have h0 := h a (List.mem_cons_self ..)
    rw [List.map_cons, List.flatten_cons, List.append_assoc, List.length_cons]
    unfold rActs
    rw [rAct_enc h0.1 h0.2, rActs_enc r l (fun x hx => h x (List.mem_cons_of_mem _ hx))]
theorem rSizes_enc (r : List UInt8) : ∀ l : List Int, (∀ a ∈ l, 0 ≤ a ∧ a ≤ 65535) → rSizes l.length ((l.map (fun n => be 2 n.toNat)).flatten ++ r) = (l, r)
  | [], _ => rfl
  | a :: l, h => by
    have h0 := h a (List.mem_cons_self ..)
    rw [List.map_cons, List.flatten_cons, List.append_assoc, List.length_cons]
    unfold rSizes
    rw [rget_be (by omega), show (be 2 a.toNat ++ ((l.map (fun n => be 2 n.toNat)).flatten ++ r)).drop 2 = (l.map (fun n => be 2 n.toNat)).flatten ++ r from by
      have := List.drop_left (l₁ := be 2 a.toNat) (l₂ := (l.map (fun n => be 2 n.toNat)).flatten ++ r); rwa [be_len] at this, rSizes_enc r l (fun x hx => h x (List.mem_cons_of_mem _ hx))]
    rw [Int.toNat_of_nonneg h0.1]
structure ScrOk (s : Scr) : Prop where
  a : ∀ a ∈ s.acts, ActOk a
theorem rightS_parts {s : Scr} (h : rightS s = true) : (0 ≤ s.num ∧ s.num ≤ 4294967295) ∧ (3 ≤ s.sz.length ∧ s.sz.length ≤ 12) ∧ (1 ≤ s.bl ∧ s.bl ≤ 96) ∧ s.acts.length ≤ 120 ∧ (∀ n ∈ s.sz, 160 ≤ n ∧ n ≤ 4096) ∧ ∀ a ∈ s.acts, rightA a = true := by
  unfold rightS at h
  simp only [Bool.and_eq_true, inR_iff, decide_eq_true_eq, List.all_eq_true] at h
  obtain ⟨⟨⟨⟨⟨h1, h2⟩, h3⟩, h4⟩, h5⟩, h6⟩ := h
  exact ⟨h1, by omega, h3, h4, h5, h6⟩
theorem rdec_enc {s : Scr} (h : rightS s = true) (ho : ScrOk s) (r : List UInt8) : rdec (bytesS s ++ r) = (s, r) := by
  obtain ⟨h1, h2, h3, h4, h5, h6⟩ := rightS_parts h
  obtain ⟨num, sz, bl, acts⟩ := s
  simp only at h1 h2 h3 h4 h5 h6 ho
  unfold rdec bytesS headB
  simp only [List.append_assoc]
  have e4 := be_len num.toNat 4
  have d2 : ∀ l : List UInt8, ([66, 87] ++ l).drop 2 = l := fun l => rfl
  have d6 : ∀ l : List UInt8, ([66, 87] ++ (be 4 num.toNat ++ l)).drop 6 = l := fun l => by
    have := List.drop_left (l₁ := [66, 87] ++ be 4 num.toNat) (l₂ := l)
    rw [List.length_append, e4] at this
    simpa using this
  have d7 : ∀ l : List UInt8, ([66, 87] ++ (be 4 num.toNat ++ ([b8 sz.length] ++ l))).drop 7 = l := fun l => by
    have := d6 ([b8 sz.length] ++ l)
    rw [show (7 : Nat) = 6 + 1 from rfl, ← List.drop_drop, this]
    rfl
  rw [d2, d6, d7, rget_be (by omega), List.singleton_append, rget_one]
  have hn : (b8 (sz.length : Int)).toNat = sz.length := by have := b8_nat (x := (sz.length : Int)) (by omega) (by omega); omega
  simp only [hn]
  rw [rSizes_enc _ _ (fun a ha => by have := h5 a ha; omega)]
  have hb : ((b8 bl).toNat : Int) = bl := b8_nat (by omega) (by omega)
  have ha : (b8 (acts.length : Int)).toNat = acts.length := by have := b8_nat (x := (acts.length : Int)) (by omega) (by omega); omega
  simp only [List.cons_append, List.nil_append, rget_one, List.drop_succ_cons, List.drop_zero, ha, hb]
  rw [rActs_enc _ _ (fun a hm => ⟨h6 a hm, ho.a a hm⟩), Int.toNat_of_nonneg h1.1]
/-- no script's bytes begin with those of another one -/
theorem bytesS_inj {s t : Scr} (hs : rightS s = true) (ho : ScrOk s) (ht : rightS t = true) (hp : ScrOk t) {r : List UInt8} (h : bytesS s ++ r = bytesS t) : s = t ∧ r = [] := by
  have h1 := rdec_enc hs ho r
  have h2 := rdec_enc ht hp []
  rw [List.append_nil] at h2
  rw [h, h2] at h1
  injection h1 with h3 h4
  exact ⟨h3.symm, h4.symm⟩
end Go.Proofs.Ytmcgfnfhpcddlaa


/- The program's reader of scripts as a function: it reads just what was written; for all bytes. -/
namespace Go.Proofs.Ytmcgfnfhpcddlaa

/-- what is left, and whether there were too few -/
structure Rs where
  l : List UInt8
  sh : Bool
def takeR (n : Nat) (r : Rs) : List UInt8 × Rs := if r.l.length < n then (List.replicate n 0, ⟨r.l, true⟩) else (r.l.take n, ⟨r.l.drop n, r.sh⟩)
def numR (w : Nat) (r : Rs) : Nat × Rs := (val (takeR w r).1, (takeR w r).2)
theorem takeR_len (n : Nat) (r : Rs) : (takeR n r).1.length = n := by
  unfold takeR
  split
  · simp
  · simp; omega
theorem numR_lt (w : Nat) (r : Rs) : (numR w r).1 < 256 ^ w := by
  have := val_lt (takeR w r).1
  rwa [takeR_len] at this
def sizesR : Nat → Rs → List Int × Rs
  | 0, r => ([], r)
  | n + 1, r => (((numR 2 r).1 : Int) :: (sizesR n (numR 2 r).2).1, (sizesR n (numR 2 r).2).2)
def actR (k : Int) (r : Rs) : Option (Act × Rs) :=
  if k = 1 then
    let b := numR 1 r; let n := numR 1 b.2; let d := takeR n.1 n.2
    if 64 < n.1 then none else if n.1 ≠ fillN (d.1 ++ List.replicate (64 - n.1) 0) then none else some (⟨k, b.1, d.1 ++ List.replicate (64 - n.1) 0, 0, 0, 0⟩, d.2)
  else if k = 2 then some (⟨k, (numR 1 r).1, z64, 0, 0, 0⟩, (numR 1 r).2)
  else if k = 3 ∨ k = 10 then some (a0 k, r)
  else if k = 4 ∨ k = 6 then some (⟨k, 0, z64, (numR 1 r).1, 0, 0⟩, (numR 1 r).2)
  else if k = 5 then some (⟨k, 0, z64, (numR 2 r).1, 0, 0⟩, (numR 2 r).2)
  else if k = 7 then let n := numR 1 r; let m := numR 8 n.2; some (⟨k, 0, z64, n.1, 0, m.1⟩, m.2)
  else if k = 8 then let t := numR 1 r; let n := numR 1 t.2; let m := numR 8 n.2; some (⟨k, 0, z64, n.1, t.1, m.1⟩, m.2)
  else if k = 9 then let n := numR 1 r; let t := numR 1 n.2; some (⟨k, 0, z64, n.1, t.1, 0⟩, t.2)
  else none
def actsR : Nat → Rs → List Act → Option (List Act × Rs)
  | 0, r, acc => if r.sh then none else some (acc, r)
  | n + 1, r, acc => if r.sh then none else match actR (numR 1 r).1 (numR 1 r).2 with
    | none => none
    | some p => actsR n p.2 (acc ++ [p.1])
def endR (num : Int) (sz : List Int) (bl : Int) : Option (List Act × Rs) → Option Scr
  | none => none
  | some p => if p.2.l = [] ∧ rightS ⟨num, sz, bl, p.1⟩ = true then some ⟨num, sz, bl, p.1⟩ else none
def parseP (b : List UInt8) : Option Scr :=
  let d := takeR 2 ⟨b, false⟩
  if d.1 ≠ [66, 87] then none else
    let n := numR 4 d.2; let c := numR 1 n.2; let z := sizesR c.1 c.2; let bl := numR 1 z.2; let k := numR 1 bl.2
    endR n.1 z.1 bl.1 (actsR k.1 k.2 [])

theorem takeR_inv {n : Nat} {r : Rs} (h : (takeR n r).2.sh = false) : r.sh = false ∧ r.l = (takeR n r).1 ++ (takeR n r).2.l := by
  unfold takeR at h ⊢
  split at h
  · cases h
  · next hl => rw [if_neg hl]; exact ⟨h, (List.take_append_drop n r.l).symm⟩
theorem numR_inv {w : Nat} {r : Rs} (h : (numR w r).2.sh = false) : r.sh = false ∧ r.l = be w (numR w r).1 ++ (numR w r).2.l := by
  obtain ⟨h1, h2⟩ := takeR_inv (n := w) (r := r) h
  refine ⟨h1, ?_⟩
  have := be_val (takeR w r).1
  rw [takeR_len] at this
  unfold numR
  rw [this]
  exact h2
theorem num1_inv {r : Rs} (h : (numR 1 r).2.sh = false) : r.sh = false ∧ r.l = b8 ((numR 1 r).1 : Int) :: (numR 1 r).2.l := by
  obtain ⟨h1, h2⟩ := numR_inv h
  refine ⟨h1, ?_⟩
  rw [h2]
  have hl := numR_lt 1 r
  simp [be, b8]
theorem actR_inv {k : Int} {r : Rs} {a : Act} {r' : Rs} (h : actR k r = some (a, r')) (hs : r'.sh = false) : r.sh = false ∧ a.k = k ∧ ActOk a ∧ b8 k :: r.l = actB a ++ r'.l := by
  have hz : z64.length = 64 := by simp [z64]
  unfold actR at h
  unfold actB
  split at h
  · next e =>
    subst e
    simp only at h
    split at h
    · cases h
    · next h64 =>
      split at h
      · cases h
      · next hf =>
        simp only [Option.some.injEq, Prod.mk.injEq] at h
        obtain ⟨rfl, rfl⟩ := h
        obtain ⟨q1, q2⟩ := takeR_inv hs
        obtain ⟨q3, q4⟩ := num1_inv q1
        obtain ⟨q5, q6⟩ := num1_inv q3
        have hl := takeR_len (numR 1 (numR 1 r).2).1 (numR 1 (numR 1 r).2).2
        have hf : (numR 1 (numR 1 r).2).1 = fillN ((takeR (numR 1 (numR 1 r).2).1 (numR 1 (numR 1 r).2).2).1 ++ List.replicate (64 - (numR 1 (numR 1 r).2).1) 0) := Classical.not_not.1 hf
        refine ⟨q5, rfl, ⟨by simp only [List.length_append, List.length_replicate]; omega, by simp⟩, ?_⟩
        simp only [if_true]
        rw [← hf, List.take_append_of_le_length (by omega), List.take_of_length_le (by omega)]
        rw [q6, q4]
        simp only [List.cons_append, List.cons.injEq, true_and]
        refine ⟨?_, q2⟩
        simp [b8]
  · split at h
    · next e =>
      subst e
      simp only [Option.some.injEq, Prod.mk.injEq] at h
      obtain ⟨rfl, rfl⟩ := h
      obtain ⟨q1, q2⟩ := num1_inv hs
      exact ⟨q1, rfl, ⟨hz, by simp⟩, by rw [q2]; simp⟩
    · split at h
      · next n1 n2 e =>
        simp only [Option.some.injEq, Prod.mk.injEq] at h
        obtain ⟨rfl, rfl⟩ := h
        refine ⟨hs, rfl, ⟨hz, by simp [a0]⟩, ?_⟩
        rcases e with rfl | rfl <;> simp [a0]
      · split at h
        · next n1 n2 n3 e =>
          simp only [Option.some.injEq, Prod.mk.injEq] at h
          obtain ⟨rfl, rfl⟩ := h
          obtain ⟨q1, q2⟩ := num1_inv hs
          refine ⟨q1, rfl, ⟨hz, by simp⟩, ?_⟩
          rw [q2]
          rcases e with rfl | rfl <;> simp
        · split at h
          · next e =>
            subst e
            simp only [Option.some.injEq, Prod.mk.injEq] at h
            obtain ⟨rfl, rfl⟩ := h
            obtain ⟨q1, q2⟩ := numR_inv hs
            exact ⟨q1, rfl, ⟨hz, by simp⟩, by rw [q2]; simp⟩
          · split at h
            · next e =>
              subst e
              simp only [Option.some.injEq, Prod.mk.injEq] at h
              obtain ⟨rfl, rfl⟩ := h
              obtain ⟨q1, q2⟩ := numR_inv hs
              obtain ⟨q3, q4⟩ := num1_inv q1
              exact ⟨q3, rfl, ⟨hz, numR_lt 8 _⟩, by rw [q4, q2]; simp⟩
            · split at h
              · next e =>
                subst e
                simp only [Option.some.injEq, Prod.mk.injEq] at h
                obtain ⟨rfl, rfl⟩ := h
                obtain ⟨q1, q2⟩ := numR_inv hs
                obtain ⟨q3, q4⟩ := num1_inv q1
                obtain ⟨q5, q6⟩ := num1_inv q3
                exact ⟨q5, rfl, ⟨hz, numR_lt 8 _⟩, by rw [q6, q4, q2]; simp⟩
              · split at h
                · next e =>
                  subst e
                  simp only [Option.some.injEq, Prod.mk.injEq] at h
                  obtain ⟨rfl, rfl⟩ := h
                  obtain ⟨q3, q4⟩ := num1_inv hs
                  obtain ⟨q5, q6⟩ := num1_inv q3
                  exact ⟨q5, rfl, ⟨hz, by simp⟩, by rw [q6, q4]; simp⟩
                · cases h
theorem actsR_inv : ∀ (n : Nat) (r : Rs) (acc l : List Act) (r' : Rs), actsR n r acc = some (l, r') → r.sh = false ∧ r'.sh = false ∧ ∃ t, l = acc ++ t ∧ t.length = n ∧ (∀ a ∈ t, ActOk a) ∧ r.l = (t.map actB).flatten ++ r'.l
  | 0, r, acc, l, r', h => by
    unfold actsR at h
    split at h
    · cases h
    · next hs =>
      simp only [Option.some.injEq, Prod.mk.injEq] at h
      obtain ⟨rfl, rfl⟩ := h
      have hs : r.sh = false := by simpa using hs
      exact ⟨hs, hs, [], by simp, rfl, by simp, by simp⟩
  | n + 1, r, acc, l, r', h => by
    unfold actsR at h
    split at h
    · cases h
    · next hs =>
      have hs : r.sh = false := by simpa using hs
      split at h
      · cases h
      · next p hp =>
        obtain ⟨a, r1⟩ := p
        obtain ⟨h1, h2, t, rfl, hl, ho, he⟩ := actsR_inv n r1 (acc ++ [a]) l r' h
        obtain ⟨h3, h4, h5, h6⟩ := actR_inv hp h1
        obtain ⟨_, h7⟩ := num1_inv h3
        refine ⟨hs, h2, a :: t, by simp, by simp [hl], ?_, ?_⟩
        · intro x hx
          rcases List.mem_cons.1 hx with rfl | hx
          · exact h5
          · exact ho x hx
        · rw [h7, h6, he]; simp
theorem sizesR_inv : ∀ (n : Nat) (r : Rs), (sizesR n r).2.sh = false → r.sh = false ∧ (sizesR n r).1.length = n ∧ r.l = ((sizesR n r).1.map (fun n => be 2 n.toNat)).flatten ++ (sizesR n r).2.l
  | 0, r, h => ⟨h, rfl, rfl⟩
  | n + 1, r, h => by
    unfold sizesR at h ⊢
    obtain ⟨h1, h2, h3⟩ := sizesR_inv n _ h
    obtain ⟨h4, h5⟩ := numR_inv h1
    refine ⟨h4, by simp [h2], ?_⟩
    conv => lhs; rw [h5, h3]
    simp
theorem parseP_inv {b : List UInt8} {s : Scr} (h : parseP b = some s) : rightS s = true ∧ ScrOk s ∧ bytesS s = b := by
  unfold parseP at h
  simp only at h
  split at h
  · cases h
  · next hBW =>
    have hBW := Classical.not_not.1 hBW
    obtain ⟨n, hn⟩ : ∃ n, numR 4 (takeR 2 ⟨b, false⟩).2 = n := ⟨_, rfl⟩
    obtain ⟨c, hc⟩ : ∃ c, numR 1 n.2 = c := ⟨_, rfl⟩
    obtain ⟨z, hz⟩ : ∃ z, sizesR c.1 c.2 = z := ⟨_, rfl⟩
    obtain ⟨bl, hbl⟩ : ∃ bl, numR 1 z.2 = bl := ⟨_, rfl⟩
    obtain ⟨k, hk⟩ : ∃ k, numR 1 bl.2 = k := ⟨_, rfl⟩
    rw [hn, hc, hz, hbl, hk] at h
    obtain ⟨p, hp⟩ : ∃ p, actsR k.1 k.2 [] = p := ⟨_, rfl⟩
    rw [hp] at h
    rcases p with _ | ⟨l, r'⟩
    · cases h
    · unfold endR at h
      simp only at h
      split at h
      · next he =>
        injection h with h
        subst h
        obtain ⟨h1, _, t, ht, hl, ho, hx⟩ := actsR_inv _ _ _ _ _ hp
        rw [List.nil_append] at ht
        subst ht
        rw [← hk] at h1
        obtain ⟨h2, k2⟩ := num1_inv h1
        rw [← hbl] at h2
        obtain ⟨h3, k3⟩ := num1_inv h2
        rw [← hz] at h3
        obtain ⟨h4, hzl, k4⟩ := sizesR_inv _ _ h3
        rw [← hc] at h4
        obtain ⟨h5, k5⟩ := num1_inv h4
        rw [← hn] at h5
        obtain ⟨h6, k6⟩ := numR_inv h5
        obtain ⟨_, k7⟩ := takeR_inv h6
        rw [hn] at k6
        rw [hc] at k5
        rw [hz] at k4 hzl
        rw [hbl] at k3
        rw [hk] at k2
        refine ⟨he.2, ⟨ho⟩, ?_⟩
        unfold bytesS headB
        simp only
        simp only at k7
        rw [k7, hBW, k6, k5, k4, k3, k2, hx, he.1, hl, hzl]
        simp
      · cases h
theorem takeR_app {n : Nat} {d l : List UInt8} {sh : Bool} (h : d.length = n) : takeR n ⟨d ++ l, sh⟩ = (d, ⟨l, sh⟩) := by
  subst h
  unfold takeR
  rw [if_neg (by simp), List.take_left, List.drop_left]
theorem numR_be {w v : Nat} (h : v < 256 ^ w) (l : List UInt8) (sh : Bool) : numR w ⟨be w v ++ l, sh⟩ = (v, ⟨l, sh⟩) := by
  unfold numR
  rw [takeR_app (be_len v w), val_be, Nat.mod_eq_of_lt h]
theorem numR_one (c : UInt8) (l : List UInt8) (sh : Bool) : numR 1 ⟨c :: l, sh⟩ = (c.toNat, ⟨l, sh⟩) := by
  have h : takeR 1 ⟨[c] ++ l, sh⟩ = ([c], ⟨l, sh⟩) := takeR_app rfl
  rw [List.singleton_append] at h
  unfold numR
  rw [h, val_cons]; simp [val]
theorem actR_enc {a : Act} (h : rightA a = true) (ho : ActOk a) (r : List UInt8) : ∃ r1, numR 1 ⟨actB a ++ r, false⟩ = (a.k.toNat, ⟨r1, false⟩) ∧ actR a.k ⟨r1, false⟩ = some (a, ⟨r, false⟩) := by
  obtain ⟨hk, hb, h1, h2, h3⟩ := rightA_parts h
  obtain ⟨hs, hm⟩ := ho
  unfold actB
  rw [List.cons_append, numR_one]
  refine ⟨_, by rw [show (b8 a.k).toNat = a.k.toNat from by have := b8_nat (x := a.k) (by omega) (by omega); omega], ?_⟩
  obtain ⟨k, b, s, n, t, m⟩ := a
  simp only at hk hb h1 h2 h3 hs hm ⊢
  have hm' : m < 256 ^ 8 := hm
  have hfl := fillN_le s
  unfold bareA at hb
  simp only at hb
  unfold actR
  rcases (show k = 1 ∨ k = 2 ∨ k = 3 ∨ k = 4 ∨ k = 5 ∨ k = 6 ∨ k = 7 ∨ k = 8 ∨ k = 9 ∨ k = 10 by omega) with e | e | e | e | e | e | e | e | e | e
  · subst e
    simp only [if_true, Act.mk.injEq, true_and] at hb ⊢
    obtain ⟨rfl, rfl, rfl⟩ := hb
    have hf : (UInt8.ofNat (fillN s)).toNat = fillN s := by simp; omega
    have htl : (s.take (fillN s)).length = fillN s := by rw [List.length_take]; omega
    have hsp : s.take (fillN s) ++ List.replicate (64 - fillN s) 0 = s := by have := fill_pad s; rw [hs] at this; exact this.symm
    simp only [List.cons_append, numR_one, hf, takeR_app htl, hsp]
    rw [if_neg (by omega), if_neg (by simp), b8_nat h1.1 h1.2]
  · subst e
    simp at hb ⊢
    obtain ⟨rfl, rfl, rfl, rfl⟩ := hb
    simp [numR_one, b8_nat h1.1 h1.2]
  · subst e
    simp [a0] at hb ⊢
    obtain ⟨rfl, rfl, rfl, rfl, rfl⟩ := hb
    simp
  · subst e
    unfold mostN at h2
    simp at hb h2 ⊢
    obtain ⟨rfl, rfl, rfl, rfl⟩ := hb
    simp [numR_one, b8_nat h2.1 h2.2]
  · subst e
    unfold mostN at h2
    simp at hb h2 ⊢
    obtain ⟨rfl, rfl, rfl, rfl⟩ := hb
    rw [numR_be (by omega)]
    simp
    omega
  · subst e
    unfold mostN at h2
    simp at hb h2 ⊢
    obtain ⟨rfl, rfl, rfl, rfl⟩ := hb
    simp [numR_one, b8_nat h2.1 h2.2]
  · subst e
    unfold mostN at h2
    simp at hb h2 ⊢
    obtain ⟨rfl, rfl, rfl⟩ := hb
    simp [numR_one, numR_be hm', b8_nat h2.1 h2.2]
  · subst e
    unfold mostN at h2
    simp at hb h2 ⊢
    obtain ⟨rfl, rfl⟩ := hb
    simp [numR_one, numR_be hm', b8_nat h2.1 h2.2, b8_nat h3.1 h3.2]
  · subst e
    unfold mostN at h2
    simp at hb h2 ⊢
    obtain ⟨rfl, rfl, rfl⟩ := hb
    simp [numR_one, b8_nat h2.1 h2.2, b8_nat h3.1 h3.2]
  · subst e
    simp [a0] at hb ⊢
    obtain ⟨rfl, rfl, rfl, rfl, rfl⟩ := hb
    simp
theorem actsR_enc (r : List UInt8) : ∀ (l acc : List Act), (∀ a ∈ l, rightA a = true ∧ ActOk a) → actsR l.length ⟨(l.map actB).flatten ++ r, false⟩ acc = some (acc ++ l, ⟨r, false⟩)
  | [], acc, _ => by simp [actsR]
  | a :: l, acc, h => by
    have h0 := h a (List.mem_cons_self ..)
    rw [List.map_cons, List.flatten_cons, List.append_assoc, List.length_cons]
    unfold actsR
    obtain ⟨r1, e1, e2⟩ := actR_enc h0.1 h0.2 ((l.map actB).flatten ++ r)
    have hk := (rightA_parts h0.1).1
    rw [e1]
    simp only [Bool.false_eq_true, if_false, Int.toNat_of_nonneg (show 0 ≤ a.k by omega), e2]
    rw [actsR_enc r l (acc ++ [a]) (fun x hx => h x (List.mem_cons_of_mem _ hx))]
    simp
theorem sizesR_enc (r : List UInt8) : ∀ l : List Int, (∀ a ∈ l, 0 ≤ a ∧ a ≤ 65535) → sizesR l.length ⟨(l.map (fun n => be 2 n.toNat)).flatten ++ r, false⟩ = (l, ⟨r, false⟩)
  | [], _ => by simp [sizesR]
  | a :: l, h => by
    have h0 := h a (List.mem_cons_self ..)
    rw [List.map_cons, List.flatten_cons, List.append_assoc, List.length_cons]
    unfold sizesR
    rw [numR_be (by omega), sizesR_enc r l (fun x hx => h x (List.mem_cons_of_mem _ hx)), Int.toNat_of_nonneg h0.1]
theorem parseP_enc {s : Scr} (h : rightS s = true) (ho : ScrOk s) : parseP (bytesS s) = some s := by
  obtain ⟨h1, h2, h3, h4, h5, h6⟩ := rightS_parts h
  obtain ⟨num, sz, bl, acts⟩ := s
  simp only at h1 h2 h3 h4 h5 h6 ho
  have hn : (b8 (sz.length : Int)).toNat = sz.length := by have := b8_nat (x := (sz.length : Int)) (by omega) (by omega); omega
  have hb : ((b8 bl).toNat : Int) = bl := b8_nat (by omega) (by omega)
  have ha : (b8 (acts.length : Int)).toNat = acts.length := by have := b8_nat (x := (acts.length : Int)) (by omega) (by omega); omega
  unfold parseP bytesS headB
  simp only [List.append_assoc]
  rw [takeR_app (by rfl), if_neg (by simp), numR_be (by omega), List.singleton_append]
  simp only [numR_one, hn]
  rw [sizesR_enc _ _ (fun a ha => by have := h5 a ha; omega)]
  simp only [List.cons_append, List.nil_append, numR_one, ha, hb]
  have := actsR_enc [] acts [] (fun a hm => ⟨h6 a hm, ho.a a hm⟩)
  rw [List.append_nil, List.nil_append] at this
  rw [this]
  unfold endR
  simp only
  rw [Int.toNat_of_nonneg h1.1, if_pos ⟨trivial, h⟩]
theorem parseP_iff {b : List UInt8} {s : Scr} : parseP b = some s ↔ rightS s = true ∧ ScrOk s ∧ bytesS s = b :=
  ⟨parseP_inv, fun ⟨h1, h2, h3⟩ => h3 ▸ parseP_enc h1 h2⟩
/-- the reference's reader: what may stand there, if its bytes are just these -/
def parseQ (b : List UInt8) : Option Scr := if rightS (rdec b).1 = true ∧ bytesS (rdec b).1 = b then some (rdec b).1 else none
theorem rAct_ok (l : List UInt8) : ActOk (rActOf l).1 := by
  have hz : z64.length = 64 := by simp [z64]
  have h8 : ∀ l : List UInt8, (rget 8 l).1 < 18446744073709551616 := by
    intro l
    have := val_lt ((l ++ List.replicate 8 0).take 8)
    rw [List.length_take, List.length_append, List.length_replicate, Nat.min_eq_left (by omega)] at this
    exact this
  unfold rActOf rAct
  repeat' split
  all_goals refine ⟨?_, ?_⟩
  all_goals first | exact hz | (simp [a0]; done) | exact h8 _ | skip
  simp only [rdata, List.length_append, List.length_take, List.length_replicate]
  omega
theorem rActs_ok : ∀ (n : Nat) (l : List UInt8), ∀ a ∈ (rActs n l).1, ActOk a
  | 0, l => by simp [rActs]
  | n + 1, l => by
    unfold rActs
    intro a ha
    rcases List.mem_cons.1 ha with rfl | ha
    · exact rAct_ok l
    · exact rActs_ok n _ a ha
theorem rdec_ok (b : List UInt8) : ScrOk (rdec b).1 := ⟨rActs_ok _ _⟩
/-- both readers say the same -/
theorem parse_same (b : List UInt8) : parseP b = parseQ b := by
  unfold parseQ
  split
  · next h => exact parseP_iff.2 ⟨h.1, rdec_ok b, h.2⟩
  · next h =>
    rcases hp : parseP b with _ | s
    · rfl
    · obtain ⟨h1, h2, h3⟩ := parseP_iff.1 hp
      have h4 := rdec_enc h1 h2 []
      rw [List.append_nil, h3] at h4
      rw [h4] at h
      exact absurd ⟨h1, h3⟩ h
end Go.Proofs.Ytmcgfnfhpcddlaa


/- Scripts made ones that may be, how long their bytes are, and what a beginning or another byte says; for all scripts. -/
namespace Go.Proofs.Ytmcgfnfhpcddlaa

def tameA (a : Act) : Act :=
  let k := 1 + a.k % 65536 % 10
  if k = 1 then ⟨k, a.b % 128, a.s, 0, 0, 0⟩ else if k = 2 then ⟨k, a.b % 128, z64, 0, 0, 0⟩ else if k = 4 then ⟨k, 0, z64, a.n % 16, 0, 0⟩ else if k = 5 then ⟨k, 0, z64, a.n % 8192, 0, 0⟩
  else if k = 6 then ⟨k, 0, z64, a.n % 256, 0, 0⟩ else if k = 7 then ⟨k, 0, z64, a.n % 32, 0, a.m⟩ else if k = 8 then ⟨k, 0, z64, a.n % 32, a.at' % 32, a.m⟩ else if k = 9 then ⟨k, 0, z64, a.n % 256, a.at' % 32, 0⟩ else a0 k
def tameZ (sz : List Int) : List Int := (sz.take 12 ++ List.replicate (3 - sz.length) 0).map (fun n => 160 + n % 256)
def cutS (s : Scr) : Scr := ⟨s.num, s.sz.take 15, s.bl, s.acts.take 125⟩
def tameS (s : Scr) : Scr := ⟨s.num % 4294967296, tameZ s.sz, 1 + s.bl % 128 % 96, (s.acts.take 120).map tameA⟩
theorem cut_ok {s : Scr} (h : ScrOk s) : ScrOk (cutS s) := ⟨fun a ha => h.a a (List.mem_of_mem_take ha)⟩
theorem tame_cut (s : Scr) : tameS (cutS s) = tameS s := by
  have hl : (s.sz.take 15).length = min 15 s.sz.length := List.length_take
  unfold tameS cutS tameZ
  simp only [List.take_take, hl]
  rw [show min 12 15 = 12 from rfl, show min 120 125 = 120 from rfl, show 3 - min 15 s.sz.length = 3 - s.sz.length by omega]
theorem tameA_ok {a : Act} (h : ActOk a) : ActOk (tameA a) := by
  have hz : z64.length = 64 := by simp [z64]
  unfold tameA
  simp only
  repeat' split
  all_goals refine ⟨?_, ?_⟩
  all_goals first | exact hz | exact h.s | exact h.m | (simp [a0]; done)
theorem tameA_right (a : Act) : rightA (tameA a) = true := by
  obtain ⟨k, b, s, n, t, m⟩ := a
  obtain ⟨K, hK⟩ : ∃ K, 1 + k % 65536 % 10 = K := ⟨_, rfl⟩
  have hk1 : 1 ≤ K ∧ K ≤ 10 := by omega
  unfold tameA
  simp only [hK]
  clear hK
  have h1 : knownK K = true := by unfold knownK; simp; omega
  unfold rightA
  rcases (show K = 1 ∨ K = 2 ∨ K = 3 ∨ K = 4 ∨ K = 5 ∨ K = 6 ∨ K = 7 ∨ K = 8 ∨ K = 9 ∨ K = 10 by omega) with e | e | e | e | e | e | e | e | e | e
  all_goals
    subst e
    simp [h1, bareA, a0, mostN, inR]
    try omega
theorem tameZ_len (sz : List Int) : 3 ≤ (tameZ sz).length ∧ (tameZ sz).length ≤ 12 := by
  unfold tameZ
  simp only [List.length_map, List.length_append, List.length_take, List.length_replicate]
  omega
theorem tameS_right (s : Scr) : rightS (tameS s) = true := by
  have h := tameZ_len s.sz
  unfold rightS tameS
  simp only [Bool.and_eq_true, inR_iff, decide_eq_true_eq, List.all_eq_true, List.length_map, List.length_take]
  refine ⟨⟨⟨⟨⟨by omega, by omega⟩, by omega⟩, by omega⟩, ?_⟩, ?_⟩
  · intro n hn
    unfold tameZ at hn
    obtain ⟨x, _, rfl⟩ := List.mem_map.1 hn
    omega
  · intro a ha
    obtain ⟨x, _, rfl⟩ := List.mem_map.1 ha
    exact tameA_right x
theorem tameS_ok {s : Scr} (h : ScrOk s) : ScrOk (tameS s) := ⟨fun a ha => by
  obtain ⟨x, hx, rfl⟩ := List.mem_map.1 ha
  exact tameA_ok (h.a x (List.mem_of_mem_take hx))⟩
/-- how many bytes an act has -/
def lenA (a : Act) : Nat := if a.k = 1 then 3 + fillN a.s else if a.k = 2 ∨ a.k = 4 ∨ a.k = 6 then 2 else if a.k = 5 ∨ a.k = 9 then 3 else if a.k = 7 then 10 else if a.k = 8 then 11 else 1
theorem actB_len (a : Act) : (actB a).length = lenA a := by
  have h := fillN_le a.s
  have h2 := be_len a.n.toNat 2
  have h8 := be_len a.m 8
  unfold actB lenA
  by_cases e1 : a.k = 1
  · rw [if_pos e1, if_pos e1]; simp only [List.length_cons, List.length_take]; omega
  rw [if_neg e1, if_neg e1]
  by_cases e2 : a.k = 2
  · rw [if_pos e2, if_pos (.inl e2)]; rfl
  rw [if_neg e2]
  by_cases e4 : a.k = 4 ∨ a.k = 6
  · rw [if_pos e4, if_pos (.inr e4)]; rfl
  rw [if_neg e4, if_neg (show ¬ (a.k = 2 ∨ a.k = 4 ∨ a.k = 6) by omega)]
  by_cases e5 : a.k = 5
  · rw [if_pos e5, if_pos (.inl e5), List.length_cons, h2]
  rw [if_neg e5]
  by_cases e7 : a.k = 7
  · rw [if_pos e7, if_neg (show ¬ (a.k = 5 ∨ a.k = 9) by omega), if_pos e7, List.length_cons, List.length_cons, h8]
  rw [if_neg e7]
  by_cases e8 : a.k = 8
  · rw [if_pos e8, if_neg (show ¬ (a.k = 5 ∨ a.k = 9) by omega), if_neg e7, if_pos e8, List.length_cons, List.length_cons, List.length_cons, h8]
  rw [if_neg e8]
  by_cases e9 : a.k = 9
  · rw [if_pos e9, if_pos (.inr e9)]; rfl
  rw [if_neg e9, if_neg (show ¬ (a.k = 5 ∨ a.k = 9) by omega), if_neg e7, if_neg e8]
  rfl
def frontB (s : Scr) : List UInt8 := headB s ++ (s.sz.map (fun n => be 2 n.toNat)).flatten ++ [b8 s.bl]
theorem frontB_len (s : Scr) : (frontB s).length = 8 + 2 * s.sz.length := by
  have h4 := be_len s.num.toNat 4
  have hz : ∀ l : List Int, ((l.map (fun n => be 2 n.toNat)).flatten).length = 2 * l.length := by
    intro l
    induction l with
    | nil => rfl
    | cons a l ih => rw [List.map_cons, List.flatten_cons, List.length_append, ih, be_len, List.length_cons]; omega
  unfold frontB headB
  simp only [List.length_append, List.length_cons, List.length_nil, h4, hz]
  omega
theorem bytes_parts (s : Scr) : bytesS s = frontB s ++ b8 s.acts.length :: (s.acts.map actB).flatten := by
  unfold bytesS frontB
  simp
def sumL (l : List Act) : Nat := (l.map lenA).sum
theorem acts_len (l : List Act) : ((l.map actB).flatten).length = sumL l := by
  unfold sumL
  induction l with
  | nil => rfl
  | cons a l ih => rw [List.map_cons, List.flatten_cons, List.length_append, ih, actB_len]; rfl
theorem bytes_len (s : Scr) : (bytesS s).length = 9 + 2 * s.sz.length + sumL s.acts := by
  rw [bytes_parts, List.length_append, List.length_cons, frontB_len, acts_len]; omega
theorem sum_take {l : List Act} {i : Nat} {a : Act} (h : l[i]? = some a) : sumL (l.take (i + 1)) = sumL (l.take i) + lenA a := by
  obtain ⟨hi, rfl⟩ := List.getElem?_eq_some_iff.1 h
  unfold sumL
  rw [List.take_succ_eq_append_getElem hi, List.map_append, List.sum_append]
  simp
/-- one script without its last act -/
def lessS (s : Scr) : Scr := ⟨s.num, s.sz, s.bl, s.acts.take (s.acts.length - 1)⟩
theorem less_right {s : Scr} (h : rightS s = true) : rightS (lessS s) = true := by
  obtain ⟨h1, h2, h3, h4, h5, h6⟩ := rightS_parts h
  unfold rightS lessS
  simp only [Bool.and_eq_true, inR_iff, decide_eq_true_eq, List.all_eq_true, List.length_take]
  exact ⟨⟨⟨⟨⟨h1, by omega⟩, h3⟩, by omega⟩, h5⟩, fun a ha => h6 a (List.mem_of_mem_take ha)⟩
theorem less_ok {s : Scr} (h : ScrOk s) : ScrOk (lessS s) := ⟨fun a ha => h.a a (List.mem_of_mem_take ha)⟩
theorem less_law {s : Scr} {a : Act} (h : s.acts[s.acts.length - 1]? = some a) :
    (bytesS (lessS s)).length + lenA a = (bytesS s).length ∧ (bytesS s)[8 + 2 * s.sz.length]? = some (b8 s.acts.length) ∧ (bytesS (lessS s))[8 + 2 * s.sz.length]? = some (b8 ((s.acts.length - 1 : Nat) : Int)) ∧
      (∀ i, i < (bytesS (lessS s)).length → i ≠ 8 + 2 * s.sz.length → (bytesS (lessS s))[i]? = (bytesS s)[i]?) ∧ (bytesS s)[(bytesS (lessS s)).length]? = some (b8 a.k) := by
  have hpos : s.acts.length - 1 < s.acts.length := (List.getElem?_eq_some_iff.1 h).1
  have hsplit : s.acts = s.acts.take (s.acts.length - 1) ++ [a] := by
    have := List.take_succ_eq_append_getElem hpos
    rw [show s.acts.length - 1 + 1 = s.acts.length by omega, List.take_length] at this
    rw [List.getElem?_eq_getElem hpos] at h
    injection h with h
    rw [← h]; exact this
  have hfl : (s.acts.map actB).flatten = ((s.acts.take (s.acts.length - 1)).map actB).flatten ++ actB a := by
    conv => lhs; rw [hsplit]
    simp
  have hll : (lessS s).acts.length = s.acts.length - 1 := by unfold lessS; rw [List.length_take]; omega
  have hF : frontB (lessS s) = frontB s := rfl
  have hb := bytes_parts s
  have hc := bytes_parts (lessS s)
  rw [hF, hll] at hc
  rw [hfl] at hb
  have hA : (lessS s).acts = s.acts.take (s.acts.length - 1) := rfl
  rw [hA] at hc
  have hfr := frontB_len s
  obtain ⟨F, hFF⟩ : ∃ F, frontB s = F := ⟨_, rfl⟩
  obtain ⟨Q, hQ⟩ : ∃ Q, ((s.acts.take (s.acts.length - 1)).map actB).flatten = Q := ⟨_, rfl⟩
  rw [hFF] at hb hc hfr
  rw [hQ] at hb hc
  rw [hb, hc, ← hfr]
  have hal := actB_len a
  refine ⟨?_, ?_, ?_, ?_, ?_⟩
  · simp only [List.length_append, List.length_cons]; omega
  · rw [List.getElem?_append_right (Nat.le_refl _), Nat.sub_self]; rfl
  · rw [List.getElem?_append_right (Nat.le_refl _), Nat.sub_self]; rfl
  · intro i hi hne
    rcases Nat.lt_or_ge i F.length with h1 | h1
    · rw [List.getElem?_append_left h1, List.getElem?_append_left h1]
    · rw [List.getElem?_append_right h1, List.getElem?_append_right h1]
      obtain ⟨j, hj⟩ : ∃ j, i - F.length = j + 1 := ⟨i - F.length - 1, by omega⟩
      rw [hj, List.getElem?_cons_succ, List.getElem?_cons_succ, List.getElem?_append_left]
      rw [List.length_append, List.length_cons] at hi
      omega
  · rw [show (F ++ b8 (s.acts.length : Int) :: (Q ++ actB a)) = (F ++ b8 (s.acts.length : Int) :: Q) ++ actB a from by simp]
    rw [show (F ++ b8 ((s.acts.length - 1 : Nat) : Int) :: Q).length = (F ++ b8 (s.acts.length : Int) :: Q).length from by simp]
    rw [List.getElem?_append_right (Nat.le_refl _), Nat.sub_self]
    unfold actB
    rfl
theorem parse_beginning {s : Scr} (h : rightS s = true) (ho : ScrOk s) {k : Nat} (hk : k < (bytesS s).length) : parseP ((bytesS s).take k) = none := by
  rcases hp : parseP ((bytesS s).take k) with _ | u
  · rfl
  · obtain ⟨h1, h2, h3⟩ := parseP_iff.1 hp
    have := (bytesS_inj h1 h2 h ho (r := (bytesS s).drop k) (by rw [h3]; exact List.take_append_drop k _)).2
    have hl := congrArg List.length this
    rw [List.length_drop, List.length_nil] at hl
    omega
theorem parse_more {s : Scr} (h : rightS s = true) (ho : ScrOk s) (c : UInt8) : parseP (bytesS s ++ [c]) = none := by
  rcases hp : parseP (bytesS s ++ [c]) with _ | u
  · rfl
  · obtain ⟨h1, h2, h3⟩ := parseP_iff.1 hp
    have := (bytesS_inj h ho h1 h2 h3.symm).2
    cases this
theorem parse_other {s u : Scr} {l : List UInt8} (hp : parseP l = some u) (hl : l ≠ bytesS s) : rightS u = true ∧ ScrOk u ∧ bytesS u = l ∧ u ≠ s := by
  obtain ⟨h1, h2, h3⟩ := parseP_iff.1 hp
  exact ⟨h1, h2, h3, by rintro rfl; exact hl h3.symm⟩
theorem set_xor_ne {l : List UInt8} {i : Nat} {c t : UInt8} (h : l[i]? = some c) (ht : t ≠ 0) : l.set i (c ^^^ t) ≠ l := by
  intro e
  have h2 := congrArg (fun l : List UInt8 => l[i]?) e
  simp only [List.getElem?_set_self (List.getElem?_eq_some_iff.1 h).1, h, Option.some.injEq] at h2
  have h3 : c ^^^ (c ^^^ t) = c ^^^ c := by rw [h2]
  rw [← UInt8.xor_assoc, UInt8.xor_self, UInt8.zero_xor] at h3
  exact ht h3
end Go.Proofs.Ytmcgfnfhpcddlaa

