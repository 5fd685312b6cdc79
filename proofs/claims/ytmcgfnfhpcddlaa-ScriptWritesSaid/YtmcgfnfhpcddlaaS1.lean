/- Scripts as plain data: which may be, their bytes, and that bytes say which script they are; for all scripts that may be. -/
import Derived.Test.YtmcgfnfhpcddlaaLib
namespace Go.Proofs.Ytmcgfnfhpcddlaa

/-! numbers of several bytes, the highest first -/
def be : Nat → Nat → List UInt8
  | 0, _ => []
  | w + 1, v => UInt8.ofNat (v / 256 ^ w) :: be w v
def val (l : List UInt8) : Nat := l.foldl (fun n c => n * 256 + c.toNat) 0
theorem be_len (v : Nat) : ∀ w, (be w v).length = w
  | 0 => rfl
  | w + 1 => by show (be w v).length + 1 = w + 1; rw [be_len v w]
theorem foldl_val (l : List UInt8) : ∀ n, l.foldl (fun n c => n * 256 + c.toNat) n = n * 256 ^ l.length + val l := by
  induction l with
  | nil => intro n; simp [val]
  | cons c l ih =>
    intro n
    unfold val
    rw [List.foldl_cons, List.foldl_cons, ih, ih (0 * 256 + c.toNat), List.length_cons, Nat.pow_succ]
    rw [Nat.add_mul, Nat.mul_assoc, Nat.mul_comm 256, Nat.zero_mul, Nat.zero_add]
    omega
theorem val_cons (c : UInt8) (l : List UInt8) : val (c :: l) = c.toNat * 256 ^ l.length + val l := by
  show (c :: l).foldl _ 0 = _
  rw [List.foldl_cons, foldl_val, Nat.zero_mul, Nat.zero_add]
theorem val_lt : ∀ l : List UInt8, val l < 256 ^ l.length
  | [] => by simp [val]
  | c :: l => by
    rw [val_cons, List.length_cons, Nat.pow_succ]
    have h1 := val_lt l
    have h2 : c.toNat < 256 := c.toNat_lt
    have h3 : c.toNat * 256 ^ l.length ≤ 255 * 256 ^ l.length := Nat.mul_le_mul_right _ (by omega)
    omega
theorem val_be (v : Nat) : ∀ w, val (be w v) = v % 256 ^ w
  | 0 => by show (0 : Nat) = v % 256 ^ 0; rw [Nat.pow_zero, Nat.mod_one]
  | w + 1 => by
    show val (UInt8.ofNat (v / 256 ^ w) :: be w v) = _
    rw [val_cons, be_len, val_be v w]
    have h1 : (UInt8.ofNat (v / 256 ^ w)).toNat = v / 256 ^ w % 256 := by simp
    rw [h1, Nat.pow_succ, Nat.mod_mul]
    rw [Nat.add_comm, Nat.mul_comm]
theorem be_mod (v : Nat) : ∀ w, be w (v % 256 ^ w) = be w v
  | 0 => rfl
  | w + 1 => by
    show UInt8.ofNat (v % 256 ^ (w + 1) / 256 ^ w) :: be w (v % 256 ^ (w + 1)) = UInt8.ofNat (v / 256 ^ w) :: be w v
    have h1 : v % 256 ^ (w + 1) / 256 ^ w = v / 256 ^ w % 256 := by
      rw [Nat.pow_succ, Nat.mod_mul_right_div_self]
    have h2 : be w (v % 256 ^ (w + 1)) = be w v := by
      rw [← be_mod (v % 256 ^ (w + 1)) w, Nat.pow_succ, Nat.mod_mul_right_mod, be_mod]
    rw [h1, h2]
    congr 1
    apply UInt8.toNat_inj.1
    simp
theorem be_val : ∀ l : List UInt8, be l.length (val l) = l
  | [] => rfl
  | c :: l => by
    show UInt8.ofNat (val (c :: l) / 256 ^ l.length) :: be l.length (val (c :: l)) = c :: l
    have hl := val_lt l
    have hp : 0 < 256 ^ l.length := Nat.pow_pos (by decide)
    have h1 : val (c :: l) / 256 ^ l.length = c.toNat := by
      rw [val_cons, Nat.mul_comm, Nat.mul_add_div hp, Nat.div_eq_of_lt hl, Nat.add_zero]
    have h2 : be l.length (val (c :: l)) = l := by
      rw [← be_mod, val_cons, Nat.mul_comm, Nat.mul_add_mod, Nat.mod_eq_of_lt hl, be_val l]
    rw [h1, h2]
    congr 1
    simp
theorem be_snoc (v : Nat) : ∀ w, be (w + 1) v = be w (v / 256) ++ [UInt8.ofNat v]
  | 0 => by simp [be]
  | w + 1 => by
    show UInt8.ofNat (v / 256 ^ (w + 1)) :: be (w + 1) v = (UInt8.ofNat (v / 256 / 256 ^ w) :: be w (v / 256)) ++ [UInt8.ofNat v]
    rw [be_snoc v w, Nat.div_div_eq_div_mul, Nat.pow_succ, Nat.mul_comm]
    rfl

/-! scripts -/
def b8 (x : Int) : UInt8 := UInt8.ofNat x.toNat
theorem b8_nat {x : Int} (h0 : 0 ≤ x) (h1 : x ≤ 255) : ((b8 x).toNat : Int) = x := by
  unfold b8
  simp
  omega
theorem b8_val (c : UInt8) : b8 (c.toNat : Int) = c := by
  unfold b8; simp
def z64 : List UInt8 := List.replicate 64 0
structure Act where
  k : Int
  b : Int
  s : List UInt8
  n : Int
  at' : Int
  m : Nat
deriving DecidableEq
structure Scr where
  num : Int
  sz : List Int
  bl : Int
  acts : List Act
deriving DecidableEq
def a0 (k : Int) : Act := ⟨k, 0, z64, 0, 0, 0⟩
/-- an act with just what its kind has -/
def bareA (a : Act) : Act :=
  if a.k = 1 then ⟨a.k, a.b, a.s, 0, 0, 0⟩ else if a.k = 2 then ⟨a.k, a.b, z64, 0, 0, 0⟩ else if a.k = 4 ∨ a.k = 5 ∨ a.k = 6 then ⟨a.k, 0, z64, a.n, 0, 0⟩
  else if a.k = 7 then ⟨a.k, 0, z64, a.n, 0, a.m⟩ else if a.k = 8 then ⟨a.k, 0, z64, a.n, a.at', a.m⟩ else if a.k = 9 then ⟨a.k, 0, z64, a.n, a.at', 0⟩ else a0 a.k
def knownK (k : Int) : Bool := decide (1 ≤ k ∧ k ≤ 10)
def inR (n a b : Int) : Bool := decide (a ≤ n ∧ n ≤ b)
def mostN (k : Int) : Int := if k = 5 then 65535 else 255
def rightA (a : Act) : Bool := knownK a.k && decide (bareA a = a) && inR a.b 0 255 && inR a.n 0 (mostN a.k) && inR a.at' 0 255
def rightS (s : Scr) : Bool := inR s.num 0 4294967295 && inR s.sz.length 3 12 && inR s.bl 1 96 && decide (s.acts.length ≤ 120) && s.sz.all (fun n => inR n 160 4096) && s.acts.all rightA
/-- how many bytes a sector has up to its last one that is not 0 -/
def fillN (s : List UInt8) : Nat := (s.reverse.dropWhile (· == 0)).length
theorem fillN_le (s : List UInt8) : fillN s ≤ s.length := by
  unfold fillN
  have := (List.dropWhile_suffix (p := (· == (0 : UInt8))) (l := s.reverse)).length_le
  simpa using this
theorem fill_pad : ∀ (s : List UInt8), s = s.take (fillN s) ++ List.replicate (s.length - fillN s) 0 := by
  intro s
  have key : ∀ r : List UInt8, r = List.replicate (r.length - (r.dropWhile (· == 0)).length) 0 ++ r.dropWhile (· == 0) := by
    intro r
    induction r with
    | nil => rfl
    | cons c r ih =>
      rw [List.dropWhile_cons]
      split
      · next h =>
        have hc : c = 0 := by simpa using h
        have hle := (List.dropWhile_suffix (p := (· == (0 : UInt8))) (l := r)).length_le
        rw [List.length_cons, show r.length + 1 - (r.dropWhile (· == 0)).length = (r.length - (r.dropWhile (· == 0)).length) + 1 by omega, List.replicate_succ, List.cons_append, ← ih, hc]
      · simp
  have h := key s.reverse
  have h2 := congrArg List.reverse h
  rw [List.reverse_reverse, List.reverse_append, List.reverse_replicate, List.length_reverse] at h2
  have h3 : s.take (fillN s) = (s.reverse.dropWhile (· == 0)).reverse := by
    have : fillN s = (s.reverse.dropWhile (· == 0)).reverse.length := by rw [List.length_reverse]; rfl
    obtain ⟨q, hq⟩ : ∃ q, (s.reverse.dropWhile (· == 0)).reverse = q := ⟨_, rfl⟩
    rw [hq] at this h2 ⊢
    rw [this]
    conv => lhs; rw [h2]
    exact List.take_left
  rw [h3]
  exact h2
theorem fillN_pad (d : List UInt8) (k : Nat) (h : fillN d = d.length) : fillN (d ++ List.replicate k 0) = d.length := by
  have : ∀ k, fillN (d ++ List.replicate k 0) = fillN d := by
    intro k
    unfold fillN
    rw [List.reverse_append, List.reverse_replicate]
    induction k with
    | zero => rfl
    | succ k ih => rw [List.replicate_succ, List.cons_append, List.dropWhile_cons]; exact ih
  rw [this, h]
def actB (a : Act) : List UInt8 :=
  b8 a.k :: (if a.k = 1 then b8 a.b :: UInt8.ofNat (fillN a.s) :: a.s.take (fillN a.s) else if a.k = 2 then [b8 a.b] else if a.k = 4 ∨ a.k = 6 then [b8 a.n] else if a.k = 5 then be 2 a.n.toNat
    else if a.k = 7 then b8 a.n :: be 8 a.m else if a.k = 8 then b8 a.at' :: b8 a.n :: be 8 a.m else if a.k = 9 then [b8 a.n, b8 a.at'] else [])
def headB (s : Scr) : List UInt8 := [66, 87] ++ be 4 s.num.toNat ++ [b8 s.sz.length]
def bytesS (s : Scr) : List UInt8 := headB s ++ (s.sz.map (fun n => be 2 n.toNat)).flatten ++ [b8 s.bl, b8 s.acts.length] ++ (s.acts.map actB).flatten
end Go.Proofs.Ytmcgfnfhpcddlaa

