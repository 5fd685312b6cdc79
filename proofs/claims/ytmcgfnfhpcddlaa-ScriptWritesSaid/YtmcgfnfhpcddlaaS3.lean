/- The program's reader of scripts as a function: it reads just what was written; for all bytes. -/
import Derived.Test.YtmcgfnfhpcddlaaS2
namespace Go.Proofs.Ytmcgfnfhpcddlaa

/-- what is left, and whether there were too few -/
structure Rs where
  l : List UInt8
  sh : Bool
def takeR (n : Nat) (r : Rs) : List UInt8 × Rs := if r.l.length < n then (List.replicate n 0, ⟨r.l, true⟩) else (r.l.take n, ⟨r.l.drop n, r.sh⟩)
def numR (w : Nat) (r : Rs) : Nat × Rs := (val (takeR w r).1, (takeR w r).2)
theorem takeR_len (n : Nat) (r : Rs) : (takeR n r).1.length = n := by
  unfold takeR
  split
  · simp
  · simp; omega
theorem numR_lt (w : Nat) (r : Rs) : (numR w r).1 < 256 ^ w := by
  have := val_lt (takeR w r).1
  rwa [takeR_len] at this
def sizesR : Nat → Rs → List Int × Rs
  | 0, r => ([], r)
  | n + 1, r => (((numR 2 r).1 : Int) :: (sizesR n (numR 2 r).2).1, (sizesR n (numR 2 r).2).2)
def actR (k : Int) (r : Rs) : Option (Act × Rs) :=
  if k = 1 then
    let b := numR 1 r; let n := numR 1 b.2; let d := takeR n.1 n.2
    if 64 < n.1 then none else if n.1 ≠ fillN (d.1 ++ List.replicate (64 - n.1) 0) then none else some (⟨k, b.1, d.1 ++ List.replicate (64 - n.1) 0, 0, 0, 0⟩, d.2)
  else if k = 2 then some (⟨k, (numR 1 r).1, z64, 0, 0, 0⟩, (numR 1 r).2)
  else if k = 3 ∨ k = 10 then some (a0 k, r)
  else if k = 4 ∨ k = 6 then some (⟨k, 0, z64, (numR 1 r).1, 0, 0⟩, (numR 1 r).2)
  else if k = 5 then some (⟨k, 0, z64, (numR 2 r).1, 0, 0⟩, (numR 2 r).2)
  else if k = 7 then let n := numR 1 r; let m := numR 8 n.2; some (⟨k, 0, z64, n.1, 0, m.1⟩, m.2)
  else if k = 8 then let t := numR 1 r; let n := numR 1 t.2; let m := numR 8 n.2; some (⟨k, 0, z64, n.1, t.1, m.1⟩, m.2)
  else if k = 9 then let n := numR 1 r; let t := numR 1 n.2; some (⟨k, 0, z64, n.1, t.1, 0⟩, t.2)
  else none
def actsR : Nat → Rs → List Act → Option (List Act × Rs)
  | 0, r, acc => if r.sh then none else some (acc, r)
  | n + 1, r, acc => if r.sh then none else match actR (numR 1 r).1 (numR 1 r).2 with
    | none => none
    | some p => actsR n p.2 (acc ++ [p.1])
def endR (num : Int) (sz : List Int) (bl : Int) : Option (List Act × Rs) → Option Scr
  | none => none
  | some p => if p.2.l = [] ∧ rightS ⟨num, sz, bl, p.1⟩ = true then some ⟨num, sz, bl, p.1⟩ else none
def parseP (b : List UInt8) : Option Scr :=
  let d := takeR 2 ⟨b, false⟩
  if d.1 ≠ [66, 87] then none else
    let n := numR 4 d.2; let c := numR 1 n.2; let z := sizesR c.1 c.2; let bl := numR 1 z.2; let k := numR 1 bl.2
    endR n.1 z.1 bl.1 (actsR k.1 k.2 [])

theorem takeR_inv {n : Nat} {r : Rs} (h : (takeR n r).2.sh = false) : r.sh = false ∧ r.l = (takeR n r).1 ++ (takeR n r).2.l := by
  unfold takeR at h ⊢
  split at h
  · cases h
  · next hl => rw [if_neg hl]; exact ⟨h, (List.take_append_drop n r.l).symm⟩
theorem numR_inv {w : Nat} {r : Rs} (h : (numR w r).2.sh = false) : r.sh = false ∧ r.l = be w (numR w r).1 ++ (numR w r).2.l := by
  obtain ⟨h1, h2⟩ := takeR_inv (n := w) (r := r) h
  refine ⟨h1, ?_⟩
  have := be_val (takeR w r).1
  rw [takeR_len] at this
  unfold numR
  rw [this]
  exact h2
theorem num1_inv {r : Rs} (h : (numR 1 r).2.sh = false) : r.sh = false ∧ r.l = b8 ((numR 1 r).1 : Int) :: (numR 1 r).2.l := by
  obtain ⟨h1, h2⟩ := numR_inv h
  refine ⟨h1, ?_⟩
  rw [h2]
  have hl := numR_lt 1 r
  simp [be, b8]
theorem actR_inv {k : Int} {r : Rs} {a : Act} {r' : Rs} (h : actR k r = some (a, r')) (hs : r'.sh = false) : r.sh = false ∧ a.k = k ∧ ActOk a ∧ b8 k :: r.l = actB a ++ r'.l := by
  have hz : z64.length = 64 := by simp [z64]
  unfold actR at h
  unfold actB
  split at h
  · next e =>
    subst e
    simp only at h
    split at h
    · cases h
    · next h64 =>
      split at h
      · cases h
      · next hf =>
        simp only [Option.some.injEq, Prod.mk.injEq] at h
        obtain ⟨rfl, rfl⟩ := h
        obtain ⟨q1, q2⟩ := takeR_inv hs
        obtain ⟨q3, q4⟩ := num1_inv q1
        obtain ⟨q5, q6⟩ := num1_inv q3
        have hl := takeR_len (numR 1 (numR 1 r).2).1 (numR 1 (numR 1 r).2).2
        have hf : (numR 1 (numR 1 r).2).1 = fillN ((takeR (numR 1 (numR 1 r).2).1 (numR 1 (numR 1 r).2).2).1 ++ List.replicate (64 - (numR 1 (numR 1 r).2).1) 0) := Classical.not_not.1 hf
        refine ⟨q5, rfl, ⟨by simp only [List.length_append, List.length_replicate]; omega, by simp⟩, ?_⟩
        simp only [if_true]
        rw [← hf, List.take_append_of_le_length (by omega), List.take_of_length_le (by omega)]
        rw [q6, q4]
        simp only [List.cons_append, List.cons.injEq, true_and]
        refine ⟨?_, q2⟩
        simp [b8]
  · split at h
    · next e =>
      subst e
      simp only [Option.some.injEq, Prod.mk.injEq] at h
      obtain ⟨rfl, rfl⟩ := h
      obtain ⟨q1, q2⟩ := num1_inv hs
      exact ⟨q1, rfl, ⟨hz, by simp⟩, by rw [q2]; simp⟩
    · split at h
      · next n1 n2 e =>
        simp only [Option.some.injEq, Prod.mk.injEq] at h
        obtain ⟨rfl, rfl⟩ := h
        refine ⟨hs, rfl, ⟨hz, by simp [a0]⟩, ?_⟩
        rcases e with rfl | rfl <;> simp [a0]
      · split at h
        · next n1 n2 n3 e =>
          simp only [Option.some.injEq, Prod.mk.injEq] at h
          obtain ⟨rfl, rfl⟩ := h
          obtain ⟨q1, q2⟩ := num1_inv hs
          refine ⟨q1, rfl, ⟨hz, by simp⟩, ?_⟩
          rw [q2]
          rcases e with rfl | rfl <;> simp
        · split at h
          · next e =>
            subst e
            simp only [Option.some.injEq, Prod.mk.injEq] at h
            obtain ⟨rfl, rfl⟩ := h
            obtain ⟨q1, q2⟩ := numR_inv hs
            exact ⟨q1, rfl, ⟨hz, by simp⟩, by rw [q2]; simp⟩
          · split at h
            · next e =>
              subst e
              simp only [Option.some.injEq, Prod.mk.injEq] at h
              obtain ⟨rfl, rfl⟩ := h
              obtain ⟨q1, q2⟩ := numR_inv hs
              obtain ⟨q3, q4⟩ := num1_inv q1
              exact ⟨q3, rfl, ⟨hz, numR_lt 8 _⟩, by rw [q4, q2]; simp⟩
            · split at h
              · next e =>
                subst e
                simp only [Option.some.injEq, Prod.mk.injEq] at h
                obtain ⟨rfl, rfl⟩ := h
                obtain ⟨q1, q2⟩ := numR_inv hs
                obtain ⟨q3, q4⟩ := num1_inv q1
                obtain ⟨q5, q6⟩ := num1_inv q3
                exact ⟨q5, rfl, ⟨hz, numR_lt 8 _⟩, by rw [q6, q4, q2]; simp⟩
              · split at h
                · next e =>
                  subst e
                  simp only [Option.some.injEq, Prod.mk.injEq] at h
                  obtain ⟨rfl, rfl⟩ := h
                  obtain ⟨q3, q4⟩ := num1_inv hs
                  obtain ⟨q5, q6⟩ := num1_inv q3
                  exact ⟨q5, rfl, ⟨hz, by simp⟩, by rw [q6, q4]; simp⟩
                · cases h
theorem actsR_inv : ∀ (n : Nat) (r : Rs) (acc l : List Act) (r' : Rs), actsR n r acc = some (l, r') → r.sh = false ∧ r'.sh = false ∧ ∃ t, l = acc ++ t ∧ t.length = n ∧ (∀ a ∈ t, ActOk a) ∧ r.l = (t.map actB).flatten ++ r'.l
  | 0, r, acc, l, r', h => by
    unfold actsR at h
    split at h
    · cases h
    · next hs =>
      simp only [Option.some.injEq, Prod.mk.injEq] at h
      obtain ⟨rfl, rfl⟩ := h
      have hs : r.sh = false := by simpa using hs
      exact ⟨hs, hs, [], by simp, rfl, by simp, by simp⟩
  | n + 1, r, acc, l, r', h => by
    unfold actsR at h
    split at h
    · cases h
    · next hs =>
      have hs : r.sh = false := by simpa using hs
      split at h
      · cases h
      · next p hp =>
        obtain ⟨a, r1⟩ := p
        obtain ⟨h1, h2, t, rfl, hl, ho, he⟩ := actsR_inv n r1 (acc ++ [a]) l r' h
        obtain ⟨h3, h4, h5, h6⟩ := actR_inv hp h1
        obtain ⟨_, h7⟩ := num1_inv h3
        refine ⟨hs, h2, a :: t, by simp, by simp [hl], ?_, ?_⟩
        · intro x hx
          rcases List.mem_cons.1 hx with rfl | hx
          · exact h5
          · exact ho x hx
        · rw [h7, h6, he]; simp
theorem sizesR_inv : ∀ (n : Nat) (r : Rs), (sizesR n r).2.sh = false → r.sh = false ∧ (sizesR n r).1.length = n ∧ r.l = ((sizesR n r).1.map (fun n => be 2 n.toNat)).flatten ++ (sizesR n r).2.l
  | 0, r, h => ⟨h, rfl, rfl⟩
  | n + 1, r, h => by
    unfold sizesR at h ⊢
    obtain ⟨h1, h2, h3⟩ := sizesR_inv n _ h
    obtain ⟨h4, h5⟩ := numR_inv h1
    refine ⟨h4, by simp [h2], ?_⟩
    conv => lhs; rw [h5, h3]
    simp
theorem parseP_inv {b : List UInt8} {s : Scr} (h : parseP b = some s) : rightS s = true ∧ ScrOk s ∧ bytesS s = b := by
  unfold parseP at h
  simp only at h
  split at h
  · cases h
  · next hBW =>
    have hBW := Classical.not_not.1 hBW
    obtain ⟨n, hn⟩ : ∃ n, numR 4 (takeR 2 ⟨b, false⟩).2 = n := ⟨_, rfl⟩
    obtain ⟨c, hc⟩ : ∃ c, numR 1 n.2 = c := ⟨_, rfl⟩
    obtain ⟨z, hz⟩ : ∃ z, sizesR c.1 c.2 = z := ⟨_, rfl⟩
    obtain ⟨bl, hbl⟩ : ∃ bl, numR 1 z.2 = bl := ⟨_, rfl⟩
    obtain ⟨k, hk⟩ : ∃ k, numR 1 bl.2 = k := ⟨_, rfl⟩
    rw [hn, hc, hz, hbl, hk] at h
    obtain ⟨p, hp⟩ : ∃ p, actsR k.1 k.2 [] = p := ⟨_, rfl⟩
    rw [hp] at h
    rcases p with _ | ⟨l, r'⟩
    · cases h
    · unfold endR at h
      simp only at h
      split at h
      · next he =>
        injection h with h
        subst h
        obtain ⟨h1, _, t, ht, hl, ho, hx⟩ := actsR_inv _ _ _ _ _ hp
        rw [List.nil_append] at ht
        subst ht
        rw [← hk] at h1
        obtain ⟨h2, k2⟩ := num1_inv h1
        rw [← hbl] at h2
        obtain ⟨h3, k3⟩ := num1_inv h2
        rw [← hz] at h3
        obtain ⟨h4, hzl, k4⟩ := sizesR_inv _ _ h3
        rw [← hc] at h4
        obtain ⟨h5, k5⟩ := num1_inv h4
        rw [← hn] at h5
        obtain ⟨h6, k6⟩ := numR_inv h5
        obtain ⟨_, k7⟩ := takeR_inv h6
        rw [hn] at k6
        rw [hc] at k5
        rw [hz] at k4 hzl
        rw [hbl] at k3
        rw [hk] at k2
        refine ⟨he.2, ⟨ho⟩, ?_⟩
        unfold bytesS headB
        simp only
        simp only at k7
        rw [k7, hBW, k6, k5, k4, k3, k2, hx, he.1, hl, hzl]
        simp
      · cases h
theorem takeR_app {n : Nat} {d l : List UInt8} {sh : Bool} (h : d.length = n) : takeR n ⟨d ++ l, sh⟩ = (d, ⟨l, sh⟩) := by
  subst h
  unfold takeR
  rw [if_neg (by simp), List.take_left, List.drop_left]
theorem numR_be {w v : Nat} (h : v < 256 ^ w) (l : List UInt8) (sh : Bool) : numR w ⟨be w v ++ l, sh⟩ = (v, ⟨l, sh⟩) := by
  unfold numR
  rw [takeR_app (be_len v w), val_be, Nat.mod_eq_of_lt h]
theorem numR_one (c : UInt8) (l : List UInt8) (sh : Bool) : numR 1 ⟨c :: l, sh⟩ = (c.toNat, ⟨l, sh⟩) := by
  have h : takeR 1 ⟨[c] ++ l, sh⟩ = ([c], ⟨l, sh⟩) := takeR_app rfl
  rw [List.singleton_append] at h
  unfold numR
  rw [h, val_cons]; simp [val]
theorem actR_enc {a : Act} (h : rightA a = true) (ho : ActOk a) (r : List UInt8) : ∃ r1, numR 1 ⟨actB a ++ r, false⟩ = (a.k.toNat, ⟨r1, false⟩) ∧ actR a.k ⟨r1, false⟩ = some (a, ⟨r, false⟩) := by
  obtain ⟨hk, hb, h1, h2, h3⟩ := rightA_parts h
  obtain ⟨hs, hm⟩ := ho
  unfold actB
  rw [List.cons_append, numR_one]
  refine ⟨_, by rw [show (b8 a.k).toNat = a.k.toNat from by have := b8_nat (x := a.k) (by omega) (by omega); omega], ?_⟩
  obtain ⟨k, b, s, n, t, m⟩ := a
  simp only at hk hb h1 h2 h3 hs hm ⊢
  have hm' : m < 256 ^ 8 := hm
  have hfl := fillN_le s
  unfold bareA at hb
  simp only at hb
  unfold actR
  rcases (show k = 1 ∨ k = 2 ∨ k = 3 ∨ k = 4 ∨ k = 5 ∨ k = 6 ∨ k = 7 ∨ k = 8 ∨ k = 9 ∨ k = 10 by omega) with e | e | e | e | e | e | e | e | e | e
  · subst e
    simp only [if_true, Act.mk.injEq, true_and] at hb ⊢
    obtain ⟨rfl, rfl, rfl⟩ := hb
    have hf : (UInt8.ofNat (fillN s)).toNat = fillN s := by simp; omega
    have htl : (s.take (fillN s)).length = fillN s := by rw [List.length_take]; omega
    have hsp : s.take (fillN s) ++ List.replicate (64 - fillN s) 0 = s := by have := fill_pad s; rw [hs] at this; exact this.symm
    simp only [List.cons_append, numR_one, hf, takeR_app htl, hsp]
    rw [if_neg (by omega), if_neg (by simp), b8_nat h1.1 h1.2]
  · subst e
    simp at hb ⊢
    obtain ⟨rfl, rfl, rfl, rfl⟩ := hb
    simp [numR_one, b8_nat h1.1 h1.2]
  · subst e
    simp [a0] at hb ⊢
    obtain ⟨rfl, rfl, rfl, rfl, rfl⟩ := hb
    simp
  · subst e
    unfold mostN at h2
    simp at hb h2 ⊢
    obtain ⟨rfl, rfl, rfl, rfl⟩ := hb
    simp [numR_one, b8_nat h2.1 h2.2]
  · subst e
    unfold mostN at h2
    simp at hb h2 ⊢
    obtain ⟨rfl, rfl, rfl, rfl⟩ := hb
    rw [numR_be (by omega)]
    simp
    omega
  · subst e
    unfold mostN at h2
    simp at hb h2 ⊢
    obtain ⟨rfl, rfl, rfl, rfl⟩ := hb
    simp [numR_one, b8_nat h2.1 h2.2]
  · subst e
    unfold mostN at h2
    simp at hb h2 ⊢
    obtain ⟨rfl, rfl, rfl⟩ := hb
    simp [numR_one, numR_be hm', b8_nat h2.1 h2.2]
  · subst e
    unfold mostN at h2
    simp at hb h2 ⊢
    obtain ⟨rfl, rfl⟩ := hb
    simp [numR_one, numR_be hm', b8_nat h2.1 h2.2, b8_nat h3.1 h3.2]
  · subst e
    unfold mostN at h2
    simp at hb h2 ⊢
    obtain ⟨rfl, rfl, rfl⟩ := hb
    simp [numR_one, b8_nat h2.1 h2.2, b8_nat h3.1 h3.2]
  · subst e
    simp [a0] at hb ⊢
    obtain ⟨rfl, rfl, rfl, rfl, rfl⟩ := hb
    simp
theorem actsR_enc (r : List UInt8) : ∀ (l acc : List Act), (∀ a ∈ l, rightA a = true ∧ ActOk a) → actsR l.length ⟨(l.map actB).flatten ++ r, false⟩ acc = some (acc ++ l, ⟨r, false⟩)
  | [], acc, _ => by simp [actsR]
  | a :: l, acc, h => by
    have h0 := h a (List.mem_cons_self ..)
    rw [List.map_cons, List.flatten_cons, List.append_assoc, List.length_cons]
    unfold actsR
    obtain ⟨r1, e1, e2⟩ := actR_enc h0.1 h0.2 ((l.map actB).flatten ++ r)
    have hk := (rightA_parts h0.1).1
    rw [e1]
    simp only [Bool.false_eq_true, if_false, Int.toNat_of_nonneg (show 0 ≤ a.k by omega), e2]
    rw [actsR_enc r l (acc ++ [a]) (fun x hx => h x (List.mem_cons_of_mem _ hx))]
    simp
theorem sizesR_enc (r : List UInt8) : ∀ l : List Int, (∀ a ∈ l, 0 ≤ a ∧ a ≤ 65535) → sizesR l.length ⟨(l.map (fun n => be 2 n.toNat)).flatten ++ r, false⟩ = (l, ⟨r, false⟩)
  | [], _ => by simp [sizesR]
  | a :: l, h => by
    have h0 := h a (List.mem_cons_self ..)
    rw [List.map_cons, List.flatten_cons, List.append_assoc, List.length_cons]
    unfold sizesR
    rw [numR_be (by omega), sizesR_enc r l (fun x hx => h x (List.mem_cons_of_mem _ hx)), Int.toNat_of_nonneg h0.1]
theorem parseP_enc {s : Scr} (h : rightS s = true) (ho : ScrOk s) : parseP (bytesS s) = some s := by
  obtain ⟨h1, h2, h3, h4, h5, h6⟩ := rightS_parts h
  obtain ⟨num, sz, bl, acts⟩ := s
  simp only at h1 h2 h3 h4 h5 h6 ho
  have hn : (b8 (sz.length : Int)).toNat = sz.length := by have := b8_nat (x := (sz.length : Int)) (by omega) (by omega); omega
  have hb : ((b8 bl).toNat : Int) = bl := b8_nat (by omega) (by omega)
  have ha : (b8 (acts.length : Int)).toNat = acts.length := by have := b8_nat (x := (acts.length : Int)) (by omega) (by omega); omega
  unfold parseP bytesS headB
  simp only [List.append_assoc]
  rw [takeR_app (by rfl), if_neg (by simp), numR_be (by omega), List.singleton_append]
  simp only [numR_one, hn]
  rw [sizesR_enc _ _ (fun a ha => by have := h5 a ha; omega)]
  simp only [List.cons_append, List.nil_append, numR_one, ha, hb]
  have := actsR_enc [] acts [] (fun a hm => ⟨h6 a hm, ho.a a hm⟩)
  rw [List.append_nil, List.nil_append] at this
  rw [this]
  unfold endR
  simp only
  rw [Int.toNat_of_nonneg h1.1, if_pos ⟨trivial, h⟩]
theorem parseP_iff {b : List UInt8} {s : Scr} : parseP b = some s ↔ rightS s = true ∧ ScrOk s ∧ bytesS s = b :=
  ⟨parseP_inv, fun ⟨h1, h2, h3⟩ => h3 ▸ parseP_enc h1 h2⟩
/-- the reference's reader: what may stand there, if its bytes are just these -/
def parseQ (b : List UInt8) : Option Scr := if rightS (rdec b).1 = true ∧ bytesS (rdec b).1 = b then some (rdec b).1 else none
theorem rAct_ok (l : List UInt8) : ActOk (rActOf l).1 := by
  have hz : z64.length = 64 := by simp [z64]
  have h8 : ∀ l : List UInt8, (rget 8 l).1 < 18446744073709551616 := by
    intro l
    have := val_lt ((l ++ List.replicate 8 0).take 8)
    rw [List.length_take, List.length_append, List.length_replicate, Nat.min_eq_left (by omega)] at this
    exact this
  unfold rActOf rAct
  repeat' split
  all_goals refine ⟨?_, ?_⟩
  all_goals first | exact hz | (simp [a0]; done) | exact h8 _ | skip
  simp only [rdata, List.length_append, List.length_take, List.length_replicate]
  omega
theorem rActs_ok : ∀ (n : Nat) (l : List UInt8), ∀ a ∈ (rActs n l).1, ActOk a
  | 0, l => by simp [rActs]
  | n + 1, l => by
    unfold rActs
    intro a ha
    rcases List.mem_cons.1 ha with rfl | ha
    · exact rAct_ok l
    · exact rActs_ok n _ a ha
theorem rdec_ok (b : List UInt8) : ScrOk (rdec b).1 := ⟨rActs_ok _ _⟩
/-- both readers say the same -/
theorem parse_same (b : List UInt8) : parseP b = parseQ b := by
  unfold parseQ
  split
  · next h => exact parseP_iff.2 ⟨h.1, rdec_ok b, h.2⟩
  · next h =>
    rcases hp : parseP b with _ | s
    · rfl
    · obtain ⟨h1, h2, h3⟩ := parseP_iff.1 hp
      have h4 := rdec_enc h1 h2 []
      rw [List.append_nil, h3] at h4
      rw [h4] at h
      exact absurd ⟨h1, h3⟩ h
end Go.Proofs.Ytmcgfnfhpcddlaa

