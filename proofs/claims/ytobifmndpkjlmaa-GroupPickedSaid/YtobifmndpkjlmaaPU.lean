/- Pick, the program's and the document's, told by the one row of disks. -/
import Derived.Test.YtobifmndpkjlmaaPK
import Derived.Test.YtobifmndpkjlmaaRM
namespace Go.Proofs.Ytobifmndpkjlmaa
open Go.RowKit Go.BW

/-- does the picking succeed? how many are picked? -/
def okP (l : List Nat) (wd : Int) : Bool := decide (1 ≤ wd ∧ wd ≤ (l.length : Int))
def kP (l : List Nat) (wd : Int) : Nat := if okP l wd then wd.toNat else 0
theorem kP_no {l : List Nat} {wd : Int} (h : wd < 1 ∨ (l.length : Int) < wd) : okP l wd = false ∧ kP l wd = 0 := by
  have h1 : okP l wd = false := decide_eq_false (by omega)
  exact ⟨h1, by unfold kP; rw [h1]; rfl⟩
theorem kP_yes {l : List Nat} {k : Nat} (h1 : 1 ≤ k) (h2 : k ≤ l.length) : okP l (k : Int) = true ∧ kP l (k : Int) = k := by
  have h3 : okP l (k : Int) = true := decide_eq_true (by omega)
  exact ⟨h3, by unfold kP; rw [h3]; rfl⟩
theorem kP_le (l : List Nat) (wd : Int) : kP l wd ≤ l.length := by
  unfold kP
  split
  · rename_i h
    have := of_decide_eq_true h
    omega
  · omega
theorem okP_iff {l : List Nat} {wd : Int} : okP l wd = true ↔ 1 ≤ wd ∧ wd ≤ (l.length : Int) := by unfold okP; simp
theorem kP_wd {l : List Nat} {wd : Int} (h : okP l wd = true) : wd = (kP l wd : Int) ∧ 1 ≤ kP l wd := by
  have := okP_iff.1 h
  unfold kP
  rw [if_pos h]
  omega
def PkPost (l : List Nat) (kk : Nat) (bb : Bool) (w : World) (e : Ending) (w' : World) : Prop := ∃ A : Option Addr, e = .returned (.tuple #[.slice A kk kk, .bool bb]) ∧ Rd w' w'.heap.size 1 A kk ((l.take kk).map nv) ∧ Nw w w'
def RkPost (l : List Nat) (kk : Nat) (bb : Bool) (w : World) (e : Ending) (w' : World) : Prop := ∃ (A : Option Addr) (c : Nat), e = .returned (.tuple #[.slice A kk c, .bool bb]) ∧ Rd w' w'.heap.size 1 A kk ((l.take kk).map nv) ∧ Nw w w'
theorem pick_is {w : World} {B n c m c2 : Nat} {A A2 : Option Addr} {rs ban : List Int} {l : List Nat} (hl : Ranked rs (fun d => (d : Int) ∉ ban) l) (hr : Rd w B 1 A n (rs.map iv)) (hb : Rd w B 1 A2 m (ban.map iv)) (hB : B ≤ w.heap.size) (hm : n ≤ 1000000) (hs : m ≤ 9223372036854775807)
    (wd : Int) : Calls Try.prog 11 #[.slice A n c, .int .i64 wd, .slice A2 m c2] w (PkPost l (kP l wd) (okP l wd) w) := by
  refine (pick_any (c := c) (c2 := c2) stable_any hr hb hB hm hm hs wd).mono fun e w' h => ?_
  obtain ⟨l', hl', n2, ⟨h1, he⟩ | ⟨k, A', rfl, k1, k2, he, h3, _⟩⟩ := h
  · obtain rfl := hl'.uniq hl
    obtain ⟨e1, e2⟩ := kP_no h1
    rw [e1, e2]
    exact ⟨none, he, by simpa using (Rd.nil : Rd w' w'.heap.size 1 none 0 []), n2⟩
  · obtain rfl := hl'.uniq hl
    obtain ⟨e1, e2⟩ := kP_yes k1 k2
    rw [e1, e2]
    exact ⟨A', he, h3, n2⟩
theorem rpick_is {w : World} {B n c m c2 : Nat} {A A2 : Option Addr} {rs ban : List Int} {l : List Nat} (hl : Ranked rs (fun d => (d : Int) ∉ ban) l) (hr : Rd w B 1 A n (rs.map iv)) (hb : Rd w B 1 A2 m (ban.map iv)) (hB : B ≤ w.heap.size) (hn : n ≤ 60) (hm : m * 8 ≤ 140737488351232)
    (wd : Int) : Calls Try.prog 12 #[.slice A n c, .int .i64 wd, .slice A2 m c2] w (RkPost l (kP l wd) (okP l wd) w) := by
  refine (rpick_any (c := c) (c2 := c2) hr hb hB hn hm hl wd).mono fun e w' h => ?_
  obtain ⟨n2, ⟨h1, he⟩ | ⟨k, A', c', rfl, k1, k2, he, h3⟩⟩ := h
  · obtain ⟨e1, e2⟩ := kP_no h1
    rw [e1, e2]
    exact ⟨none, 0, he, by simpa using (Rd.nil : Rd w' w'.heap.size 1 none 0 []), n2⟩
  · obtain ⟨e1, e2⟩ := kP_yes k1 k2
    rw [e1, e2]
    exact ⟨A', c', he, h3.rd, n2⟩
theorem info3 : (Try.prog.info? 3).map (·.size) = some 1 := by kernel_rfl
end Go.Proofs.Ytobifmndpkjlmaa

