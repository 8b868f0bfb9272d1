/-
  Plain facts on profiles: what Check says, where a time lies, and the profile's number at a time. No program here.
-/
import Derived.Test.YtjknmnmilladlaaW1
namespace Go.Proofs.Ytjknmnmilladlaa

/-- The greatest index below n whose A is not above t; 0 if there is none. -/
def plcN (A : Nat → Int) (t : Int) : Nat → Nat
  | 0 => 0
  | n + 1 => if A n ≤ t then n else plcN A t n

theorem plcN_spec {A : Nat → Int} {t : Int} {n p : Nat} (hp : p < n) (h1 : A p ≤ t) (h2 : ∀ z, p < z → z < n → t < A z) : plcN A t n = p := by
  induction n with
  | zero => omega
  | succ n ih =>
    unfold plcN
    by_cases h : A n ≤ t
    · rw [if_pos h]
      rcases Nat.lt_or_ge p n with h3 | h3
      · have := h2 n h3 (by omega); omega
      · omega
    · rw [if_neg h]
      have : p ≠ n := fun e => by subst e; exact h h1
      exact ih (by omega) fun z hz hzn => h2 z hz (by omega)

theorem plcN_is {A : Nat → Int} {t : Int} {n : Nat} (h0 : 0 < n) (hA : A 0 ≤ t) : plcN A t n < n ∧ A (plcN A t n) ≤ t ∧ ∀ z, plcN A t n < z → z < n → t < A z := by
  induction n with
  | zero => omega
  | succ n ih =>
    unfold plcN
    by_cases h : A n ≤ t
    · rw [if_pos h]
      exact ⟨by omega, h, fun z h1 h2 => by omega⟩
    · rw [if_neg h]
      have hn : 0 < n := by
        rcases Nat.eq_zero_or_pos n with rfl | h'
        · exact absurd hA h
        · exact h'
      obtain ⟨a, b, c⟩ := ih hn
      refine ⟨by omega, b, fun z h1 h2 => ?_⟩
      rcases Nat.lt_or_ge z n with h3 | h3
      · exact c z h1 h3
      · obtain rfl : z = n := by omega
        omega

def plc (l : List Step) (t : Int) : Nat := plcN (atv l) t l.length
/-- what a profile says of a time -/
def val (l : List Step) (t : Int) : Int := frv l (plc l t)

/-- What Check says, written out. -/
structure Valid (l : List Step) : Prop where
  pos : 0 < l.length
  len : l.length ≤ 20000
  zero : atv l 0 = 0
  time : ∀ i, i < l.length → 0 ≤ atv l i ∧ atv l i ≤ 1099511627775
  fr : ∀ i, i < l.length → 0 ≤ frv l i ∧ frv l i ≤ 10000
  next : ∀ i, i + 1 < l.length → atv l i < atv l (i + 1) ∧ frv l (i + 1) ≠ frv l i

theorem isT_iff {t : Int} : isT t = true ↔ 0 ≤ t ∧ t ≤ 1099511627775 := by simp [isT]

theorem chk_iff {l : List Step} : chk l = true ↔ Valid l := by
  constructor
  · intro h
    simp only [chk, chkN, Bool.and_eq_true, decide_eq_true_eq, List.all_eq_true, List.mem_range] at h
    obtain ⟨⟨⟨h1, h2⟩, h3⟩, h4⟩ := h
    have h5 : ∀ i, i < l.length → (0 ≤ atv l i ∧ atv l i ≤ 1099511627775) ∧ 0 ≤ frv l i ∧ frv l i ≤ 10000 ∧ (i = 0 ∨ (atv l (i - 1) < atv l i ∧ frv l i ≠ frv l (i - 1))) := by
      intro i hi
      have := h4 i hi
      simp only [stepOk, Bool.and_eq_true, Bool.or_eq_true, decide_eq_true_eq, isT_iff] at this
      obtain ⟨⟨⟨a, b⟩, c⟩, d⟩ := this
      exact ⟨a, b, c, d⟩
    exact ⟨h1, h2, h3, fun i hi => (h5 i hi).1, fun i hi => ⟨(h5 i hi).2.1, (h5 i hi).2.2.1⟩, fun i hi => by
      rcases (h5 (i + 1) hi).2.2.2 with h | h
      · omega
      · exact h⟩
  · intro h
    simp only [chk, chkN, Bool.and_eq_true, decide_eq_true_eq, List.all_eq_true, List.mem_range]
    refine ⟨⟨⟨h.pos, h.len⟩, h.zero⟩, fun i hi => ?_⟩
    simp only [stepOk, Bool.and_eq_true, Bool.or_eq_true, decide_eq_true_eq, isT_iff]
    refine ⟨⟨⟨h.time i hi, (h.fr i hi).1⟩, (h.fr i hi).2⟩, ?_⟩
    cases i with
    | zero => exact .inl rfl
    | succ i => exact .inr (h.next i hi)

theorem Valid.rise {l : List Step} (h : Valid l) : ∀ i j, i < j → j < l.length → atv l i < atv l j := by
  intro i j hij
  induction j with
  | zero => omega
  | succ j ih =>
    intro hj
    have h1 := (h.next j hj).1
    rcases Nat.lt_or_ge i j with h2 | h2
    · have := ih h2 (by omega); omega
    · obtain rfl : i = j := by omega
      exact h1

theorem Valid.plc {l : List Step} (h : Valid l) {t : Int} (ht : 0 ≤ t) : plc l t < l.length ∧ atv l (plc l t) ≤ t ∧ ∀ z, plc l t < z → z < l.length → t < atv l z :=
  plcN_is h.pos (by rw [h.zero]; exact ht)

theorem plc_eq {l : List Step} {t : Int} {p : Nat} (hp : p < l.length) (h1 : atv l p ≤ t) (h2 : ∀ z, p < z → z < l.length → t < atv l z) : plc l t = p := plcN_spec hp h1 h2

theorem Valid.plc_mono {l : List Step} (h : Valid l) {s t : Int} (hs : 0 ≤ s) (hst : s ≤ t) : Ytjknmnmilladlaa.plc l s ≤ Ytjknmnmilladlaa.plc l t := by
  obtain ⟨a, b, c⟩ := h.plc hs
  obtain ⟨a', b', c'⟩ := h.plc (Int.le_trans hs hst)
  rcases Nat.lt_or_ge (Ytjknmnmilladlaa.plc l t) (Ytjknmnmilladlaa.plc l s) with h1 | h1
  · have := c' _ h1 a; omega
  · exact h1

/-- The part of a profile from one time to another: each step's number, the first one from the first time on. -/
def cutI (l : List Step) (frm : Int) (p q : Nat) : List Step := (List.range' p (q - p)).map fun x => ⟨max (atv l x) frm, frv l x⟩
def cutL (l : List Step) (frm to : Int) : List Step := cutI l frm (plc l frm) (plc l (to - 1) + 1)

theorem cutI_snoc (l : List Step) (frm : Int) (p q : Nat) (h : p ≤ q) : cutI l frm p (q + 1) = cutI l frm p q ++ [⟨max (atv l q) frm, frv l q⟩] := by
  unfold cutI
  rw [show q + 1 - p = (q - p) + 1 by omega, List.range'_concat, List.map_append]
  simp
  constructor <;> congr 2 <;> omega
theorem length_cutI (l : List Step) (frm : Int) (p q : Nat) : (cutI l frm p q).length = q - p := by simp [cutI]
theorem cutI_nil (l : List Step) (frm : Int) (p : Nat) : cutI l frm p p = [] := by simp [cutI]

end Go.Proofs.Ytjknmnmilladlaa
