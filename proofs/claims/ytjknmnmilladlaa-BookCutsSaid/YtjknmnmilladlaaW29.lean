/-
  What is done to a book, as a relation; each of its methods by it; the invariant is kept.
-/
import Derived.Test.YtjknmnmilladlaaW22
import Derived.Test.YtjknmnmilladlaaW28
namespace Go.Proofs.Ytjknmnmilladlaa
open Go.RowKit

/-- timekeeperref11.Do -/
structure Do where
  kind : Int
  s : Slot
  deriving DecidableEq, Inhabited

inductive DoStep (n : Int) (up fr : List Step) (L : List Slot) (d : Do) : List Int → Int → List Step → List Step → List Slot → Prop
  | takeArg : d.kind = 1 → rightOf n d.s = false → DoStep n up fr L d [] 2 up fr L
  | takeTwice {x : Slot} : d.kind = 1 → rightOf n d.s = true → x ∈ L → x.id = d.s.id → DoStep n up fr L d [] 51 up fr L
  | takeLong : d.kind = 1 → rightOf n d.s = true → (∀ x ∈ L, x.id ≠ d.s.id) → 9000 ≤ L.length → DoStep n up fr L d [] 3 up fr L
  | takeRoom : d.kind = 1 → rightOf n d.s = true → (∀ x ∈ L, x.id ≠ d.s.id) → L.length < 9000 → addErr fr d.s.frm d.s.to (-d.s.nodes) ≠ 0 → DoStep n up fr L d [] 70 up fr L
  | take : d.kind = 1 → rightOf n d.s = true → (∀ x ∈ L, x.id ≠ d.s.id) → L.length < 9000 → addErr fr d.s.frm d.s.to (-d.s.nodes) = 0 → DoStep n up fr L d [] 0 up (addRes fr d.s.frm d.s.to (-d.s.nodes)) (L ++ [d.s])
  | freeNone : d.kind = 2 → (∀ x ∈ L, x.id ≠ d.s.id) → DoStep n up fr L d [] 4 up fr L
  | free {s : Slot} : d.kind = 2 → s ∈ L → s.id = d.s.id → DoStep n up fr L d [] 0 up (addRes fr s.frm s.to s.nodes) (without L s.id)
  | cutNone : d.kind = 3 → (∀ x ∈ L, x.id ≠ d.s.id) → DoStep n up fr L d [] 4 up fr L
  | cutArg {s : Slot} : d.kind = 3 → s ∈ L → s.id = d.s.id → (isT d.s.to = false ∨ s.to < d.s.to) → DoStep n up fr L d [] 2 up fr L
  | cutAll {s : Slot} : d.kind = 3 → s ∈ L → s.id = d.s.id → isT d.s.to = true → d.s.to ≤ s.to → d.s.to ≤ s.frm → DoStep n up fr L d [] 0 up (addRes fr s.frm s.to s.nodes) (without L s.id)
  | cut {s : Slot} : d.kind = 3 → s ∈ L → s.id = d.s.id → isT d.s.to = true → d.s.to ≤ s.to → s.frm < d.s.to → addErr (addRes fr s.frm s.to s.nodes) s.frm d.s.to (-s.nodes) = 0 →
      DoStep n up fr L d [] 0 up (addRes (addRes fr s.frm s.to s.nodes) s.frm d.s.to (-s.nodes)) (without L s.id ++ [⟨s.id, s.frm, d.s.to, s.nodes⟩])
  | outArg : d.kind = 5 → outArg n d.s.frm d.s.to d.s.nodes = false → DoStep n up fr L d [] 2 up fr L
  | outLong : d.kind = 5 → Ytjknmnmilladlaa.outArg n d.s.frm d.s.to d.s.nodes = true → 1000 < (outUp up d.s.frm d.s.to d.s.nodes).length → DoStep n up fr L d [] 3 up fr L
  | out {G : List Int} {L2 dn : List Slot} : d.kind = 5 → Ytjknmnmilladlaa.outArg n d.s.frm d.s.to d.s.nodes = true → (outUp up d.s.frm d.s.to d.s.nodes).length ≤ 1000 → Gone (outUp up d.s.frm d.s.to d.s.nodes) L G L2 → HurtIs (outUp up d.s.frm d.s.to d.s.nodes) L2 0 → dn.Perm L2 →
      DoStep n up fr L d (G.mergeSort fun x y => decide (x ≤ y)) 0 (outUp up d.s.frm d.s.to d.s.nodes) (sumF (outUp up d.s.frm d.s.to d.s.nodes) dn) L2
  | moveNone : d.kind ≠ 1 → d.kind ≠ 2 → d.kind ≠ 3 → d.kind ≠ 5 → (∀ x ∈ L, x.id ≠ d.s.id) → DoStep n up fr L d [] 4 up fr L
  | moveTime {s : Slot} : d.kind ≠ 1 → d.kind ≠ 2 → d.kind ≠ 3 → d.kind ≠ 5 → s ∈ L → s.id = d.s.id → isT d.s.frm = false → DoStep n up fr L d [] 2 up fr L
  | moveArg {s : Slot} : d.kind ≠ 1 → d.kind ≠ 2 → d.kind ≠ 3 → d.kind ≠ 5 → s ∈ L → s.id = d.s.id → isT d.s.frm = true → rightOf n (moved s d.s.frm) = false → DoStep n up fr L d [] 2 up fr L
  | moveRoom {s : Slot} : d.kind ≠ 1 → d.kind ≠ 2 → d.kind ≠ 3 → d.kind ≠ 5 → s ∈ L → s.id = d.s.id → isT d.s.frm = true → rightOf n (moved s d.s.frm) = true →
      addErr (addRes fr s.frm s.to s.nodes) (moved s d.s.frm).frm (moved s d.s.frm).to (-(moved s d.s.frm).nodes) ≠ 0 → addErr (addRes fr s.frm s.to s.nodes) s.frm s.to (-s.nodes) = 0 → DoStep n up fr L d [] 70 up (addRes (addRes fr s.frm s.to s.nodes) s.frm s.to (-s.nodes)) (without L s.id ++ [s])
  | move {s : Slot} : d.kind ≠ 1 → d.kind ≠ 2 → d.kind ≠ 3 → d.kind ≠ 5 → s ∈ L → s.id = d.s.id → isT d.s.frm = true → rightOf n (moved s d.s.frm) = true →
      addErr (addRes fr s.frm s.to s.nodes) (moved s d.s.frm).frm (moved s d.s.frm).to (-(moved s d.s.frm).nodes) = 0 →
      DoStep n up fr L d [] 0 up (addRes (addRes fr s.frm s.to s.nodes) (moved s d.s.frm).frm (moved s d.s.frm).to (-(moved s d.s.frm).nodes)) (without L s.id ++ [moved s d.s.frm])

theorem without_no (L : List Slot) (id : Int) : ∀ x ∈ without L id, x.id ≠ id := without_ne L id

/-- The invariant is kept, whatever is done. -/
theorem DoStep.inv {n : Int} {up fr : List Step} {L : List Slot} {d : Do} {ids : List Int} {err : Int} {up2 fr2 : List Step} {L2 : List Slot} (hI : Inv n up fr L) (h : DoStep n up fr L d ids err up2 fr2 L2) : Inv n up2 fr2 L2 := by
  have hwl : ∀ s ∈ L, (without L s.id).length < 9000 := fun s hs => by have := without_lt hs; have := hI.len; omega
  cases h with
  | takeArg _ _ => exact hI
  | takeTwice _ _ _ _ => exact hI
  | takeLong _ _ _ _ => exact hI
  | takeRoom _ _ _ _ _ => exact hI
  | take _ hr hs hl he => exact (hI.lay hr hs hl he).1
  | freeNone _ _ => exact hI
  | free _ hs _ => exact (hI.drop hs).2.1
  | cutNone _ _ => exact hI
  | cutArg _ _ _ _ => exact hI
  | cutAll _ hs _ _ _ _ => exact (hI.drop hs).2.1
  | @cut s _ hs hid ht h1 h2 he =>
    have hr := right_iff.1 (hI.rt s hs)
    exact ((hI.drop hs).2.1.lay (s := ⟨s.id, s.frm, d.s.to, s.nodes⟩) (right_iff.2 ⟨hr.1, hr.2.1, ⟨by simp only; omega, by simp only; omega⟩, h2, hr.2.2.2.2⟩) (without_no L s.id) (hwl s hs) he).1
  | outArg _ _ => exact hI
  | outLong _ _ _ => exact hI
  | out _ ha hl hg hz hp =>
    unfold Ytjknmnmilladlaa.outArg at ha
    simp only [Bool.and_eq_true, decide_eq_true_eq, isT_iff] at ha
    have hn := hI.n1
    have hu := outUp_ok (k := d.s.nodes) hI.vu hI.ul ha.1.1.1.1.1 ha.1.1.2 ha.1.1.1.2.2 ⟨ha.1.2, by omega⟩
    exact hI.out hu.1 hl hg hz hp
  | moveNone _ _ _ _ _ => exact hI
  | moveTime _ _ _ _ _ _ _ => exact hI
  | moveArg _ _ _ _ _ _ _ _ => exact hI
  | @moveRoom s _ _ _ _ hs _ _ _ _ he =>
    exact ((hI.drop hs).2.1.lay (s := s) (hI.rt s hs) (without_no L s.id) (hwl s hs) he).1
  | @move s _ _ _ _ hs hid _ hr he =>
    exact ((hI.drop hs).2.1.lay (s := moved s d.s.frm) hr (without_no L s.id) (hwl s hs) he).1

def MPost (w : World) (bk bm : Nat) (n : Int) (up fr : List Step) (L : List Slot) (d : Do) (e : Ending) (w' : World) : Prop :=
  ∃ err up2 fr2 L2, e = .returned (.int .i64 err) ∧ DoStep n up fr L d [] err up2 fr2 L2 ∧ BookIs w' bk bm n up2 fr2 L2 ∧ Kept bk bm w w'

theorem any_id {L : List Slot} {id : Int} : (∃ x ∈ L, x.id = id) ∨ ∀ x ∈ L, x.id ≠ id := by
  by_cases h : ∃ x ∈ L, x.id = id
  · exact .inl h
  · exact .inr fun x hx e => h ⟨x, hx, e⟩

theorem takeAll {w : World} {bk bm : Nat} {n : Int} {up fr : List Step} {L : List Slot} (h : BookIs w bk bm n up fr L) (hI : Inv n up fr L) (d : Do) (hd : d.kind = 1) :
    Calls Try.prog 11 #[.pointer (some ⟨bk, 0, none⟩), slotV d.s] w (MPost w bk bm n up fr L d) := by
  cases hr : rightOf n d.s
  · exact (takeA h d.s hr).mono fun e w' ⟨h1, h2⟩ => ⟨_, _, _, _, h1, .takeArg hd hr, h.below h2, Kept.of_below h2⟩
  rcases any_id (L := L) (id := d.s.id) with ⟨x, hx, he⟩ | hn
  · exact (takeB h d.s hr (by rw [List.any_eq_true]; exact ⟨x, hx, by simpa using he⟩)).mono fun e w' ⟨h1, h2⟩ => ⟨_, _, _, _, h1, .takeTwice hd hr hx he, h.below h2, Kept.of_below h2⟩
  have ha : L.any (fun x => decide (x.id = d.s.id)) = false := by
    rw [Bool.eq_false_iff]
    intro he
    rw [List.any_eq_true] at he
    obtain ⟨x, hx1, hx2⟩ := he
    exact hn x hx1 (by simpa using hx2)
  have hri := right_iff.1 hr
  have hn1 := hI.n1
  by_cases hl : 9000 ≤ L.length
  · exact (takeC h d.s hr ha hl).mono fun e w' ⟨h1, h2⟩ => ⟨_, _, _, _, h1, .takeLong hd hr hn hl, h.below h2, Kept.of_below h2⟩
  by_cases he : addErr fr d.s.frm d.s.to (-d.s.nodes) = 0
  · exact (takeE h d.s hr ha (by omega) he ⟨by omega, by omega⟩).mono fun e w' ⟨h1, h2⟩ => ⟨_, _, _, _, h1, .take hd hr hn (by omega) he, h2.1, h2.2.1⟩
  · refine (takeD h d.s hr ha (by omega) he ⟨by omega, by omega⟩).mono fun e w' ⟨h1, h2⟩ => ⟨_, _, _, _, h1, ?_, h.below h2, Kept.of_below h2⟩
    rw [(hI.room hr).2 he]
    exact .takeRoom hd hr hn (by omega) he

theorem drops_nil {fr fr2 : List Step} {L L2 : List Slot} (h : Drops fr L [] fr2 L2) : fr2 = fr ∧ L2 = L := by
  generalize hids : ([] : List Int) = ids at h
  cases h with
  | nil => exact ⟨rfl, rfl⟩
  | snoc _ _ =>
    have hl := congrArg List.length hids
    simp at hl
theorem drops_one {fr fr2 : List Step} {L L2 : List Slot} {id : Int} (h : Drops fr L [id] fr2 L2) : ∃ s ∈ L, s.id = id ∧ fr2 = addRes fr s.frm s.to s.nodes ∧ L2 = without L s.id := by
  generalize hids : [id] = ids at h
  cases h with
  | nil => cases hids
  | @snoc ids2 fr3 L3 s h2 hs =>
    have hl := congrArg List.length hids
    simp at hl
    subst hl
    simp at hids
    obtain ⟨rfl, rfl⟩ := drops_nil h2
    exact ⟨s, hs, hids.symm, rfl, rfl⟩

theorem freeOne {w : World} {bk bm : Nat} {n : Int} {up fr : List Step} {L : List Slot} (h : BookIs w bk bm n up fr L) {v : Value} {d : Do} (hd : d.kind = 2) (hv : IsInts w v [d.s.id]) (hap : Apart bk v) :
    Calls Try.prog 15 #[.pointer (some ⟨bk, 0, none⟩), v] w (MPost w bk bm n up fr L d) := by
  refine (freeAny h hv hap).mono ?_
  rintro e w' (⟨h1, h2, h3⟩ | ⟨h1, h2, fr2, L2, h3, h4⟩)
  · refine ⟨_, _, _, _, h2, .freeNone hd ?_, h.below h3, Kept.of_below h3⟩
    intro x hx he
    apply h1
    intro j hj
    have : j = 0 := by simpa using hj
    subst this
    exact ⟨⟨x, hx, by simpa using he⟩, by simp⟩
  · obtain ⟨s, hs, hid, rfl, rfl⟩ := drops_one h3
    exact ⟨_, _, _, _, h2, .free hd hs hid, h4.1, h4.2.1⟩

theorem cutAll {w : World} {bk bm : Nat} {n : Int} {up fr : List Step} {L : List Slot} (h : BookIs w bk bm n up fr L) (hI : Inv n up fr L) (d : Do) (hd : d.kind = 3) :
    Calls Try.prog 20 #[.pointer (some ⟨bk, 0, none⟩), .int .i64 d.s.id, .int .i64 d.s.to] w (MPost w bk bm n up fr L d) := by
  rcases any_id (L := L) (id := d.s.id) with ⟨s, hs, he⟩ | hn
  rotate_left
  · exact (cutBkA h d.s.id d.s.to hn).mono fun e w' ⟨h1, h2⟩ => ⟨_, _, _, _, h1, .cutNone hd hn, h.below h2, Kept.of_below h2⟩
  rw [← he]
  cases ht : isT d.s.to
  · exact (cutBkB h hs d.s.to ht).mono fun e w' ⟨h1, h2⟩ => ⟨_, _, _, _, h1, .cutArg hd hs he (.inl ht), h.below h2, Kept.of_below h2⟩
  by_cases h2 : s.to < d.s.to
  · exact (cutBkC h hs d.s.to ht h2).mono fun e w' ⟨h1, h3⟩ => ⟨_, _, _, _, h1, .cutArg hd hs he (.inr h2), h.below h3, Kept.of_below h3⟩
  by_cases h3 : d.s.to ≤ s.frm
  · exact (cutBkD h hs d.s.to ht (by omega) h3).mono fun e w' ⟨h1, h4⟩ => ⟨_, _, _, _, h1, .cutAll hd hs he ht (by omega) h3, h4.1, h4.2.1⟩
  · have hnn := hI.nodes s hs
    have ha := hI.again hs d.s.to (by omega) (by omega)
    exact (cutBkE h hs d.s.to ht (by omega) (by omega) ⟨by omega, by omega⟩ ha).mono fun e w' ⟨h1, h4⟩ => ⟨_, _, _, _, h1, .cut hd hs he ht (by omega) (by omega) ha, h4.1, h4.2.1⟩

theorem moveAll {w : World} {bk bm : Nat} {n : Int} {up fr : List Step} {L : List Slot} (h : BookIs w bk bm n up fr L) (hI : Inv n up fr L) (d : Do) (d1 : d.kind ≠ 1) (d2 : d.kind ≠ 2) (d3 : d.kind ≠ 3) (d5 : d.kind ≠ 5) :
    Calls Try.prog 29 #[.pointer (some ⟨bk, 0, none⟩), .int .i64 d.s.id, .int .i64 d.s.frm] w (MPost w bk bm n up fr L d) := by
  rcases any_id (L := L) (id := d.s.id) with ⟨s, hs, he⟩ | hn
  rotate_left
  · exact (moveA h d.s.id d.s.frm hn).mono fun e w' ⟨h1, h2⟩ => ⟨_, _, _, _, h1, .moveNone d1 d2 d3 d5 hn, h.below h2, Kept.of_below h2⟩
  have hri := right_iff.1 (hI.rt s hs)
  have hnn := hI.nodes s hs
  rw [← he]
  cases ht : isT d.s.frm
  · exact (moveB h hs d.s.frm ht).mono fun e w' ⟨h1, h2⟩ => ⟨_, _, _, _, h1, .moveTime d1 d2 d3 d5 hs he ht, h.below h2, Kept.of_below h2⟩
  have hf : isT s.frm = true := isT_iff.2 hri.2.1
  have hu : isT s.to = true := isT_iff.2 hri.2.2.1
  cases hr : rightOf n (moved s d.s.frm)
  · exact (moveC h hs d.s.frm ht hf hu hr).mono fun e w' ⟨h1, h2⟩ => ⟨_, _, _, _, h1, .moveArg d1 d2 d3 d5 hs he ht hr, h.below h2, Kept.of_below h2⟩
  by_cases hx : addErr (addRes fr s.frm s.to s.nodes) (moved s d.s.frm).frm (moved s d.s.frm).to (-(moved s d.s.frm).nodes) = 0
  · exact (moveE h hs d.s.frm ht hf hu hr ⟨by omega, by omega⟩ hx).mono fun e w' ⟨h1, h2⟩ => ⟨_, _, _, _, h1, .move d1 d2 d3 d5 hs he ht hr hx, h2.1, h2.2.1⟩
  · have ha := hI.again hs s.to hri.2.2.2.1 (Int.le_refl _)
    refine (moveD h hs d.s.frm ht hf hu hr ⟨by omega, by omega⟩ hx ha).mono fun e w' ⟨h1, h2⟩ => ⟨_, _, _, _, h1, ?_, h2.1, h2.2.1⟩
    rw [((hI.drop hs).2.1.room hr).2 hx]
    exact .moveRoom d1 d2 d3 d5 hs he ht hr hx ha

def OPost (w : World) (bk bm : Nat) (n : Int) (up fr : List Step) (L : List Slot) (d : Do) (e : Ending) (w' : World) : Prop :=
  ∃ v ids err up2 fr2 L2, e = .returned (.tuple #[v, .int .i64 err]) ∧ IsInts w' v ids ∧ DoStep n up fr L d ids err up2 fr2 L2 ∧ BookIs w' bk bm n up2 fr2 L2 ∧ Kept bk bm w w'

theorem isInts_nil (w : World) : IsInts w (.slice none 0 0) [] := ⟨rfl, none, 0, rfl, Nat.le_refl _, Nat.zero_le _, fun h => absurd h (Nat.lt_irrefl _)⟩

theorem outAll {w : World} {bk bm : Nat} {n : Int} {up fr : List Step} {L : List Slot} (h : BookIs w bk bm n up fr L) (hI : Inv n up fr L) (d : Do) (hd : d.kind = 5) :
    Calls Try.prog 24 #[.pointer (some ⟨bk, 0, none⟩), .int .i64 d.s.frm, .int .i64 d.s.to, .int .i64 d.s.nodes] w (OPost w bk bm n up fr L d) := by
  cases ha : Ytjknmnmilladlaa.outArg n d.s.frm d.s.to d.s.nodes
  · exact (outBad h d.s.frm d.s.to d.s.nodes ha).mono fun e w' ⟨h1, h2⟩ => ⟨_, _, _, _, _, _, h1, isInts_nil _, .outArg hd ha, h.below h2, Kept.of_below h2⟩
  · refine (outMain h hI d.s.frm d.s.to d.s.nodes ha).mono ?_
    rintro e w' (⟨h1, h2, h3⟩ | ⟨h1, v, G, L2, dn, h2, h3, h4, h5, h6, h7, h8⟩)
    · exact ⟨_, _, _, _, _, _, h2, isInts_nil _, .outLong hd ha h1, h.below h3, Kept.of_below h3⟩
    · exact ⟨_, _, _, _, _, _, h2, h7, .out hd ha h1 h3 h4 h5, h6, h8⟩

end Go.Proofs.Ytjknmnmilladlaa
