/- LockApart, in plain words: two tables, of which one is asked for names of its own besides. -/
import Derived.Test.YtbdkhegfmnladaaMgM
set_option maxRecDepth 100000
set_option linter.unusedVariables false
set_option linter.unusedSimpArgs false
namespace Mun
open Go Go.RowKit
open Go.Proofs

def sX (n : ByteArray) : ByteArray := ⟨#[120]⟩ ++ n
def sY (n : ByteArray) : ByteArray := ⟨#[121]⟩ ++ n
def isX (s : ByteArray) : Prop := ∃ n, s = sX n
theorem sY_notX (n : ByteArray) : ¬ isX (sY n) := by
  rintro ⟨m, h⟩
  have h9 := congrArg (fun s : ByteArray => s.data.toList.head?) h
  simp [sX, sY] at h9

/-- the first table holds what the second one holds at names of the one kind, of even owners alone; at all others odd owners alone -/
structure Ap (A B : AS) : Prop where
  x : ∀ s, isX s → A.H s = B.H s ∧ A.Q s = B.Q s
  ex : ∀ s, isX s → (∀ u k, A.H s u = some k → u % 2 = 0) ∧ ∀ u k, (u, k) ∈ A.Q s → u % 2 = 0
  y : ∀ s, ¬ isX s → (∀ u, B.H s u = none) ∧ B.Q s = []
  ey : ∀ s, ¬ isX s → (∀ u k, A.H s u = some k → u % 2 = 1) ∧ ∀ u k, (u, k) ∈ A.Q s → u % 2 = 1

theorem Ap.waits {A B : AS} (h : Ap A B) {o : Int} (ho : o % 2 = 0) {s : ByteArray} {m : Int} : (o, m) ∈ A.Q s ↔ (o, m) ∈ B.Q s := by
  by_cases hs : isX s
  · rw [(h.x s hs).2]
  · constructor
    · intro h9
      have := (h.ey s hs).2 o m h9
      omega
    · intro h9; rw [(h.y s hs).2] at h9; cases h9
theorem Ap.waitsX {A B : AS} (h : Ap A B) {o : Int} (ho : o % 2 = 0) {s : ByteArray} {m : Int} (hq : (o, m) ∈ A.Q s) : isX s := by
  apply Classical.byContradiction
  intro hs
  have := (h.ey s hs).2 o m hq
  omega
theorem Ap.blocks {A B : AS} (h : Ap A B) {o : Int} (ho : o % 2 = 0) (u : Int) : A.blocks o u ↔ B.blocks o u := by
  unfold AS.blocks
  constructor
  · rintro ⟨s, m, hq, hb⟩
    have hs := h.waitsX ho hq
    obtain ⟨h1, h2⟩ := h.x s hs
    exact ⟨s, m, by rw [← h2]; exact hq, by rw [← h1, ← h2]; exact hb⟩
  · rintro ⟨s, m, hq, hb⟩
    have hq' := (h.waits ho).2 hq
    have hs := h.waitsX ho hq'
    obtain ⟨h1, h2⟩ := h.x s hs
    exact ⟨s, m, hq', by rw [h1, h2]; exact hb⟩
theorem Ap.even {A B : AS} (h : Ap A B) {o : Int} (ho : o % 2 = 0) {u : Int} (hb : A.blocks o u) : u % 2 = 0 := by
  obtain ⟨s, m, hq, hb⟩ := hb
  have hs := h.waitsX ho hq
  obtain ⟨h1, h2⟩ := h.ex s hs
  rcases hb with ⟨-, k, hk, -⟩ | hb
  · exact h1 u k hk
  · obtain ⟨a, ha, rfl⟩ := List.mem_map.1 hb
    exact h2 a.1 a.2 ((List.takeWhile_sublist _).mem ha)
theorem Ap.reach1 {A B : AS} (h : Ap A B) : ∀ {o u : Int}, A.Reach o u → o % 2 = 0 → B.Reach o u ∧ u % 2 = 0 := by
  intro o u hr
  induction hr with
  | one hb => exact fun ho => ⟨.one ((h.blocks ho _).1 hb), h.even ho hb⟩
  | step hb _ ih => exact fun ho => ⟨.step ((h.blocks ho _).1 hb) (ih (h.even ho hb)).1, (ih (h.even ho hb)).2⟩
theorem Ap.reach2 {A B : AS} (h : Ap A B) : ∀ {o u : Int}, B.Reach o u → o % 2 = 0 → A.Reach o u := by
  intro o u hr
  induction hr with
  | one hb => exact fun ho => .one ((h.blocks ho _).2 hb)
  | step hb _ ih =>
    intro ho
    have h9 := (h.blocks ho _).2 hb
    exact .step h9 (ih (h.even ho h9))
theorem Ap.victim {A B : AS} (h : Ap A B) {o : Int} (ho : o % 2 = 0) {v : Int} {b : Bool} (hv : A.Victim o v b) : B.Victim o v b := by
  rcases hv with ⟨h1, h2, h3⟩ | ⟨h1, h2, h3, h4, h5⟩
  · exact .inl ⟨h1, h2, fun h9 => h3 (h.reach2 h9 ho)⟩
  · obtain ⟨h3', hve⟩ := h.reach1 h3 ho
    refine .inr ⟨h1, (h.reach1 h2 ho).1, h3', (h.reach1 h4 hve).1, fun u hu1 hu2 => ?_⟩
    have h9 := h.reach2 hu1 ho
    exact h5 u h9 (h.reach2 hu2 (h.reach1 h9 ho).2)

/-- one of the even ones asks both -/
theorem Ap.ask {A B : AS} (h : Ap A B) {o : Int} (ho : o % 2 = 0) (n : ByteArray) (m : Int) : (A.ask o (sX n) m).2 = (B.ask o (sX n) m).2 ∧ Ap (A.ask o (sX n) m).1 (B.ask o (sX n) m).1 := by
  have hs : isX (sX n) := ⟨n, rfl⟩
  obtain ⟨h1, h2⟩ := h.x _ hs
  have hw : A.waits o ↔ B.waits o := by
    unfold AS.waits
    exact ⟨fun ⟨s, m, hq⟩ => ⟨s, m, (h.waits ho).1 hq⟩, fun ⟨s, m, hq⟩ => ⟨s, m, (h.waits ho).2 hq⟩⟩
  have hset : ∀ k, Ap (A.setH (sX n) (upd (A.H (sX n)) o (some k))) (B.setH (sX n) (upd (B.H (sX n)) o (some k))) := fun k => by
    refine ⟨fun s hx => ⟨?_, (h.x s hx).2⟩, fun s hx => ⟨fun u k' hk => ?_, (h.ex s hx).2⟩, fun s hx => ⟨fun u => ?_, (h.y s hx).2⟩, fun s hx => ⟨fun u k' hk => ?_, (h.ey s hx).2⟩⟩
    · show updS A.H _ _ s = updS B.H _ _ s
      unfold updS
      rw [h1]
      split
      · rfl
      · exact (h.x s hx).1
    · have hk2 : updS A.H (sX n) (upd (A.H (sX n)) o (some k)) s u = some k' := hk
      unfold updS at hk2
      by_cases e : s = sX n
      · rw [if_pos e] at hk2
        change (if u = o then some k else A.H (sX n) u) = some k' at hk2
        by_cases e2 : u = o
        · rw [e2]; exact ho
        · rw [if_neg e2] at hk2; exact (h.ex _ hs).1 u k' hk2
      · rw [if_neg e] at hk2; exact (h.ex s hx).1 u k' hk2
    · show updS B.H _ _ s u = none
      rw [updS_other _ _ (fun e : s = sX n => hx (by rw [e]; exact hs))]
      exact (h.y s hx).1 u
    · have hk2 : updS A.H (sX n) (upd (A.H (sX n)) o (some k)) s u = some k' := hk
      rw [updS_other _ _ (fun e : s = sX n => hx (by rw [e]; exact hs))] at hk2
      exact (h.ey s hx).1 u k' hk2
  have hsetQ : ∀ q k, (∀ b, b ∈ q → b ∈ A.Q (sX n) ∨ b = (o, k)) → Ap (A.setQ (sX n) q) (B.setQ (sX n) q) := fun q k hq => by
    refine ⟨fun s hx => ⟨(h.x s hx).1, ?_⟩, fun s hx => ⟨(h.ex s hx).1, fun u k' hk => ?_⟩, fun s hx => ⟨(h.y s hx).1, ?_⟩, fun s hx => ⟨(h.ey s hx).1, fun u k' hk => ?_⟩⟩
    · show updS A.Q _ _ s = updS B.Q _ _ s
      unfold updS
      split
      · rfl
      · exact (h.x s hx).2
    · have hk2 : (u, k') ∈ updS A.Q (sX n) q s := hk
      unfold updS at hk2
      by_cases e : s = sX n
      · rw [if_pos e] at hk2
        rcases hq _ hk2 with h9 | h9
        · exact (h.ex _ hs).2 u k' h9
        · injection h9 with h9 _; rw [h9]; exact ho
      · rw [if_neg e] at hk2; exact (h.ex s hx).2 u k' hk2
    · show updS B.Q _ _ s = []
      rw [updS_other _ _ (fun e : s = sX n => hx (by rw [e]; exact hs))]
      exact (h.y s hx).2
    · have hk2 : (u, k') ∈ updS A.Q (sX n) q s := hk
      rw [updS_other _ _ (fun e : s = sX n => hx (by rw [e]; exact hs))] at hk2
      exact (h.ey s hx).2 u k' hk2
  unfold AS.ask
  by_cases c1 : o = 0 ∨ isM m = false
  · rw [if_pos c1, if_pos c1]; exact ⟨rfl, h⟩
  · rw [if_neg c1, if_neg c1]
    by_cases c2 : A.waits o
    · rw [if_pos c2, if_pos (hw.1 c2)]; exact ⟨rfl, h⟩
    · rw [if_neg c2, if_neg (fun e => c2 (hw.2 e))]
      have hh : B.H (sX n) o = A.H (sX n) o := by rw [h1]
      rw [hh]
      cases hk : A.H (sX n) o with
      | some k =>
        simp only
        by_cases c3 : jn k m = k
        · rw [if_pos c3, if_pos c3]; exact ⟨rfl, h⟩
        · rw [if_neg c3, if_neg c3]
          by_cases c4 : GoesF (A.H (sX n)) o (jn k m)
          · rw [if_pos c4, if_pos (by rw [← h1]; exact c4)]; exact ⟨rfl, hset _⟩
          · rw [if_neg c4, if_neg (by rw [← h1]; exact c4), ← h1, ← h2]
            exact ⟨rfl, hsetQ _ _ (fun b hb => qins_mem.1 hb)⟩
      | none =>
        simp only
        by_cases c4 : A.Q (sX n) = [] ∧ GoesF (A.H (sX n)) o m
        · rw [if_pos c4, if_pos (by rw [← h1, ← h2]; exact c4)]; exact ⟨rfl, hset _⟩
        · rw [if_neg c4, if_neg (by rw [← h1, ← h2]; exact c4), ← h2]
          exact ⟨rfl, hsetQ _ m (fun b hb => by rwa [List.mem_append, List.mem_singleton] at hb)⟩

/-- one of the odd ones asks the first one for a name of the other kind -/
theorem Ap.askY {A B : AS} (h : Ap A B) {o : Int} (ho : o % 2 = 1) (n : ByteArray) (m : Int) : Ap (A.ask o (sY n) m).1 B := by
  have hs : ¬ isX (sY n) := sY_notX n
  have hset : ∀ k, Ap (A.setH (sY n) (upd (A.H (sY n)) o (some k))) B := fun k => by
    refine ⟨fun s hx => ⟨?_, (h.x s hx).2⟩, fun s hx => ⟨fun u k' hk => ?_, (h.ex s hx).2⟩, h.y, fun s hx => ⟨fun u k' hk => ?_, (h.ey s hx).2⟩⟩
    · show updS A.H _ _ s = B.H s
      rw [updS_other _ _ (fun e : s = sY n => hs (by rw [← e]; exact hx))]
      exact (h.x s hx).1
    · have hk2 : updS A.H (sY n) (upd (A.H (sY n)) o (some k)) s u = some k' := hk
      rw [updS_other _ _ (fun e : s = sY n => hs (by rw [← e]; exact hx))] at hk2
      exact (h.ex s hx).1 u k' hk2
    · have hk2 : updS A.H (sY n) (upd (A.H (sY n)) o (some k)) s u = some k' := hk
      unfold updS at hk2
      by_cases e : s = sY n
      · rw [if_pos e] at hk2
        change (if u = o then some k else A.H (sY n) u) = some k' at hk2
        by_cases e2 : u = o
        · rw [e2]; exact ho
        · rw [if_neg e2] at hk2; exact (h.ey _ hs).1 u k' hk2
      · rw [if_neg e] at hk2; exact (h.ey s hx).1 u k' hk2
  have hsetQ : ∀ q k, (∀ b, b ∈ q → b ∈ A.Q (sY n) ∨ b = (o, k)) → Ap (A.setQ (sY n) q) B := fun q k hq => by
    refine ⟨fun s hx => ⟨(h.x s hx).1, ?_⟩, fun s hx => ⟨(h.ex s hx).1, fun u k' hk => ?_⟩, h.y, fun s hx => ⟨(h.ey s hx).1, fun u k' hk => ?_⟩⟩
    · show updS A.Q _ _ s = B.Q s
      rw [updS_other _ _ (fun e : s = sY n => hs (by rw [← e]; exact hx))]
      exact (h.x s hx).2
    · have hk2 : (u, k') ∈ updS A.Q (sY n) q s := hk
      rw [updS_other _ _ (fun e : s = sY n => hs (by rw [← e]; exact hx))] at hk2
      exact (h.ex s hx).2 u k' hk2
    · have hk2 : (u, k') ∈ updS A.Q (sY n) q s := hk
      unfold updS at hk2
      by_cases e : s = sY n
      · rw [if_pos e] at hk2
        rcases hq _ hk2 with h9 | h9
        · exact (h.ey _ hs).2 u k' h9
        · injection h9 with h9 _; rw [h9]; exact ho
      · rw [if_neg e] at hk2; exact (h.ey s hx).2 u k' hk2
  unfold AS.ask
  split
  · exact h
  · split
    · exact h
    · cases hk : A.H (sY n) o with
      | some k =>
        simp only
        split
        · exact h
        · split
          · exact hset _
          · exact hsetQ _ _ (fun b hb => qins_mem.1 hb)
      | none =>
        simp only
        split
        · exact hset _
        · exact hsetQ _ m (fun b hb => by rwa [List.mem_append, List.mem_singleton] at hb)

/-- one of the even ones gives up what it has -/
theorem Ap.touched {A B : AS} (h : Ap A B) {o : Int} (ho : o % 2 = 0) (s : ByteArray) : (A.touched o s ↔ B.touched o s) ∧ (A.touched o s → isX s) := by
  unfold AS.touched
  by_cases hs : isX s
  · obtain ⟨h1, h2⟩ := h.x s hs
    rw [h1, h2]
    exact ⟨Iff.rfl, fun _ => hs⟩
  · have hA : ¬ (A.H s o ≠ none ∨ ∃ m, (o, m) ∈ A.Q s) := by
      rintro (h9 | ⟨m, h9⟩)
      · cases hk : A.H s o with
        | none => exact h9 hk
        | some k => have := (h.ey s hs).1 o k hk; omega
      · have := (h.ey s hs).2 o m h9; omega
    have hB : ¬ (B.H s o ≠ none ∨ ∃ m, (o, m) ∈ B.Q s) := by
      rintro (h9 | ⟨m, h9⟩)
      · exact h9 ((h.y s hs).1 o)
      · rw [(h.y s hs).2] at h9; cases h9
    exact ⟨⟨fun h9 => absurd h9 hA, fun h9 => absurd h9 hB⟩, fun h9 => absurd h9 hA⟩
theorem Ap.pop {A B : AS} (h : Ap A B) (o : Int) {s : ByteArray} (hs : isX s) : A.pop o s = B.pop o s := by
  unfold AS.pop
  rw [(h.x s hs).1, (h.x s hs).2]
theorem Ap.freed {A B : AS} (h : Ap A B) {o : Int} (ho : o % 2 = 0) : Ap (A.freed o) (B.freed o) := by
  refine ⟨fun s hx => ?_, fun s hx => ⟨fun u k hk => ?_, fun u k hk => (h.ex s hx).2 u k (freed_Q hk).1⟩, fun s hx => ?_, fun s hx => ⟨fun u k hk => ?_, fun u k hk => (h.ey s hx).2 u k (freed_Q hk).1⟩⟩
  · unfold AS.freed
    simp only
    obtain ⟨h1, h2⟩ := h.x s hx
    by_cases ht : A.touched o s
    · rw [if_pos ht, if_pos ((h.touched ho s).1.1 ht), if_pos ht, if_pos ((h.touched ho s).1.1 ht), h.pop o hx]; exact ⟨rfl, rfl⟩
    · rw [if_neg ht, if_neg (fun e => ht ((h.touched ho s).1.2 e)), if_neg ht, if_neg (fun e => ht ((h.touched ho s).1.2 e))]; exact ⟨h1, h2⟩
  · rcases freed_H hk with ⟨-, h9⟩ | ⟨-, h9⟩
    · exact (h.ex s hx).1 u k h9
    · exact (h.ex s hx).2 u k h9
  · unfold AS.freed
    simp only
    have ht : ¬ B.touched o s := fun e => hx ((h.touched ho s).2 ((h.touched ho s).1.2 e))
    rw [if_neg ht, if_neg ht]
    exact h.y s hx
  · rcases freed_H hk with ⟨-, h9⟩ | ⟨-, h9⟩
    · exact (h.ey s hx).1 u k h9
    · exact (h.ey s hx).2 u k h9

theorem leN_antisymm {a b : ByteArray} (h1 : leN a b) (h2 : leN b a) : a = b := by
  have h9 : a.data.toList = b.data.toList := List.le_antisymm h1 h2
  cases a; cases b
  simpa using h9
theorem sorted_uniq : ∀ {a b : List ByteArray}, a.Pairwise leN → b.Pairwise leN → a.Nodup → b.Nodup → (∀ s, s ∈ a ↔ s ∈ b) → a = b
  | [], [], _, _, _, _, _ => rfl
  | [], y :: b, _, _, _, _, h => absurd ((h y).2 (by simp)) (by simp)
  | x :: a, [], _, _, _, _, h => absurd ((h x).1 (by simp)) (by simp)
  | x :: a, y :: b, h1, h2, h3, h4, h => by
    rw [List.pairwise_cons] at h1 h2
    rw [List.nodup_cons] at h3 h4
    have hxy : x = y := by
      rcases List.mem_cons.1 ((h x).1 (by simp)) with e | e
      · exact e
      · rcases List.mem_cons.1 ((h y).2 (by simp)) with e' | e'
        · exact e'.symm
        · exact leN_antisymm (h1.1 y e') (h2.1 x e)
    subst hxy
    rw [sorted_uniq h1.2 h2.2 h3.2 h4.2 (fun s => ⟨fun hs => by
      rcases List.mem_cons.1 ((h s).1 (List.mem_cons_of_mem _ hs)) with e | e
      · exact absurd (e ▸ hs) h3.1
      · exact e, fun hs => by
      rcases List.mem_cons.1 ((h s).2 (List.mem_cons_of_mem _ hs)) with e | e
      · exact absurd (e ▸ hs) h4.1
      · exact e⟩)]
theorem Ap.popped {A B : AS} (h : Ap A B) {o : Int} {ns : List ByteArray} (hx : ∀ s ∈ ns, isX s) : popped A o ns = popped B o ns := by
  unfold Mun.popped
  induction ns with
  | nil => rfl
  | cons s ns ih =>
    rw [List.flatMap_cons, List.flatMap_cons, ih (fun s hs => hx s (by simp [hs])), h.pop o (hx s (by simp))]
theorem Ap.empty : Ap ⟨fun _ _ => none, fun _ => []⟩ ⟨fun _ _ => none, fun _ => []⟩ := by
  refine ⟨fun _ _ => ⟨rfl, rfl⟩, fun _ _ => ⟨fun u k h => ?_, fun u k h => ?_⟩, fun _ _ => ⟨fun _ => rfl, rfl⟩, fun _ _ => ⟨fun u k h => ?_, fun u k h => ?_⟩⟩
  all_goals cases h
end Mun
