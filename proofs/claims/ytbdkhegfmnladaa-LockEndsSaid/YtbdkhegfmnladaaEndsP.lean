/- LockEnds, in plain words: rings, and how they go; who waits, and how it ends. -/
import Derived.Test.YtbdkhegfmnladaaMgM
set_option maxRecDepth 100000
set_option linter.unusedVariables false
set_option linter.unusedSimpArgs false
namespace Mun
open Go Go.RowKit
open Go.Proofs

/-! ways along a relation -/
inductive Tc (R : Int → Int → Prop) : Int → Int → Prop
  | one {x y : Int} : R x y → Tc R x y
  | step {x y z : Int} : R x y → Tc R y z → Tc R x z
theorem Tc.trans {R : Int → Int → Prop} {x y z : Int} (h : Tc R x y) (k : Tc R y z) : Tc R x z := by
  induction h with
  | one h => exact .step h k
  | step h _ ih => exact .step h (ih k)
theorem Tc.mono {R S : Int → Int → Prop} (hm : ∀ x y, R x y → S x y) {x y : Int} (h : Tc R x y) : Tc S x y := by
  induction h with
  | one h => exact .one (hm _ _ h)
  | step h _ ih => exact .step (hm _ _ h) ih
def Acyc (R : Int → Int → Prop) : Prop := ∀ x, ¬ Tc R x x
def but (R : Int → Int → Prop) (o : Int) : Int → Int → Prop := fun x y => R x y ∧ x ≠ o ∧ y ≠ o
theorem Tc.through {R : Int → Int → Prop} (o : Int) {x y : Int} (h : Tc R x y) : Tc (but R o) x y ∨ ((x = o ∨ Tc R x o) ∧ (y = o ∨ Tc R o y)) := by
  induction h with
  | @one x y h =>
    by_cases e : x = o
    · subst e; exact .inr ⟨.inl rfl, .inr (.one h)⟩
    · by_cases e2 : y = o
      · subst e2; exact .inr ⟨.inr (.one h), .inl rfl⟩
      · exact .inl (.one ⟨h, e, e2⟩)
  | @step x y z h k ih =>
    by_cases e : x = o
    · subst e; exact .inr ⟨.inl rfl, .inr (.step h k)⟩
    · by_cases e2 : y = o
      · subst e2; exact .inr ⟨.inr (.one h), .inr k⟩
      · rcases ih with ih | ⟨h1, h2⟩
        · exact .inl (.step ⟨h, e, e2⟩ ih)
        · exact .inr ⟨.inr (h1.elim (fun e3 => absurd e3 e2) (fun h3 => .step h h3)), h2⟩
theorem ring_o {R : Int → Int → Prop} {o : Int} (ha : Acyc (but R o)) {x : Int} (h : Tc R x x) : Tc R o o := by
  rcases h.through o with h1 | ⟨h1, h2⟩
  · exact absurd h1 (ha x)
  · rcases h1 with rfl | h1
    · exact h
    · rcases h2 with rfl | h2
      · exact h
      · exact h2.trans h1
theorem Acyc.mono {R S : Int → Int → Prop} (hs : Acyc S) (hm : ∀ x y, R x y → S x y) : Acyc R := fun x h => hs x (h.mono hm)

theorem reach_tc {A : AS} {x y : Int} : A.Reach x y ↔ Tc A.blocks x y := by
  constructor
  · intro h
    induction h with
    | one h => exact .one h
    | step h _ ih => exact .step h ih
  · intro h
    induction h with
    | one h => exact .one h
    | step h _ ih => exact .step h ih
theorem blocks_waits {A : AS} {x y : Int} (h : A.blocks x y) : A.waits x := by obtain ⟨s, m, hq, -⟩ := h; exact ⟨s, m, hq⟩
theorem tc_waits {A : AS} {x y : Int} (h : Tc A.blocks x y) : A.waits x := by
  cases h with
  | one h => exact blocks_waits h
  | step h _ => exact blocks_waits h

/-! who is ahead -/
theorem ahead_sub {l l' : List (Int × Int)} {o m : Int} (hn : (l.map (·.1)).Nodup) (hs : l'.Sublist l) (ho : (o, m) ∈ l') {a : Int × Int} (ha : a ∈ ahead l' o) : a ∈ ahead l o := by
  have hol := hs.mem ho
  obtain ⟨l1, l2, rfl⟩ := List.append_of_mem hol
  rw [List.map_append, List.map_cons, List.nodup_append] at hn
  obtain ⟨hn1, hn2, hn3⟩ := hn
  rw [List.nodup_cons] at hn2
  have ho1 : ∀ b ∈ l1, b.1 ≠ o := fun b hb => hn3 b.1 (List.mem_map_of_mem hb) o (by simp)
  have hah : ahead (l1 ++ (o, m) :: l2) o = l1 := by
    unfold ahead
    rw [List.takeWhile_append_of_pos (fun b hb => by simpa using ho1 b hb)]
    simp
  rw [hah]
  obtain ⟨k1, k2, rfl, h1, h2⟩ := List.sublist_append_iff.1 hs
  have hk1 : ∀ b ∈ k1, b.1 ≠ o := fun b hb => ho1 b (h1.mem hb)
  unfold ahead at ha
  rw [List.takeWhile_append_of_pos (fun b hb => by simpa using hk1 b hb)] at ha
  rcases List.mem_append.1 ha with h9 | h9
  · exact h1.mem h9
  · exfalso
    have hok2 : (o, m) ∈ k2 := by
      rcases List.mem_append.1 ho with h8 | h8
      · exact absurd rfl (hk1 _ h8)
      · exact h8
    cases h2 with
    | cons _ h3 => exact hn2.1 (List.mem_map.2 ⟨_, h3.mem hok2, rfl⟩)
    | cons_cons _ h3 => simp at h9
theorem popF_ahead {h : Int → Option Int} {qs : List (Int × Int)} (hn : (qs.map (·.1)).Nodup) {o m : Int} (ho : (o, m) ∈ (popF h qs).2.1) {a : Int × Int} (ha : a ∈ (popF h qs).2.2) : a ∈ ahead qs o := by
  have h8 := popF_split qs h
  have hn' := hn
  rw [← h8, List.map_append, List.nodup_append] at hn'
  have hne : ∀ b ∈ (popF h qs).2.2, b.1 ≠ o := fun b hb => hn'.2.2 b.1 (List.mem_map_of_mem hb) o (List.mem_map.2 ⟨_, ho, rfl⟩)
  have key : ∀ p q l : List (Int × Int), p ++ q = l → (∀ b ∈ p, b.1 ≠ o) → a ∈ p → a ∈ ahead l o := fun p q l e hp hap => by
    subst e
    unfold ahead
    rw [List.takeWhile_append_of_pos (fun b hb => by simpa using hp b hb)]
    exact List.mem_append_left _ hap
  exact key _ _ _ h8 hne ha

/-- what is given up makes no new way -/
theorem freed_blocks {A : AS} (hok : A.Ok) {v x u : Int} (h : (A.freed v).blocks x u) : A.blocks x u ∧ x ≠ v ∧ u ≠ v := by
  obtain ⟨s, m, hq, hb⟩ := h
  obtain ⟨hq1, hxv⟩ := freed_Q hq
  have hn := hok.qn s
  have hnf : ((((A.Q s).filter (neO v))).map (·.1)).Nodup := hn.sublist ((List.filter_sublist).map _)
  by_cases ht : A.touched v s
  · have eH : (A.freed v).H s = (A.pop v s).1 := by unfold AS.freed; simp only; rw [if_pos ht]
    have eQ : (A.freed v).Q s = (A.pop v s).2.1 := by unfold AS.freed; simp only; rw [if_pos ht]
    rw [eH] at hb
    rw [eQ] at hq hb
    have hsp := popF_split ((A.Q s).filter (neO v)) (upd (A.H s) v none)
    have hsub : (A.pop v s).2.1.Sublist ((A.Q s).filter (neO v)) := by
      show (popF _ _).2.1.Sublist _
      conv => rhs; rw [← hsp]
      exact List.sublist_append_right _ _
    have hqf := hsub.mem hq
    have hfin : ∀ a, a ∈ ahead ((A.Q s).filter (neO v)) x → a ∈ ahead (A.Q s) x ∧ a.1 ≠ v := fun a ha => by
      refine ⟨ahead_sub hn List.filter_sublist hqf ha, ?_⟩
      have := (List.mem_filter.1 ((List.takeWhile_sublist _).mem ha)).2
      unfold neO at this
      simpa using this
    rcases hb with ⟨hne, k, hk, htg⟩ | hb
    · rcases popF_val _ _ _ _ hk with h9 | h9
      · unfold upd at h9
        split at h9
        · cases h9
        · rename_i e
          exact ⟨⟨s, m, hq1, .inl ⟨hne, k, h9, htg⟩⟩, hxv, e⟩
      · have := hfin _ (popF_ahead hnf hq h9)
        exact ⟨⟨s, m, hq1, .inr (List.mem_map.2 ⟨_, this.1, rfl⟩)⟩, hxv, this.2⟩
    · obtain ⟨a, ha, rfl⟩ := List.mem_map.1 hb
      have := hfin _ (ahead_sub hnf hsub hq ha)
      exact ⟨⟨s, m, hq1, .inr (List.mem_map.2 ⟨_, this.1, rfl⟩)⟩, hxv, this.2⟩
  · have eH : (A.freed v).H s = A.H s := by unfold AS.freed; simp only; rw [if_neg ht]
    have eQ : (A.freed v).Q s = A.Q s := by unfold AS.freed; simp only; rw [if_neg ht]
    rw [eH, eQ] at hb
    refine ⟨⟨s, m, hq1, hb⟩, hxv, fun e => ht ?_⟩
    subst e
    rcases hb with ⟨hne, k, hk, htg⟩ | hb
    · exact .inl (by rw [hk]; simp)
    · obtain ⟨a, ha, rfl⟩ := List.mem_map.1 hb
      exact .inr ⟨a.2, (List.takeWhile_sublist _).mem ha⟩
theorem freed_waits {A : AS} {v x : Int} (h : (A.freed v).waits x) : A.waits x ∧ x ≠ v := by
  obtain ⟨s, m, hq⟩ := h
  have := freed_Q hq
  exact ⟨⟨s, m, this.1⟩, this.2⟩

/-- what is asked for makes new ways for the asker and to it alone -/
theorem ask_blocks {A : AS} (hok : A.Ok) {o : Int} {s : ByteArray} {m : Int} {x u : Int} (h : (A.ask o s m).1.blocks x u) (hx : x ≠ o) (hu : u ≠ o) : A.blocks x u := by
  have hset : ∀ k, (A.setH s (upd (A.H s) o (some k))).blocks x u → A.blocks x u := fun k h9 => by
    obtain ⟨s', m', hq, hb⟩ := h9
    refine ⟨s', m', hq, ?_⟩
    rcases hb with ⟨hne, k', hk, htg⟩ | hb
    · have hk2 : updS A.H s (upd (A.H s) o (some k)) s' u = some k' := hk
      unfold updS at hk2
      by_cases e : s' = s
      · subst e
        rw [if_pos rfl] at hk2
        change (if u = o then some k else A.H s' u) = some k' at hk2
        rw [if_neg hu] at hk2
        exact .inl ⟨hne, k', hk2, htg⟩
      · rw [if_neg e] at hk2; exact .inl ⟨hne, k', hk2, htg⟩
    · exact .inr hb
  have hsetQ : ∀ j k, ¬ A.waits o → (A.setQ s (qins (A.Q s) j (o, k))).blocks x u → A.blocks x u := fun j k hw h9 => by
    obtain ⟨s', m', hq, hb⟩ := h9
    have hq2 : (x, m') ∈ updS A.Q s (qins (A.Q s) j (o, k)) s' := hq
    have hb2 : (u ≠ x ∧ ∃ k', A.H s' u = some k' ∧ tog k' m' = false) ∨ u ∈ (ahead (updS A.Q s (qins (A.Q s) j (o, k)) s') x).map (·.1) := hb
    unfold updS at hq2 hb2
    by_cases e : s' = s
    · subst e
      rw [if_pos rfl] at hq2 hb2
      have hq3 : (x, m') ∈ A.Q s' := by
        rcases qins_mem.1 hq2 with h8 | h8
        · exact h8
        · injection h8 with h8 _; exact absurd h8 hx
      refine ⟨s', m', hq3, ?_⟩
      rcases hb2 with h8 | h8
      · exact .inl h8
      · right
        obtain ⟨a, ha, rfl⟩ := List.mem_map.1 h8
        refine List.mem_map.2 ⟨a, ?_, rfl⟩
        have hnd : ((qins (A.Q s') j (o, k)).map (·.1)).Nodup := by
          rw [((qins_perm (A.Q s') j (o, k)).map _).nodup_iff, List.map_cons, List.nodup_cons]
          exact ⟨fun h7 => by obtain ⟨b, hb, e7⟩ := List.mem_map.1 h7; have e8 : b.1 = o := e7; exact hw ⟨s', b.2, by rw [← e8]; exact hb⟩, hok.qn s'⟩
        -- the same, less the asker
        have hfl : (qins (A.Q s') j (o, k)).filter (neO o) = A.Q s' := by
          have hall : (A.Q s').filter (neO o) = A.Q s' := List.filter_eq_self.2 (fun b hb => by
            unfold neO
            simp only [bne_iff_ne, ne_eq, decide_eq_true_eq]
            intro e7
            exact hw ⟨s', b.2, by rw [← e7]; exact hb⟩)
          unfold qins
          rw [List.filter_append, List.filter_cons_of_neg (by simp [neO])]
          rw [← List.filter_append, List.take_append_drop, hall]
        have hax : a.1 ≠ o := hu
        have haf : a ∈ ahead ((qins (A.Q s') j (o, k)).filter (neO o)) x := by
          unfold ahead at ha ⊢
          exact mem_takeWhile_filter ha (by unfold neO; simpa using hax)
        rw [hfl] at haf
        exact haf
    · rw [if_neg e] at hq2 hb2
      exact ⟨s', m', hq2, hb2⟩
  unfold AS.ask at h
  split at h
  · exact h
  · split at h
    · exact h
    · rename_i hw
      cases hk : A.H s o with
      | some k =>
        rw [hk] at h
        simp only at h
        split at h
        · exact h
        · split at h
          · exact hset _ h
          · exact hsetQ _ _ hw h
      | none =>
        rw [hk] at h
        simp only at h
        split at h
        · exact hset _ h
        · have h9 := hsetQ (A.Q s).length m hw
          have e9 : qins (A.Q s) (A.Q s).length (o, m) = A.Q s ++ [(o, m)] := by unfold qins; simp
          rw [e9] at h9
          exact h9 h
where
  mem_takeWhile_filter {p q : Int × Int → Bool} {l : List (Int × Int)} {a : Int × Int} (h : a ∈ l.takeWhile p) (hq : q a = true) : a ∈ (l.filter q).takeWhile p := by
    induction l with
    | nil => simp at h
    | cons b l ih =>
      by_cases hp : p b = true
      · rw [List.takeWhile_cons_of_pos hp] at h
        rcases List.mem_cons.1 h with rfl | h
        · rw [List.filter_cons_of_pos hq, List.takeWhile_cons_of_pos hp]; simp
        · by_cases hb : q b = true
          · rw [List.filter_cons_of_pos hb, List.takeWhile_cons_of_pos hp]
            exact List.mem_cons_of_mem _ (ih h)
          · rw [List.filter_cons_of_neg hb]
            exact ih h
      · rw [List.takeWhile_cons_of_neg hp] at h; cases h
/-- who is told nothing but 10 waits -/
theorem ask_waits {A : AS} {o : Int} {s : ByteArray} {m : Int} {x : Int} (h : (A.ask o s m).1.waits x) : A.waits x ∨ (x = o ∧ (A.ask o s m).2 = 10) := by
  have hsetQ : ∀ q k, (∀ b, b ∈ q → b ∈ A.Q s ∨ b = (o, k)) → (A.setQ s q).waits x → A.waits x ∨ x = o := fun q k hq h9 => by
    obtain ⟨s', m', hm⟩ := h9
    have hm2 : (x, m') ∈ updS A.Q s q s' := hm
    unfold updS at hm2
    split at hm2
    · rcases hq _ hm2 with h8 | h8
      · exact .inl ⟨s, m', h8⟩
      · injection h8 with h8 _; exact .inr h8
    · exact .inl ⟨s', m', hm2⟩
  unfold AS.ask at h ⊢
  split at h
  · exact .inl h
  · split at h
    · exact .inl h
    · cases hk : A.H s o with
      | some k =>
        rw [hk] at h
        simp only at h
        split at h
        · exact .inl h
        · split at h
          · exact .inl h
          · rename_i h1 h2 h3 h4
            rw [if_neg h1, if_neg h2]
            simp only
            rw [if_neg h3, if_neg h4]
            exact (hsetQ _ _ (fun b hb => qins_mem.1 hb) h).imp id (fun e => ⟨e, rfl⟩)
      | none =>
        rw [hk] at h
        simp only at h
        split at h
        · exact .inl h
        · rename_i h1 h2 h3
          rw [if_neg h1, if_neg h2]
          simp only
          rw [if_neg h3]
          exact (hsetQ _ m (fun b hb => by rwa [List.mem_append, List.mem_singleton] at hb) h).imp id (fun e => ⟨e, rfl⟩)

/-! who is at a queue's head is held up -/
def AS.Stuck (A : AS) : Prop := ∀ s a q, A.Q s = a :: q → ¬ GoesF (A.H s) a.1 a.2
theorem popF_stuck : ∀ (qs : List (Int × Int)) (h : Int → Option Int) {a : Int × Int} {q : List (Int × Int)}, (popF h qs).2.1 = a :: q → ¬ GoesF (popF h qs).1 a.1 a.2
  | [], h, a, q, e => by cases e
  | b :: qs, h, a, q, e => by
    by_cases hg : GoesF h b.1 b.2
    · rw [popF_yes hg] at e ⊢
      exact popF_stuck qs _ e
    · rw [popF_no hg] at e ⊢
      injection e with e _
      rw [← e]; exact hg
theorem tog_jn {a b x : Int} (ha : isM a = true) (hb : isM b = true) (h : tog (jn a b) x = true) : tog a x = true := by
  have hx : isM x = true := by unfold tog at h; simp at h; exact h.1.2
  rw [isM_iff] at ha hb hx
  rcases ha with rfl | rfl | rfl | rfl <;> rcases hb with rfl | rfl | rfl | rfl <;> rcases hx with rfl | rfl | rfl | rfl <;> first | rfl | (exact absurd h (by decide))
theorem AS.Stuck.freed {A : AS} (h : A.Stuck) (v : Int) : (A.freed v).Stuck := by
  intro s a q e
  unfold AS.freed at e ⊢
  simp only at e ⊢
  by_cases ht : A.touched v s
  · rw [if_pos ht] at e ⊢
    exact popF_stuck _ _ e
  · rw [if_neg ht] at e ⊢
    exact h s a q e
theorem AS.Stuck.ask {A : AS} (h : A.Stuck) (hok : A.Ok) (o : Int) (s : ByteArray) (m : Int) : (A.ask o s m).1.Stuck := by
  unfold AS.ask
  split
  · exact h
  · rename_i h1
    have him : isM m = true := by cases hm : isM m with | true => rfl | false => exact absurd (.inr hm) h1
    split
    · exact h
    · rename_i hw
      cases hk : A.H s o with
      | some k =>
        simp only
        split
        · exact h
        · split
          · intro s' a q e
            have e2 : A.Q s' = a :: q := e
            show ¬ GoesF (updS A.H s _ s') a.1 a.2
            unfold updS
            split
            · rename_i es
              subst es
              intro hg
              refine h s' a q e2 (fun u k' hk' hne => ?_)
              by_cases eu : u = o
              · subst eu
                have h9 := hg u (jn k m) (by unfold upd; rw [if_pos rfl]) hne
                rw [hk] at hk'
                injection hk' with hk'
                subst hk'
                exact tog_jn (hok.hm s' u k hk).1 him h9
              · exact hg u k' (by unfold upd; rw [if_neg eu]; exact hk') hne
            · exact h s' a q e2
          · rename_i hng
            intro s' a q e
            have e2 : updS A.Q s (qins (A.Q s) _ (o, jn k m)) s' = a :: q := e
            show ¬ GoesF (A.H s') a.1 a.2
            unfold updS at e2
            split at e2
            · rename_i es
              subst es
              cases hq : A.Q s' with
              | nil =>
                rw [hq] at e2
                simp only [List.findIdx_nil, qins, List.take_nil, List.drop_nil, List.nil_append] at e2
                injection e2 with e2 _
                subst e2
                exact hng
              | cons b qs =>
                rw [hq] at e2
                obtain ⟨j, hj⟩ : ∃ j, (b :: qs).findIdx (fun a => isFreeF (A.H s') a.1) = j := ⟨_, rfl⟩
                rw [hj] at e2
                cases j with
                | zero =>
                  simp only [qins, List.take_zero, List.nil_append] at e2
                  injection e2 with e2 _
                  subst e2
                  exact hng
                | succ j =>
                  simp only [qins, List.take_succ_cons, List.cons_append] at e2
                  injection e2 with e2 _
                  subst e2
                  exact h s' b qs hq
            · exact h s' a q e2
      | none =>
        simp only
        split
        · rename_i hq
          intro s' a q e
          have e2 : A.Q s' = a :: q := e
          show ¬ GoesF (updS A.H s _ s') a.1 a.2
          unfold updS
          split
          · rename_i es
            subst es
            rw [hq.1] at e2; cases e2
          · exact h s' a q e2
        · rename_i hng
          intro s' a q e
          have e2 : updS A.Q s (A.Q s ++ [(o, m)]) s' = a :: q := e
          show ¬ GoesF (A.H s') a.1 a.2
          unfold updS at e2
          split at e2
          · rename_i es
            subst es
            cases hq : A.Q s' with
            | nil =>
              rw [hq] at e2
              injection e2 with e2 _
              subst e2
              exact fun hg => hng ⟨hq, hg⟩
            | cons b qs =>
              rw [hq] at e2
              injection e2 with e2 _
              subst e2
              exact h s' b qs hq
          · exact h s' a q e2
theorem AS.Stuck.none : AS.none.Stuck := fun s a q e => by cases e

/-- all that hold or wait are of a list -/
structure AS.Of (A : AS) (L : List Int) : Prop where
  q : ∀ s u m, (u, m) ∈ A.Q s → u ∈ L
  h : ∀ s u k, A.H s u = some k → u ∈ L
theorem AS.Of.none (L : List Int) : AS.none.Of L := ⟨fun s u m h => (by cases h), fun s u k h => (by cases h)⟩
theorem AS.Of.mono {A : AS} {L L' : List Int} (h : A.Of L) (hl : ∀ x ∈ L, x ∈ L') : A.Of L' := ⟨fun s u m hq => hl _ (h.q s u m hq), fun s u k hk => hl _ (h.h s u k hk)⟩
theorem AS.Of.freed {A : AS} {L : List Int} (h : A.Of L) (v : Int) : (A.freed v).Of L :=
  ⟨fun s u m hq => h.q s u m (freed_Q hq).1, fun s u k hk => (freed_H hk).elim (fun h9 => h.h s u k h9.2) (fun h9 => h.q s u k h9.2)⟩
theorem AS.Of.ask {A : AS} {L : List Int} (h : A.Of L) {o : Int} (ho : o ∈ L) (s : ByteArray) (m : Int) : (A.ask o s m).1.Of L := by
  have hset : ∀ k, (A.setH s (upd (A.H s) o (some k))).Of L := fun k => by
    refine ⟨h.q, fun s' u k' hk => ?_⟩
    have hk2 : updS A.H s (upd (A.H s) o (some k)) s' u = some k' := hk
    unfold updS at hk2
    by_cases e : s' = s
    · rw [if_pos e] at hk2
      change (if u = o then some k else A.H s u) = some k' at hk2
      by_cases eu : u = o
      · rw [eu]; exact ho
      · rw [if_neg eu] at hk2; exact h.h s u k' hk2
    · rw [if_neg e] at hk2; exact h.h s' u k' hk2
  have hsetQ : ∀ q k, (∀ b, b ∈ q → b ∈ A.Q s ∨ b = (o, k)) → (A.setQ s q).Of L := fun q k hq => by
    refine ⟨fun s' u k' hk => ?_, h.h⟩
    have hk2 : (u, k') ∈ updS A.Q s q s' := hk
    unfold updS at hk2
    split at hk2
    · rcases hq _ hk2 with h8 | h8
      · exact h.q s u k' h8
      · injection h8 with h8 _; rw [h8]; exact ho
    · exact h.q s' u k' hk2
  unfold AS.ask
  split
  · exact h
  · split
    · exact h
    · cases hk : A.H s o with
      | some k =>
        simp only
        split
        · exact h
        · split
          · exact hset _
          · exact hsetQ _ _ (fun b hb => qins_mem.1 hb)
      | none =>
        simp only
        split
        · exact hset _
        · exact hsetQ _ m (fun b hb => by rwa [List.mem_append, List.mem_singleton] at hb)

/-- one that waits, and waits for none that waits -/
theorem sink {R : Int → Int → Prop} {W : Int → Prop} {L : List Int} (ha : Acyc R) (hw : ∀ x, W x → x ∈ L) {x0 : Int} (h0 : W x0) : ∃ x, W x ∧ ∀ u, R x u → ¬ W u := by
  apply Classical.byContradiction
  intro hno
  have hnx : ∀ x, W x → ∃ u, R x u ∧ W u := fun x hx => by
    apply Classical.byContradiction
    intro h9
    exact hno ⟨x, hx, fun u hr hwu => h9 ⟨u, hr, hwu⟩⟩
  have key : ∀ k : Nat, ∃ (x : Int) (M : List Int), W x ∧ M.Nodup ∧ M.length = k ∧ ∀ y ∈ M, W y ∧ Tc R y x := by
    intro k
    induction k with
    | zero => exact ⟨x0, [], h0, List.nodup_nil, rfl, fun y hy => by cases hy⟩
    | succ k ih =>
      obtain ⟨x, M, hx, hn, hl, hM⟩ := ih
      obtain ⟨u, hr, hu⟩ := hnx x hx
      refine ⟨u, x :: M, hu, ?_, by simp [hl], fun y hy => ?_⟩
      · rw [List.nodup_cons]
        exact ⟨fun hm => ha x (hM x hm).2, hn⟩
      · rcases List.mem_cons.1 hy with rfl | hy
        · exact ⟨hx, .one hr⟩
        · exact ⟨(hM y hy).1, (hM y hy).2.trans (.one hr)⟩
  obtain ⟨x, M, -, hn, hl, hM⟩ := key (L.length + 1)
  have := nodup_len hn (fun y hy => hw y (hM y hy).1)
  omega

/-- who waits waits for somebody -/
theorem waits_for {A : AS} (h : A.Stuck) {o : Int} (hw : A.waits o) : ∃ u, A.blocks o u := by
  obtain ⟨s, m, hq⟩ := hw
  cases hQ : A.Q s with
  | nil => rw [hQ] at hq; cases hq
  | cons a q =>
    by_cases e : a.1 = o
    · have hng := h s a q hQ
      have : ∃ u k, A.H s u = some k ∧ u ≠ a.1 ∧ tog k a.2 = false := by
        apply Classical.byContradiction
        intro h9
        apply hng
        intro u k hk hne
        cases ht : tog k a.2 with
        | true => rfl
        | false => exact absurd ⟨u, k, hk, hne, ht⟩ h9
      obtain ⟨u, k, hk, hne, ht⟩ := this
      refine ⟨u, s, a.2, by rw [hQ, ← e]; simp, .inl ⟨by rw [← e]; exact hne, k, hk, ht⟩⟩
    · refine ⟨a.1, s, m, hq, .inr ?_⟩
      rw [hQ]
      unfold ahead
      rw [List.takeWhile_cons_of_pos (by simpa using e)]
      simp

/-- a table without rings, of the owners of L -/
structure EndI (A : AS) (L : List Int) : Prop where
  ok : A.Ok
  st : A.Stuck
  of : A.Of L
  ac : Acyc A.blocks
/-- a table whose rings all go through one -/
structure EndV (A : AS) (L : List Int) (o : Int) : Prop where
  ok : A.Ok
  st : A.Stuck
  of : A.Of L
  ac : Acyc (but A.blocks o)
section
variable {A A0 : AS} {L : List Int} {o v : Int}
theorem EndI.none (L : List Int) : EndI AS.none L := ⟨AS.Ok.empty, AS.Stuck.none, AS.Of.none L, fun x h => by
  obtain ⟨s, m, hq⟩ := tc_waits h
  cases hq⟩
theorem EndI.mono {L' : List Int} (h : EndI A L) (hl : ∀ x ∈ L, x ∈ L') : EndI A L' := ⟨h.ok, h.st, h.of.mono hl, h.ac⟩
theorem EndI.freed (h : EndI A L) (v : Int) : EndI (A.freed v) L := ⟨h.ok.freed v, h.st.freed v, h.of.freed v, h.ac.mono fun _ _ hb => (freed_blocks h.ok hb).1⟩
theorem EndI.ask (h : EndI A L) {o : Int} (ho : o ∈ L) (s : ByteArray) (m : Int) : EndV (A.ask o s m).1 L o ∧ ((A.ask o s m).2 ≠ 10 → EndI (A.ask o s m).1 L) := by
  have hv : EndV (A.ask o s m).1 L o := ⟨h.ok.ask o s m, h.st.ask h.ok o s m, h.of.ask ho s m, h.ac.mono fun x u hb => ask_blocks h.ok hb.1 hb.2.1 hb.2.2⟩
  refine ⟨hv, fun hne => ⟨hv.ok, hv.st, hv.of, fun x hx => ?_⟩⟩
  by_cases hw : A.waits o
  · have e : A.ask o s m = (A, 1) ∨ A.ask o s m = (A, 18) := by
      unfold AS.ask
      split
      · exact .inl rfl
      · exact .inr rfl
    have e1 : (A.ask o s m).1 = A := by rcases e with e | e <;> rw [e]
    rw [e1] at hx
    exact h.ac x hx
  · have hr := ring_o hv.ac hx
    rcases ask_waits (tc_waits hr) with h9 | ⟨-, h9⟩
    · exact hw h9
    · exact hne h9
theorem EndV.done (h : EndV A L o) (hn : ¬ A.Reach o o) : EndI A L := ⟨h.ok, h.st, h.of, fun x hx => hn (reach_tc.2 (ring_o h.ac hx))⟩
theorem EndV.freed (h : EndV A L o) (v : Int) : EndV (A.freed v) L o := ⟨h.ok.freed v, h.st.freed v, h.of.freed v, h.ac.mono fun _ _ hb => ⟨(freed_blocks h.ok hb.1).1, hb.2⟩⟩
theorem of_waits (h : A.Of L) {x : Int} (hw : A.waits x) : x ∈ L := by obtain ⟨s, m, hq⟩ := hw; exact h.q s x m hq

/-- victims so far -/
def Gone (A : AS) (L F : List Int) : Prop := F.Nodup ∧ ∀ x ∈ F, x ∈ L ∧ ¬ A.waits x
theorem gone_nil : Gone A L [] := ⟨List.nodup_nil, fun x h => by cases h⟩
theorem victim_waits (h : A.Victim o v true) : A.waits v := by
  rcases h with ⟨h, -⟩ | ⟨-, -, -, h, -⟩
  · cases h
  · exact tc_waits (reach_tc.1 h)
theorem Gone.len {F : List Int} (h : Gone A L F) : F.length ≤ L.length := nodup_len h.1 fun x hx => (h.2 x hx).1
/-- one that waits is none of them: there is room for one more -/
theorem Gone.room {F : List Int} (h : Gone A L F) (hof : A.Of L) {x : Int} (hw : A.waits x) : F.length < L.length := by
  have hx : x ∉ F := fun hf => (h.2 x hf).2 hw
  have h9 := nodup_len (a := x :: F) (b := L) (List.nodup_cons.2 ⟨hx, h.1⟩) (fun y hy => by
    rcases List.mem_cons.1 hy with rfl | hy
    · exact of_waits hof hw
    · exact (h.2 y hy).1)
  simp only [List.length_cons] at h9
  omega
theorem Gone.freed {F : List Int} (h : Gone A L F) (hof : A.Of L) (hw : A.waits v) : Gone (A.freed v) L (v :: F) := by
  refine ⟨List.nodup_cons.2 ⟨fun hf => (h.2 v hf).2 hw, h.1⟩, fun x hx => ?_⟩
  rcases List.mem_cons.1 hx with rfl | hx
  · exact ⟨of_waits hof hw, fun h9 => (freed_waits h9).2 rfl⟩
  · exact ⟨(h.2 x hx).1, fun h9 => (h.2 x hx).2 (freed_waits h9).1⟩

/-- within a round: the first i are done -/
structure RndI (A0 A : AS) (L : List Int) (i : Nat) : Prop where
  inv : EndI A L
  bl : ∀ x u, A.blocks x u → A0.blocks x u
  wt : ∀ x, A.waits x → A0.waits x
  fr : ∀ (j : Nat) (x : Int), j < i → L[j]? = some x → ¬ A0.waits x → ∀ s, A.H s x = none
theorem RndI.start (h : EndI A L) : RndI A A L 0 := ⟨h, fun _ _ h => h, fun _ h => h, fun j x hj => absurd hj (Nat.not_lt_zero _)⟩
theorem RndI.skip {i : Nat} (h : RndI A0 A L i) {x : Int} (hx : L[i]? = some x) (hw : A.waits x) : RndI A0 A L (i + 1) := by
  refine ⟨h.inv, h.bl, h.wt, fun j y hj hy hn => ?_⟩
  by_cases e : j = i
  · subst e
    rw [hx] at hy
    injection hy with hy
    subst hy
    exact absurd (h.wt _ hw) hn
  · exact h.fr j y (by omega) hy hn
theorem RndI.free {i : Nat} (h : RndI A0 A L i) {x : Int} (hx : L[i]? = some x) : RndI A0 (A.freed x) L (i + 1) := by
  refine ⟨h.inv.freed x, fun y u hb => h.bl y u (freed_blocks h.inv.ok hb).1, fun y hy => h.wt y (freed_waits hy).1, fun j y hj hy hn s => ?_⟩
  cases hk : (A.freed x).H s y with
  | none => rfl
  | some k =>
    exfalso
    rcases freed_H hk with ⟨h1, h2⟩ | ⟨h1, h2⟩
    · by_cases e : j = i
      · subst e
        rw [hx] at hy
        injection hy with hy
        exact h1 hy.symm
      · rw [h.fr j y (by omega) hy hn s] at h2; cases h2
    · exact hn (h.wt y ⟨s, k, h2⟩)
/-- behind a round -/
theorem RndI.last (h : RndI A0 A L L.length) {x : Int} (hx : x ∈ L) (hn : ¬ A0.waits x) (s : ByteArray) : A.H s x = none := by
  obtain ⟨j, hj, rfl⟩ := List.getElem_of_mem hx
  exact h.fr j _ hj (List.getElem?_eq_getElem hj) hn s
/-- the rounds so far: of so many nobody waits any more, or nobody at all -/
def OutI (A : AS) (L : List Int) (r : Nat) : Prop := EndI A L ∧ ((∀ x, ¬ A.waits x) ∨ ∃ F, Gone A L F ∧ F.length = r)
theorem OutI.start (h : EndI A L) : OutI A L 0 := ⟨h, .inr ⟨[], gone_nil, rfl⟩⟩
theorem OutI.step {r : Nat} (h : OutI A0 L r) (k : RndI A0 A L L.length) : OutI A L (r + 1) := by
  refine ⟨k.inv, ?_⟩
  by_cases hnw : ∀ x, ¬ A0.waits x
  · exact .inl fun x hx => hnw x (k.wt x hx)
  · rcases h.2 with h9 | ⟨F, hF, hl⟩
    · exact absurd h9 hnw
    · obtain ⟨x0, hx0⟩ : ∃ x, A0.waits x := Classical.byContradiction fun h9 => hnw fun x hx => h9 ⟨x, hx⟩
      obtain ⟨o, ho, hsink⟩ := sink (W := A0.waits) h.1.ac (fun x hx => of_waits h.1.of hx) hx0
      have hno : ¬ A.waits o := fun hw => by
        obtain ⟨u, hb⟩ := waits_for k.inv.st hw
        have hu := hsink u (k.bl o u hb)
        obtain ⟨s, m, hq, hb2⟩ := hb
        rcases hb2 with ⟨-, k', hk, -⟩ | hb2
        · rw [k.last (k.inv.of.h s u k' hk) hu s] at hk; cases hk
        · obtain ⟨a, ha, rfl⟩ := List.mem_map.1 hb2
          exact hu (k.wt a.1 ⟨s, a.2, (List.takeWhile_sublist _).mem ha⟩)
      refine .inr ⟨o :: F, ⟨List.nodup_cons.2 ⟨fun hf => (hF.2 o hf).2 ho, hF.1⟩, fun x hx => ?_⟩, by simp [hl]⟩
      rcases List.mem_cons.1 hx with rfl | hx
      · exact ⟨of_waits h.1.of ho, hno⟩
      · exact ⟨(hF.2 x hx).1, fun h9 => (hF.2 x hx).2 (k.wt x h9)⟩
theorem OutI.last (h : OutI A L L.length) (x : Int) : ¬ A.waits x := by
  intro hw
  rcases h.2 with h9 | ⟨F, hF, hl⟩
  · exact h9 x hw
  · have := hF.room h.1.of hw
    omega
/-- how it ends: nobody waits, nobody holds -/
theorem ends_all (h : OutI A0 L L.length) (k : RndI A0 A L L.length) (x : Int) (hx : x ∈ L) : ¬ A.waits x ∧ ∀ s, A.H s x = none :=
  ⟨fun hw => h.last x (k.wt x hw), k.last hx (h.last x)⟩
end
end Mun
