/-
  Layer 15 (view), plain: events of three writers follow one another.
-/
import Derived.Test.YtkolnecahlkndaaWb
import Derived.Test.YtkolnecahlkndaaUb
import Derived.Test.YtkolnecahlkndaaUd
namespace Go.Proofs.Ytkolnecahlkndaa
open Go.RowKit
set_option linter.unusedVariables false
set_option linter.unusedSimpArgs false

/-- An event that may stand anywhere. -/
structure Ev.good (e : Ev) : Prop where
  right : e.right = 0
  wr : 0 ≤ e.wr ∧ e.wr < 3
  kd : 1 ≤ e.kd ∧ e.kd ≤ 4
  nd : e.nd = 0
  sq : 1 ≤ e.sq ∧ e.sq ≤ 60
  tm : 1 ≤ e.tm ∧ e.tm ≤ 240
  key : e.key.length ≤ 1
  text : e.text.length ≤ 1
theorem Ev.good.fit {e : Ev} (h : e.good) : e.fit := ⟨h.wr.1, h.kd.1, fun _ => by have := h.nd; omega⟩
theorem Ev.good.low {e : Ev} (h : e.good) : e.low := by have := h.wr; unfold Ev.low; omega

theorem fits_go : ∀ (S : List Ev) (f : Fo), (∀ e ∈ S, e.good) → Up1 S → (∀ e ∈ S, ¬ cmpS e.tm e.wr f.tm f.wr ≤ 0) → (∀ u : Int, ∀ q, ∀ h : q < (S.filter fun e => decide (e.wr = u)).length, ((S.filter fun e => decide (e.wr = u))[q]).sq = vget f.vec u + q + 1) → f.fits S
  | [], _, _, _, _, _ => trivial
  | e :: S, f, hg, hu, ho, hq => by
    have he := hg e (List.mem_cons_self ..)
    have h0 := hq e.wr 0 (by simp)
    have e0 : ((e :: S).filter fun x => decide (x.wr = e.wr)) = e :: S.filter fun x => decide (x.wr = e.wr) := by simp
    simp only [e0, List.getElem_cons_zero] at h0
    refine ⟨?_, fits_go S (f.add e) (fun x hx => hg x (List.mem_cons_of_mem _ hx)) (List.pairwise_cons.1 hu).2 (fun x hx => ?_) (fun u q h => ?_)⟩
    · have h1 := he.right
      have h2 := ho e (List.mem_cons_self ..)
      have h3 : e.sq = (vget f.vec e.wr + 1) % 18446744073709551616 := by
        have := he.sq
        rw [Nat.mod_eq_of_lt (by omega)]
        omega
      unfold Fo.step
      rw [if_neg (fun h => h h1), if_neg h2, if_neg (fun h => h h3)]
    · have h1 := (List.pairwise_cons.1 hu).1 x hx
      have h2 := (ky_lt he.low (hg x (List.mem_cons_of_mem _ hx)).low).2 h1
      have e1 : (f.add e).tm = e.tm := rfl
      have e2 : (f.add e).wr = e.wr := rfl
      rw [e1, e2]
      rw [cmpS_lt] at h2
      rw [cmpS_le]
      omega
    · have e1 : (f.add e).vec = vwith f.vec e.wr e.sq := rfl
      have := he.wr
      rw [e1, vwith_get _ _ _ (by omega)]
      by_cases hue : u = e.wr
      · subst hue
        rw [if_pos rfl]
        have h1 := hq e.wr (q + 1) (by rw [e0]; simpa using h)
        simp only [e0, List.getElem_cons_succ] at h1
        omega
      · rw [if_neg hue]
        have e2 : ((e :: S).filter fun x => decide (x.wr = u)) = S.filter fun x => decide (x.wr = u) := by
          exact List.filter_cons_of_neg (by simpa using fun h : e.wr = u => hue h.symm)
        have h1 := hq u q (by rw [e2]; exact h)
        rw [← h1]
        simp only [e2]

/-- Three lists, as the reference makes them. -/
structure Three (g : Hl) (outs : List El) : Prop where
  len : outs.length = 3
  feed : ∀ w (h : w < outs.length), ∃ last, last ≤ 240 ∧ Feed g w outs[w].es last ∧ outs[w].es.length ≤ 60

theorem Three.get {g : Hl} {outs : List El} (h : Three g outs) : ∃ x y z, outs = [x, y, z] ∧ (∃ l, l ≤ 240 ∧ Feed g 0 x.es l ∧ x.es.length ≤ 60) ∧ (∃ l, l ≤ 240 ∧ Feed g 1 y.es l ∧ y.es.length ≤ 60) ∧ (∃ l, l ≤ 240 ∧ Feed g 2 z.es l ∧ z.es.length ≤ 60) := by
  obtain ⟨h1, h2⟩ := h
  match outs, h1 with
  | [x, y, z], _ => exact ⟨x, y, z, rfl, h2 0 (by simp), h2 1 (by simp), h2 2 (by simp)⟩

theorem Feed.good {g : Hl} {w l : Nat} {es : List Ev} (h : Feed g w es l) (hw : w < 3) (hl : l ≤ 240) (hn : es.length ≤ 60) : ∀ e ∈ es, e.good := by
  intro e he
  have hf := h.evs e he
  obtain ⟨q, hq, rfl⟩ := List.mem_iff_getElem.1 he
  have hs := h.sq q hq
  have h1 := hf.wr
  have h2 := hf.tm
  have h3 := hf.kd
  have h4 := hf.key
  have h5 := hf.text
  have h6 := hf.nd
  refine ⟨?_, by omega, h3, h6, by omega, by omega, by omega, by omega⟩
  unfold Ev.right
  rw [if_neg (by omega), if_neg (by omega), if_neg (by omega)]
theorem Feed.keys {g : Hl} {w l : Nat} {es : List Ev} (h : Feed g w es l) : Up1 es := by
  refine (List.Pairwise.imp_of_mem (fun {a b} ha hb hab => ?_) h.up)
  have h1 := (h.evs a ha).wr
  have h2 := (h.evs b hb).wr
  unfold Ev.ky
  rw [h1, h2]
  omega
theorem Feed.across {g g' : Hl} {w v l m : Nat} {es fs : List Ev} (h : Feed g w es l) (h' : Feed g' v fs m) (hw : w < 64) (hv : v < 64) (hne : w ≠ v) : ∀ a ∈ es, ∀ b ∈ fs, a.ky ≠ b.ky := by
  intro a ha b hb
  have h1 := (h.evs a ha).wr
  have h2 := (h'.evs b hb).wr
  unfold Ev.ky
  rw [h1, h2]
  omega
theorem Feed.all {g : Hl} {w l : Nat} {es : List Ev} (h : Feed g w es l) (u : Int) : (es.filter fun e => decide (e.wr = u)) = if (w : Int) = u then es else [] := by
  split
  · rename_i e
    exact List.filter_eq_self.2 fun x hx => by simp [(h.evs x hx).wr, e]
  · rename_i e
    exact List.filter_eq_nil_iff.2 fun x hx => by simp [(h.evs x hx).wr, e]

theorem Three.good {g : Hl} {outs : List El} (h : Three g outs) : ∀ e ∈ outs.flatMap El.es, e.good := by
  obtain ⟨x, y, z, rfl, ⟨_, h1, h2, h3⟩, ⟨_, h4, h5, h6⟩, ⟨_, h7, h8, h9⟩⟩ := h.get
  intro e he
  simp only [List.flatMap_cons, List.flatMap_nil, List.append_nil, List.mem_append] at he
  rcases he with he | he | he
  · exact h2.good (by decide) h1 h3 e he
  · exact h5.good (by decide) h4 h6 e he
  · exact h8.good (by decide) h7 h9 e he
theorem Three.few {g : Hl} {outs : List El} (h : Three g outs) : (outs.flatMap El.es).length ≤ 180 := by
  obtain ⟨x, y, z, rfl, ⟨_, h1, h2, h3⟩, ⟨_, h4, h5, h6⟩, ⟨_, h7, h8, h9⟩⟩ := h.get
  simp only [List.flatMap_cons, List.flatMap_nil, List.append_nil, List.length_append]
  omega
theorem Three.apart {g : Hl} {outs : List El} (h : Three g outs) : (outs.flatMap El.es).Pairwise fun a b => a.ky ≠ b.ky := by
  obtain ⟨x, y, z, rfl, ⟨_, h1, h2, h3⟩, ⟨_, h4, h5, h6⟩, ⟨_, h7, h8, h9⟩⟩ := h.get
  simp only [List.flatMap_cons, List.flatMap_nil, List.append_nil]
  have hx := h2.across h5 (by decide) (by decide) (by decide)
  have hy := h2.across h8 (by decide) (by decide) (by decide)
  have hz := h5.across h8 (by decide) (by decide) (by decide)
  refine List.pairwise_append.2 ⟨h2.keys.imp fun {a b} h => Nat.ne_of_lt h, List.pairwise_append.2 ⟨h5.keys.imp fun {a b} h => Nat.ne_of_lt h, h8.keys.imp fun {a b} h => Nat.ne_of_lt h, hz⟩, fun a ha b hb => ?_⟩
  rcases List.mem_append.1 hb with hb | hb
  · exact hx a ha b hb
  · exact hy a ha b hb
theorem Three.each {g : Hl} {outs : List El} (h : Three g outs) (u : Int) : Up1 ((outs.flatMap El.es).filter fun e => decide (e.wr = u)) ∧ ∀ q (hq : q < ((outs.flatMap El.es).filter fun e => decide (e.wr = u)).length), ((outs.flatMap El.es).filter fun e => decide (e.wr = u))[q].sq = q + 1 := by
  obtain ⟨x, y, z, rfl, ⟨_, h1, h2, h3⟩, ⟨_, h4, h5, h6⟩, ⟨_, h7, h8, h9⟩⟩ := h.get
  simp only [List.flatMap_cons, List.flatMap_nil, List.append_nil, List.filter_append, h2.all, h5.all, h8.all]
  by_cases e0 : ((0 : Nat) : Int) = u
  · subst e0
    simp only [if_true, if_neg (show ¬ ((1 : Nat) : Int) = ((0 : Nat) : Int) by decide), if_neg (show ¬ ((2 : Nat) : Int) = ((0 : Nat) : Int) by decide), List.append_nil]
    exact ⟨h2.keys, h2.sq⟩
  · by_cases e1 : ((1 : Nat) : Int) = u
    · subst e1
      simp only [if_true, if_neg (show ¬ ((0 : Nat) : Int) = ((1 : Nat) : Int) by decide), if_neg (show ¬ ((2 : Nat) : Int) = ((1 : Nat) : Int) by decide), List.append_nil, List.nil_append]
      exact ⟨h5.keys, h5.sq⟩
    · by_cases e2 : ((2 : Nat) : Int) = u
      · subst e2
        simp only [if_true, if_neg (show ¬ ((0 : Nat) : Int) = ((2 : Nat) : Int) by decide), if_neg (show ¬ ((1 : Nat) : Int) = ((2 : Nat) : Int) by decide), List.append_nil, List.nil_append]
        exact ⟨h8.keys, h8.sq⟩
      · simp only [if_neg e0, if_neg e1, if_neg e2, List.append_nil]
        exact ⟨List.Pairwise.nil, fun q hq => absurd hq (Nat.not_lt_zero _)⟩

/-- All of them in order. -/
structure Tale (T : List Ev) : Prop where
  good : ∀ e ∈ T, e.good
  up : Up1 T
  few : T.length ≤ 180
  fits : (foNew 3).fits T
theorem Three.tale {g : Hl} {outs : List El} {T : List Ev} (h : Three g outs) (hp : T.Perm (outs.flatMap El.es)) (hu : UpE T) : Tale T := by
  have hg : ∀ e ∈ T, e.good := fun e he => h.good e (hp.mem_iff.1 he)
  have ha : T.Pairwise fun a b => a.ky ≠ b.ky := (hp.pairwise_iff (fun {x y} hxy => Ne.symm hxy)).2 h.apart
  have hup : Up1 T := (List.Pairwise.and hu ha).imp fun {a b} h => by omega
  refine ⟨hg, hup, by rw [hp.length_eq]; exact h.few, ?_⟩
  refine fits_go T (foNew 3) hg hup (fun e he => ?_) (fun u q hq => ?_)
  · have h1 := (hg e he).tm
    have e1 : (foNew 3).tm = 0 := rfl
    rw [cmpS_le, e1]
    omega
  · obtain ⟨h1, h2⟩ := h.each u
    have hpf := hp.filter fun e => decide (e.wr = u)
    have heq : (T.filter fun e => decide (e.wr = u)) = (outs.flatMap El.es).filter fun e => decide (e.wr = u) :=
      hpf.eq_of_pairwise (le := fun a b : Ev => a.ky < b.ky) (fun a b ha hb h1 h2 => by omega) (hup.filter _) h1
    have e1 : vget (foNew 3).vec u = 0 := by unfold vget; simp [foNew]
    rw [e1]
    have h3 := h2 q (by rw [← heq]; exact hq)
    simp only [heq]
    omega

theorem Tale.fits_at {T : List Ev} (h : Tale T) (k : Nat) : (foNew 3).fits (T.take k) ∧ ((foNew 3).adds (T.take k)).fits (T.drop k) := by
  have h1 := h.fits
  rw [← List.take_append_drop k T, fits_append] at h1
  exact h1
theorem adds_tm {f : Fo} : ∀ (l : List Ev) (e : Ev), (f.adds (l ++ [e])).tm = e.tm ∧ (f.adds (l ++ [e])).wr = e.wr := by
  intro l e
  rw [adds_append]
  exact ⟨rfl, rfl⟩
theorem Tale.last {T : List Ev} {k : Nat} (hk : k ≤ T.length) : (k = 0 ∧ ((foNew 3).adds (T.take k)).tm = 0 ∧ ((foNew 3).adds (T.take k)).wr = 0) ∨ ∃ h : k - 1 < T.length, 0 < k ∧ ((foNew 3).adds (T.take k)).tm = T[k - 1].tm ∧ ((foNew 3).adds (T.take k)).wr = T[k - 1].wr := by
  rcases Nat.eq_zero_or_pos k with rfl | h
  · exact .inl ⟨rfl, rfl, rfl⟩
  · obtain ⟨m, rfl⟩ : ∃ m, k = m + 1 := ⟨k - 1, by omega⟩
    refine .inr ⟨by omega, h, ?_⟩
    simp only [Nat.add_sub_cancel]
    rw [List.take_succ_eq_append_getElem (by omega)]
    exact adds_tm _ _

/-- What is behind a place: in a list that rises those that are dropped are all ahead. -/
theorem drop_filter {t : Nat} {wr : Int} : ∀ {S : List Ev}, (∀ e ∈ S, e.low) → Up1 S → S.dropWhile (upto t wr) = S.filter fun e => decide (cmpS t wr e.tm e.wr < 0)
  | [], _, _ => rfl
  | e :: S, hl, hu => by
    have hs : ∀ x : Ev, upto t wr x = !decide (cmpS t wr x.tm x.wr < 0) := by
      intro x
      unfold upto
      rw [← decide_not]
      apply decide_eq_decide.2
      rw [cmpS_lt, cmpS_le]
      omega
    by_cases h : upto t wr e = true
    · have h2 : decide (cmpS t wr e.tm e.wr < 0) = false := by rw [hs] at h; simpa using h
      rw [List.dropWhile_cons_of_pos h, drop_filter (fun x hx => hl x (List.mem_cons_of_mem _ hx)) (List.pairwise_cons.1 hu).2, List.filter_cons_of_neg (by rw [h2]; simp)]
    · have h2 : decide (cmpS t wr e.tm e.wr < 0) = true := by rw [hs] at h; simpa using h
      rw [List.dropWhile_cons_of_neg h]
      refine (List.filter_eq_self.2 fun x hx => ?_).symm
      rcases List.mem_cons.1 hx with rfl | hx
      · exact h2
      · have h3 := (List.pairwise_cons.1 hu).1 x hx
        have h4 := (ky_lt (hl e (List.mem_cons_self ..)) (hl x (List.mem_cons_of_mem _ hx))).2 h3
        have h5 := of_decide_eq_true h2
        apply decide_eq_true
        rw [cmpS_lt] at h4 h5 ⊢
        omega
theorem Tale.drop {T : List Ev} (h : Tale T) (k : Nat) : Up1 (T.drop k) ∧ (T.drop k).length ≤ 180 ∧ ∀ e ∈ T.drop k, e.good := by
  refine ⟨h.up.sublist (List.drop_sublist k T), ?_, fun e he => h.good e ((List.drop_sublist k T).subset he)⟩
  have := h.few
  rw [List.length_drop]
  omega
end Go.Proofs.Ytkolnecahlkndaa
