/-
  Layer 5 (sheet): Scan, Begin, Add, Read, Mend.
-/
import Derived.Test.YtcfbmmlgdopbmaaDf
import Derived.Test.YtcfbmmlgdopbmaaQl
import Derived.Test.YtcfbmmlgdopbmaaQi
namespace Go.Proofs.Ytcfbmmlgdopbmaa
open Go.RowKit
set_option linter.unusedVariables false
set_option linter.unusedSimpArgs false

theorem ag_sheet : AggOf Try.prog 32 6 := ⟨_, Try.underlying32, rfl, by kernel_rfl⟩

structure Sh where
  t : Ti
  l : List (List UInt8)
  good : Nat
  e : Int
/-- A row of rows of bytes, the pool's. -/
def LB (g : Hl) (a : Option Addr) (n c : Nat) (ls : List (List UInt8)) : Prop := ∃ ps : List (Value × List UInt8), ps.map Prod.snd = ls ∧ ps.length = n ∧ Rws g ps ∧ Pr 1 g (.slice a n c) n (ps.map Prod.fst)
theorem LB.mono {g g' : Hl} {a : Option Addr} {n c : Nat} {ls : List (List UInt8)} (h : LB g a n c ls) (hg : Hl.le g g') : LB g' a n c ls := by
  obtain ⟨ps, h1, h2, h3, h4⟩ := h
  exact ⟨ps, h1, h2, h3.mono hg, h4.mono hg⟩
theorem LB.len {g : Hl} {a : Option Addr} {n c : Nat} {ls : List (List UInt8)} (h : LB g a n c ls) : ls.length = n := by
  obtain ⟨ps, h1, h2, h3, h4⟩ := h
  rw [← h1]; simpa using h2
def Ti.cs (t : Ti) : List Value := [.int .u8 t.kind.toNat, .int .u64 t.a, .int .u64 t.b]
/-- A sheet's cells. -/
def Sh.cs (s : Sh) (a : Option Addr) (c : Nat) : List Value := [.int .u8 s.t.kind.toNat, .int .u64 s.t.a, .int .u64 s.t.b, .slice a s.l.length c, .int .i64 s.good, .int .i64 s.e]
def noSh : Value := .agg #[.int .u8 0, .int .u64 0, .int .u64 0, .slice none 0 0, .int .i64 0, .int .i64 0]

def allC (l : List UInt8) : List (List UInt8) × Nat × Int := allB 2097152 (l.length + 1) l
def scanB (l : List UInt8) : Except Int Sh :=
  match openB l 2097152 with
  | .error e => .error e
  | .ok (k, v) => match rdTitle ((l.drop k).take v) with
    | .error e => .error e
    | .ok t => .ok ⟨t, (allC (l.drop (k + v + 4))).1, k + v + 4 + (allC (l.drop (k + v + 4))).2.1, (allC (l.drop (k + v + 4))).2.2⟩

set_option maxHeartbeats 1600000 in
set_option maxRecDepth 100000 in
theorem scan_any {R : Ending → World → Prop} {W w : World} {g : Hl} {H : List HP} {a : Option Addr} {n c : Nat} {l : List UInt8} (hs : Sat W w g H) (hp : Pr 1 g (.slice a n c) n (bs l)) (hl : l.length = n) (hn : n ≤ 1000000000)
    (hOK : ∀ s a' c' w' g', scanB l = .ok s → s.t.ok → (s.e = 0 ∨ s.e = 4 ∨ s.e = 5 ∨ s.e = 6) → s.good ≤ n → Hl.le g g' → LB g' a' s.l.length c' s.l → Sat W w' g' H → R (.returned (.tuple #[.agg (s.cs a' c').toArray, .int .i64 0])) w')
    (hE : ∀ e w' g', scanB l = .error e → e ≠ 0 → Hl.le g g' → Sat W w' g' H → R (.returned (.tuple #[noSh, .int .i64 e])) w') :
    Calls Try.prog 25 #[.slice a n c] w R := by
  have HOK := Lib.hid hOK
  have HE := Lib.hid hE
  clear hOK hE
  refine C.calls (args := [.slice a n c]) Try.func25 rfl rfl rfl ?_
  refine go ?_
  refine E.al hs ?_
  intro b1 w1 hs
  refine go ?_
  refine E.callf Try.func45 rfl ?_
  refine open_any 2097152 rfl (by decide) hs hp hl (by omega) ?_ ?_
  rotate_left
  · intro e w2 ho he hs
    have hne : e ≠ 0 := by omega
    have hd : (!decide (e = 0)) = true := by simp [hne]
    refine go ?_
    refine C.cond rfl (fun _ => ?_) (fun h => by rw [hd] at h; cases h)
    refine go ?_
    refine E.sto hs ?_
    intro w3 hs
    refine go ?_
    refine A.c1t1 rfl rfl rfl (run_lda hs ag_sheet) ?_
    exact HE.out e _ _ (by simp only [scanB, ho]) hne (Hl.le_refl _) hs.drop
  intro v k b' o' c' a2 c2 w2 ho hk hkv hv hs hp2
  obtain ⟨g2, hg2, hpb, hs⟩ := hs.publishOwn
  have hbl : ((l.drop k).take v).length = v := by rw [List.length_take, List.length_drop]; omega
  refine go ?_
  refine E.callf Try.func46 rfl ?_
  refine title_any hs hpb hbl ?_ ?_
  rotate_left
  · intro e x y z w3 g3 hg3 ht hne hs
    have hd : (!decide (e = 0)) = true := by simp [hne]
    refine go ?_
    refine E.al hs ?_
    intro b2 w4 hs
    refine go ?_
    refine E.sto hs ?_
    intro w5 hs
    refine go ?_
    refine C.cond rfl (fun _ => ?_) (fun h => by rw [hd] at h; cases h)
    refine go ?_
    refine E.sto hs ?_
    intro w6 hs
    refine go ?_
    refine A.c1t1 rfl rfl rfl (run_lda hs ag_sheet) ?_
    exact HE.out e _ _ (by simp only [scanB, ho, ht]) hne (hg2.trans hg3) hs.drop.drop
  intro t w3 g3 hg3 ht htok hs
  obtain ⟨kd, ta, tb⟩ := t
  simp only [Ti.val]
  refine go ?_
  refine E.al hs ?_
  intro b2 w4 hs
  refine go ?_
  refine E.sto hs ?_
  intro w5 hs
  refine go ?_
  have hp3 := (hp2.mono (hg2.trans hg3))
  have hl3 : (l.drop (k + v + 4)).length = n - (k + v + 4) := by rw [List.length_drop, hl]
  refine E.callf Try.func47 rfl ?_
  refine all_any 2097152 rfl (by decide) hs hp3 hl3 (by omega) ?_
  intro ps m e a' c'' g4 w6 hg4 hrw hall hmn he hs
  obtain ⟨g5, hg5, hpl, hs⟩ := hs.publishOwn
  refine go ?_
  refine E.lda hs ag_title ?_
  refine go ?_
  refine E.sto hs ?_
  intro w7 hs
  refine go ?_
  refine A.c1t1 rfl rfl rfl (run_lda hs ag_sheet) ?_
  have hall' : allC (l.drop (k + v + 4)) = (ps.map Prod.snd, m, e) := by
    unfold allC; rw [hl3]; exact hall
  have e1 : ps.length = (ps.map Prod.snd).length := by simp
  have key := HOK.out ⟨⟨kd, ta, tb⟩, ps.map Prod.snd, k + v + 4 + m, e⟩ a' c'' w7 g5 (by simp only [scanB, ho, ht, hall']) htok he (by simp only; omega) (((hg2.trans hg3).trans hg4).trans hg5) ⟨ps, rfl, by simp, hrw.mono hg5, by rw [← e1]; exact hpl⟩ hs.drop.drop
  have e2 : ((n : Int) - ((n - (k + v + 4) : Nat) : Int)) + m = ((k + v + 4 + m : Nat) : Int) := by omega
  simp only [Sh.cs, ← e1, ← e2] at key
  exact key

theorem titleB_len {t : Ti} (ht : t.ok) : (titleB t).length ≤ 25 := by
  have h1 := layN_ten ht.1
  have h2 := layN_ten ht.2
  simp [titleB]; omega
theorem headB_len {t : Ti} (ht : t.ok) : (headB t).length ≤ 39 := by
  have := titleB_len ht
  have := wrapB_len (titleB t) (by omega)
  unfold headB; omega

/-- How 'Begin' goes. -/
def Dk.begin (d : Dk) (name : List UInt8) (t : Ti) : Int × Dk :=
  match d.read name with
  | .ok _ => (10, d)
  | .error _ => if (d.append name (headB t)).1 = 0 then (d.append name (headB t)).2.sync name else d.append name (headB t)
/-- How 'Add' goes. -/
def Dk.add (d : Dk) (name p : List UInt8) : Int × Dk := if 2097152 < p.length then (6, d) else d.append name (wrapB p)

set_option maxHeartbeats 1600000 in
set_option maxRecDepth 100000 in
theorem begin_any {R : Ending → World → Prop} {W w : World} {g : Hl} {H : List HP} {b : Nat} {d : Dk} {name : List UInt8} {t : Ti} (ht : t.ok) (hs : Sat W w g (disk b d :: H))
    (hR : ∀ w' g', Hl.le g g' → Sat W w' g' (disk b (d.begin name t).2 :: H) → R (.returned (.int .i64 (d.begin name t).1)) w') :
    Calls Try.prog 12 #[ptr b, str name, t.val] w R := by
  have HR := Lib.hid hR
  clear hR
  refine C.calls (args := [ptr b, str name, t.val]) Try.func12 rfl rfl rfl ?_
  refine go ?_
  refine E.bx hs ?_
  intro b1 w1 hs
  have hs : Sat W w1 g (blk b1 t.cs 24 :: disk b d :: H) := hs
  refine go ?_
  refine E.callf Try.func14 rfl ?_
  refine read_any hs.swap ?_ ?_
  · intro p a c w2 g2 hrd hpl hg2 hp hs
    refine go ?_
    refine A.r1 ?_
    have key := HR.out w2 g2 hg2
    simp only [Dk.begin, hrd] at key
    exact key (hs.swap.drop)
  · intro e w2 hrd hne hs
    have key := HR.out
    simp only [Dk.begin, hrd] at key
    have hd : decide (e = 0) = false := by simp [hne]
    refine go ?_
    refine C.cond rfl (fun h => by rw [hd] at h; cases h) (fun _ => ?_)
    refine go ?_
    refine E.lda hs ag_title ?_
    refine go ?_
    refine E.callf Try.func26 rfl ?_
    refine head_any hs ht ?_
    intro a c w3 g3 hg3 hs
    obtain ⟨g4, hg4, hp, hs⟩ := hs.publishOwn
    refine go ?_
    have hhl := headB_len ht
    refine E.callf Try.func18 rfl ?_
    refine append_any hs hp rfl (by omega) ?_
    intro w4 hs
    refine go ?_
    by_cases h0 : (d.append name (headB t)).1 = 0
    · rw [h0]
      simp only [h0, if_true] at key
      refine go ?_
      refine E.callf Try.func27 rfl ?_
      refine sync_any hs ?_
      intro w5 hs
      refine go ?_
      refine A.r1 ?_
      exact key _ _ (hg3.trans hg4) hs.swap.drop
    · have hd : (!decide ((d.append name (headB t)).1 = 0)) = true := by simp [h0]
      simp only [h0, if_false] at key
      refine C.cond rfl (fun _ => ?_) (fun h => by rw [hd] at h; cases h)
      refine go ?_
      refine A.r1 ?_
      exact key _ _ (hg3.trans hg4) hs.swap.drop

set_option maxHeartbeats 1600000 in
set_option maxRecDepth 100000 in
theorem add_any {R : Ending → World → Prop} {W w : World} {g : Hl} {H : List HP} {b n c : Nat} {a : Option Addr} {d : Dk} {name p : List UInt8} (hs : Sat W w g (disk b d :: H)) (hp : Pr 1 g (.slice a n c) n (bs p)) (hn : p.length = n)
    (hR : ∀ w' g', Hl.le g g' → Sat W w' g' (disk b (d.add name p).2 :: H) → R (.returned (.int .i64 (d.add name p).1)) w') :
    Calls Try.prog 13 #[ptr b, str name, .slice a n c] w R := by
  have HR := Lib.hid hR
  clear hR
  refine C.calls (args := [ptr b, str name, .slice a n c]) Try.func13 rfl rfl rfl ?_
  refine go ?_
  have key := HR.out
  simp only [Dk.add, hn] at key
  refine C.cond_dec (p := (2097152 : Int) < n) rfl (fun h => ?_) (fun h => ?_)
  · refine go ?_
    refine A.r1 ?_
    rw [if_pos (by omega)] at key
    exact key _ _ (Hl.le_refl _) hs
  · rw [if_neg (by omega)] at key
    refine go ?_
    refine E.callf Try.func28 rfl ?_
    refine wrap_any hs hp hn (by omega) ?_
    intro a2 c2 w2 hs
    obtain ⟨g4, hg4, hp4, hs⟩ := hs.publishOwn
    have hwl := wrapB_len p (by omega)
    refine go ?_
    refine E.callf Try.func18 rfl ?_
    refine append_any hs hp4 rfl (by omega) ?_
    intro w4 hs
    refine go ?_
    refine A.r1 ?_
    exact key _ _ hg4 hs

/-- How 'Read' goes. -/
def Dk.sheet (d : Dk) (name : List UInt8) : Except Int Sh :=
  match d.read name with
  | .error e => .error e
  | .ok p => scanB p

set_option maxHeartbeats 1600000 in
set_option maxRecDepth 100000 in
theorem sread_any {R : Ending → World → Prop} {W w : World} {g : Hl} {H : List HP} {b : Nat} {d : Dk} {name : List UInt8} (hs : Sat W w g (disk b d :: H))
    (hOK : ∀ s a' c' w' g', d.sheet name = .ok s → s.t.ok → (s.e = 0 ∨ s.e = 4 ∨ s.e = 5 ∨ s.e = 6) → s.good ≤ 1000000000 → Hl.le g g' → LB g' a' s.l.length c' s.l → Sat W w' g' (disk b d :: H) → R (.returned (.tuple #[.agg (s.cs a' c').toArray, .int .i64 0])) w')
    (hE : ∀ e w' g', d.sheet name = .error e → e ≠ 0 → Hl.le g g' → Sat W w' g' (disk b d :: H) → R (.returned (.tuple #[noSh, .int .i64 e])) w') :
    Calls Try.prog 11 #[ptr b, str name] w R := by
  have HOK := Lib.hid hOK
  have HE := Lib.hid hE
  clear hOK hE
  refine C.calls (args := [ptr b, str name]) Try.func11 rfl rfl rfl ?_
  refine go ?_
  refine E.al hs ?_
  intro b1 w1 hs
  refine go ?_
  refine E.callf Try.func14 rfl ?_
  refine read_any hs.swap ?_ ?_
  rotate_left
  · intro e w2 hrd hne hs
    have hd : (!decide (e = 0)) = true := by simp [hne]
    refine go ?_
    refine C.cond rfl (fun _ => ?_) (fun h => by rw [hd] at h; cases h)
    refine go ?_
    refine E.sto hs ?_
    intro w3 hs
    refine go ?_
    refine A.c1t1 rfl rfl rfl (run_lda hs ag_sheet) ?_
    exact HE.out e _ _ (by simp only [Dk.sheet, hrd]) hne (Hl.le_refl _) hs.swap.drop
  intro p a c w2 g2 hrd hpl hg2 hp hs
  refine go ?_
  refine E.callf Try.func25 rfl ?_
  refine scan_any hs hp rfl (by omega) ?_ ?_
  rotate_left
  · intro e w3 g3 hsc hne hg3 hs
    simp only [noSh]
    refine go ?_
    refine E.sto hs ?_
    intro w4 hs
    refine go ?_
    refine A.c1t1 rfl rfl rfl (run_lda hs ag_sheet) ?_
    exact HE.out e _ _ (by simp only [Dk.sheet, hrd, hsc]) hne (hg2.trans hg3) hs.swap.drop
  intro s a3 c3 w3 g3 hsc htok he hgd hg3 hlb hs
  refine go ?_
  refine E.sto (vs := s.cs a3 c3) hs ?_
  intro w4 hs
  have hs : Sat W w4 g3 (disk b d :: blk b1 (s.cs a3 c3) 32 :: H) := hs
  refine go ?_
  refine A.c1t1 rfl rfl rfl (run_lda hs ag_sheet) ?_
  exact HOK.out s a3 c3 _ _ (by simp only [Dk.sheet, hrd, hsc]) htok he (by omega) (hg2.trans hg3) hlb hs.swap.drop

/-- How 'Mend' goes. -/
def Dk.mend (d : Dk) (name : List UInt8) : Except Int Sh × Dk :=
  match d.sheet name with
  | .error e => (.error e, d)
  | .ok s => if s.e = 0 then (.ok s, d) else
    if (d.cut name s.good).1 = 0 then (.ok { s with e := 0 }, (d.cut name s.good).2) else (.error (d.cut name s.good).1, (d.cut name s.good).2)

set_option maxHeartbeats 1600000 in
set_option maxRecDepth 100000 in
theorem mend_any {R : Ending → World → Prop} {W w : World} {g : Hl} {H : List HP} {b : Nat} {d : Dk} {name : List UInt8} (hs : Sat W w g (disk b d :: H))
    (hOK : ∀ s a' c' w' g', (d.mend name).1 = .ok s → s.t.ok → s.e = 0 → s.good ≤ 1000000000 → Hl.le g g' → LB g' a' s.l.length c' s.l → Sat W w' g' (disk b (d.mend name).2 :: H) → R (.returned (.tuple #[.agg (s.cs a' c').toArray, .int .i64 0])) w')
    (hE : ∀ e w' g', (d.mend name).1 = .error e → e ≠ 0 → Hl.le g g' → Sat W w' g' (disk b (d.mend name).2 :: H) → R (.returned (.tuple #[noSh, .int .i64 e])) w') :
    Calls Try.prog 19 #[ptr b, str name] w R := by
  have HOK := Lib.hid hOK
  have HE := Lib.hid hE
  clear hOK hE
  refine C.calls (args := [ptr b, str name]) Try.func19 rfl rfl rfl ?_
  refine go ?_
  refine E.al hs ?_
  intro b1 w1 hs
  refine go ?_
  refine E.callf Try.func11 rfl ?_
  refine sread_any hs.swap ?_ ?_
  rotate_left
  · intro e w2 g2 hsh hne hg2 hs
    have hd : (!decide (e = 0)) = true := by simp [hne]
    simp only [noSh]
    refine go ?_
    refine E.al hs ?_
    intro b2 w3 hs
    refine go ?_
    refine E.sto hs ?_
    intro w4 hs
    refine go ?_
    rw [hd]
    refine go ?_
    refine E.lda hs ag_sheet ?_
    refine go ?_
    refine E.sto hs ?_
    intro w5 hs
    refine go ?_
    refine A.c1t1 rfl rfl rfl (run_lda hs ag_sheet) ?_
    have key := HE.out e w5 g2
    simp only [Dk.mend, hsh] at key
    exact key trivial hne hg2 hs.drop.swap.drop
  intro s a3 c3 w3 g3 hsc htok he hgd hg3 hlb hs
  obtain ⟨⟨kd, ta, tb⟩, l, good, er⟩ := s
  simp only [Sh.cs] at hs htok he hgd hlb ⊢
  have kOK := HOK.out
  have kE := HE.out
  simp only [Dk.mend, hsc] at kOK kE
  refine go ?_
  refine E.al hs ?_
  intro b2 w4 hs
  refine go ?_
  refine E.sto hs ?_
  intro w5 hs
  refine go ?_
  by_cases h0 : er = 0
  · subst h0
    refine go ?_
    refine E.lda hs ag_sheet ?_
    refine go ?_
    refine E.sto hs ?_
    intro w6 hs
    refine go ?_
    refine A.c1t1 rfl rfl rfl (run_lda hs ag_sheet) ?_
    simp only [if_true] at kOK
    exact kOK _ a3 c3 w6 g3 rfl htok rfl hgd hg3 hlb hs.drop.swap.drop
  · have hd : decide (er = 0) = false := by simp [h0]
    refine C.cond rfl (fun h => by rw [hd] at h; cases h) (fun _ => ?_)
    refine go ?_
    simp only [h0, if_false] at kOK kE
    refine E.callf Try.func37 rfl ?_
    refine cut_any hs.swap ?_
    intro w6 hs
    refine go ?_
    by_cases hc : (d.cut name good).1 = 0
    · rw [hc]
      simp only [hc, if_true] at kOK
      refine go ?_
      refine E.sto hs ?_
      intro w7 hs
      refine go ?_
      refine E.lda hs ag_sheet ?_
      refine go ?_
      refine E.sto hs ?_
      intro w8 hs
      refine go ?_
      refine A.c1t1 rfl rfl rfl (run_lda hs ag_sheet) ?_
      exact kOK _ a3 c3 w8 g3 rfl htok rfl hgd hg3 hlb hs.swap.drop.swap.drop
    · have hd : (!decide ((d.cut name good).1 = 0)) = true := by simp [hc]
      simp only [hc, if_false] at kE
      refine C.cond rfl (fun _ => ?_) (fun h => by rw [hd] at h; cases h)
      refine go ?_
      refine E.sto hs ?_
      intro w7 hs
      refine go ?_
      refine A.c1t1 rfl rfl rfl (run_lda hs ag_sheet) ?_
      exact kE _ w7 g3 rfl hc hg3 hs.swap.drop.swap.drop
end Go.Proofs.Ytcfbmmlgdopbmaa
