/-
  Layer 5 (sheet): Scan, Begin, Add, Read, Mend.
-/
import Derived.Test.YtfhmamkafancbaaGreatDoorM07
import Derived.Test.YtfhmamkafancbaaGreatDoorM03
import Derived.Test.YtfhmamkafancbaaGreatDoorM06
import Derived.Laws.Externs
import Derived.Test.YtfhmamkafancbaaGreatDoorProg
namespace Go.Proofs.YtfhmamkafancbaaGreatDoor
open Go.RowKit
set_option linter.unusedVariables false
set_option linter.unusedSimpArgs false
theorem ag_sheet : AggOf Tryz.prog 202 6 := ⟨_, Tryz.underlying202, rfl, by kernel_rfl⟩
structure Sh where
  t : Ti
  l : List (List UInt8)
  good : Nat
  e : Int
/-- A row of rows of bytes, the pool's. -/
def LB (g : Hl) (a : Option Addr) (n c : Nat) (ls : List (List UInt8)) : Prop := ∃ ps : List (Value × List UInt8), ps.map Prod.snd = ls ∧ ps.length = n ∧ Rws g ps ∧ Pr 1 g (.slice a n c) n (ps.map Prod.fst)
theorem LB.mono {g g' : Hl} {a : Option Addr} {n c : Nat} {ls : List (List UInt8)} (h : LB g a n c ls) (hg : Hl.le g g') : LB g' a n c ls := by
  obtain ⟨ps, h1, h2, h3, h4⟩ := h
  exact ⟨ps, h1, h2, h3.mono hg, h4.mono hg⟩
theorem LB.len {g : Hl} {a : Option Addr} {n c : Nat} {ls : List (List UInt8)} (h : LB g a n c ls) : ls.length = n := by
  obtain ⟨ps, h1, h2, h3, h4⟩ := h
  rw [← h1]; simpa using h2
def Ti.cs (t : Ti) : List Value := [.int .u8 t.kind.toNat, .int .u64 t.a, .int .u64 t.b]
/-- A sheet's cells. -/
def Sh.cs (s : Sh) (a : Option Addr) (c : Nat) : List Value := [.int .u8 s.t.kind.toNat, .int .u64 s.t.a, .int .u64 s.t.b, .slice a s.l.length c, .int .i64 s.good, .int .i64 s.e]
def noSh : Value := .agg #[.int .u8 0, .int .u64 0, .int .u64 0, .slice none 0 0, .int .i64 0, .int .i64 0]
def allC (l : List UInt8) : List (List UInt8) × Nat × Int := allB 2097152 (l.length + 1) l
def scanB (l : List UInt8) : Except Int Sh :=
  match openB l 2097152 with
  | .error e => .error e
  | .ok (k, v) => match rdTitle ((l.drop k).take v) with
    | .error e => .error e
    | .ok t => .ok ⟨t, (allC (l.drop (k + v + 4))).1, k + v + 4 + (allC (l.drop (k + v + 4))).2.1, (allC (l.drop (k + v + 4))).2.2⟩
set_option maxHeartbeats 1600000 in
set_option maxRecDepth 100000 in
theorem scan_any {R : Ending → World → Prop} {W w : World} {g : Hl} {H : List HP} {a : Option Addr} {n c : Nat} {l : List UInt8} (hs : Sat W w g H) (hp : Pr 1 g (.slice a n c) n (bs l)) (hl : l.length = n) (hn : n ≤ 1000000000)
    (hOK : ∀ s a' c' w' g', scanB l = .ok s → s.t.ok → (s.e = 0 ∨ s.e = 4 ∨ s.e = 5 ∨ s.e = 6) → s.good ≤ n → Hl.le g g' → LB g' a' s.l.length c' s.l → Sat W w' g' H → R (.returned (.tuple #[.agg (s.cs a' c').toArray, .int .i64 0])) w')
    (hE : ∀ e w' g', scanB l = .error e → e ≠ 0 → Hl.le g g' → Sat W w' g' H → R (.returned (.tuple #[noSh, .int .i64 e])) w') :
    Calls Tryz.prog 204 #[.slice a n c] w R := by
  have HOK := Lib.hid hOK
  have HE := Lib.hid hE
  clear hOK hE
  refine C.calls (args := [.slice a n c]) Tryz.func204 rfl rfl rfl ?_
  refine go ?_
  refine E.al hs ?_
  intro b1 w1 hs
  refine go ?_
  refine E.callf Tryz.func237 rfl ?_
  refine open_any 2097152 rfl (by decide) hs hp hl (by omega) ?_ ?_
  rotate_left
  · intro e w2 ho he hs
    have hne : e ≠ 0 := by omega
    have hd : (!decide (e = 0)) = true := by simp [hne]
    refine go ?_
    refine C.cond rfl (fun _ => ?_) (fun h => by rw [hd] at h; cases h)
    refine go ?_
    refine E.sto hs ?_
    intro w3 hs
    refine go ?_
    refine A.c1t1 rfl rfl rfl (run_lda hs ag_sheet) ?_
    exact HE.out e _ _ (by simp only [scanB, ho]) hne (Hl.le_refl _) hs.drop
  intro v k b' o' c' a2 c2 w2 ho hk hkv hv hs hp2
  obtain ⟨g2, hg2, hpb, hs⟩ := hs.publishOwn
  have hbl : ((l.drop k).take v).length = v := by rw [List.length_take, List.length_drop]; omega
  refine go ?_
  refine E.callf Tryz.func238 rfl ?_
  refine title_any hs hpb hbl ?_ ?_
  rotate_left
  · intro e x y z w3 g3 hg3 ht hne hs
    have hd : (!decide (e = 0)) = true := by simp [hne]
    refine go ?_
    refine E.al hs ?_
    intro b2 w4 hs
    refine go ?_
    refine E.sto hs ?_
    intro w5 hs
    refine go ?_
    refine C.cond rfl (fun _ => ?_) (fun h => by rw [hd] at h; cases h)
    refine go ?_
    refine E.sto hs ?_
    intro w6 hs
    refine go ?_
    refine A.c1t1 rfl rfl rfl (run_lda hs ag_sheet) ?_
    exact HE.out e _ _ (by simp only [scanB, ho, ht]) hne (hg2.trans hg3) hs.drop.drop
  intro t w3 g3 hg3 ht htok hs
  obtain ⟨kd, ta, tb⟩ := t
  simp only [Ti.val]
  refine go ?_
  refine E.al hs ?_
  intro b2 w4 hs
  refine go ?_
  refine E.sto hs ?_
  intro w5 hs
  refine go ?_
  have hp3 := (hp2.mono (hg2.trans hg3))
  have hl3 : (l.drop (k + v + 4)).length = n - (k + v + 4) := by rw [List.length_drop, hl]
  refine E.callf Tryz.func239 rfl ?_
  refine all_any 2097152 rfl (by decide) hs hp3 hl3 (by omega) ?_
  intro ps m e a' c'' g4 w6 hg4 hrw hall hmn he hs
  obtain ⟨g5, hg5, hpl, hs⟩ := hs.publishOwn
  refine go ?_
  refine E.lda hs ag_title ?_
  refine go ?_
  refine E.sto hs ?_
  intro w7 hs
  refine go ?_
  refine A.c1t1 rfl rfl rfl (run_lda hs ag_sheet) ?_
  have hall' : allC (l.drop (k + v + 4)) = (ps.map Prod.snd, m, e) := by
    unfold allC; rw [hl3]; exact hall
  have e1 : ps.length = (ps.map Prod.snd).length := by simp
  have key := HOK.out ⟨⟨kd, ta, tb⟩, ps.map Prod.snd, k + v + 4 + m, e⟩ a' c'' w7 g5 (by simp only [scanB, ho, ht, hall']) htok he (by simp only; omega) (((hg2.trans hg3).trans hg4).trans hg5) ⟨ps, rfl, by simp, hrw.mono hg5, by rw [← e1]; exact hpl⟩ hs.drop.drop
  have e2 : ((n : Int) - ((n - (k + v + 4) : Nat) : Int)) + m = ((k + v + 4 + m : Nat) : Int) := by omega
  simp only [Sh.cs, ← e1, ← e2] at key
  exact key
theorem titleB_len {t : Ti} (ht : t.ok) : (titleB t).length ≤ 25 := by
  have h1 := layN_ten ht.1
  have h2 := layN_ten ht.2
  simp [titleB]; omega
theorem headB_len {t : Ti} (ht : t.ok) : (headB t).length ≤ 39 := by
  have := titleB_len ht
  have := wrapB_len (titleB t) (by omega)
  unfold headB; omega
/-- How 'Begin' goes. -/
def Dk.begin (d : Dk) (name : List UInt8) (t : Ti) : Int × Dk :=
  match d.read name with
  | .ok _ => (10, d)
  | .error _ => if (d.append name (headB t)).1 = 0 then (d.append name (headB t)).2.sync name else d.append name (headB t)
/-- How 'Add' goes. -/
def Dk.add (d : Dk) (name p : List UInt8) : Int × Dk := if 2097152 < p.length then (6, d) else d.append name (wrapB p)
set_option maxHeartbeats 1600000 in
set_option maxRecDepth 100000 in
theorem begin_any {R : Ending → World → Prop} {W w : World} {g : Hl} {H : List HP} {b : Nat} {d : Dk} {name : List UInt8} {t : Ti} (ht : t.ok) (hs : Sat W w g (disk b d :: H))
    (hR : ∀ w' g', Hl.le g g' → Sat W w' g' (disk b (d.begin name t).2 :: H) → R (.returned (.int .i64 (d.begin name t).1)) w') :
    Calls Tryz.prog 210 #[ptr b, str name, t.val] w R := by
  have HR := Lib.hid hR
  clear hR
  refine C.calls (args := [ptr b, str name, t.val]) Tryz.func210 rfl rfl rfl ?_
  refine go ?_
  refine E.bx hs ?_
  intro b1 w1 hs
  have hs : Sat W w1 g (blk b1 t.cs 185 :: disk b d :: H) := hs
  refine go ?_
  refine E.callf Tryz.func203 rfl ?_
  refine read_any hs.swap ?_ ?_
  · intro p a c w2 g2 hrd hpl hg2 hp hs
    refine go ?_
    refine A.r1 ?_
    have key := HR.out w2 g2 hg2
    simp only [Dk.begin, hrd] at key
    exact key (hs.swap.drop)
  · intro e w2 hrd hne hs
    have key := HR.out
    simp only [Dk.begin, hrd] at key
    have hd : decide (e = 0) = false := by simp [hne]
    refine go ?_
    refine C.cond rfl (fun h => by rw [hd] at h; cases h) (fun _ => ?_)
    refine go ?_
    refine E.lda hs ag_title ?_
    refine go ?_
    refine E.callf Tryz.func192 rfl ?_
    refine head_any hs ht ?_
    intro a c w3 g3 hg3 hs
    obtain ⟨g4, hg4, hp, hs⟩ := hs.publishOwn
    refine go ?_
    have hhl := headB_len ht
    refine E.callf Tryz.func38 rfl ?_
    refine append_any hs hp rfl (by omega) ?_
    intro w4 hs
    refine go ?_
    by_cases h0 : (d.append name (headB t)).1 = 0
    · rw [h0]
      simp only [h0, if_true] at key
      refine go ?_
      refine E.callf Tryz.func111 rfl ?_
      refine sync_any hs ?_
      intro w5 hs
      refine go ?_
      refine A.r1 ?_
      exact key _ _ (hg3.trans hg4) hs.swap.drop
    · have hd : (!decide ((d.append name (headB t)).1 = 0)) = true := by simp [h0]
      simp only [h0, if_false] at key
      refine C.cond rfl (fun _ => ?_) (fun h => by rw [hd] at h; cases h)
      refine go ?_
      refine A.r1 ?_
      exact key _ _ (hg3.trans hg4) hs.swap.drop
set_option maxHeartbeats 1600000 in
set_option maxRecDepth 100000 in
theorem add_any {R : Ending → World → Prop} {W w : World} {g : Hl} {H : List HP} {b n c : Nat} {a : Option Addr} {d : Dk} {name p : List UInt8} (hs : Sat W w g (disk b d :: H)) (hp : Pr 1 g (.slice a n c) n (bs p)) (hn : p.length = n)
    (hR : ∀ w' g', Hl.le g g' → Sat W w' g' (disk b (d.add name p).2 :: H) → R (.returned (.int .i64 (d.add name p).1)) w') :
    Calls Tryz.prog 169 #[ptr b, str name, .slice a n c] w R := by
  have HR := Lib.hid hR
  clear hR
  refine C.calls (args := [ptr b, str name, .slice a n c]) Tryz.func169 rfl rfl rfl ?_
  refine go ?_
  have key := HR.out
  simp only [Dk.add, hn] at key
  refine C.cond_dec (p := (2097152 : Int) < n) rfl (fun h => ?_) (fun h => ?_)
  · refine go ?_
    refine A.r1 ?_
    rw [if_pos (by omega)] at key
    exact key _ _ (Hl.le_refl _) hs
  · rw [if_neg (by omega)] at key
    refine go ?_
    refine E.callf Tryz.func193 rfl ?_
    refine wrap_any hs hp hn (by omega) ?_
    intro a2 c2 w2 hs
    obtain ⟨g4, hg4, hp4, hs⟩ := hs.publishOwn
    have hwl := wrapB_len p (by omega)
    refine go ?_
    refine E.callf Tryz.func38 rfl ?_
    refine append_any hs hp4 rfl (by omega) ?_
    intro w4 hs
    refine go ?_
    refine A.r1 ?_
    exact key _ _ hg4 hs
/-- How 'Read' goes. -/
def Dk.sheet (d : Dk) (name : List UInt8) : Except Int Sh :=
  match d.read name with
  | .error e => .error e
  | .ok p => scanB p
set_option maxHeartbeats 1600000 in
set_option maxRecDepth 100000 in
theorem sread_any {R : Ending → World → Prop} {W w : World} {g : Hl} {H : List HP} {b : Nat} {d : Dk} {name : List UInt8} (hs : Sat W w g (disk b d :: H))
    (hOK : ∀ s a' c' w' g', d.sheet name = .ok s → s.t.ok → (s.e = 0 ∨ s.e = 4 ∨ s.e = 5 ∨ s.e = 6) → s.good ≤ 1000000000 → Hl.le g g' → LB g' a' s.l.length c' s.l → Sat W w' g' (disk b d :: H) → R (.returned (.tuple #[.agg (s.cs a' c').toArray, .int .i64 0])) w')
    (hE : ∀ e w' g', d.sheet name = .error e → e ≠ 0 → Hl.le g g' → Sat W w' g' (disk b d :: H) → R (.returned (.tuple #[noSh, .int .i64 e])) w') :
    Calls Tryz.prog 153 #[ptr b, str name] w R := by
  have HOK := Lib.hid hOK
  have HE := Lib.hid hE
  clear hOK hE
  refine C.calls (args := [ptr b, str name]) Tryz.func153 rfl rfl rfl ?_
  refine go ?_
  refine E.al hs ?_
  intro b1 w1 hs
  refine go ?_
  refine E.callf Tryz.func203 rfl ?_
  refine read_any hs.swap ?_ ?_
  rotate_left
  · intro e w2 hrd hne hs
    have hd : (!decide (e = 0)) = true := by simp [hne]
    refine go ?_
    refine C.cond rfl (fun _ => ?_) (fun h => by rw [hd] at h; cases h)
    refine go ?_
    refine E.sto hs ?_
    intro w3 hs
    refine go ?_
    refine A.c1t1 rfl rfl rfl (run_lda hs ag_sheet) ?_
    exact HE.out e _ _ (by simp only [Dk.sheet, hrd]) hne (Hl.le_refl _) hs.swap.drop
  intro p a c w2 g2 hrd hpl hg2 hp hs
  refine go ?_
  refine E.callf Tryz.func204 rfl ?_
  refine scan_any hs hp rfl (by omega) ?_ ?_
  rotate_left
  · intro e w3 g3 hsc hne hg3 hs
    simp only [noSh]
    refine go ?_
    refine E.sto hs ?_
    intro w4 hs
    refine go ?_
    refine A.c1t1 rfl rfl rfl (run_lda hs ag_sheet) ?_
    exact HE.out e _ _ (by simp only [Dk.sheet, hrd, hsc]) hne (hg2.trans hg3) hs.swap.drop
  intro s a3 c3 w3 g3 hsc htok he hgd hg3 hlb hs
  refine go ?_
  refine E.sto (vs := s.cs a3 c3) hs ?_
  intro w4 hs
  have hs : Sat W w4 g3 (disk b d :: blk b1 (s.cs a3 c3) 202 :: H) := hs
  refine go ?_
  refine A.c1t1 rfl rfl rfl (run_lda hs ag_sheet) ?_
  exact HOK.out s a3 c3 _ _ (by simp only [Dk.sheet, hrd, hsc]) htok he (by omega) (hg2.trans hg3) hlb hs.swap.drop
/-- How 'Mend' goes. -/
def Dk.mend (d : Dk) (name : List UInt8) : Except Int Sh × Dk :=
  match d.sheet name with
  | .error e => (.error e, d)
  | .ok s => if s.e = 0 then (.ok s, d) else
    if (d.cut name s.good).1 = 0 then (.ok { s with e := 0 }, (d.cut name s.good).2) else (.error (d.cut name s.good).1, (d.cut name s.good).2)
set_option maxHeartbeats 1600000 in
set_option maxRecDepth 100000 in
theorem mend_any {R : Ending → World → Prop} {W w : World} {g : Hl} {H : List HP} {b : Nat} {d : Dk} {name : List UInt8} (hs : Sat W w g (disk b d :: H))
    (hOK : ∀ s a' c' w' g', (d.mend name).1 = .ok s → s.t.ok → s.e = 0 → s.good ≤ 1000000000 → Hl.le g g' → LB g' a' s.l.length c' s.l → Sat W w' g' (disk b (d.mend name).2 :: H) → R (.returned (.tuple #[.agg (s.cs a' c').toArray, .int .i64 0])) w')
    (hE : ∀ e w' g', (d.mend name).1 = .error e → e ≠ 0 → Hl.le g g' → Sat W w' g' (disk b (d.mend name).2 :: H) → R (.returned (.tuple #[noSh, .int .i64 e])) w') :
    Calls Tryz.prog 241 #[ptr b, str name] w R := by
  have HOK := Lib.hid hOK
  have HE := Lib.hid hE
  clear hOK hE
  refine C.calls (args := [ptr b, str name]) Tryz.func241 rfl rfl rfl ?_
  refine go ?_
  refine E.al hs ?_
  intro b1 w1 hs
  refine go ?_
  refine E.callf Tryz.func153 rfl ?_
  refine sread_any hs.swap ?_ ?_
  rotate_left
  · intro e w2 g2 hsh hne hg2 hs
    have hd : (!decide (e = 0)) = true := by simp [hne]
    simp only [noSh]
    refine go ?_
    refine E.al hs ?_
    intro b2 w3 hs
    refine go ?_
    refine E.sto hs ?_
    intro w4 hs
    refine go ?_
    rw [hd]
    refine go ?_
    refine E.lda hs ag_sheet ?_
    refine go ?_
    refine E.sto hs ?_
    intro w5 hs
    refine go ?_
    refine A.c1t1 rfl rfl rfl (run_lda hs ag_sheet) ?_
    have key := HE.out e w5 g2
    simp only [Dk.mend, hsh] at key
    exact key trivial hne hg2 hs.drop.swap.drop
  intro s a3 c3 w3 g3 hsc htok he hgd hg3 hlb hs
  obtain ⟨⟨kd, ta, tb⟩, l, good, er⟩ := s
  simp only [Sh.cs] at hs htok he hgd hlb ⊢
  have kOK := HOK.out
  have kE := HE.out
  simp only [Dk.mend, hsc] at kOK kE
  refine go ?_
  refine E.al hs ?_
  intro b2 w4 hs
  refine go ?_
  refine E.sto hs ?_
  intro w5 hs
  refine go ?_
  by_cases h0 : er = 0
  · subst h0
    refine go ?_
    refine E.lda hs ag_sheet ?_
    refine go ?_
    refine E.sto hs ?_
    intro w6 hs
    refine go ?_
    refine A.c1t1 rfl rfl rfl (run_lda hs ag_sheet) ?_
    simp only [if_true] at kOK
    exact kOK _ a3 c3 w6 g3 rfl htok rfl hgd hg3 hlb hs.drop.swap.drop
  · have hd : decide (er = 0) = false := by simp [h0]
    refine C.cond rfl (fun h => by rw [hd] at h; cases h) (fun _ => ?_)
    refine go ?_
    simp only [h0, if_false] at kOK kE
    refine E.callf Tryz.func243 rfl ?_
    refine cut_any hs.swap ?_
    intro w6 hs
    refine go ?_
    by_cases hc : (d.cut name good).1 = 0
    · rw [hc]
      simp only [hc, if_true] at kOK
      refine go ?_
      refine E.sto hs ?_
      intro w7 hs
      refine go ?_
      refine E.lda hs ag_sheet ?_
      refine go ?_
      refine E.sto hs ?_
      intro w8 hs
      refine go ?_
      refine A.c1t1 rfl rfl rfl (run_lda hs ag_sheet) ?_
      exact kOK _ a3 c3 w8 g3 rfl htok rfl hgd hg3 hlb hs.swap.drop.swap.drop
    · have hd : (!decide ((d.cut name good).1 = 0)) = true := by simp [hc]
      simp only [hc, if_false] at kE
      refine C.cond rfl (fun _ => ?_) (fun h => by rw [hd] at h; cases h)
      refine go ?_
      refine E.sto hs ?_
      intro w7 hs
      refine go ?_
      refine A.c1t1 rfl rfl rfl (run_lda hs ag_sheet) ?_
      exact kE _ w7 g3 rfl hc hg3 hs.swap.drop.swap.drop
end Go.Proofs.YtfhmamkafancbaaGreatDoor

/-
  Layer 5 (sheet): Swap.
-/
namespace Go.Proofs.YtfhmamkafancbaaGreatDoor
open Go.RowKit
set_option linter.unusedVariables false
set_option linter.unusedSimpArgs false
theorem Pr.le {g : Hl} {s n c : Nat} {a : Option Addr} {xs : List Value} (h : Pr s g (.slice a n c) n xs) : n ≤ c ∧ c ≤ 9223372036854775807 := by
  obtain ⟨_, _, e, h1, h2⟩ := h.len
  simp only [Value.slice.injEq] at e
  omega
theorem LB.le {g : Hl} {n c : Nat} {a : Option Addr} {ls : List (List UInt8)} (h : LB g a n c ls) : n ≤ c ∧ c ≤ 9223372036854775807 := by
  obtain ⟨ps, _, _, _, h⟩ := h
  exact h.le
theorem LB.get {g : Hl} {a : Option Addr} {n c : Nat} {ls : List (List UInt8)} (h : LB g a n c ls) {i : Nat} (hi : i < n) : ∃ xs : List Value, Pr 1 g (.slice a n c) n xs ∧ ∃ a' c', xs[i]? = some (.slice a' (ls[i]'(by rw [h.len]; exact hi)).length c') ∧ Pr 1 g (.slice a' (ls[i]'(by rw [h.len]; exact hi)).length c') (ls[i]'(by rw [h.len]; exact hi)).length (bs (ls[i]'(by rw [h.len]; exact hi))) := by
  obtain ⟨ps, rfl, h2, h3, h4⟩ := h
  have hip : i < ps.length := by omega
  have h5 := h3 ps[i] (List.getElem_mem hip)
  obtain ⟨a', c', e, _⟩ := h5.len
  refine ⟨_, h4, a', c', ?_, ?_⟩
  · rw [List.getElem?_map, List.getElem?_eq_getElem hip]
    simp only [Option.map_some, List.getElem_map, Option.some.injEq]
    exact e
  · simp only [List.getElem_map]
    rw [e] at h5
    exact h5
def catB (ls : List (List UInt8)) : List UInt8 := (ls.map wrapB).flatten
def sumL (ls : List (List UInt8)) : Nat := (ls.map fun x => x.length + 14).sum
theorem catB_snoc (ls : List (List UInt8)) (x : List UInt8) : catB (ls ++ [x]) = catB ls ++ wrapB x := by simp [catB]
theorem sumL_snoc (ls : List (List UInt8)) (x : List UInt8) : sumL (ls ++ [x]) = sumL ls + (x.length + 14) := by simp [sumL]
theorem sumL_mem {ls : List (List UInt8)} {x : List UInt8} (h : x ∈ ls) : x.length + 14 ≤ sumL ls := by
  obtain ⟨l1, l2, rfl⟩ := List.append_of_mem h
  simp only [sumL, List.map_append, List.map_cons, List.sum_append, List.sum_cons]
  omega
theorem sumL_take (ls : List (List UInt8)) (i : Nat) : sumL (ls.take i) ≤ sumL ls := by
  have : sumL ls = sumL (ls.take i) + sumL (ls.drop i) := by
    have h : sumL (ls.take i ++ ls.drop i) = sumL (ls.take i) + sumL (ls.drop i) := by
      simp only [sumL, List.map_append, List.sum_append]
    rw [List.take_append_drop] at h
    exact h
  omega
theorem catB_len : ∀ (ls : List (List UInt8)), sumL ls ≤ 1000000000 → (catB ls).length ≤ sumL ls
  | [], _ => by simp [catB]
  | x :: r, h => by
    have e : sumL (x :: r) = (x.length + 14) + sumL r := by simp [sumL]
    have h1 := wrapB_len x (by omega)
    have h2 := catB_len r (by omega)
    have e2 : catB (x :: r) = wrapB x ++ catB r := by simp [catB]
    rw [e2, List.length_append]
    omega
def newB : List UInt8 := [46, 110, 101, 119]
/-- How 'Swap' goes. -/
def Dk.swap (d : Dk) (name : List UInt8) (t : Ti) (ls : List (List UInt8)) : Int × Dk :=
  let r1 := d.remove (name ++ newB)
  if r1.1 ≠ 0 ∧ r1.1 ≠ 2 then r1 else
  if ls.any (fun x => decide (2097152 < x.length)) then (6, r1.2) else
  let r2 := r1.2.append (name ++ newB) (headB t ++ catB ls)
  if r2.1 ≠ 0 then r2 else
  let r3 := r2.2.sync (name ++ newB)
  if r3.1 ≠ 0 then r3 else r3.2.move (name ++ newB) name
set_option maxHeartbeats 1600000 in
set_option maxRecDepth 100000 in
theorem swap_any {R : Ending → World → Prop} {W w : World} {g : Hl} {H : List HP} {b n c : Nat} {a : Option Addr} {d : Dk} {name : List UInt8} {t : Ti} {ls : List (List UInt8)} (ht : t.ok) (hs : Sat W w g (disk b d :: H)) (hl : LB g a n c ls) (hb : sumL ls ≤ 100000000) (hnm : name.length ≤ 1000)
    (hR : ∀ w' g', Hl.le g g' → Sat W w' g' (disk b (d.swap name t ls).2 :: H) → R (.returned (.int .i64 (d.swap name t ls).1)) w') :
    Calls Tryz.prog 138 #[ptr b, str name, t.val, .slice a n c] w R := by
  have HR := Lib.hid hR
  clear hR
  refine C.calls (args := [ptr b, str name, t.val, .slice a n c]) Tryz.func138 rfl rfl rfl ?_
  have e0 : str name = .string ⟨name.toArray⟩ := rfl
  rw [e0]
  refine go ?_
  refine E.bx hs ?_
  intro b1 w1 hs
  have hs : Sat W w1 g (blk b1 t.cs 185 :: disk b d :: H) := hs
  refine go ?_
  have key := HR.out
  simp only [Dk.swap] at key
  refine E.callf Tryz.func158 rfl ?_
  refine remove_any (name := name ++ newB) hs.swap ?_
  intro w2 hs
  generalize d.remove (name ++ newB) = r1 at hs key ⊢
  obtain ⟨e1, d1⟩ := r1
  simp only at hs key ⊢
  have hll := hl.len
  have hle := hl.le
  have hhl := headB_len ht
  by_cases h12 : e1 = 0 ∨ e1 = 2
  rotate_left
  · have h1 : ¬ e1 = 0 := fun h => h12 (.inl h)
    have h2 : ¬ e1 = 2 := fun h => h12 (.inr h)
    have d1' : decide (e1 = 0) = false := by simp [h1]
    have d2' : decide (e1 = 2) = false := by simp [h2]
    refine go ?_
    rw [d1']
    refine go ?_
    rw [d2']
    refine go ?_
    refine A.r1 ?_
    rw [if_pos ⟨h1, h2⟩] at key
    exact key _ _ (Hl.le_refl _) hs.swap.drop
  rw [if_neg (by omega)] at key
  have K := Lib.hid key
  clear key HR
  rcases h12 with rfl | rfl
  all_goals
    refine go ?_
    refine E.lda hs.swap ag_title ?_
    refine go ?_
    refine E.callf Tryz.func192 rfl ?_
    refine head_any hs ht ?_
    intro a3 c3 w3 g3 hg3 hs
    have hl3 := hl.mono hg3
    refine gob ?_
    refine C.cutQ (fun x : Option Addr × Nat => [(0, ptr b), (1, str name), (9, str (name ++ newB)), (11, .slice x.1 (headB t ++ catB ls).length x.2)]) (fun x w => ls.any (fun x => decide (2097152 < x.length)) = false ∧ Sat W w g3 (own 5 1 (.slice x.1 (headB t ++ catB ls).length x.2) (headB t ++ catB ls).length (bs (headB t ++ catB ls)) :: disk b d1 :: blk b1 t.cs 185 :: H)) ?_ ?_
    · refine C.block ?_
      refine C.lp (fun x : Nat × Option Addr × Nat => [(0, ptr b), (1, str name), (9, str (name ++ newB)), (11, .slice x.2.1 (headB t ++ catB (ls.take x.1)).length x.2.2), (30, .slice a n c), (31, .int .i64 n), (32, .int .i64 x.1)])
        (fun gk x w => gk = n - x.1 ∧ x.1 ≤ n ∧ (ls.take x.1).any (fun x => decide (2097152 < x.length)) = false ∧ Sat W w g3 (own 5 1 (.slice x.2.1 (headB t ++ catB (ls.take x.1)).length x.2.2) (headB t ++ catB (ls.take x.1)).length (bs (headB t ++ catB (ls.take x.1))) :: disk b d1 :: blk b1 t.cs 185 :: H)) n (0, a3, c3)
        ⟨rfl, Nat.zero_le _, by simp, by simpa [catB] using hs⟩ ?_ (hw := ?_)
      rotate_left
      · simp only [List.take_zero, catB, List.map_nil, List.flatten_nil, List.append_nil]
        exact wk_
      clear hs
      rintro gk ⟨i, a4, c4⟩ w4 ⟨rfl, hi, hany, hs⟩
      simp only at hi hany hs ⊢
      refine go ?_
      refine C.cond_dec (p := (i : Int) < n) rfl (fun hlt => ?_) (fun hlt => ?_)
      rotate_left
      · have hin : i = n := by omega
        refine go ?_
        have ht2 : ls.take i = ls := List.take_of_length_le (by omega)
        rw [ht2] at hs hany ⊢
        exact A.mt (a4, c4) ⟨hany, hs⟩
      · have hin : i < n := by omega
        obtain ⟨xs, hpx, a5, c5, hxi, hp5⟩ := hl3.get hin
        have hil : i < ls.length := by omega
        have htk : ls.take (i + 1) = ls.take i ++ [ls[i]] := List.take_succ_eq_append_getElem hil
        have hmx := sumL_mem (List.getElem_mem hil)
        have hst := sumL_take ls (i + 1)
        have hcl := catB_len (ls.take i) (by have := sumL_take ls i; omega)
        have hst0 := sumL_take ls i
        rw [htk, sumL_snoc] at hst
        refine go ?_
        refine E.ix el_row hs hpx i hxi ?_
        intro b6 o6 hc6
        refine go ?_
        refine C.cond_dec (p := (2097152 : Int) < (ls[i].length : Nat)) rfl (fun hbig => ?_) (fun hbig => ?_)
        · refine go ?_
          refine A.r1 ?_
          have hA : ls.any (fun x => decide (2097152 < x.length)) = true := List.any_eq_true.2 ⟨ls[i], List.getElem_mem hil, by simp; omega⟩
          have key := K.out
          rw [if_pos hA] at key
          exact key _ _ hg3 hs.drop.swap.drop
        · refine go ?_
          refine E.callf Tryz.func193 rfl ?_
          refine wrap_any hs hp5 rfl (by omega) ?_
          intro a7 c7 w7 hs
          have hwl := wrapB_len ls[i] (by omega)
          have hrw : Row 1 w7 (fun _ => True) (.slice a7 (wrapB ls[i]).length c7) (wrapB ls[i]).length (bs (wrapB ls[i])) := Row.of_owns hs.owns (fun _ _ => trivial)
          have hpl : (headB t ++ catB (ls.take i)).length ≤ 39 + sumL (ls.take i) := by rw [List.length_append]; omega
          refine go ?_
          refine E.app el_u8 hs.swap hrw ?_
          intro a8 c8 w8 _ _ hs
          refine go ?_
          have e8 : (headB t ++ catB (ls.take i)).length + (wrapB ls[i]).length = (headB t ++ catB (ls.take (i + 1))).length := by rw [htk, catB_snoc]; simp [Nat.add_assoc]
          have e9 : bs (headB t ++ catB (ls.take i)) ++ bs (wrapB ls[i]) = bs (headB t ++ catB (ls.take (i + 1))) := by rw [← bs_append, htk, catB_snoc, List.append_assoc]
          rw [e8, e9] at hs
          rw [e8]
          refine A.rd (n - (i + 1)) (i + 1, a8, c8) ⟨rfl, by simp only; omega, ?_, hs.swap.drop⟩
          simp only
          rw [htk, List.any_append, hany]
          simp
          omega
    · rintro ⟨a4, c4⟩ w4 ⟨hany, hs⟩
      simp only at hs ⊢
      have key := K.out
      rw [if_neg (by rw [hany]; simp)] at key
      have hcl := catB_len ls (by omega)
      have hpl : (headB t ++ catB ls).length ≤ 39 + sumL ls := by rw [List.length_append]; omega
      obtain ⟨g5, hg5, hp5, hs⟩ := hs.publishOwn
      refine go ?_
      refine E.callf Tryz.func38 rfl ?_
      refine append_any hs hp5 rfl (by omega) ?_
      intro w5 hs
      generalize d1.append (name ++ newB) (headB t ++ catB ls) = r2 at hs key ⊢
      obtain ⟨e2, d2⟩ := r2
      simp only at hs key ⊢
      refine go ?_
      by_cases h2 : e2 = 0
      rotate_left
      · have hd : (!decide (e2 = 0)) = true := by simp [h2]
        refine C.cond rfl (fun _ => ?_) (fun h => by rw [hd] at h; cases h)
        refine go ?_
        refine A.r1 ?_
        rw [if_pos h2] at key
        exact key _ _ (hg3.trans hg5) hs.swap.drop
      rw [if_neg (by omega)] at key
      subst h2
      refine go ?_
      refine E.callf Tryz.func111 rfl ?_
      refine sync_any hs ?_
      intro w6 hs
      generalize d2.sync (name ++ newB) = r3 at hs key ⊢
      obtain ⟨e3, d3⟩ := r3
      simp only at hs key ⊢
      refine go ?_
      by_cases h3 : e3 = 0
      rotate_left
      · have hd : (!decide (e3 = 0)) = true := by simp [h3]
        refine C.cond rfl (fun _ => ?_) (fun h => by rw [hd] at h; cases h)
        refine go ?_
        refine A.r1 ?_
        rw [if_pos h3] at key
        exact key _ _ (hg3.trans hg5) hs.swap.drop
      rw [if_neg (by omega)] at key
      subst h3
      refine go ?_
      refine E.callf Tryz.func194 rfl ?_
      refine move_any hs ?_
      intro w7 hs
      refine go ?_
      refine A.r1 ?_
      exact key _ _ (hg3.trans hg5) hs.swap.drop
end Go.Proofs.YtfhmamkafancbaaGreatDoor

/-
  Layer 10 (manifest), plain: what a manifest is, its bytes, and back.
-/
namespace Go.Proofs.YtfhmamkafancbaaGreatDoor
open Go.RowKit
set_option linter.unusedVariables false
set_option linter.unusedSimpArgs false
structure Mf where
  node : Nat
  serial : Nat
  floor : List Nat
  time : Nat
  name : List UInt8
structure Mf.ok (m : Mf) : Prop where
  node : m.node < 64
  serial : m.serial < 18446744073709551616
  flen : m.floor.length ≤ 64
  flt : ∀ x ∈ m.floor, x < 18446744073709551616
  time : m.time < 18446744073709551616
  name : m.name.length ≤ 1000
def Mf.cs (m : Mf) (a : Option Addr) (c : Nat) : List Value := [.int .i64 m.node, .int .u64 m.serial, .slice a m.floor.length c, .int .u64 m.time, str m.name]
def Mf.enc (m : Mf) : List UInt8 := layN m.node ++ layN m.serial ++ vecB m.floor ++ layN m.time ++ textB m.name
theorem Mf.enc_len {m : Mf} (h : m.ok) : m.enc.length ≤ 1800 := by
  have h0 := h.node
  have h1 := layN_ten (n := m.node) (by omega)
  have h2 := layN_ten h.serial
  have h3 := vecB_len m.floor h.flen h.flt
  have h4 := layN_ten h.time
  have h5 := h.name
  have h6 := layN_ten (n := m.name.length) (by omega)
  simp only [Mf.enc, textB, List.length_append]
  omega
/-- A vector, by a tape. -/
def rdVecA : Nat → List Nat → List UInt8 → Except Int (List Nat × List UInt8)
  | 0, acc, l => .ok (acc, l)
  | k + 1, acc, l => match rdNum 9223372036854775807 l with
    | .error e => .error e
    | .ok (v, l) => rdVecA k (acc ++ [v]) l
def rdVec (l : List UInt8) : Except Int (List Nat × List UInt8) := match rdNum 64 l with
  | .error e => .error e
  | .ok (k, l) => rdVecA k [] l
/-- What 'Decode' tells. -/
def decM (l : List UInt8) : Except Int Mf :=
  match rdNum 63 l with
  | .error e => .error e
  | .ok (nd, l) => match rdNum 9223372036854775807 l with
    | .error e => .error e
    | .ok (sr, l) => match rdVec l with
      | .error e => .error e
      | .ok (v, l) => match rdNum 9223372036854775807 l with
        | .error e => .error e
        | .ok (tm, l) => match rdText 48 l with
          | .error e => .error e
          | .ok (nm, l) => if l ≠ [] then .error 4 else if (vtrim v).length ≠ v.length ∨ (nm ≠ [] ∧ namedB nm = false) then .error 4 else .ok ⟨nd, sr, v, tm, nm⟩
/-- The manifest's file. -/
def manB : List UInt8 := [109, 97, 110, 105, 102, 101, 115, 116]
theorem manB_named : namedB manB = true := by decide +kernel
theorem manB_new_named : namedB (manB ++ newB) = true := by decide +kernel
/-- How 'manifest.Read' goes. -/
def Dk.mread (d : Dk) : Except Int Mf := match d.sheet manB with
  | .error e => .error (if e = 2 ∨ e = 7 then e else 4)
  | .ok s => match s.l with
    | [p] => if s.e ≠ 0 ∨ s.t.kind ≠ 109 then .error 4 else match decM p with
      | .error _ => .error 4
      | .ok m => if m.node = s.t.a ∧ m.serial = s.t.b then .ok m else .error 4
    | _ => .error 4
/-- How 'manifest.Write' goes. -/
def Dk.mwrite (d : Dk) (m : Mf) : Int × Dk := if m.name ≠ [] ∧ namedB m.name = false then (1, d) else d.swap manB ⟨109, m.node, m.serial⟩ [m.enc]
end Go.Proofs.YtfhmamkafancbaaGreatDoor

/-
  Layer 11 (fold): what a fold is; New, Copy, and what is asked of it.
-/
namespace Go.Proofs.YtfhmamkafancbaaGreatDoor
open Go.RowKit
set_option linter.unusedVariables false
set_option linter.unusedSimpArgs false
/-- What a key has. -/
structure Ce where
  kd : Nat
  text : List UInt8
  num : Nat
def ceV (c : Ce) (tv : Value) : Value := .agg #[.int .u8 c.kd, tv, .float .f64 c.num]
structure Fo where
  cells : List (List UInt8 × Ce)
  mem : List Bool
  ret : List Bool
  vec : List Nat
  tm : Nat
  wr : Int
  mark : Nat
structure Ce.ok (c : Ce) : Prop where
  kd : c.kd < 256
  num : c.num < 18446744073709551616
  text : c.text.length ≤ 100000000
structure Fo.ok (f : Fo) : Prop where
  mem : f.mem.length = 64
  ret : f.ret.length = 64
  vec : f.vec.length ≤ 64
  vlt : ∀ x ∈ f.vec, x < 18446744073709551616
  tm : f.tm < 18446744073709551616
  wr : -9223372036854775808 ≤ f.wr ∧ f.wr ≤ 9223372036854775807
  mark : f.mark < 18446744073709551616
  cells : ∀ p ∈ f.cells, p.2.ok ∧ p.1.length ≤ 100000000
  keys : (f.cells.map Prod.fst).Nodup
/-- The struct's cells. -/
def foC (mb : Nat) (hv : Value) (f : Fo) : List Value := .map (some mb) :: (f.mem.map Value.bool ++ (f.ret.map Value.bool ++ [hv, .int .u64 f.tm, .int .i64 f.wr, .int .u64 f.mark]))
section
variable {mb : Nat} {hv : Value} {f : Fo}
theorem foC_len (h1 : f.mem.length = 64) (h2 : f.ret.length = 64) : (foC mb hv f).length = 133 := by simp [foC, h1, h2]
theorem foC_mem (h1 : f.mem.length = 64) {i : Nat} (h : i < 64) : (foC mb hv f)[1 + i]? = some (.bool (f.mem.getD i false)) := by
  rw [foC, Nat.add_comm, List.getElem?_cons_succ, List.getElem?_append_left (by simpa [h1] using h), List.getElem?_map, List.getD_eq_getElem?_getD, List.getElem?_eq_getElem (by omega)]
  rfl
theorem foC_ret (h1 : f.mem.length = 64) (h2 : f.ret.length = 64) {i : Nat} (h : i < 64) : (foC mb hv f)[65 + i]? = some (.bool (f.ret.getD i false)) := by
  rw [foC, show 65 + i = (64 + i) + 1 by omega, List.getElem?_cons_succ, List.getElem?_append_right (by simp [h1])]
  simp only [List.length_map, h1]
  rw [show 64 + i - 64 = i by omega, List.getElem?_append_left (by simpa [h2] using h), List.getElem?_map, List.getD_eq_getElem?_getD, List.getElem?_eq_getElem (by omega)]
  rfl
theorem foC_setmem (h1 : f.mem.length = 64) {i : Nat} (h : i < 64) : spl (foC mb hv f) (1 + i) [.bool true] = foC mb hv { f with mem := f.mem.set i true } := by
  simp only [spl, foC]
  rw [Nat.add_comm, List.set_cons_succ, List.set_append_left _ _ (by simpa [h1] using h), List.map_set]
end
abbrev Cs := List (List UInt8 × (Ce × Value))
def Cs.plain (L : Cs) : List (List UInt8 × Ce) := L.map fun p => (p.1, p.2.1)
def Cs.tvs (L : Cs) (g : Hl) : Prop := ∀ p ∈ L, Pr 1 g p.2.2 p.2.1.text.length (bs p.2.1.text)
theorem Cs.tvs_mono {L : Cs} {g g' : Hl} (h : L.tvs g) (hg : Hl.le g g') : L.tvs g' := fun p hp => (h p hp).mono hg
def cmap (mb : Nat) (L : Cs) : HP := mp str mb (L.map fun p => (p.1, ceV p.2.1 p.2.2))
structure Fi where
  mb : Nat
  L : Cs
  a : Option Addr
  c : Nat
def Fi.hv (i : Fi) (f : Fo) : Value := .slice i.a f.vec.length i.c
structure Fi.ok (i : Fi) (f : Fo) (g : Hl) : Prop where
  ok : f.ok
  plain : Cs.plain i.L = f.cells
  tvs : i.L.tvs g
  vec : Pr 1 g (i.hv f) f.vec.length (us f.vec)
theorem Fi.ok.mono {i : Fi} {f : Fo} {g g' : Hl} (h : i.ok f g) (hg : Hl.le g g') : i.ok f g' := ⟨h.ok, h.plain, Cs.tvs_mono h.tvs hg, h.vec.mono hg⟩
def foB (b : Nat) (i : Fi) (f : Fo) : HP := blk b (foC i.mb (i.hv f) f) 175
/-- A fold. -/
def fold (b : Nat) (f : Fo) : HP := exs fun i : Fi => wit (fun g => i.ok f g) (fun _ _ hg h => h.mono hg) (sep (foB b i f) (cmap i.mb i.L))
section
variable {W w : World} {g : Hl} {H : List HP} {b : Nat} {f : Fo}
theorem fold_open (hs : Sat W w g (fold b f :: H)) : ∃ i : Fi, i.ok f g ∧ Sat W w g (foB b i f :: cmap i.mb i.L :: H) := by
  obtain ⟨i, h⟩ := hs.unexs
  exact ⟨i, h.unwit.1, h.unwit.2.split⟩
theorem fold_close (i : Fi) (h : i.ok f g) (hs : Sat W w g (foB b i f :: cmap i.mb i.L :: H)) : Sat W w g (fold b f :: H) := Sat.mkexs i (Sat.mkwit h hs.join)
end
/-- Of no events. -/
def foNew (k : Nat) : Fo := ⟨[], List.replicate k true ++ List.replicate (64 - k) false, List.replicate 64 false, [], 0, 0, 14695981039346656037⟩
theorem foNew_ok {k : Nat} (h : k ≤ 64) : (foNew k).ok := ⟨by simp [foNew]; omega, by simp [foNew], by simp [foNew], by simp [foNew], by simp [foNew], by simp [foNew], by simp [foNew], by simp [foNew], by simp [foNew]⟩
set_option maxHeartbeats 1600000 in
set_option maxRecDepth 100000 in
theorem foldNew_any {R : Ending → World → Prop} {W w : World} {g : Hl} {H : List HP} {n : Int} (hn : -9223372036854775808 ≤ n ∧ n ≤ 9223372036854775807) (hs : Sat W w g H)
    (hR : ∀ b w', Sat W w' g (fold b (foNew (min (max n 0) 64).toNat) :: H) → R (.returned (ptr b)) w') : Calls Tryz.prog 88 #[.int .i64 n] w R := by
  have HR := Lib.hid hR
  clear hR
  refine C.calls (args := [.int .i64 n]) Tryz.func88 rfl rfl rfl ?_
  refine go ?_
  apply E.cons
  apply St.makeMap (List UInt8) str hs
  intro mb w1 hs
  refine go ?_
  refine E.bx hs (xs := foC mb (.slice none 0 0) (foNew 0)) ?_ (hx := rfl)
  intro b w2 hs
  have e1 : Min.min (Max.max n 0) 64 = ((min (max n 0) 64).toNat : Int) := by omega
  have hk : (min (max n 0) 64).toNat ≤ 64 := by omega
  refine gob ?_
  rw [e1]
  generalize (min (max n 0) 64).toNat = k at hk HR ⊢
  refine C.block ?_
  refine C.lp (fun i : Nat => [(3, ptr b), (10, .int .i64 k), (11, .int .i64 i)]) (fun gk i w => gk = k - i ∧ i ≤ k ∧ Sat W w g (blk b (foC mb (.slice none 0 0) (foNew i)) 175 :: mp str mb ([] : List (List UInt8 × Value)) :: H)) k 0 ⟨rfl, Nat.zero_le _, hs⟩ ?_
  clear hs
  rintro gk i w3 ⟨rfl, hi, hs⟩
  have e0 : ptr b = .pointer (some ⟨b, 0, none⟩) := rfl
  rw [e0]
  refine go ?_
  refine C.cond_dec (p := (i : Int) < k) rfl (fun h => ?_) (fun h => ?_)
  · refine go ?_
    refine E.ixa i Tryz.underlying101 ?_
    have hx := foC_setmem (mb := mb) (hv := .slice none 0 0) (f := foNew i) (by simp [foNew]; omega) (i := i) (by omega)
    have e2 : { foNew i with mem := (foNew i).mem.set i true } = foNew (i + 1) := by
      simp only [foNew]
      congr 1
      rw [List.set_append_right _ _ (by simp), List.length_replicate, Nat.sub_self, List.replicate_succ', List.append_assoc]
      congr 1
      rw [show 64 - i = (64 - (i + 1)) + 1 by omega, List.replicate_succ]
      rfl
    rw [e2] at hx
    refine E.sto hs ?_ (hsp := hx) (hj := by rw [foC_len (by simp [foNew]; omega) (by simp [foNew])]; simp; omega)
    intro w4 hs
    refine go ?_
    exact A.rd (k - (i + 1)) (i + 1) ⟨rfl, by omega, hs⟩
  · refine go ?_
    refine A.r1 ?_
    obtain rfl : i = k := by omega
    refine HR.out _ _ (fold_close ⟨mb, [], none, 0⟩ ⟨foNew_ok hk, rfl, (fun p hp => by cases hp), Pr.nil⟩ hs)
set_option maxHeartbeats 1600000 in
set_option maxRecDepth 100000 in
theorem foldJoined_any {R : Ending → World → Prop} {W w : World} {g : Hl} {H : List HP} {b : Nat} {f : Fo} {k : Int} (hs : Sat W w g (fold b f :: H))
    (hR : R (.returned (.bool (decide (0 ≤ k) && f.mem.getD k.toNat false))) w) : Calls Tryz.prog 160 #[ptr b, .int .i64 k] w R := by
  have HR := Lib.hid hR
  clear hR
  obtain ⟨i, hi, hs⟩ := fold_open hs
  have h1 := hi.ok.mem
  have h2 := hi.ok.ret
  simp only [foB] at hs
  refine C.calls (args := [.pointer (some ⟨b, 0, none⟩), .int .i64 k]) Tryz.func160 rfl rfl rfl ?_
  refine go ?_
  cases h3 : decide (0 ≤ k) with
  | false =>
    refine go ?_
    refine A.r1 ?_
    simpa [h3] using HR.out
  | true =>
  have h3' := of_decide_eq_true h3
  obtain ⟨k, rfl⟩ := Int.eq_ofNat_of_zero_le h3'
  refine go ?_
  cases h4 : decide ((k : Int) < 64) with
  | false =>
    refine go ?_
    refine A.r1 ?_
    have h4 := of_decide_eq_false h4
    have := HR.out
    rw [h3, List.getD_eq_getElem?_getD, List.getElem?_eq_none (by omega)] at this
    exact this
  | true =>
  have h4 := of_decide_eq_true h4
  refine go ?_
  refine E.ld hs ?_ (hj := foC_mem h1 (by omega))
  refine go ?_
  refine A.r1 ?_
  have := HR.out
  rw [h3] at this
  exact this
set_option maxHeartbeats 1600000 in
set_option maxRecDepth 100000 in
theorem foldRetired_any {R : Ending → World → Prop} {W w : World} {g : Hl} {H : List HP} {b : Nat} {f : Fo} {k : Int} (hs : Sat W w g (fold b f :: H))
    (hR : R (.returned (.bool (decide (0 ≤ k) && f.ret.getD k.toNat false))) w) : Calls Tryz.prog 161 #[ptr b, .int .i64 k] w R := by
  have HR := Lib.hid hR
  clear hR
  obtain ⟨i, hi, hs⟩ := fold_open hs
  have h1 := hi.ok.mem
  have h2 := hi.ok.ret
  simp only [foB] at hs
  refine C.calls (args := [.pointer (some ⟨b, 0, none⟩), .int .i64 k]) Tryz.func161 rfl rfl rfl ?_
  refine go ?_
  cases h3 : decide (0 ≤ k) with
  | false =>
    refine go ?_
    refine A.r1 ?_
    simpa [h3] using HR.out
  | true =>
  have h3' := of_decide_eq_true h3
  obtain ⟨k, rfl⟩ := Int.eq_ofNat_of_zero_le h3'
  refine go ?_
  cases h4 : decide ((k : Int) < 64) with
  | false =>
    refine go ?_
    refine A.r1 ?_
    have h4 := of_decide_eq_false h4
    have := HR.out
    rw [h3, List.getD_eq_getElem?_getD, List.getElem?_eq_none (by omega)] at this
    exact this
  | true =>
  have h4 := of_decide_eq_true h4
  refine go ?_
  refine E.ld hs ?_ (hj := foC_ret h1 h2 (by omega))
  refine go ?_
  refine A.r1 ?_
  have := HR.out
  rw [h3] at this
  exact this
end Go.Proofs.YtfhmamkafancbaaGreatDoor

/-
  Floats: a difference.
-/
namespace Go.Proofs.YtfhmamkafancbaaGreatDoor
open Go.RowKit
set_option linter.unusedVariables false
set_option linter.unusedSimpArgs false
section
variable {P : Program} {n : Fm} {ρ : List (Nat × Value)} {W w w' : World} {g g' : Hl} {H H' : List HP} {Q : Exit → Act → World → Prop} {ops : Array Oper} {rest : List Oper} {d : Option Tmp} {ty : TypeId} {ps : String} {af : Array Edge} {v u : Value} {x y : Operand} {e t : TypeId}
end
end Go.Proofs.YtfhmamkafancbaaGreatDoor

/-
  The stepping engine: makes and sums in drawn regions, a stronger hold.
-/
namespace Go.Proofs.YtfhmamkafancbaaGreatDoor
open Go.RowKit
set_option linter.unusedVariables false
set_option linter.unusedSimpArgs false
section
variable {P : Program} {n : Fm} {ρ : List (Nat × Value)} {W w w' : World} {g g' : Hl} {H H' : List HP} {Q : Exit → Act → World → Prop} {ops : Array Oper} {rest : List Oper} {d : Option Tmp} {ty : TypeId} {ps : String} {af : Array Edge} {v u z : Value} {x y : Operand} {e t : TypeId} {s bytes : Nat} {N : List (Nat × Value) → World → Prop}
/-- An own row that isn't empty lies somewhere. -/
theorem Sat.ownAt {a : Option Addr} {k c : Nat} {xs : List Value} (hs : Sat W w g (own e s (.slice a k c) k xs :: H)) (hk : 0 < k) : ∃ b, a = some ⟨b, 0, none⟩ := by
  rcases hs.owns.2 with ⟨h, _⟩ | ⟨b, _, _, h, _⟩
  · simp only [Value.slice.injEq] at h; omega
  · simp only [Value.slice.injEq] at h
    exact ⟨b, h.1⟩
theorem wpAnyH_mono {S S' : World → Prop} (hS : ∀ w, S' w → S w) {md : Region.Mode} : ∀ (fuel : Nat) (listed : Array Bool) (a : Act) (w : World), wpAnyH P md ops Q S' fuel listed a w → wpAnyH P md ops Q S fuel listed a w
  | 0, _, _, _, h => h
  | fuel + 1, _, _, _, h => ⟨h.1, fun i hi => wpOp_mono (fun a' w' h' => ⟨hS _ h'.1, wpAnyH_mono hS fuel _ a' w' h'.2⟩) (h.2 i hi)⟩
/-- From here on more is held. -/
theorem EH.more {l : List Oper} {S : World → Prop} {fuel m : Nat} (S' : World → Prop) (hS : ∀ w, S' w → S w) (h : EH P n l S' fuel m ρ w Q) : EH P n l S fuel m ρ w Q := by
  unfold EH at *
  exact fun a ha => wpAnyH_mono hS _ _ _ _ (h a ha)
theorem Keeps.le {F : List (Nat × List Value × TypeId)} (hg : Hl.le g g') (w : World) (h : Keeps g' F w) : Keeps g F w := ⟨fun k o hk => h.1 k o (hg k o hk), h.2⟩
/-- The pool has grown: all of it is held. -/
theorem EH.pool {l : List Oper} {F : List (Nat × List Value × TypeId)} {fuel m : Nat} (hg : Hl.le g g') (h : EH P n l (Keeps g' F) fuel m ρ w Q) : EH P n l (Keeps g F) fuel m ρ w Q := EH.more _ (Keeps.le hg) h
theorem St.al {xs : List Value} (hs : Sat W w g H) (h : ∀ b w', Sat W w' g (blk b xs e :: H) → N (pushv d (.pointer (some ⟨b, 0, none⟩)) ρ) w') (hz : (zeroValue e).run P w = .ok z w := by go_simp; first | done | exact rfl | exact ⟨rfl, rfl⟩) (hx : z.cells.toList = xs := by exact nz_) :
    St P n ops ⟨d, .alloc e, ty, ps, af, none⟩ ρ w N Q := St.alloc hs hz hx h
theorem St.ldp {b j k : Nat} {xs vs : List Value} (st : AggOf P t k) (hs : Sat W w g H) (h : N (pushv d (.agg vs.toArray) ρ) w) (hx : evo n ρ x = some (.pointer (some ⟨b, j, none⟩)) := by exact rfl) (hf : Fd H b xs e := by exact fd_) (hv : (xs.drop j).take k = vs := by exact nz_) (hk : vs.length = k := by exact rfl) :
    St P n ops ⟨d, .load t x, ty, ps, af, none⟩ ρ w N Q := St.loads hx (run_ldp st (hf.blk hs) hv hk) h
end
section
variable {P : Program} {n : Fm} {ρ : List (Nat × Value)} {W w w' : World} {g g' : Hl} {H H' : List HP} {Q : Exit → Act → World → Prop} {l : List Oper} {S : World → Prop} {fuel m i : Nat} {rs : List Nat} {d : Option Tmp} {ty : TypeId} {ps : String} {af : Array Edge} {gd : Option (Nat × Bool)} {F : List (Nat × List Value × TypeId)} {v z : Value} {x y : Operand} {e t : TypeId} {a : Option Addr} {len c bytes : Nat}
theorem EH.ldp {b j k : Nat} {xs vs : List Value} (st : AggOf P t k) (hs : Sat W w g H) (h : S w ∧ EH P n l S fuel (bset m i) (pushv d (.agg vs.toArray) ρ) w Q) (hr : rdy m l.length 0 l = [i] := by exact rfl) (hi : nth l i = some ⟨d, .load t x, ty, ps, af, none⟩ := by exact rfl)
    (hx : evo n ρ x = some (.pointer (some ⟨b, j, none⟩)) := by exact rfl) (hf : Fd H b xs e := by exact fd_) (hv : (xs.drop j).take k = vs := by exact nz_) (hk : vs.length = k := by exact rfl) : EH P n l S (fuel + 1) m ρ w Q :=
  EH.one (St.loads hx (run_ldp st (hf.blk hs) hv hk) h) hr hi
end
end Go.Proofs.YtfhmamkafancbaaGreatDoor

/-
  The stepping engine: strings by place and in part; what package-level variables hold.
-/
namespace Go.Proofs.YtfhmamkafancbaaGreatDoor
open Go.RowKit
set_option linter.unusedVariables false
set_option linter.unusedSimpArgs false
section
variable {P : Program} {n : Fm} {ρ : List (Nat × Value)} {W w w' : World} {g g' : Hl} {H H' : List HP} {Q : Exit → Act → World → Prop} {ops : Array Oper} {rest : List Oper} {d : Option Tmp} {ty : TypeId} {ps : String} {af : Array Edge} {v u z : Value} {x y : Operand} {e t : TypeId} {l : List UInt8} {kd kd' : IntKind} {i j : Int}
theorem ba_size (l : List UInt8) : (ByteArray.mk l.toArray).size = l.length := by simp [ByteArray.size]
theorem ba_get (l : List UInt8) (k : Nat) (h : k < l.length) (h' : k < (ByteArray.mk l.toArray).size) : (ByteArray.mk l.toArray)[k]'h' = l[k] := by
  show (ByteArray.mk l.toArray).data[k]'(by simpa [ByteArray.size] using h') = l[k]
  simp
theorem ba_extract (l : List UInt8) (a b : Nat) : (ByteArray.mk l.toArray).extract a b = ⟨((l.drop a).take (b - a)).toArray⟩ := by
  apply ByteArray.ext
  rw [ByteArray.data_extract]
  apply Array.ext'
  simp [List.take_drop]
/-- A string's byte. -/
theorem Pv.sidx (ht : P.underlying t = some .string) (q : Nat) (hq : q < l.length) (hx : evo n ρ x = some (.string ⟨l.toArray⟩) := by exact rfl) (hy : evo n ρ y = some (.int kd i) := by exact rfl) (hi : i = (q : Int) := by first | rfl | omega) : Pv P n ρ (.index t x y) ty (.int .u8 (l[q].toNat : Int)) := Pv.mk fun a ha w d ps af g => by
  subst hi
  have h1 := run_index_string (P := P) w t ⟨l.toArray⟩ kd (q : Int) ht
  rw [dif_pos ⟨by omega, by rw [ba_size]; omega⟩] at h1
  have h2 : (ByteArray.mk l.toArray)[(q : Int).toNat]'(by rw [ba_size]; simpa using hq) = l[q] := ba_get l q hq _
  rw [h2] at h1
  simp [execOp, ha.eval hx, ha.eval hy, h1]
theorem E.sidx (ht : P.underlying t = some .string) (q : Nat) (hq : q < l.length) (h : E P n ops rest (pushv d (.int .u8 (l[q].toNat : Int)) ρ) w Q) (hx : evo n ρ x = some (.string ⟨l.toArray⟩) := by exact rfl) (hy : evo n ρ y = some (.int kd i) := by exact rfl) (hi : i = (q : Int) := by first | rfl | omega) :
    E P n ops (⟨d, .index t x y, ty, ps, af, none⟩ :: rest) ρ w Q := E.pv (Pv.sidx ht q hq hx hy hi) h
theorem Pv.negw {s : TypeId} (hx : evo n ρ x = some (.int kd i) := by exact rfl) : Pv P n ρ (.unOp .neg s x) ty (.int kd (kd.wrap (-i))) := Pv.unOp hx fun w => by simp [Op.unary, Op.intArith]
/-- A part of a string: from a place on; up to a place; between two. -/
theorem Pv.sfrom {lo : Operand} (ht : P.underlying t = some .string) (q : Nat) (hq : q ≤ l.length) (hx : evo n ρ x = some (.string ⟨l.toArray⟩) := by exact rfl) (hy : evo n ρ lo = some (.int kd i) := by exact rfl) (hi : i = (q : Int) := by first | rfl | omega) : Pv P n ρ (.slice t x (some lo) none none) ty (.string ⟨(l.drop q).toArray⟩) :=
  Pv.mk fun a ha w d ps af g => by
    subst hi
    have h1 := run_slice_string_from_if (P := P) w t ⟨l.toArray⟩ kd (q : Int) ht
    rw [if_pos ⟨by omega, by rw [ba_size]; omega⟩, ba_extract, ba_size, List.take_of_length_le (by rw [List.length_drop]; simp)] at h1
    simp only [Int.toNat_natCast] at h1
    simp [execOp, ha.eval hx, ha.eval hy, Instr.sliceAt, run_underlying ht, h1]
theorem Pv.supto {hi' : Operand} (ht : P.underlying t = some .string) (q : Nat) (hq : q ≤ l.length) (hx : evo n ρ x = some (.string ⟨l.toArray⟩) := by exact rfl) (hy : evo n ρ hi' = some (.int kd i) := by exact rfl) (hi : i = (q : Int) := by first | rfl | omega) : Pv P n ρ (.slice t x none (some hi') none) ty (.string ⟨(l.take q).toArray⟩) :=
  Pv.mk fun a ha w d ps af g => by
    subst hi
    have h1 := run_slice_string_to_if (P := P) w t ⟨l.toArray⟩ kd (q : Int) ht
    rw [if_pos ⟨by omega, by rw [ba_size]; omega⟩, ba_extract] at h1
    simp only [Int.toNat_natCast, List.drop_zero, Nat.sub_zero] at h1
    simp [execOp, ha.eval hx, ha.eval hy, Instr.sliceAt, run_underlying ht, h1]
theorem Pv.ssub {lo hi' : Operand} (ht : P.underlying t = some .string) (q r : Nat) (hqr : q ≤ r) (hr : r ≤ l.length) (hx : evo n ρ x = some (.string ⟨l.toArray⟩) := by exact rfl) (hy : evo n ρ lo = some (.int kd i) := by exact rfl) (hz : evo n ρ hi' = some (.int kd' j) := by exact rfl) (hi : i = (q : Int) := by first | rfl | omega) (hj : j = (r : Int) := by first | rfl | omega) :
    Pv P n ρ (.slice t x (some lo) (some hi') none) ty (.string ⟨((l.drop q).take (r - q)).toArray⟩) :=
  Pv.mk fun a ha w d ps af g => by
    subst hi hj
    have h1 := run_slice_string (P := P) w t ⟨l.toArray⟩ kd kd' (q : Int) (r : Int) ht (by omega) (by omega) (by rw [ba_size]; omega)
    rw [ba_extract] at h1
    simp only [Int.toNat_natCast] at h1
    simp [execOp, ha.eval hx, ha.eval hy, ha.eval hz, Instr.sliceAt, run_underlying ht, h1]
/-- a[j:] of an array in memory, an element of one cell. -/
theorem run_slice_arr {b q m : Nat} (ht : P.underlying t = some (.array m e)) (hq : ∀ w, (sizeOf e).run P w = .ok 1 w) (hi : i = (q : Int)) (hj : q < m) (w : World) : (Instr.sliceAt t (.pointer (some ⟨b, 0, none⟩)) (some (.int kd i)) none none).run P w = .ok (.slice (some ⟨b, q, none⟩) (m - q) (m - q)) w := by
  subst hi
  have h1 : ((q : Int) ≤ (m : Int)) := by omega
  have h2 : ¬ m = q := by omega
  simp [Instr.sliceAt, run_underlying ht, asIntOf, hq, Instr.sureAddr, Instr.sliceBounds, Instr.sliceBound, h1, h2, Addr.add_lit]
  omega
theorem E.slarr {b q m : Nat} {lo : Operand} (ht : P.underlying t = some (.array m e)) (hj : q < m) (h : E P n ops rest (pushv d (.slice (some ⟨b, q, none⟩) (m - q) (m - q)) ρ) w Q) (hq : ∀ w, (sizeOf e).run P w = .ok 1 w := by intro w; exact sz_)
    (hx : evo n ρ x = some (.pointer (some ⟨b, 0, none⟩)) := by exact rfl) (hy : evm n ρ (some lo) = some (some (.int kd i)) := by exact rfl) (hi : i = (q : Int) := by first | rfl | omega) : E P n ops (⟨d, .slice t x (some lo) none none, ty, ps, af, none⟩ :: rest) ρ w Q :=
  E.pv (Pv.slice hx hy rfl rfl (run_slice_arr ht hq hi hj)) h
end
/-- A part of a block as a row of bytes. -/
theorem blk_rowb {W w : World} {g : Hl} {H : List HP} {b q m : Nat} {xs : List Value} {E : TypeId} {l : List UInt8} (hs : Sat W w g (blk b xs E :: H)) (hx : xs.drop q = bs l) (hm : l.length = m) (hm2 : m ≤ 9223372036854775807) : Row 1 w (fun _ => True) (.slice (some ⟨b, q, none⟩) m m) m (bs l) :=
  ⟨by rw [bs_length, hm, Nat.mul_one], _, m, rfl, Nat.le_refl _, hm2, fun e => by simp at e, .inr ⟨b, q, xs.toArray, E, (0, 0), rfl, trivial, hs.block, by
    simp only []
    rw [hx, Nat.mul_one, List.take_of_length_le (by rw [bs_length]; omega)]⟩⟩
theorem drop_set {α : Type} {xs : List α} {i : Nat} {v : α} (h : i < xs.length) : (xs.set i v).drop i = v :: xs.drop (i + 1) := by
  rw [List.drop_eq_getElem_cons (by simpa using h), List.getElem_set_self, List.drop_set, if_pos (by omega)]
/-- What a place of a package-level variable holds, in the pool. -/
def GlC (g : Hl) (b o : Nat) (v : Value) : Prop := ∃ cur e fz, g b = some (.cells cur e fz) ∧ cur[o]? = some v
theorem GlC.mono {g g' : Hl} {b o : Nat} {v : Value} (h : GlC g b o v) (hg : Hl.le g g') : GlC g' b o v := by
  obtain ⟨c, e, f, h1, h2⟩ := h
  exact ⟨c, e, f, hg _ _ h1, h2⟩
theorem GlC.at {W w : World} {g : Hl} {H : List HP} {b o : Nat} {v : Value} (h : GlC g b o v) (hs : Sat W w g H) : w.cell? ⟨b, o, none⟩ = some v := by
  obtain ⟨c, e, f, h1, h2⟩ := h
  have := hs.pool h1
  simp [World.cell?, this, h2]
theorem GlC.of {w : World} {b o : Nat} {v : Value} (h : w.cell? ⟨b, o, none⟩ = some v) : GlC (fun k => w.heap[k]?) b o v := by
  simp only [World.cell?] at h
  unfold GlC
  cases hb : w.heap[b]? with
  | none => rw [hb] at h; simp at h
  | some ob =>
    rw [hb] at h
    cases ob with
    | cells cur e fz => exact ⟨cur, e, fz, hb, by simpa using h⟩
    | _ => simp at h
end Go.Proofs.YtfhmamkafancbaaGreatDoor

/-
  Numbers as words: to base sixteen; small ones to base ten.
-/
namespace Go.Proofs.YtfhmamkafancbaaGreatDoor
open Go.RowKit
set_option linter.unusedVariables false
set_option linter.unusedSimpArgs false
/-- What the calls lean on: the table of math/bits. -/
structure Gl (g : Hl) : Prop where
  tz : GlC g 4 15 (.int .u8 4)
theorem Gl.mono {g g' : Hl} (h : Gl g) (hg : Hl.le g g') : Gl g' := ⟨h.tz.mono hg⟩
def digs : List UInt8 := [48, 49, 50, 51, 52, 53, 54, 55, 56, 57, 97, 98, 99, 100, 101, 102, 103, 104, 105, 106, 107, 108, 109, 110, 111, 112, 113, 114, 115, 116, 117, 118, 119, 120, 121, 122]
def hexD (d : Nat) : UInt8 := digs.getD d 0
/-- A number's digits to base sixteen. -/
def hexN (n : Nat) : List UInt8 := if n < 16 then [hexD n] else hexN (n / 16) ++ [hexD (n % 16)]
termination_by n
decreasing_by omega
theorem hexN_small {n : Nat} (h : n < 16) : hexN n = [hexD n] := by rw [hexN, if_pos h]
theorem hexN_step {n : Nat} (h : 16 ≤ n) : hexN n = hexN (n / 16) ++ [hexD (n % 16)] := by rw [hexN, if_neg (by omega)]
theorem hexN_len : ∀ (k n : Nat), 1 ≤ k → n < 16 ^ k → 1 ≤ (hexN n).length ∧ (hexN n).length ≤ k
  | 0, _, h, _ => by omega
  | k + 1, n, _, h => by
    by_cases h1 : n < 16
    · rw [hexN_small h1]; simp
    · rw [hexN_step (by omega), List.length_append]
      have hk : 1 ≤ k := by
        rcases Nat.eq_zero_or_pos k with rfl | hk
        · simp at h; omega
        · exact hk
      have := hexN_len k (n / 16) hk (by rw [Nat.pow_succ] at h; omega)
      simp only [List.length_cons, List.length_nil]
      omega
set_option maxHeartbeats 1600000 in
set_option maxRecDepth 100000 in
theorem pow2_any {R : Ending → World → Prop} {w : World} (hR : R (.returned (.bool true)) w) : Calls Tryz.prog 255 #[.int .i64 16] w R := by
  have HR := Lib.hid hR
  clear hR
  refine C.calls (args := [.int .i64 16]) Tryz.func255 rfl rfl rfl ?_
  refine go ?_
  refine A.r1 ?_
  exact HR.out
set_option maxHeartbeats 1600000 in
set_option maxRecDepth 100000 in
theorem tz64_any {R : Ending → World → Prop} {W w : World} {g : Hl} {H : List HP} (hg : Gl g) (hs : Sat W w g H) (hR : R (.returned (.int .i64 4)) w) : Calls Tryz.prog 276 #[.int .u64 16] w R := by
  have HR := Lib.hid hR
  clear hR
  have c1 := hg.tz.at hs
  refine C.calls (args := [.int .u64 16]) Tryz.func276 rfl rfl rfl ?_
  refine go ?_
  refine E.pv Pv.negw ?_
  rw [show IntKind.u64.wrap (-16) = 18446744073709551600 by rfl]
  refine go ?_
  refine A.r1 ?_
  exact HR.out
set_option maxHeartbeats 1600000 in
set_option maxRecDepth 100000 in
theorem tz_any {R : Ending → World → Prop} {W w : World} {g : Hl} {H : List HP} (hg : Gl g) (hs : Sat W w g H) (hR : R (.returned (.int .i64 4)) w) : Calls Tryz.prog 256 #[.int .u64 16] w R := by
  have HR := Lib.hid hR
  clear hR
  refine C.calls (args := [.int .u64 16]) Tryz.func256 rfl rfl rfl ?_
  refine go ?_
  refine E.callf Tryz.func276 rfl ?_
  refine tz64_any hg hs ?_
  refine go ?_
  refine A.r1 ?_
  exact HR.out
set_option maxHeartbeats 3200000 in
set_option maxRecDepth 100000 in
theorem formatBits_any {R : Ending → World → Prop} {W w : World} {g : Hl} {H : List HP} {m : Nat} (hg : Gl g) (hm : m < 18446744073709551616) (hs : Sat W w g H)
    (hR : ∀ w', Sat W w' g H → R (.returned (.tuple #[.slice none 0 0, .string ⟨(hexN m).toArray⟩])) w') : Calls Tryz.prog 230 #[.slice none 0 0, .int .u64 m, .int .i64 16, .bool false, .bool false] w R := by
  have HR := Lib.hid hR
  clear hR
  refine C.calls (args := [.slice none 0 0, .int .u64 m, .int .i64 16, .bool false, .bool false]) Tryz.func230 rfl rfl rfl ?_
  refine go ?_
  refine E.al hs (xs := List.replicate 65 (.int .u8 0)) ?_ (hx := rfl)
  intro b1 w1 hs
  refine go ?_
  refine E.callf Tryz.func255 rfl ?_
  refine pow2_any ?_
  refine go ?_
  refine E.callf Tryz.func256 rfl ?_
  refine tz_any hg hs ?_
  refine gob ?_
  refine C.cut (fun x : Nat × Nat => [(0, .slice none 0 0), (1, .int .u64 x.1), (4, .bool false), (3, .bool false), (10, .slice none 0 0), (12, .pointer (some ⟨b1, 0, none⟩)), (13, .int .i64 x.2)])
    (fun x w => x.1 < 16 ∧ 50 ≤ x.2 ∧ x.2 ≤ 65 ∧ ∃ (xs : List Value) (suf : List UInt8), xs.length = 65 ∧ xs.drop x.2 = bs suf ∧ hexN m = hexN x.1 ++ suf ∧ Sat W w g (blk b1 xs 312 :: H)) ?_ ?_
  · refine C.block ?_
    refine C.lp (fun x : Nat × Nat => [(0, .slice none 0 0), (1, .int .u64 x.1), (4, .bool false), (3, .bool false), (10, .slice none 0 0), (12, .pointer (some ⟨b1, 0, none⟩)), (13, .int .i64 (x.2 + 49 : Nat)), (14, .int .u64 4), (15, .int .u64 16), (16, .int .u64 15)])
      (fun gk x w => gk = x.2 ∧ 1 ≤ x.2 ∧ x.2 ≤ 16 ∧ x.1 < 16 ^ x.2 ∧ x.1 < 18446744073709551616 ∧ ∃ (xs : List Value) (suf : List UInt8), xs.length = 65 ∧ xs.drop (x.2 + 49) = bs suf ∧ hexN m = hexN x.1 ++ suf ∧ Sat W w g (blk b1 xs 312 :: H)) 16 (m, 16) ⟨rfl, by simp, by simp, hm, hm, _, [], rfl, rfl, by simp, hs⟩ ?_
    clear hs
    rintro k ⟨u, _⟩ w2 ⟨rfl, hk1, hk2, huk, hu, xs, suf, hxl, hxd, hhx, hs⟩
    simp only at hk1 hk2 huk hu hxd hhx hs ⊢
    refine go ?_
    refine C.cond_dec (p := (16 : Int) ≤ u) rfl (fun h => ?_) (fun h => ?_)
    · have hk3 : 2 ≤ k := by
        rcases Nat.lt_or_ge k 2 with h2 | h2
        · obtain rfl : k = 1 := by omega
          simp at huk
          omega
        · exact h2
      obtain ⟨k, rfl⟩ : ∃ q, k = q + 1 := ⟨k - 1, by omega⟩
      refine go ?_
      rw [show ((k + 1 + 49 : Nat) : Int) - 1 = ((k + 49 : Nat) : Int) by omega]
      have hdl : u % 16 < digs.length := by rw [show digs.length = 36 by rfl]; omega
      rw [show u &&& 15 = u % 16 from Nat.and_two_pow_sub_one_eq_mod u 4]
      refine E.sidx (l := digs) Tryz.underlying9 (u % 16) hdl ?_
      refine E.ixa (k + 49) Tryz.underlying312 ?_
      refine E.sto (vs := [.int .u8 (digs[u % 16].toNat : Int)]) (ys := xs.set (0 + (k + 49)) (.int .u8 (digs[u % 16].toNat : Int))) hs ?_ (hv := rfl) (hsp := rfl) (hj := by rw [hxl, Nat.ble_eq]; simp only [List.length_cons, List.length_nil]; omega)
      intro w4 hs
      refine go ?_
      refine A.rd k (u / 2 ^ 4, k) ⟨rfl, by simp only; omega, by simp only; omega, ?_, by simp only; omega, _, digs[u % 16] :: suf, ?_, ?_, ?_, hs⟩
      · rw [Nat.pow_succ] at huk
        simp only
        omega
      · simpa using hxl
      · simp only
        rw [Nat.zero_add, drop_set (by omega), show k + 49 + 1 = k + 1 + 49 by omega, hxd]
        rfl
      · simp only
        rw [hhx, hexN_step (by omega), List.append_assoc]
        congr 2
        show [hexD (u % 16)] ++ suf = _
        rw [hexD, List.getD_eq_getElem?_getD, List.getElem?_eq_getElem hdl]
        rfl
    · refine go ?_
      exact A.mt (u, k + 49) ⟨by simp only; omega, by simp only; omega, by simp only; omega, xs, suf, hxl, hxd, hhx, hs⟩
  clear hs
  rintro ⟨u, i⟩ w3 ⟨hu, hi1, hi2, xs, suf, hxl, hxd, hhx, hs⟩
  simp only at hu hi1 hi2 hxd hhx hs ⊢
  obtain ⟨i, rfl⟩ : ∃ q, i = q + 1 := ⟨i - 1, by omega⟩
  refine go ?_
  have hdl : u < digs.length := by rw [show digs.length = 36 by rfl]; omega
  refine E.sidx (l := digs) Tryz.underlying9 u hdl ?_
  refine E.ixa i Tryz.underlying312 ?_
  refine E.sto (vs := [.int .u8 (digs[u].toNat : Int)]) (ys := xs.set (0 + i) (.int .u8 (digs[u].toNat : Int))) hs ?_ (hv := rfl) (hsp := rfl) (hj := by rw [hxl, Nat.ble_eq]; simp only [List.length_cons, List.length_nil]; omega)
  intro w4 hs
  refine go ?_
  refine E.slarr (q := i) Tryz.underlying312 (by omega) ?_
  have hsl : suf.length = 64 - i := by
    have := congrArg List.length hxd
    simp only [List.length_drop, bs_length] at this
    omega
  have hrow := blk_rowb (l := digs[u] :: suf) (m := 65 - i) (q := i) hs (by rw [Nat.zero_add, drop_set (by omega), hxd]; rfl) (by simp only [List.length_cons]; omega) (by omega)
  refine E.strc hrow Tryz.underlying23 Tryz.underlying5 Tryz.underlying9 ?_
  refine go ?_
  refine A.r2 ?_
  have := HR.out _ hs.drop
  rw [hhx, hexN_small hu, hexD, List.getD_eq_getElem?_getD, List.getElem?_eq_getElem hdl] at this
  exact this
end Go.Proofs.YtfhmamkafancbaaGreatDoor

/-
  Strings that begin so.
-/
namespace Go.Proofs.YtfhmamkafancbaaGreatDoor
open Go.RowKit
set_option linter.unusedVariables false
set_option linter.unusedSimpArgs false
theorem extract_take (l : List UInt8) (h : Nat) : (⟨l.toArray⟩ : ByteArray).extract 0 h = ⟨(l.take h).toArray⟩ := by
  apply ByteArray.ext
  simp [ByteArray.data_extract]
section
variable {P : Program} {n : Fm} {ρ : List (Nat × Value)} {W w w' : World} {Q : Exit → Act → World → Prop} {ops : Array Oper} {rest : List Oper} {d : Option Tmp} {t ty : TypeId} {ps : String} {af : Array Edge} {x y : Operand}
/-- s[:h] of a string. -/
theorem E.sls {l : List UInt8} (h : Nat) (k : E P n ops rest (pushv d (.string ⟨(l.take h).toArray⟩) ρ) w Q) {kd : IntKind} {i : Int} (ht : P.underlying t = some .string) (hh : h ≤ l.length := by omega)
    (hx : evo n ρ x = some (.string ⟨l.toArray⟩) := by exact rfl) (hy : evm n ρ (some y) = some (some (.int kd i)) := by exact rfl) (hi : i = (h : Int) := by omega) :
    E P n ops (⟨d, .slice t x none (some y) none, ty, ps, af, none⟩ :: rest) ρ w Q := by
  subst hi
  refine E.pv (Pv.slice hx rfl hy rfl (fun w => ?_)) k
  have hsz : (h : Int) ≤ ((⟨l.toArray⟩ : ByteArray).size : Int) := by simp [ByteArray.size]; omega
  have := run_slice_string_h (P := P) w t ⟨l.toArray⟩ ht kd h (by omega) hsz
  rw [Int.toNat_natCast, extract_take] at this
  simp only [Instr.sliceAt]
  simp [run_underlying ht, this]
end
set_option maxHeartbeats 1600000 in
set_option maxRecDepth 100000 in
theorem hasPrefix_lite {R : Ending → World → Prop} {w : World} {s p : List UInt8} (hsl : s.length ≤ 1000000000) (hpl : p.length ≤ 1000000000)
    (hR : R (.returned (.bool (decide (p.length ≤ s.length ∧ s.take p.length = p)))) w) :
    Calls Tryz.prog 202 #[str s, str p] w R := by
  have HR := Lib.hid hR
  clear hR
  refine C.calls (args := [str s, str p]) Tryz.func202 rfl rfl rfl ?_
  have e0 : str s = .string ⟨s.toArray⟩ := rfl
  have e1 : str p = .string ⟨p.toArray⟩ := rfl
  rw [e0, e1]
  clear e0 e1
  refine go ?_
  cases hle : decide ((p.length : Int) ≤ s.length)
  · have hn : ¬ p.length ≤ s.length := by simpa using hle
    refine go ?_
    refine A.r1 ?_
    have := HR.out
    rw [decide_eq_false (fun h => hn h.1)] at this
    exact this
  · have hn : p.length ≤ s.length := by simpa using hle
    refine go ?_
    refine E.sls p.length ?_ Tryz.underlying9
    refine go ?_
    refine A.r1 ?_
    have := HR.out
    have e : decide (p.length ≤ s.length ∧ s.take p.length = p) = decide (s.take p.length = p) := by simp [hn]
    rw [e] at this
    exact this
set_option maxHeartbeats 1600000 in
set_option maxRecDepth 100000 in
theorem hasPrefix_any {R : Ending → World → Prop} {w : World} {s p : List UInt8} (hsl : s.length ≤ 1000000000) (hpl : p.length ≤ 1000000000)
    (hR : R (.returned (.bool (decide (p.length ≤ s.length ∧ s.take p.length = p)))) w) :
    Calls Tryz.prog 152 #[str s, str p] w R := by
  have HR := Lib.hid hR
  clear hR
  refine C.calls (args := [str s, str p]) Tryz.func152 rfl rfl rfl ?_
  refine go ?_
  refine E.callf Tryz.func202 rfl ?_
  refine hasPrefix_lite hsl hpl ?_
  refine go ?_
  refine A.r1 ?_
  exact HR.out
theorem hasPrefix_is {R : Ending → World → Prop} {w : World} {s p : List UInt8} (b : Bool) (hb : (decide (s.length ≤ 1000000000) && decide (p.length ≤ 1000000000) && (decide (p.length ≤ s.length ∧ s.take p.length = p) == b)) = true)
    (hR : R (.returned (.bool b)) w) : Calls Tryz.prog 152 #[str s, str p] w R := by
  simp only [Bool.and_eq_true, decide_eq_true_eq, beq_iff_eq] at hb
  refine hasPrefix_any hb.1.1 hb.1.2 ?_
  rw [hb.2]
  exact hR
set_option maxHeartbeats 1600000 in
set_option maxRecDepth 100000 in
theorem cutPrefix_lite {R : Ending → World → Prop} {w : World} {s p : List UInt8} (hsl : s.length ≤ 1000000000) (hpl : p.length ≤ 1000000000)
    (hR : R (.returned (.tuple #[str (if p.length ≤ s.length ∧ s.take p.length = p then s.drop p.length else s), .bool (decide (p.length ≤ s.length ∧ s.take p.length = p))])) w) :
    Calls Tryz.prog 283 #[str s, str p] w R := by
  have HR := Lib.hid hR
  clear hR
  have e0 : str s = .string ⟨s.toArray⟩ := rfl
  have e1 : str p = .string ⟨p.toArray⟩ := rfl
  rw [e0, e1]
  clear e0 e1
  refine C.calls (args := [.string ⟨s.toArray⟩, .string ⟨p.toArray⟩]) Tryz.func283 rfl rfl rfl ?_
  refine go ?_
  refine E.callf Tryz.func202 rfl ?_
  refine hasPrefix_lite hsl hpl ?_
  cases hd : decide (p.length ≤ s.length ∧ s.take p.length = p) with
  | true =>
    have hd' := of_decide_eq_true hd
    refine go ?_
    refine E.pv (Pv.sfrom Tryz.underlying9 p.length hd'.1) ?_
    refine go ?_
    refine A.r2 ?_
    have := HR.out
    rw [hd, if_pos hd'] at this
    exact this
  | false =>
    have hd' := of_decide_eq_false hd
    refine go ?_
    refine A.r2 ?_
    have := HR.out
    rw [hd, if_neg hd'] at this
    exact this
set_option maxHeartbeats 1600000 in
set_option maxRecDepth 100000 in
theorem cutPrefix_any {R : Ending → World → Prop} {w : World} {s p : List UInt8} (hsl : s.length ≤ 1000000000) (hpl : p.length ≤ 1000000000)
    (hR : R (.returned (.tuple #[str (if p.length ≤ s.length ∧ s.take p.length = p then s.drop p.length else s), .bool (decide (p.length ≤ s.length ∧ s.take p.length = p))])) w) :
    Calls Tryz.prog 267 #[str s, str p] w R := by
  have HR := Lib.hid hR
  clear hR
  refine C.calls (args := [str s, str p]) Tryz.func267 rfl rfl rfl ?_
  refine go ?_
  refine E.callf Tryz.func283 rfl ?_
  refine cutPrefix_lite hsl hpl ?_
  refine go ?_
  refine A.r2 ?_
  exact HR.out
theorem cutPrefix_has {R : Ending → World → Prop} {w : World} {p r : List UInt8} (hl : (p ++ r).length ≤ 1000000000) (hR : R (.returned (.tuple #[str r, .bool true])) w) : Calls Tryz.prog 267 #[str (p ++ r), str p] w R := by
  have h : p.length ≤ (p ++ r).length ∧ (p ++ r).take p.length = p := ⟨by rw [List.length_append]; omega, List.take_left⟩
  refine cutPrefix_any hl (by omega) ?_
  rw [if_pos h, decide_eq_true h, List.drop_left]
  exact hR
/-- The place of a byte: how many stand ahead of the first one; none: -1. -/
def ixB (c : UInt8) : List UInt8 → Int
  | [] => -1
  | x :: r => if x = c then 0 else if ixB c r < 0 then -1 else ixB c r + 1
theorem ixB_ge (c : UInt8) : ∀ (l : List UInt8), -1 ≤ ixB c l ∧ ixB c l < l.length
  | [] => by simp [ixB]
  | x :: r => by
    have := ixB_ge c r
    simp only [ixB, List.length_cons]
    split
    · omega
    · split <;> omega
theorem firstIdx_go (c : UInt8) : ∀ (l pre : List UInt8), ((List.range' pre.length l.length).find? fun i => (ByteArray.mk (pre ++ l).toArray)[i]! == c) = if ixB c l < 0 then none else some (pre.length + (ixB c l).toNat)
  | [], pre => by simp [ixB]
  | x :: r, pre => by
    have h1 : (ByteArray.mk (pre ++ x :: r).toArray)[pre.length]! = x := by
      have hlt : pre.length < (pre ++ x :: r).length := by simp
      rw [getElem!_pos _ _ (by rw [ba_size]; exact hlt), ba_get _ _ hlt]
      simp
    have ih := firstIdx_go c r (pre ++ [x])
    simp only [List.length_append, List.length_cons, List.length_nil, List.append_assoc, List.cons_append, List.nil_append] at ih
    rw [List.length_cons, List.range'_succ, List.find?_cons, h1]
    by_cases hx : x = c
    · have e : ixB c (x :: r) = 0 := by simp [ixB, hx]
      rw [e]
      simp [hx]
    · have hb := ixB_ge c r
      have hne : (x == c) = false := by simpa using hx
      simp only [Nat.zero_add] at ih
      rw [hne]
      simp only
      rw [ih]
      by_cases hn : ixB c r < 0
      · have e : ixB c (x :: r) = -1 := by simp [ixB, hx, hn]
        rw [e, if_pos hn]
        rfl
      · have e : ixB c (x :: r) = ixB c r + 1 := by simp [ixB, hx, hn]
        rw [e, if_neg hn, if_neg (by omega)]
        congr 1
        omega
theorem firstIdx_ix (l : List UInt8) (c : UInt8) : Go.firstIdx ⟨l.toArray⟩ c = ixB c l := by
  have h := firstIdx_go c l []
  simp only [List.length_nil, List.nil_append, Nat.zero_add] at h
  unfold Go.firstIdx
  rw [ba_size, List.range_eq_range', h]
  have hb := ixB_ge c l
  split
  · rename_i i hi
    split at hi
    · cases hi
    · simp only [Option.some.injEq] at hi
      omega
  · rename_i hi
    split at hi
    · omega
    · cases hi
set_option maxHeartbeats 1600000 in
set_option maxRecDepth 100000 in
theorem indexByte_any {R : Ending → World → Prop} {w : World} {s : List UInt8} {c : UInt8} (hR : R (.returned (.int .i64 (ixB c s))) w) :
    Calls Tryz.prog 297 #[str s, .int .u8 (c.toNat : Int)] w R := by
  have HR := Lib.hid hR
  clear hR
  have e0 : str s = .string ⟨s.toArray⟩ := rfl
  rw [e0]
  clear e0
  refine C.calls (args := [.string ⟨s.toArray⟩, .int .u8 (c.toNat : Int)]) Tryz.func297 rfl rfl rfl ?_
  refine go ?_
  have hr := Go.run_indexByte_string (P := Tryz.prog) ⟨s.toArray⟩ (c.toNat : Int) w
  have ec : ((c.toNat : Int).toNat.toUInt8) = c := by simp
  rw [ec, firstIdx_ix] at hr
  refine E.ext Tryz.func303 (ex := Extern.BytealgIndexByte.indexByte) hr ?_
  refine go ?_
  refine A.r1 ?_
  exact HR.out
set_option maxHeartbeats 1600000 in
set_option maxRecDepth 100000 in
theorem index1_any {R : Ending → World → Prop} {w : World} {s : List UInt8} {c : UInt8} (hs1 : s.length ≤ 1000000000) (hR : R (.returned (.int .i64 (ixB c s))) w) :
    Calls Tryz.prog 289 #[str s, str [c]] w R := by
  have HR := Lib.hid hR
  clear hR
  have e0 : str s = .string ⟨s.toArray⟩ := rfl
  have e1 : str [c] = .string ⟨[c].toArray⟩ := rfl
  rw [e0, e1]
  clear e0 e1
  refine C.calls (args := [.string ⟨s.toArray⟩, .string ⟨[c].toArray⟩]) Tryz.func289 rfl rfl rfl ?_
  refine go ?_
  cases he : decide ([c] = s) with
  | true =>
    have he := of_decide_eq_true he
    subst he
    refine go ?_
    refine A.r1 ?_
    have := HR.out
    simp only [ixB, if_true] at this
    exact this
  | false =>
    refine go ?_
    refine E.sidx (l := [c]) Tryz.underlying9 0 (by simp) ?_
    refine E.callf Tryz.func297 rfl ?_
    refine indexByte_any (s := s) (c := c) ?_
    refine go ?_
    refine A.r1 ?_
    exact HR.out
end Go.Proofs.YtfhmamkafancbaaGreatDoor

/-
  Numbers as words: FormatUint to base sixteen, Itoa of small ones; zeros.
-/
namespace Go.Proofs.YtfhmamkafancbaaGreatDoor
open Go.RowKit
set_option linter.unusedVariables false
set_option linter.unusedSimpArgs false
set_option maxHeartbeats 1600000 in
set_option maxRecDepth 100000 in
theorem formatUintI_any {R : Ending → World → Prop} {W w : World} {g : Hl} {H : List HP} {m : Nat} (hg : Gl g) (hm : m < 18446744073709551616) (hs : Sat W w g H)
    (hR : ∀ w', Sat W w' g H → R (.returned (str (hexN m))) w') : Calls Tryz.prog 191 #[.int .u64 m, .int .i64 16] w R := by
  have HR := Lib.hid hR
  clear hR
  refine C.calls (args := [.int .u64 m, .int .i64 16]) Tryz.func191 rfl rfl rfl ?_
  refine go ?_
  refine E.callf Tryz.func230 rfl ?_
  refine formatBits_any hg hm hs ?_
  intro w2 hs
  refine go ?_
  refine A.r1 ?_
  exact HR.out _ hs
set_option maxHeartbeats 1600000 in
set_option maxRecDepth 100000 in
theorem formatUint_any {R : Ending → World → Prop} {W w : World} {g : Hl} {H : List HP} {m : Nat} (hg : Gl g) (hm : m < 18446744073709551616) (hs : Sat W w g H)
    (hR : ∀ w', Sat W w' g H → R (.returned (str (hexN m))) w') : Calls Tryz.prog 137 #[.int .u64 m, .int .i64 16] w R := by
  have HR := Lib.hid hR
  clear hR
  refine C.calls (args := [.int .u64 m, .int .i64 16]) Tryz.func137 rfl rfl rfl ?_
  refine go ?_
  refine E.callf Tryz.func191 rfl ?_
  refine formatUintI_any hg hm hs ?_
  intro w2 hs
  refine go ?_
  refine A.r1 ?_
  exact HR.out _ hs
/-- A number's digits to base ten. -/
def decN (n : Nat) : List UInt8 := if n < 10 then [UInt8.ofNat (48 + n)] else decN (n / 10) ++ [UInt8.ofNat (48 + n % 10)]
termination_by n
decreasing_by omega
theorem decN_small {n : Nat} (h : n < 10) : decN n = [UInt8.ofNat (48 + n)] := by rw [decN, if_pos h]
theorem decN_two {n : Nat} (h1 : 10 ≤ n) (h2 : n < 100) : decN n = [UInt8.ofNat (48 + n / 10), UInt8.ofNat (48 + n % 10)] := by
  rw [decN, if_neg (by omega), decN_small (by omega)]
  rfl
theorem decN_len {n : Nat} (h : n < 100) : 1 ≤ (decN n).length ∧ (decN n).length ≤ 2 := by
  by_cases h1 : n < 10
  · rw [decN_small h1]; simp
  · rw [decN_two (by omega) h]; simp
set_option maxHeartbeats 1600000 in
set_option maxRecDepth 100000 in
theorem small_any {R : Ending → World → Prop} {w : World} {i : Nat} (hi : i < 100) (hR : R (.returned (str (decN i))) w) : Calls Tryz.prog 227 #[.int .i64 i] w R := by
  have HR := Lib.hid hR
  clear hR
  refine C.calls (args := [.int .i64 i]) Tryz.func227 rfl rfl rfl ?_
  refine go ?_
  refine C.cond_dec (p := (i : Int) < 10) rfl (fun h => ?_) (fun h => ?_)
  · have hi2 : i < 10 := by omega
    refine go ?_
    refine E.pv (Pv.ssub Tryz.underlying9 i (i + 1) (by omega) ?_) ?_
    · exact Nat.le_trans (show i + 1 ≤ 10 by omega) (by decide +kernel)
    refine go ?_
    refine A.r1 ?_
    refine (congrArg (fun s : List UInt8 => R (.returned (.string ⟨s.toArray⟩)) w) ?_).mpr HR.out
    rw [decN_small hi2]
    exact (fun (L : List UInt8) (hL : ∀ j : Fin 10, List.take (j.val + 1 - j.val) (List.drop j.val L) = [UInt8.ofNat (48 + j.val)]) => hL ⟨i, hi2⟩) _ (by decide +kernel)
  · have hi2 : 10 ≤ i := by omega
    refine go ?_
    refine E.pv (Pv.ssub Tryz.underlying9 (i * 2) (i * 2 + 2) (by omega) ?_) ?_
    · exact Nat.le_trans (show i * 2 + 2 ≤ 200 by omega) (by decide +kernel)
    refine go ?_
    refine A.r1 ?_
    refine (congrArg (fun s : List UInt8 => R (.returned (.string ⟨s.toArray⟩)) w) ?_).mpr HR.out
    rw [decN_two hi2 hi]
    exact (fun (L : List UInt8) (hL : ∀ j : Fin 100, 10 ≤ j.val → List.take (j.val * 2 + 2 - j.val * 2) (List.drop (j.val * 2) L) = [UInt8.ofNat (48 + j.val / 10), UInt8.ofNat (48 + j.val % 10)]) => hL ⟨i, hi⟩ hi2) _ (by decide +kernel)
set_option maxHeartbeats 1600000 in
set_option maxRecDepth 100000 in
theorem formatInt_any {R : Ending → World → Prop} {w : World} {i : Nat} (hi : i < 100) (hR : R (.returned (str (decN i))) w) : Calls Tryz.prog 272 #[.int .i64 i, .int .i64 10] w R := by
  have HR := Lib.hid hR
  clear hR
  refine C.calls (args := [.int .i64 i, .int .i64 10]) Tryz.func272 rfl rfl rfl ?_
  refine go ?_
  rw [show decide ((0 : Int) ≤ i) = true from decide_eq_true (by omega)]
  refine go ?_
  rw [show decide ((i : Int) < 100) = true from decide_eq_true (by omega)]
  refine go ?_
  refine E.callf Tryz.func227 rfl ?_
  refine small_any hi ?_
  refine go ?_
  refine A.r1 ?_
  exact HR.out
set_option maxHeartbeats 1600000 in
set_option maxRecDepth 100000 in
theorem itoaI_any {R : Ending → World → Prop} {w : World} {i : Nat} (hi : i < 100) (hR : R (.returned (str (decN i))) w) : Calls Tryz.prog 245 #[.int .i64 i] w R := by
  have HR := Lib.hid hR
  clear hR
  refine C.calls (args := [.int .i64 i]) Tryz.func245 rfl rfl rfl ?_
  refine go ?_
  refine E.callf Tryz.func272 rfl ?_
  refine formatInt_any hi ?_
  refine go ?_
  refine A.r1 ?_
  exact HR.out
set_option maxHeartbeats 1600000 in
set_option maxRecDepth 100000 in
theorem itoa_any {R : Ending → World → Prop} {w : World} {i : Nat} (hi : i < 100) (hR : R (.returned (str (decN i))) w) : Calls Tryz.prog 212 #[.int .i64 i] w R := by
  have HR := Lib.hid hR
  clear hR
  refine C.calls (args := [.int .i64 i]) Tryz.func212 rfl rfl rfl ?_
  refine go ?_
  refine E.callf Tryz.func245 rfl ?_
  refine itoaI_any hi ?_
  refine go ?_
  refine A.r1 ?_
  exact HR.out
set_option maxHeartbeats 1600000 in
set_option maxRecDepth 100000 in
theorem mul64_any {R : Ending → World → Prop} {w : World} {k : Nat} (hk : k < 65) (hR : R (.returned (.tuple #[.int .u64 0, .int .u64 k])) w) : Calls Tryz.prog 247 #[.int .u64 1, .int .u64 k] w R := by
  have HR := Lib.hid hR
  clear hR
  have ek : ((1 * k : Nat) : Int) = k := by omega
  refine C.calls (args := [.int .u64 1, .int .u64 k]) Tryz.func247 rfl rfl rfl ?_
  refine go ?_
  rw [ek]
  refine A.r2 ?_
  refine (congrArg (fun z : Int => R (.returned (.tuple #[.int .u64 z, .int .u64 (k : Int)])) w) ?_).mpr HR.out
  clear HR ek
  revert hk
  revert k
  decide +kernel
set_option maxHeartbeats 1600000 in
set_option maxRecDepth 100000 in
theorem mul_any {R : Ending → World → Prop} {w : World} {k : Nat} (hk : k < 65) (hR : R (.returned (.tuple #[.int .u64 0, .int .u64 k])) w) : Calls Tryz.prog 213 #[.int .u64 1, .int .u64 k] w R := by
  have HR := Lib.hid hR
  clear hR
  refine C.calls (args := [.int .u64 1, .int .u64 k]) Tryz.func213 rfl rfl rfl ?_
  refine go ?_
  refine E.callf Tryz.func247 rfl ?_
  refine mul64_any hk ?_
  refine go ?_
  refine A.r2 ?_
  exact HR.out
set_option maxHeartbeats 3200000 in
set_option maxRecDepth 100000 in
theorem repeat_any {R : Ending → World → Prop} {w : World} {k : Nat} (hk : k ≤ 64) (hR : R (.returned (str (List.replicate k 48))) w) : Calls Tryz.prog 172 #[str [48], .int .i64 k] w R := by
  have HR := Lib.hid hR
  clear hR
  have e0 : str [48] = .string ⟨[48].toArray⟩ := rfl
  rw [e0]
  clear e0
  refine C.calls (args := [.string ⟨[48].toArray⟩, .int .i64 k]) Tryz.func172 rfl rfl rfl ?_
  refine go ?_
  refine C.cond_dec (p := (k : Int) = 0) rfl (fun h => ?_) (fun h => ?_)
  · obtain rfl : k = 0 := by omega
    refine go ?_
    refine A.r1 ?_
    exact HR.out
  refine go ?_
  refine C.cond_dec (p := (k : Int) = 1) rfl (fun h => ?_) (fun h => ?_)
  · obtain rfl : k = 1 := by omega
    refine go ?_
    refine A.r1 ?_
    exact HR.out
  refine go ?_
  rw [show decide ((k : Int) < 0) = false from decide_eq_false (by omega)]
  refine go ?_
  refine E.callf Tryz.func213 rfl ?_
  refine mul_any (by omega) ?_
  refine go ?_
  rw [show decide (9223372036854775807 < (k : Int)) = false from decide_eq_false (by omega)]
  refine go ?_
  refine E.sidx (l := [48]) Tryz.underlying9 0 (by simp) ?_
  refine go ?_
  rw [show decide ((k : Int) ≤ 128) = true from decide_eq_true (by omega)]
  refine go ?_
  refine E.callf Tryz.func152 rfl ?_
  refine hasPrefix_is (p := [48]) false (by decide +kernel) ?_
  refine go ?_
  rw [show decide ((k : Int) ≤ 128) = true from decide_eq_true (by omega)]
  refine go ?_
  refine E.callf Tryz.func152 rfl ?_
  refine hasPrefix_is (p := [48]) false (by decide +kernel) ?_
  refine go ?_
  rw [show decide ((k : Int) ≤ 64) = true from decide_eq_true (by omega)]
  refine go ?_
  refine E.callf Tryz.func152 rfl ?_
  refine hasPrefix_is (p := [48]) true (by decide +kernel) ?_
  refine go ?_
  refine E.pv (Pv.supto Tryz.underlying9 k ?_) ?_
  · exact Nat.le_trans hk (by decide +kernel)
  refine go ?_
  refine A.r1 ?_
  refine (congrArg (fun s : List UInt8 => R (.returned (.string ⟨s.toArray⟩)) w) ?_).mpr HR.out
  exact (fun (L : List UInt8) (hL : ∀ j : Fin 65, List.take j.val L = List.replicate j.val 48) => hL ⟨k, by omega⟩) _ (by decide +kernel)
end Go.Proofs.YtfhmamkafancbaaGreatDoor

/-
  Layer 8 (segment): the names of a writer's files.
-/
namespace Go.Proofs.YtfhmamkafancbaaGreatDoor
open Go.RowKit
set_option linter.unusedVariables false
set_option linter.unusedSimpArgs false
/-- How the names of a writer's segments begin. -/
def beginB (w : Nat) : List UInt8 := [102, 101, 101, 100, 45] ++ decN w ++ [45]
/-- Sixteen digits. -/
def padB (n : Nat) : List UInt8 := List.replicate (16 - (hexN n).length) 48 ++ hexN n
def nameB (w n : Nat) : List UInt8 := beginB w ++ padB n
theorem padB_len {n : Nat} (h : n < 18446744073709551616) : (padB n).length = 16 := by
  have := hexN_len 16 n (by decide) (by exact h)
  unfold padB
  rw [List.length_append, List.length_replicate]
  omega
theorem beginB_len {w : Nat} (h : w < 100) : 7 ≤ (beginB w).length ∧ (beginB w).length ≤ 8 := by
  have := decN_len h
  unfold beginB
  simp only [List.length_append, List.length_cons, List.length_nil]
  omega
set_option maxHeartbeats 1600000 in
set_option maxRecDepth 100000 in
theorem segBegin_any {R : Ending → World → Prop} {w : World} {i : Nat} (hi : i < 100) (hR : R (.returned (str (beginB i))) w) : Calls Tryz.prog 171 #[.int .i64 i] w R := by
  have HR := Lib.hid hR
  clear hR
  have hl := decN_len hi
  refine C.calls (args := [.int .i64 i]) Tryz.func171 rfl rfl rfl ?_
  refine go ?_
  refine E.callf Tryz.func212 rfl ?_
  refine itoa_any hi ?_
  rw [show str (decN i) = .string ⟨(decN i).toArray⟩ from rfl]
  refine go ?_
  refine A.r1 ?_
  exact HR.out
set_option maxHeartbeats 1600000 in
set_option maxRecDepth 100000 in
theorem segName_any {R : Ending → World → Prop} {W w : World} {g : Hl} {H : List HP} {i n : Nat} (hg : Gl g) (hi : i < 100) (hn : n < 18446744073709551616) (hs : Sat W w g H)
    (hR : ∀ w', Sat W w' g H → R (.returned (str (nameB i n))) w') : Calls Tryz.prog 112 #[.int .i64 i, .int .u64 n] w R := by
  have HR := Lib.hid hR
  clear hR
  have hl := hexN_len 16 n (by decide) (by exact hn)
  have hb := beginB_len hi
  refine C.calls (args := [.int .i64 i, .int .u64 n]) Tryz.func112 rfl rfl rfl ?_
  refine go ?_
  refine E.callf Tryz.func137 rfl ?_
  refine formatUint_any hg hn hs ?_
  intro w2 hs
  rw [show str (hexN n) = .string ⟨(hexN n).toArray⟩ from rfl]
  refine go ?_
  refine E.callf Tryz.func171 rfl ?_
  refine segBegin_any hi ?_
  rw [show str (beginB i) = .string ⟨(beginB i).toArray⟩ from rfl]
  refine go ?_
  rw [show Max.max 0 ((16 : Int) - (hexN n).length) = ((16 - (hexN n).length : Nat) : Int) by omega]
  refine E.callf Tryz.func172 rfl ?_
  refine repeat_any (k := 16 - (hexN n).length) (by omega) ?_
  rw [show str (List.replicate (16 - (hexN n).length) 48) = .string ⟨(List.replicate (16 - (hexN n).length) 48).toArray⟩ from rfl]
  have hrl : (List.replicate (16 - (hexN n).length) (48 : UInt8)).length ≤ 16 := by simp
  refine go ?_
  refine A.r1 ?_
  have := HR.out _ hs
  unfold nameB padB at this
  rw [← List.append_assoc] at this
  exact this
end Go.Proofs.YtfhmamkafancbaaGreatDoor

/-
  Layer 6 (event): an event out of any bytes (read), walked.
-/
namespace Go.Proofs.YtfhmamkafancbaaGreatDoor
open Go.RowKit
set_option linter.unusedVariables false
set_option linter.unusedSimpArgs false
set_option maxHeartbeats 1600000 in
set_option maxRecDepth 100000 in
theorem qof_any {R : Ending → World → Prop} {w : World} {n : Nat} (hn : n < 18446744073709551616) (hR : R (.returned (.tuple #[.float .f64 n, .bool (decide (bitsF n = n))])) w) : Calls Tryz.prog 186 #[.int .u64 n] w R := by
  have HR := Lib.hid hR
  clear hR
  refine C.calls (args := [.int .u64 n]) Tryz.func186 rfl rfl rfl ?_
  refine go ?_
  refine E.ext (v := .float .f64 n) (w' := w) Tryz.func147 (ex := Extern.MathFloatBits.float64frombits) rfl ?_
  refine go ?_
  refine E.callf Tryz.func131 rfl ?_
  refine bits_any ?_
  refine go ?_
  rw [show decide ((bitsF n : Int) = (n : Int)) = decide (bitsF n = n) from decide_eq_decide.2 (by omega)]
  refine A.r2 ?_
  exact HR.out
set_option maxHeartbeats 6400000 in
set_option maxRecDepth 100000 in
theorem eread_any {R : Ending → World → Prop} {W w : World} {g : Hl} {H : List HP} {a : Option Addr} {n c : Nat} {l : List UInt8} (hs : Sat W w g H) (hp : Pr 1 g (.slice a n c) n (bs l)) (hl : l.length = n) (hn : n ≤ 100000000)
    (hOK : ∀ p tv w' g', Hl.le g g' → rdEv l = .ok p → (p.ev tv).ok g' → Sat W w' g' H → R (.returned (.tuple #[(p.ev tv).val, .int .i64 0])) w')
    (hE : ∀ e (cs : List Value) w' g', Hl.le g g' → rdEv l = .error e → e ≠ 0 → cs.length = 8 → cs.all Value.oneCell' = true → Sat W w' g' H → R (.returned (.tuple #[.agg cs.toArray, .int .i64 e])) w') :
    Calls Tryz.prog 271 #[.slice a n c] w R := by
  have HOK := Lib.hid hOK
  have HE := Lib.hid hE
  clear hOK hE
  have ag1 := ag_ev
  refine C.callsD (args := [.slice a n c]) Tryz.func271 rfl rfl rfl ?_
  refine go ?_
  refine E.al hs ?_
  intro b1 w1 hs
  refine go ?_
  refine E.al hs ?_
  intro b2 w2 hs
  refine go ?_
  refine E.callf Tryz.func179 rfl ?_
  refine newTape_any hl hs hp ?_
  intro b3 w3 hs
  refine go ?_
  refine E.callf Tryz.func181 rfl ?_
  refine num_any 63 rfl hs ?_ ?_
  rotate_left
  · intro e w4 h1 hne hs
    refine go ?_
    refine L.callf Tryz.func178 (caught_fault hs up_ ?_)
    intro w5 hs
    refine L.c2 rfl rfl rfl (run_lda hs ag_ev) (run_ld hs) ?_
    exact HE.out e _ _ g (Hl.le_refl _) (by simp only [rdEv, h1]) hne rfl rfl hs.drop.drop
  intro wr l1 w4 h1 hwr _ hs
  refine go ?_
  refine E.callf Tryz.func181 rfl ?_
  refine num_any 18446744073709551615 rfl hs ?_ ?_
  rotate_left
  · intro e w5 h2 hne hs
    refine go ?_
    refine L.callf Tryz.func178 (caught_fault hs up_ ?_)
    intro w6 hs
    refine L.c2 rfl rfl rfl (run_lda hs ag_ev) (run_ld hs) ?_
    exact HE.out e _ _ g (Hl.le_refl _) (by simp only [rdEv, h1, h2]) hne rfl rfl hs.drop.drop
  intro sq l2 w5 h2 _ hsq hs
  refine go ?_
  refine E.callf Tryz.func181 rfl ?_
  refine num_any 18446744073709551615 rfl hs ?_ ?_
  rotate_left
  · intro e w6 h3 hne hs
    refine go ?_
    refine L.callf Tryz.func178 (caught_fault hs up_ ?_)
    intro w7 hs
    refine L.c2 rfl rfl rfl (run_lda hs ag_ev) (run_ld hs) ?_
    exact HE.out e _ _ g (Hl.le_refl _) (by simp only [rdEv, h1, h2, h3]) hne rfl rfl hs.drop.drop
  intro tm l3 w6 h3 _ htm hs
  refine go ?_
  refine E.callf Tryz.func185 rfl ?_
  refine byte_any hs ?_ ?_
  rotate_left
  · intro he
    have h4 : rdByte l3 = .error 5 := by rw [he]; rfl
    refine go ?_
    refine L.callf Tryz.func178 (caught_fault hs up_ ?_)
    intro w7 hs
    refine L.c2 rfl rfl rfl (run_lda hs ag_ev) (run_ld hs) ?_
    exact HE.out 5 _ _ g (Hl.le_refl _) (by simp only [rdEv, h1, h2, h3, h4]) (by decide) rfl rfl hs.drop.drop.drop
  intro u l4 w7 he hs
  have h4 : rdByte l3 = .ok (u, l4) := by rw [he]; rfl
  have hu := u.toNat_lt
  have hkd : u.toNat < 256 := hu
  have hlen : l4.length ≤ 100000000 := by
    have q1 := rdNum_len h1
    have q2 := rdNum_len h2
    have q3 := rdNum_len h3
    rw [he, List.length_cons] at q3
    omega
  clear he hu
  generalize hk : u.toNat = kd at hkd
  refine go ?_
  refine E.sto (vs := [.int .i64 wr, .int .u64 sq, .int .u64 tm, .int .u8 kd, .string ⟨#[]⟩, .slice none 0 0, .float .f64 0, .int .i64 0]) (ys := [.int .i64 wr, .int .u64 sq, .int .u64 tm, .int .u8 kd, .string ⟨#[]⟩, .slice none 0 0, .float .f64 0, .int .i64 0]) hs ?_ (hv := rfl) (hsp := rfl)
  intro w8 hs
  apply later (α := List UInt8 × List UInt8 × Hl) (f := fun x => [(2, .pointer (some ⟨b1, 0, none⟩)), (3, .pointer (some ⟨b2, 0, none⟩)), (4, .pointer (some ⟨b3, 0, none⟩)), (32, .int .u8 kd), (33, .bool (decide ((kd : Int) = 1)))])
    (M := fun x w => Hl.le g x.2.2 ∧ rdKey kd l4 = .ok (x.1, x.2.1) ∧ x.1.length ≤ 64 ∧ x.2.1.length ≤ 100000000 ∧ Sat W w x.2.2 (tape b3 x.2.1 :: blk b2 [.int .i64 0] 32 :: blk b1 [.int .i64 wr, .int .u64 sq, .int .u64 tm, .int .u8 kd, .string ⟨x.1.toArray⟩, .slice none 0 0, .float .f64 0, .int .i64 0] 26 :: H))
  · intro ky
    have hno : ¬ (1 ≤ kd ∧ kd ≤ 4) → rdKey kd l4 = .ok ([], l4) := fun h => by unfold rdKey; rw [if_neg h]
    refine go ?_
    cases c1 : decide ((1 : Int) ≤ kd) with
    | false =>
      have c1 := of_decide_eq_false c1
      refine go ?_
      exact C.forget wk_ (ky ([], l4, g) _ ⟨Hl.le_refl _, hno (by omega), by simp, hlen, hs⟩)
    | true =>
      have c1 := of_decide_eq_true c1
      refine go ?_
      cases c2 : decide ((kd : Int) ≤ 4) with
      | false =>
        have c2 := of_decide_eq_false c2
        refine go ?_
        exact C.forget wk_ (ky ([], l4, g) _ ⟨Hl.le_refl _, hno (by omega), by simp, hlen, hs⟩)
      | true =>
        have c2 := of_decide_eq_true c2
        have hyes : rdKey kd l4 = rdText 64 l4 := by unfold rdKey; rw [if_pos (by omega)]
        refine go ?_
        refine E.callf Tryz.func184 rfl ?_
        refine text_any 64 rfl (by decide) (by omega) hs ?_ ?_
        · intro v r a5 c5 w9 g9 hg9 h5 hvl hp5 hs
          refine go ?_
          refine E.strc (hp5.row hs) Tryz.underlying23 Tryz.underlying5 Tryz.underlying9 ?_
          refine go ?_
          refine E.sto (vs := [.string ⟨v.toArray⟩]) (ys := [.int .i64 wr, .int .u64 sq, .int .u64 tm, .int .u8 kd, .string ⟨v.toArray⟩, .slice none 0 0, .float .f64 0, .int .i64 0]) hs ?_ (hv := rfl) (hsp := rfl)
          intro w10 hs
          refine go ?_
          have := rdText_len h5
          exact C.forget wk_ (ky (v, r, g9) _ ⟨hg9, hyes.trans h5, hvl, by simp only; omega, hs⟩)
        · intro e w9 h5 hne hs
          refine go ?_
          refine L.callf Tryz.func178 (caught_fault hs up_ ?_)
          intro w10 hs
          refine L.c2 rfl rfl rfl (run_lda hs ag_ev) (run_ld hs) ?_
          exact HE.out e _ _ g (Hl.le_refl _) (by simp only [rdEv, h1, h2, h3, h4, hk, hyes, h5]) hne rfl rfl hs.drop.drop
  clear hs hlen
  rintro ⟨key, l5, g5⟩ w11 ⟨hg5, h5, hkl, hlen, hs⟩
  simp only at hg5 h5 hkl hlen hs ⊢
  have hErr : ∀ e, rdRest kd l5 = .error e → rdEv l = .error e := fun e h => by simp only [rdEv, h1, h2, h3, h4, hk, h5, h]
  apply laterE (α := Option Addr × Nat × List UInt8 × Nat × Nat × List UInt8 × Hl) (f := fun x => [(2, .pointer (some ⟨b1, 0, none⟩)), (3, .pointer (some ⟨b2, 0, none⟩)), (4, .pointer (some ⟨b3, 0, none⟩)), (58, .pointer (some ⟨b3, 0, none⟩))])
    (M := fun x w => Hl.le g5 x.2.2.2.2.2.2 ∧ rdRest kd l5 = .ok ((x.2.2.1, x.2.2.2.1, x.2.2.2.2.1), x.2.2.2.2.2.1) ∧ x.2.2.1.length ≤ 1048576 ∧ x.2.2.2.1 < 18446744073709551616 ∧ x.2.2.2.2.1 ≤ 63 ∧ Pr 1 x.2.2.2.2.2.2 (.slice x.1 x.2.2.1.length x.2.1) x.2.2.1.length (bs x.2.2.1) ∧ Sat W w x.2.2.2.2.2.2 (tape b3 x.2.2.2.2.2.1 :: blk b2 [.int .i64 0] 32 :: blk b1 [.int .i64 wr, .int .u64 sq, .int .u64 tm, .int .u8 kd, .string ⟨key.toArray⟩, .slice x.1 x.2.2.1.length x.2.1, .float .f64 x.2.2.2.1, .int .i64 x.2.2.2.2.1] 26 :: H))
  · intro ky
    by_cases k1 : kd = 1
    · rw [show decide ((kd : Int) = 1) = true from decide_eq_true (by omega)]
      refine go ?_
      refine E.callf Tryz.func184 rfl ?_
      refine text_any 1048576 rfl (by decide) (by omega) hs ?_ ?_
      · intro v r a6 c6 w12 g6 hg6 h6 hvl hp6 hs
        refine go ?_
        refine E.sto (vs := [.slice a6 v.length c6]) (ys := [.int .i64 wr, .int .u64 sq, .int .u64 tm, .int .u8 kd, .string ⟨key.toArray⟩, .slice a6 v.length c6, .float .f64 0, .int .i64 0]) hs ?_ (hv := rfl) (hsp := rfl)
        intro w13 hs
        refine go ?_
        exact E.forget wk_ (ky (a6, c6, v, 0, 0, r, g6) _ ⟨hg6, by unfold rdRest; simp only [if_pos k1, h6], hvl, by simp, by simp, hp6, hs⟩)
      · intro e w12 h6 hne hs
        refine go ?_
        refine L.callf Tryz.func178 (caught_fault hs up_ ?_)
        intro w13 hs
        refine L.c2 rfl rfl rfl (run_lda hs ag_ev) (run_ld hs) ?_
        exact HE.out e _ _ g5 hg5 (hErr e (by unfold rdRest; simp only [if_pos k1, h6])) hne rfl rfl hs.drop.drop
    · rw [show decide ((kd : Int) = 1) = false from decide_eq_false (by omega)]
      refine go ?_
      by_cases k2 : kd = 2 ∨ kd = 3
      · have k2' := k2
        apply laterE (α := Unit) (f := fun _ => [(2, .pointer (some ⟨b1, 0, none⟩)), (3, .pointer (some ⟨b2, 0, none⟩)), (4, .pointer (some ⟨b3, 0, none⟩)), (42, .pointer (some ⟨b3, 0, none⟩))]) (M := fun _ w => Sat W w g5 (tape b3 l5 :: blk b2 [.int .i64 0] 32 :: blk b1 [.int .i64 wr, .int .u64 sq, .int .u64 tm, .int .u8 kd, .string ⟨key.toArray⟩, .slice none 0 0, .float .f64 0, .int .i64 0] 26 :: H))
        · intro kf
          rcases k2 with k2 | k2
          · rw [show decide ((kd : Int) = 2) = true from decide_eq_true (by omega)]
            refine go ?_
            exact E.forget wk_ (kf () _ hs)
          · rw [show decide ((kd : Int) = 2) = false from decide_eq_false (by omega)]
            refine go ?_
            rw [show decide ((kd : Int) = 3) = true from decide_eq_true (by omega)]
            refine go ?_
            exact E.forget wk_ (kf () _ hs)
        · clear hs
          rintro _ w12 hs
          refine E.callf Tryz.func183 rfl ?_
          refine tfixed_any hs ?_ ?_
          · intro v r w13 h6 hv hs
            refine go ?_
            refine E.callf Tryz.func186 rfl ?_
            refine qof_any hv ?_
            refine go ?_
            cases hb : decide (bitsF v = v) with
            | false =>
              have hb := of_decide_eq_false hb
              refine go ?_
              refine E.sto (vs := [.int .i64 0, .int .u64 0, .int .u64 0, .int .u8 0, .string ⟨#[]⟩, .slice none 0 0, .float .f64 0, .int .i64 0]) (ys := [.int .i64 0, .int .u64 0, .int .u64 0, .int .u8 0, .string ⟨#[]⟩, .slice none 0 0, .float .f64 0, .int .i64 0]) hs ?_ (hv := rfl) (hsp := rfl)
              intro w14 hs
              refine go ?_
              refine E.sto hs ?_
              intro w15 hs
              refine go ?_
              refine L.callf Tryz.func178 (caught_none ?_)
              refine L.c2 rfl rfl rfl (run_lda hs ag_ev) (run_ld hs) ?_
              exact HE.out 4 _ _ g5 hg5 (hErr 4 (by unfold rdRest; simp only [if_neg k1, if_pos k2', h6, if_neg hb])) (by decide) rfl rfl hs.drop.drop.drop
            | true =>
              have hb := of_decide_eq_true hb
              refine go ?_
              refine E.sto (vs := [.float .f64 v]) (ys := [.int .i64 wr, .int .u64 sq, .int .u64 tm, .int .u8 kd, .string ⟨key.toArray⟩, .slice none 0 0, .float .f64 v, .int .i64 0]) hs ?_ (hv := rfl) (hsp := rfl)
              intro w14 hs
              refine go ?_
              exact E.forget wk_ (ky (none, 0, [], v, 0, r, g5) _ ⟨Hl.le_refl _, by unfold rdRest; simp only [if_neg k1, if_pos k2', h6, if_pos hb], by simp, hv, by simp, Pr.nil, hs⟩)
          · intro w13 h6 hs
            refine go ?_
            refine L.callf Tryz.func178 (caught_fault hs up_ ?_)
            intro w14 hs
            refine L.c2 rfl rfl rfl (run_lda hs ag_ev) (run_ld hs) ?_
            exact HE.out 5 _ _ g5 hg5 (hErr 5 (by unfold rdRest; simp only [if_neg k1, if_pos k2', h6])) (by decide) rfl rfl hs.drop.drop
      · rw [show decide ((kd : Int) = 2) = false from decide_eq_false (by omega)]
        refine go ?_
        rw [show decide ((kd : Int) = 3) = false from decide_eq_false (by omega)]
        refine go ?_
        by_cases k5 : kd = 5
        · rw [show decide ((kd : Int) = 5) = true from decide_eq_true (by omega)]
          refine go ?_
          refine E.callf Tryz.func181 rfl ?_
          refine num_any 63 rfl hs ?_ ?_
          · intro v r w12 h6 hv63 hv hs
            refine go ?_
            refine E.sto (vs := [.int .i64 v]) (ys := [.int .i64 wr, .int .u64 sq, .int .u64 tm, .int .u8 kd, .string ⟨key.toArray⟩, .slice none 0 0, .float .f64 0, .int .i64 v]) hs ?_ (hv := rfl) (hsp := rfl)
            intro w13 hs
            refine go ?_
            exact E.forget wk_ (ky (none, 0, [], 0, v, r, g5) _ ⟨Hl.le_refl _, by unfold rdRest; simp only [if_neg k1, if_neg k2, if_pos k5, h6], by simp, by simp, hv63, Pr.nil, hs⟩)
          · intro e w12 h6 hne hs
            refine go ?_
            refine L.callf Tryz.func178 (caught_fault hs up_ ?_)
            intro w13 hs
            refine L.c2 rfl rfl rfl (run_lda hs ag_ev) (run_ld hs) ?_
            exact HE.out e _ _ g5 hg5 (hErr e (by unfold rdRest; simp only [if_neg k1, if_neg k2, if_pos k5, h6])) hne rfl rfl hs.drop.drop
        · have hrr : rdRest kd l5 = .ok (([], 0, 0), l5) := by unfold rdRest; rw [if_neg k1, if_neg k2, if_neg k5]
          rw [show decide ((kd : Int) = 5) = false from decide_eq_false (by omega)]
          refine go ?_
          exact E.forget wk_ (ky (none, 0, [], 0, 0, l5, g5) _ ⟨Hl.le_refl _, hrr, by simp, by simp, by simp, Pr.nil, hs⟩)
  clear hs
  rintro ⟨a6, c6, t, num, nd, r, g6⟩ w16 ⟨hg6, h6, htl, hnum, hnd, hp6, hs⟩
  simp only at hg6 h6 htl hnum hnd hp6 hs ⊢
  refine E.callf Tryz.func187 rfl ?_
  refine done_any hs ?_ ?_
  rotate_left
  · intro hne
    refine go ?_
    refine L.callf Tryz.func178 (caught_fault hs up_ ?_)
    intro w7 hs
    refine L.c2 rfl rfl rfl (run_lda hs ag_ev) (run_ld hs) ?_
    exact HE.out 4 _ _ g6 (hg5.trans hg6) (by simp only [rdEv, h1, h2, h3, h4, hk, h5, h6, if_neg hne]) (by decide) rfl rfl hs.drop.drop.drop
  intro he
  refine go ?_
  refine E.sto (vs := [.int .i64 wr, .int .u64 sq, .int .u64 tm, .int .u8 kd, .string ⟨key.toArray⟩, .slice a6 t.length c6, .float .f64 num, .int .i64 nd]) (ys := [.int .i64 wr, .int .u64 sq, .int .u64 tm, .int .u8 kd, .string ⟨key.toArray⟩, .slice a6 t.length c6, .float .f64 num, .int .i64 nd]) hs ?_ (hv := rfl) (hsp := rfl)
  intro w17 hs
  refine go ?_
  refine E.sto hs ?_
  intro w18 hs
  refine go ?_
  refine L.callf Tryz.func178 (caught_none ?_)
  refine L.c2 rfl rfl rfl (run_lda hs ag_ev) (run_ld hs) ?_
  refine HOK.out ⟨wr, sq, tm, kd, key, t, num, nd⟩ (.slice a6 t.length c6) _ g6 (hg5.trans hg6) (by simp only [rdEv, h1, h2, h3, h4, hk, h5, h6, if_pos he]) ?_ hs.drop.drop.drop
  simp only [Ep.ev]
  exact ⟨by simp only; omega, hsq, htm, hkd, hnum, by simp only; omega, by simp only; omega, by simp only; omega, hp6⟩
end Go.Proofs.YtfhmamkafancbaaGreatDoor
