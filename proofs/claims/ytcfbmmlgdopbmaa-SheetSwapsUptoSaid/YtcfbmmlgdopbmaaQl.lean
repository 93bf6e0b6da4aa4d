/-
  Layer 5 (sheet): a title, of any bytes.
-/
import Derived.Test.YtcfbmmlgdopbmaaQk
import Derived.Test.YtcfbmmlgdopbmaaQn
import Derived.Test.YtcfbmmlgdopbmaaQd
namespace Go.Proofs.Ytcfbmmlgdopbmaa
open Go.RowKit
set_option linter.unusedVariables false
set_option linter.unusedSimpArgs false

theorem ag_title : AggOf Try.prog 24 3 := ⟨_, Try.underlying24, rfl, by kernel_rfl⟩

/-- The bytes ahead are these. -/
def rdThese : List UInt8 → List UInt8 → Except Int (List UInt8)
  | [], l => .ok l
  | c :: cs, l => match rdByte l with
    | .error e => .error e
    | .ok (u, r) => if u = c then rdThese cs r else .error 4
def rdTitle (l : List UInt8) : Except Int Ti :=
  match rdThese [97, 110, 97, 49] l with
  | .error e => .error e
  | .ok l => match rdByte l with
    | .error e => .error e
    | .ok (k, l) => match rdNum 18446744073709551615 l with
      | .error e => .error e
      | .ok (a, l) => match rdNum 18446744073709551615 l with
        | .error e => .error e
        | .ok (b, l) => if l = [] then .ok ⟨k, a, b⟩ else .error 4

set_option maxHeartbeats 1600000 in
set_option maxRecDepth 100000 in
theorem title_any {R : Ending → World → Prop} {W w : World} {g : Hl} {H : List HP} {a : Option Addr} {n c : Nat} {l : List UInt8} (hs : Sat W w g H) (hp : Pr 1 g (.slice a n c) n (bs l)) (hl : l.length = n)
    (hOK : ∀ t w' g', Hl.le g g' → rdTitle l = .ok t → t.ok → Sat W w' g' H → R (.returned (.tuple #[t.val, .int .i64 0])) w')
    (hE : ∀ e (x y z : Int) w' g', Hl.le g g' → rdTitle l = .error e → e ≠ 0 → Sat W w' g' H → R (.returned (.tuple #[.agg #[.int .u8 x, .int .u64 y, .int .u64 z], .int .i64 e])) w') :
    Calls Try.prog 46 #[.slice a n c] w R := by
  have HOK := Lib.hid hOK
  have HE := Lib.hid hE
  clear hOK hE
  refine C.callsD (args := [.slice a n c]) Try.func46 rfl rfl rfl ?_
  refine go ?_
  refine E.al hs ?_
  intro b1 w1 hs
  refine go ?_
  refine E.al hs ?_
  intro b2 w2 hs
  refine go ?_
  refine E.callf Try.func63 rfl ?_
  refine newTape_any hl hs hp ?_
  intro b3 w3 hs
  refine go ?_
  refine E.bsl hs ?_
  intro b4 w4 hs
  refine go ?_
  apply E.cons
  apply St.markBytes hs
  · exact rfl
  · exact Try.underlying37
  · exact Try.underlying5
  · exact rfl
  · decide
  intro w5 g5 hg5 hs hp5
  generalize (some ⟨b4, 0, none⟩ : Option Addr) = a5 at hp5 ⊢
  refine gob ?_
  refine C.block ?_
  have hana : ∀ i < 4, ∃ u, ([97, 110, 97, 49] : List UInt8)[i]? = some u ∧ [Value.int .u8 97, .int .u8 110, .int .u8 97, .int .u8 49][i]? = some (.int .u8 u.toNat) ∧ ([97, 110, 97, 49] : List UInt8).drop i = u :: ([97, 110, 97, 49] : List UInt8).drop (i + 1) := by
    intro i hi
    match i, hi with
    | 0, _ => exact ⟨_, rfl, rfl, rfl⟩
    | 1, _ => exact ⟨_, rfl, rfl, rfl⟩
    | 2, _ => exact ⟨_, rfl, rfl, rfl⟩
    | 3, _ => exact ⟨_, rfl, rfl, rfl⟩
  have HA := Lib.hid hana
  clear hana
  refine C.lp (fun x : Nat × List UInt8 => [(2, .pointer (some ⟨b1, 0, none⟩)), (3, .pointer (some ⟨b2, 0, none⟩)), (4, .pointer (some ⟨b3, 0, none⟩)), (10, .slice a5 4 4), (11, .int .i64 4), (12, .int .i64 x.1)])
    (fun gk x w => gk = 4 - x.1 ∧ x.1 ≤ 4 ∧ rdThese (([97, 110, 97, 49] : List UInt8).drop x.1) x.2 = rdThese [97, 110, 97, 49] l ∧ Sat W w g5 (tape b3 x.2 :: blk b2 [.int .i64 0] 30 :: blk b1 [.int .u8 0, .int .u64 0, .int .u64 0] 24 :: H)) 4 (0, l) ⟨rfl, by simp only; omega, rfl, hs⟩ ?_
  clear hs
  rintro gk ⟨i, r⟩ w6 ⟨rfl, hi, ht, hs⟩
  simp only at hi ht hs ⊢
  refine go ?_
  refine C.cond_dec (p := (i : Int) < 4) rfl (fun hlt => ?_) (fun hlt => ?_)
  · obtain ⟨u, hu1, hu2, hu3⟩ := HA.out i (by omega)
    rw [hu3, rdThese] at ht
    refine go ?_
    refine E.ix el_u8 hs hp5 i hu2 ?_
    intro b5 o5 hc5
    refine go ?_
    refine E.callf Try.func64 rfl ?_
    refine byte_any hs ?_ ?_
    · intro u' r' w7 he hs
      rw [he] at ht
      simp only [rdByte] at ht
      refine go ?_
      by_cases hu : u' = u
      · subst hu
        refine C.cond rfl (fun h => by simp at h) (fun _ => ?_)
        refine go ?_
        rw [if_pos rfl] at ht
        exact A.rd (4 - (i + 1)) (i + 1, r') ⟨rfl, by simp only; omega, ht, hs⟩
      · have hne : ¬ ((u'.toNat : Int) = u.toNat) := fun h => hu (UInt8.toNat_inj.1 (by omega))
        refine C.cond rfl (fun _ => ?_) (fun h => by simp [hne] at h)
        rw [if_neg hu] at ht
        refine go ?_
        refine E.sto hs ?_
        intro w8 hs
        refine go ?_
        refine E.sto hs ?_
        intro w9 hs
        refine go ?_
        refine L.callf Try.func62 (caught_none ?_)
        refine L.c2 rfl rfl rfl (run_lda hs ag_title) (run_ld hs) ?_
        exact HE.out 4 _ _ _ _ _ hg5 (by simp only [rdTitle, ← ht]) (by decide) hs.drop.drop.drop
    · intro he
      rw [he] at ht
      simp only [rdByte] at ht
      refine go ?_
      refine L.callf Try.func62 (caught_fault hs up_ ?_)
      intro w7 hs
      refine L.c2 rfl rfl rfl (run_lda hs ag_title) (run_ld hs) ?_
      exact HE.out 5 _ _ _ _ _ hg5 (by simp only [rdTitle, ← ht]) (by decide) hs.drop.drop.drop
  · have h4 : i = 4 := by omega
    subst h4
    have ht : rdThese [97, 110, 97, 49] l = .ok r := ht.symm
    clear hi hlt
    refine go ?_
    refine E.callf Try.func64 rfl ?_
    refine byte_any hs ?_ ?_
    rotate_left
    · intro he
      subst he
      refine go ?_
      refine L.callf Try.func62 (caught_fault hs up_ ?_)
      intro w7 hs
      refine L.c2 rfl rfl rfl (run_lda hs ag_title) (run_ld hs) ?_
      exact HE.out 5 _ _ _ _ _ hg5 (by simp [rdTitle, ht, rdByte]) (by decide) hs.drop.drop.drop
    intro k r2 w7 he hs
    rw [he] at ht
    refine go ?_
    refine E.callf Try.func65 rfl ?_
    refine num_any 18446744073709551615 rfl hs ?_ ?_
    rotate_left
    · intro e w8 h1 hne hs
      refine go ?_
      refine L.callf Try.func62 (caught_fault hs up_ ?_)
      intro w7 hs
      refine L.c2 rfl rfl rfl (run_lda hs ag_title) (run_ld hs) ?_
      exact HE.out e _ _ _ _ _ hg5 (by simp [rdTitle, ht, rdByte, h1]) hne hs.drop.drop
    intro x r3 w8 h1 _ hx hs
    refine go ?_
    refine E.callf Try.func65 rfl ?_
    refine num_any 18446744073709551615 rfl hs ?_ ?_
    rotate_left
    · intro e w8 h2 hne hs
      refine go ?_
      refine L.callf Try.func62 (caught_fault hs up_ ?_)
      intro w7 hs
      refine L.c2 rfl rfl rfl (run_lda hs ag_title) (run_ld hs) ?_
      exact HE.out e _ _ _ _ _ hg5 (by simp [rdTitle, ht, rdByte, h1, h2]) hne hs.drop.drop
    intro y r4 w9 h2 _ hy hs
    refine go ?_
    refine E.sto hs ?_
    intro w10 hs
    refine go ?_
    refine E.callf Try.func66 rfl ?_
    refine done_any hs ?_ ?_
    rotate_left
    · intro hne
      refine go ?_
      refine L.callf Try.func62 (caught_fault hs up_ ?_)
      intro w7 hs
      refine L.c2 rfl rfl rfl (run_lda hs ag_title) (run_ld hs) ?_
      exact HE.out 4 _ _ _ _ _ hg5 (by simp [rdTitle, ht, rdByte, h1, h2, hne]) (by decide) hs.drop.drop.drop
    intro he
    rw [he] at h2
    refine go ?_
    refine E.lda hs ag_title ?_
    refine go ?_
    refine E.sto hs ?_
    intro w11 hs
    refine go ?_
    refine E.sto hs ?_
    intro w12 hs
    refine go ?_
    refine L.callf Try.func62 (caught_none ?_)
    refine L.c2 rfl rfl rfl (run_lda hs ag_title) (run_ld hs) ?_
    exact HOK.out ⟨k, x, y⟩ _ _ hg5 (by simp [rdTitle, ht, rdByte, h1, h2]) ⟨hx, hy⟩ hs.drop.drop.drop

theorem rdTitle_titleB (t : Ti) (ht : t.ok) : rdTitle (titleB t) = .ok t := by
  obtain ⟨h1, h2⟩ := ht
  have e1 := rdNum_lay 18446744073709551615 t.a h1 (by omega) (layN t.b)
  have e2 := rdNum_lay 18446744073709551615 t.b h2 (by omega) []
  simp only [List.append_nil] at e2
  simp [rdTitle, titleB, rdThese, rdByte, e1, e2]

end Go.Proofs.Ytcfbmmlgdopbmaa
