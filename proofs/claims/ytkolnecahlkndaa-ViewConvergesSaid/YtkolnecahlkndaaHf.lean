/-
  Layer 12 (order): Seek, Range, All.
-/
import Derived.Test.YtkolnecahlkndaaHe
import Derived.Test.YtkolnecahlkndaaIw
namespace Go.Proofs.Ytkolnecahlkndaa
open Go.RowKit
set_option linter.unusedVariables false
set_option linter.unusedSimpArgs false

/-- Does an event stand up to a place? -/
def upto (t : Nat) (wr : Int) (e : Ev) : Bool := decide (cmpS e.tm e.wr t wr ≤ 0)

set_option maxHeartbeats 3200000 in
set_option maxRecDepth 100000 in
theorem seek_any {R : Ending → World → Prop} {W w : World} {g : Hl} {H : List HP} {cb t : Nat} {wr : Int} {T : List Ev} (hl : T.length ≤ 1000000000) (hs : Sat W w g (crs cb T :: H))
    (hR : ∀ w' v, Sat W w' g (crs cb (T.dropWhile (upto t wr)) :: H) → R (.returned v) w') : Calls Try.prog 50 #[ptr cb, spot t wr] w R := by
  have HR := Lib.hid hR
  clear hR
  have ag1 := ag_ev
  have ag2 := ag_spot
  refine C.calls (args := [.pointer (some ⟨cb, 0, none⟩), .agg #[.int .u64 t, .int .i64 wr]]) Try.func50 rfl rfl rfl ?_
  refine go ?_
  refine E.bx hs ?_
  intro b3 w1 hs
  refine gob ?_
  refine C.cut (fun k : Nat => [(5, .int .i64 k)]) (fun k w => Sat W w g (crs cb (T.dropWhile (upto t wr)) :: H)) ?_ ?_
  · refine C.block ?_
    refine C.lp (fun x : Nat × List Ev => [(0, .pointer (some ⟨cb, 0, none⟩)), (3, .pointer (some ⟨b3, 0, none⟩)), (5, .int .i64 x.1)])
      (fun gk x w => gk = x.2.length ∧ x.1 + x.2.length = T.length ∧ x.2.dropWhile (upto t wr) = T.dropWhile (upto t wr) ∧ Sat W w g (crs cb x.2 :: blk b3 [.int .u64 t, .int .i64 wr] 25 :: H)) T.length (0, T) ⟨rfl, by simp, rfl, hs.swap⟩ ?_
    clear hs
    rintro gk ⟨k, T1⟩ w2 ⟨hgk, hkl, hT, hs⟩
    simp only at hgk hkl hT hs ⊢
    obtain ⟨L, hc, hs'⟩ := crs_open hs
    clear hs
    have hs := hs'
    clear hs'
    cases L with
    | nil =>
      have hT0 : T1 = [] := List.eq_nil_of_length_eq_zero (by have := hc.perm.length_eq; simpa using this)
      rw [hT0] at hT hc
      obtain ⟨a, c, hok, hs⟩ := cur_open hs
      refine gob ?_
      refine C.held2 cb b3 hs ?_
      intro w3 hk hs
      refine goh ?_
      refine EH.done ?_
      refine go ?_
      refine A.mt k ?_
      rw [← hT]
      exact crs_close [] hc (cur_close rfl hok hs.pull2.drop)
    | cons x L =>
      obtain ⟨a, c, hok, hs⟩ := cur_open hs
      have hx := hok x (List.mem_cons_self ..)
      obtain ⟨T', hTT, hperm⟩ := hc.root fun y hy => (hok y hy).ne
      have hxl : 0 < x.es.length := by have := hx.ne; cases h : x.es <;> simp_all
      have hxl' : (0 : Int) < (x.es.length : Nat) := by omega
      obtain ⟨_, _, eq, hnc, hcm, _⟩ := Sat.ownLen hs.swap
      simp only [Value.slice.injEq] at eq
      obtain ⟨rfl, -, rfl⟩ := eq
      obtain ⟨hb, ys, rfl, hyc, _, _, hyt, hs⟩ := own_open (by simp) hs.swap
      have hy : ys[0]? = some (.slice (some ⟨x.b, x.o, none⟩) x.es.length x.c) := by
        have : (ys.take (x :: L).length)[0]? = ((x :: L).map Hd.v)[0]? := by rw [hyt]
        rw [List.getElem?_take, if_pos (by simp)] at this
        exact this
      have hlc : (x :: L).length = L.length + 1 := rfl
      have hf := hc.few
      refine gob ?_
      refine C.held3 hb cb b3 hs ?_
      intro w3 hk hs
      have ri : Rd (Keeps g [(hb, ys, 27), (cb, [.slice (some ⟨hb, 0, none⟩) (x :: L).length c], 108), (b3, [.int .u64 t, .int .i64 wr], 25)]) hb 0 (.slice (some ⟨x.b, x.o, none⟩) x.es.length x.c) := Rd.blk .here hy
      refine goh ?_
      rw [show decide ((0 : Int) < (L.length : Int) + 1) = true from decide_eq_true (by omega)]
      refine goh ?_
      have vi : ((evC x.es).drop (0 * 8)).take 8 = x.hd.cs := by rw [evC_at hxl, hd_zero hxl]
      refine EH.t0 hk ?_ (hy := Pf.loadpr ag_ev hx.row hxl vi rfl rfl)
      refine goh ?_
      refine EH.one (St.guard rfl rfl (St.callf Try.func39 rfl ?_))
      refine at_any (e := x.hd) hs ?_
      intro w4 hs
      refine kept3 hs (fun hk => ?_)
      refine goh ?_
      refine EH.one (St.guard rfl rfl (St.callf Try.func24 rfl ?_))
      refine compare_any (t1 := x.hd.tm) (w1 := x.hd.wr) (t2 := t) (w2 := wr) hs ?_
      intro w5 hs
      refine kept3 hs (fun hk => ?_)
      refine goh ?_
      refine EH.done ?_
      refine go ?_
      have hs := crs_close (cb := cb) (x :: L) hc (cur_close (cb := cb) (n := (x :: L).length) rfl hok ((own_close hyc hnc hcm hyt hs).swap))
      rw [hTT] at hs hT hkl hgk
      simp only [List.length_cons] at hkl hgk
      refine C.cond_dec (p := cmpS x.hd.tm x.hd.wr t wr ≤ 0) rfl (fun h => ?_) (fun h => ?_)
      · refine go ?_
        refine E.callf Try.func51 rfl ?_
        refine next_any hs (fun h => by cases h) ?_
        rintro e T2 he _ _ w6 hs
        obtain ⟨rfl, rfl⟩ := List.cons.inj he
        refine go ?_
        refine A.rd T'.length (k + 1, T') ⟨rfl, by simp only; omega, ?_, hs⟩
        rw [← hT, List.dropWhile_cons_of_pos (by simp [upto, h])]
      · refine go ?_
        refine A.mt k ?_
        rw [← hT, List.dropWhile_cons_of_neg (by simp [upto]; omega)]
        exact hs.swap.drop
  · clear hs
    rintro k w6 hs
    refine go ?_
    refine A.r1 ?_
    exact HR.out _ _ hs

set_option maxHeartbeats 3200000 in
set_option maxRecDepth 100000 in
theorem range_any {R : Ending → World → Prop} {W w : World} {g : Hl} {H : List HP} {a : Option Addr} {n c t : Nat} {wr most : Int} {ls : List El} {T : List Ev} (hp : Pr 1 g (.slice a n c) n (ls.map El.v)) (hn : ls.length = n) (hn2 : n ≤ 1000000000) (hok : ∀ x ∈ ls, x.ok g) (hup : ∀ x ∈ ls, Up1 x.es) (hT : Up1 T) (hperm : T.Perm (ls.flatMap El.es)) (hl : T.length ≤ 1000000000) (hs : Sat W w g H)
    (hR : ∀ w' x g', Hl.le g g' → El.ok x g' → x.es = (T.dropWhile (upto t wr)).take most.toNat → Sat W w' g' H → R (.returned x.v) w') : Calls Try.prog 26 #[.slice a n c, spot t wr, .int .i64 most] w R := by
  have HR := Lib.hid hR
  clear hR
  have ag2 := ag_spot
  have hTl : (T.dropWhile (upto t wr)).length ≤ 1000000000 := by
    have := (List.dropWhile_sublist (upto t wr) (l := T)).length_le
    omega
  refine C.calls (args := [.slice a n c, .agg #[.int .u64 t, .int .i64 wr], .int .i64 most]) Try.func26 rfl rfl rfl ?_
  refine go ?_
  refine E.bx hs ?_
  intro b4 w1 hs
  refine go ?_
  refine E.callf Try.func49 rfl ?_
  refine crsNew_any hp hn hn2 hok hup hT hperm hs ?_
  intro cb w2 hs
  refine go ?_
  refine E.callf Try.func50 rfl ?_
  refine seek_any (t := t) (wr := wr) hl hs ?_
  intro w3 v3 hs
  refine gob ?_
  generalize T.dropWhile (upto t wr) = D at hs hTl HR
  refine C.cut (fun x : Option Addr × Nat => [(8, .slice x.1 (D.take most.toNat).length x.2)])
    (fun x w => (∀ e ∈ D.take most.toNat, e.ok g ∧ e.low) ∧ Sat W w g (own 43 8 (.slice x.1 (D.take most.toNat).length x.2) (D.take most.toNat).length (evC (D.take most.toNat)) :: H)) ?_ ?_
  · refine C.block ?_
    refine C.lp (fun x : List Ev × List Ev × Option Addr × Nat => [(2, .int .i64 most), (7, .pointer (some ⟨cb, 0, none⟩)), (8, .slice x.2.2.1 x.1.length x.2.2.2)])
      (fun gk x w => gk = x.2.1.length ∧ x.1 ++ x.2.1 = D ∧ x.1.length ≤ most.toNat ∧ (∀ e ∈ x.1, e.ok g ∧ e.low) ∧ Sat W w g (own 43 8 (.slice x.2.2.1 x.1.length x.2.2.2) x.1.length (evC x.1) :: crs cb x.2.1 :: H)) D.length ([], D, none, 0) ⟨rfl, rfl, Nat.zero_le _, by simp, hs.swap.drop.nilOwn⟩ ?_
    clear hs
    rintro gk ⟨O, T1, a5, c5⟩ w5 ⟨hgk, hD, hO, hOe, hs⟩
    simp only at hgk hD hO hOe hs ⊢
    have hDl : O.length + T1.length = D.length := by rw [← hD, List.length_append]
    have hO9 : O.length ≤ 1000000000 := by omega
    refine go ?_
    refine C.cond_dec (p := (O.length : Int) < most) rfl (fun h => ?_) (fun h => ?_)
    · refine go ?_
      refine E.callf Try.func51 rfl ?_
      refine next_any hs.swap (fun hT0 => ?_) ?_
      · intro w6 hs
        refine go ?_
        refine E.al hs ?_
        intro b9 w7 hs
        refine E.sto (vs := [.int .i64 0, .int .u64 0, .int .u64 0, .int .u8 0, .string ⟨#[]⟩, .slice none 0 0, .float .f64 0, .int .i64 0]) hs ?_ (hv := rfl)
        intro w8 hs
        refine go ?_
        rw [hT0, List.append_nil] at hD
        subst hD
        have e1 : O.take most.toNat = O := List.take_of_length_le (by omega)
        refine A.mt (a5, c5) ?_ ?_
        · simp only [e1]
          exact ⟨hOe, hs.drop.drop⟩
        · simp only [e1]
          exact wk_
      · rintro e T2 he hev helow w6 hs
        refine go ?_
        refine E.al hs ?_
        intro b9 w7 hs
        refine E.sto (vs := e.cs) (ys := e.cs) hs ?_ (hv := rfl) (hsp := spl_all (by rfl)) (h1 := Ev.cs_one hev)
        intro w8 hs
        refine go ?_
        refine E.lda hs ag_ev ?_
        refine E.bsle el_ev hs (cs := e.cs) rfl ?_
        intro b10 w9 hs
        refine E.app el_ev hs.pull3 (hs.rowOf (size := 8) 1 rfl (by decide)) ?_ (h1 := fun u hu => List.all_eq_true.1 (Ev.cs_one hev) u hu)
        intro a11 c11 w11 _ _ hs
        refine go ?_
        refine A.rd T2.length (O ++ [e], T2, a11, c11) ⟨rfl, by rw [← hD, he]; simp, by simp; omega, ?_, ?_⟩ (hg := by rw [hgk, he]; simp) (hw := ?_)
        · intro e' he'
          rcases List.mem_append.1 he' with h' | h'
          · exact hOe e' h'
          · simp only [List.mem_singleton] at h'
            subst h'
            exact ⟨hev, helow⟩
        · simp only [List.length_append, List.length_cons, List.length_nil, Nat.zero_add, evC_append]
          have e2 : evC [e] = e.cs := by simp [evC]
          rw [e2]
          exact hs.swap.drop.swap.drop
        · simp only [List.length_append, List.length_cons, List.length_nil, Nat.zero_add]
          exact wk_
    · refine go ?_
      have e1 : D.take most.toNat = O := by
        have : O.length = most.toNat := by omega
        rw [← hD, ← this, List.take_left]
      refine A.mt (a5, c5) ?_ ?_
      · simp only [e1]
        exact ⟨hOe, hs.swap.drop⟩
      · simp only [e1]
        exact wk_
  · clear hs
    rintro ⟨a5, c5⟩ w5 ⟨hOe, hs⟩
    simp only at hs ⊢
    obtain ⟨g6, hg6, hp6, hs⟩ := hs.publishOwn
    refine go ?_
    refine A.r1 ?_
    exact HR.out _ ⟨a5, c5, D.take most.toNat⟩ g6 hg6 ⟨hp6, fun e he => ⟨(hOe e he).1.mono hg6, (hOe e he).2⟩⟩ rfl hs

set_option maxHeartbeats 1600000 in
set_option maxRecDepth 100000 in
theorem all_any {R : Ending → World → Prop} {W w : World} {g : Hl} {H : List HP} {a : Option Addr} {n c : Nat} {ls : List El} {T : List Ev} (hp : Pr 1 g (.slice a n c) n (ls.map El.v)) (hn : ls.length = n) (hn2 : n ≤ 1000000000) (hok : ∀ x ∈ ls, x.ok g) (hup : ∀ x ∈ ls, Up1 x.es) (hT : Up1 T) (hperm : T.Perm (ls.flatMap El.es)) (hl : T.length ≤ 1000000000) (hs : Sat W w g H)
    (hR : ∀ w' x g', Hl.le g g' → El.ok x g' → x.es = T → Sat W w' g' H → R (.returned x.v) w') : Calls Try.prog 21 #[.slice a n c] w R := by
  have HR := Lib.hid hR
  clear hR
  refine C.calls (args := [.slice a n c]) Try.func21 rfl rfl rfl ?_
  refine go ?_
  refine E.callf Try.func26 rfl ?_
  refine range_any (t := 0) (wr := -1) hp hn hn2 hok hup hT hperm hl hs ?_
  intro w1 x g1 hg1 hx hxe hs
  refine go ?_
  refine A.r1 ?_
  refine HR.out _ x g1 hg1 hx ?_ hs
  have e1 : T.dropWhile (upto 0 (-1)) = T := by
    cases T with
    | nil => rfl
    | cons e r =>
      have : e.low := by
        have hm : e ∈ ls.flatMap El.es := hperm.mem_iff.1 (List.mem_cons_self ..)
        obtain ⟨y, hy, hey⟩ := List.mem_flatMap.1 hm
        exact ((hok y hy).evs e hey).2
      rw [List.dropWhile_cons_of_neg]
      simp only [upto, decide_eq_true_eq, cmpS_le]
      unfold Ev.low at this
      omega
  rw [hxe, e1, List.take_of_length_le (by omega)]
end Go.Proofs.Ytkolnecahlkndaa
