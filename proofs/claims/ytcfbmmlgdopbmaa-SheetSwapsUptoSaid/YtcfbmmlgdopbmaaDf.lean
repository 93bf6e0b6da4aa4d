/-
  Layer 4 (disk): Cut, Move, Read, Widen.
-/
import Derived.Test.YtcfbmmlgdopbmaaDe
namespace Go.Proofs.Ytcfbmmlgdopbmaa
open Go.RowKit
set_option linter.unusedVariables false
set_option linter.unusedSimpArgs false

section
variable {P : Program} {W w w' : World} {g g' : Hl} {H H' : List HP} {t e ty : TypeId} {z : Value} {size bytes : Nat} {n : Fm} {ρ : List (Nat × Value)} {Q : Exit → Act → World → Prop} {ops : Array Oper} {rest : List Oper} {d : Option Tmp} {ps : String} {af : Array Edge} {x y : Operand} {lo hi mx : Option Operand} {vl vh vm : Option Value}
/-- s[:k:k] of an own row: it may not grow any more. -/
theorem E.cutw {a : Option Addr} {m c : Nat} {xs : List Value} (he : ElemOf P t e z size bytes) (hs : Sat W w g (ownw e size (.slice a m c) m xs :: H)) (k : Nat) (hk : k ≤ m) (h : ∀ a', Sat W w g (ownw e size (.slice a' k k) k (xs.take (k * size)) :: H) → E P n ops rest (pushv d (.slice a' k k) ρ) w Q)
    (hx : evo n ρ x = some (.slice a m c) := by exact rfl) (h1 : evm n ρ lo = some none := by exact rfl) (h2 : evm n ρ hi = some vh := by exact rfl) (h3 : evm n ρ mx = some vm := by exact rfl) (hhi : Hi vh m k := by exact .inr ⟨_, _, rfl, by omega⟩) (hmx : Mx vm vh c k := by exact .inr ⟨rfl, _, _, rfl, by omega⟩) :
    E P n ops (⟨d, .slice t x lo hi mx, ty, ps, af, none⟩ :: rest) ρ w Q := by
  obtain ⟨_, _, _, e0, hmc, hcm, hN⟩ := hs.wlen
  simp only [Value.slice.injEq] at e0
  obtain ⟨rfl, -, rfl⟩ := e0
  have hr := fun w => run_slice_any (P := P) (a := a) (vl := none) he (.inl ⟨rfl, rfl⟩) hhi hmx hmc (Nat.zero_le k) (Nat.le_refl k) (by omega) (fun _ => Nat.le_refl k) w
  refine E.pv (v := .slice a k k) (Pv.slice hx h1 h2 h3 (fun w => ?_)) (h a (hs.wcut hk))
  rw [hr w]
  congr 1
  simp only [Nat.sub_zero, Nat.zero_mul, Value.slice.injEq, and_true]
  split
  · rfl
  · cases a with
    | none => rfl
    | some q => obtain ⟨b, o, s⟩ := q; simp [Addr.add]
end

set_option maxHeartbeats 1600000 in
set_option maxRecDepth 100000 in
theorem cut_any {R : Ending → World → Prop} {W w : World} {g : Hl} {H : List HP} {b : Nat} {d : Dk} {name : List UInt8} {k : Int} (hs : Sat W w g (disk b d :: H))
    (hR : ∀ w', Sat W w' g (disk b (d.cut name k).2 :: H) → R (.returned (.int .i64 (d.cut name k).1)) w') : Calls Try.prog 37 #[ptr b, str name, .int .i64 k] w R := by
  have HR := Lib.hid hR
  clear hR
  refine C.calls (args := [ptr b, str name, .int .i64 k]) Try.func37 rfl rfl rfl ?_
  refine go ?_
  obtain ⟨mb, L, hL, hok, hs⟩ := disk_open hs
  refine E.callf Try.func35 rfl ?_
  refine act_dsk hs hok ?_
  intro w1 hs
  obtain ⟨ok1, e1, -, -⟩ := Dk.act_ok hok
  have key := HR.out
  simp only [Dk.cut, ← hL] at key
  generalize d.act = q at hs ok1 e1 key ⊢
  obtain ⟨er, d1⟩ := q
  simp only at hs ok1 e1 key ⊢
  by_cases her : er = 0
  · subst her
    simp only [if_true, al_plain] at key
    have hs0 := hs
    simp only [dsk] at hs
    refine go ?_
    refine E.lookd hs (.there .here) (fun h0 => ?_) (fun fb f h1 => ?_)
    · refine go ?_
      refine A.r1 ?_
      simp only [h0, Option.map_none] at key
      exact key _ (disk_close (hL.trans e1.symm) ok1 hs0)
    · simp only [h1, Option.map_some] at key
      have bad : (k < 0 ∨ (f.p.length : Int) < k) → R (.returned (.int .i64 1)) w1 := fun h => by
        rw [if_pos h] at key
        exact key _ (disk_close (hL.trans e1.symm) ok1 hs0)
      obtain ⟨L1, L2, rfl, h2, -⟩ := al_split h1
      obtain ⟨a, c, hs⟩ := file_open (files_out (q := (name, (fb, f))) hs.pull2)
      simp only at hs
      refine go ?_
      cases hk0 : decide (k < 0)
      · refine go ?_
        refine C.cond_dec (p := (f.p.length : Int) < k) rfl (fun hb => ?_) (fun hb => ?_)
        · refine go ?_
          refine A.r1 ?_
          exact bad (.inr hb)
        · have hk0' : ¬ k < 0 := by simpa using hk0
          obtain ⟨q, rfl⟩ : ∃ q : Nat, k = q := ⟨k.toNat, by omega⟩
          refine go ?_
          refine E.cutw el_u8 hs.swap q (by omega) ?_
          intro a' hs
          have hs := hs.swap
          refine go ?_
          refine E.sto hs ?_
          intro w2 hs
          refine go ?_
          refine E.sto hs ?_
          intro w3 hs
          refine go ?_
          refine A.r1 ?_
          have h3 := as_plain name (fb, ⟨f.p.take q, q⟩) (L1 ++ (name, (fb, f)) :: L2)
          rw [h2] at h3
          rw [if_neg (by omega)] at key
          have ql : (f.p.take q).length = q := by rw [List.length_take]; omega
          refine key _ (disk_close (L := L1 ++ (name, (fb, ⟨f.p.take q, q⟩)) :: L2) (mb := mb) (by simpa using h3.symm) ?_ ?_)
          · have := upd_ok (f' := ⟨f.p.take q, q⟩) hok ok1 (name := name) (f := f) (by rw [← hL, al_plain, h1]; rfl) (by simp only [ql]; omega) (by simp only [ql]; omega)
            rw [← hL] at this
            simpa using this
          · rw [dmap_mid (f' := ⟨f.p.take q, q⟩)] at hs
            rw [Nat.mul_one, ← bs_take] at hs
            exact (files_in (q := (name, (fb, ⟨f.p.take q, q⟩))) (file_close (l := f.p.take q) ql rfl hs)).push2
      · refine go ?_
        refine A.r1 ?_
        exact bad (.inl (by simpa using hk0))
  · have hd : (!decide (er = 0)) = true := by simp [her]
    simp only [her, if_false] at key
    refine go ?_
    refine C.cond rfl (fun _ => ?_) (fun h => by rw [hd] at h; cases h)
    refine go ?_
    refine A.r1 ?_
    exact key _ (disk_close (hL.trans e1.symm) ok1 hs)

theorem aput_mem {β : Type} {k : List UInt8} {v : β} {l : List (List UInt8 × β)} : ∀ q ∈ aput k v l, q = (k, v) ∨ q ∈ l := by
  intro q hq
  cases ha : aget k l with
  | none =>
    rw [(as_none ha).1] at hq
    simp only [List.mem_append, List.mem_singleton] at hq
    exact hq.symm
  | some f =>
    obtain ⟨l1, l2, rfl, h2, -⟩ := al_split ha
    rw [h2] at hq
    simp only [List.mem_append, List.mem_cons] at hq ⊢
    rcases hq with h | h | h <;> simp [h]
theorem aput_tk {name : List UInt8} {f : Fl} {fs : List (List UInt8 × Fl)} : tk (aput name f fs) ≤ tk fs + f.p.length := by
  cases ha : aget name fs with
  | none => rw [(as_none ha).1, tk_append]; simp [tk]
  | some h =>
    obtain ⟨l1, l2, rfl, h2, -⟩ := al_split ha
    rw [h2]
    simp only [tk_append, tk_cons]
    omega
theorem move_ok {d d1 : Dk} {src dst : List UInt8} {f : Fl} (h : d.ok) (h1 : d1.ok) (ha : aget src d.fs = some f) : ({ d1 with fs := aput dst f (adrop src d.fs) } : Dk).ok := by
  obtain ⟨l1, l2, e, -, h2⟩ := al_split ha
  have hd := drop_ok (name := src) h h1
  have hm : (src, f) ∈ d.fs := by rw [e]; simp
  refine ⟨?_, h1.room, h1.fuse, h1.torn, ?_, put_keys hd.keys⟩
  · have ht := h.total
    have h3 := aput_tk (name := dst) (f := f) (fs := adrop src d.fs)
    have : tk (adrop src d.fs) + f.p.length ≤ 1000000000 := by
      rw [h2]
      rw [e] at ht
      simp only [tk_append, tk_cons] at ht ⊢
      omega
    simp only
    omega
  · intro q hq
    rcases aput_mem q hq with rfl | hq
    · exact (h.safe (src, f) hm : f.safe ≤ f.p.length)
    · exact hd.safe q hq

set_option maxHeartbeats 1600000 in
set_option maxRecDepth 100000 in
theorem move_any {R : Ending → World → Prop} {W w : World} {g : Hl} {H : List HP} {b : Nat} {d : Dk} {src dst : List UInt8} (hs : Sat W w g (disk b d :: H))
    (hR : ∀ w', Sat W w' g (disk b (d.move src dst).2 :: H) → R (.returned (.int .i64 (d.move src dst).1)) w') : Calls Try.prog 39 #[ptr b, str src, str dst] w R := by
  have HR := Lib.hid hR
  clear hR
  refine C.calls (args := [ptr b, str src, str dst]) Try.func39 rfl rfl rfl ?_
  refine go ?_
  refine E.callf Try.func33 rfl ?_
  refine named_any dst hs ?_
  intro w0 hs
  cases hN : namedB dst with
  | false =>
    refine go ?_
    refine A.r1 ?_
    have := HR.out w0
    simp only [Dk.move, hN, if_true] at this
    exact this hs
  | true =>
  refine go ?_
  obtain ⟨mb, L, hL, hok, hs⟩ := disk_open hs
  refine E.callf Try.func35 rfl ?_
  refine act_dsk hs hok ?_
  intro w1 hs
  obtain ⟨ok1, e1, -, -⟩ := Dk.act_ok hok
  have key := HR.out
  simp only [Dk.move, ← hL, hN, Bool.true_eq_false, if_false] at key
  generalize d.act = q at hs ok1 e1 key ⊢
  obtain ⟨er, d1⟩ := q
  simp only at hs ok1 e1 key ⊢
  by_cases her : er = 0
  · subst her
    simp only [if_true, al_plain] at key
    have hs0 := hs
    simp only [dsk] at hs
    refine go ?_
    refine E.lookd hs (.there .here) (fun h0 => ?_) (fun fb f h1 => ?_)
    · refine go ?_
      refine A.r1 ?_
      simp only [h0, Option.map_none] at key
      exact key _ (disk_close (hL.trans e1.symm) ok1 hs0)
    · simp only [h1, Option.map_some] at key
      have hok2 := move_ok (dst := dst) hok ok1 (src := src) (f := f) (by rw [← hL, al_plain, h1]; rfl)
      rw [← hL] at hok2
      refine go ?_
      refine E.deld hs (.there .here) ?_
      intro w2 hs
      refine go ?_
      refine E.setd (f := f) hs (.there .here) ?_
      intro w3 hs
      refine go ?_
      refine A.r1 ?_
      obtain ⟨L1, L2, rfl, -, h2⟩ := al_split h1
      rw [h2] at hs
      have hs := files_out (q := (src, (fb, f))) hs.pull2
      simp only at hs
      generalize L1 ++ L2 = M at hs h2
      have hfin : Fs.plain (aput dst (fb, f) M) = aput dst f (adrop src (Fs.plain (L1 ++ (src, (fb, f)) :: L2))) := by
        rw [ad_plain, h2, ← as_plain dst (fb, f)]
      refine key _ (disk_close (L := aput dst (fb, f) M) (mb := mb) hfin hok2 ?_)
      cases ha : aget dst M with
      | none =>
        rw [(as_none ha).1] at hs ⊢
        have e0 : dfiles M = dfiles (M ++ []) := by simp
        rw [e0] at hs
        exact (files_in (q := (dst, (fb, f))) hs).push2
      | some q =>
        obtain ⟨M1, M2, rfl, h4, -⟩ := al_split ha
        rw [h4] at hs ⊢
        have h5 := (files_out (q := (dst, q)) hs.swap).drop
        exact (files_in (q := (dst, (fb, f))) h5.swap).push2
  · have hd : (!decide (er = 0)) = true := by simp [her]
    simp only [her, if_false] at key
    refine go ?_
    refine C.cond rfl (fun _ => ?_) (fun h => by rw [hd] at h; cases h)
    refine go ?_
    refine A.r1 ?_
    exact key _ (disk_close (hL.trans e1.symm) ok1 hs)

set_option maxHeartbeats 1600000 in
set_option maxRecDepth 100000 in
theorem clone_any {R : Ending → World → Prop} {W w : World} {g : Hl} {H : List HP} {D : Nat → Prop} {a : Option Addr} {n c : Nat} {l : List UInt8} (hs : Sat W w g H) (hrow : ∀ w', Sat W w' g H → Row 1 w' D (.slice a n c) n (bs l)) (hn : n ≤ 140737488355328)
    (hR : ∀ a' c' w', Sat W w' g (ownw 5 1 (.slice a' n c') n (bs l) :: H) → R (.returned (.slice a' n c')) w') : Calls Try.prog 30 #[.slice a n c] w R := by
  have HR := Lib.hid hR
  clear hR
  cases a with
  | none =>
    obtain ⟨h1, a0, c0, e, _, _, hN, _⟩ := hrow w hs
    simp only [Value.slice.injEq] at e
    obtain ⟨rfl, -, rfl⟩ := e
    obtain ⟨rfl, rfl⟩ := hN rfl
    have : bs l = [] := List.eq_nil_of_length_eq_zero (by simpa using h1)
    refine C.calls (args := [.slice none 0 0]) Try.func30 rfl rfl rfl ?_
    refine go ?_
    refine A.r1 ?_
    rw [this] at HR
    exact HR.out none 0 _ hs.wnil
  | some ad =>
    refine C.calls (args := [.slice (some ad) n c]) Try.func30 rfl rfl rfl ?_
    refine go ?_
    refine E.bsl hs ?_
    intro b w1 hs
    refine go ?_
    refine E.appw el_u8 hs.wempty (hrow w1 hs.drop) ?_
    intro a' c' w2 hs
    refine go ?_
    refine A.r1 ?_
    simp only [Nat.zero_add, List.nil_append] at hs ⊢
    exact HR.out _ _ _ hs

set_option maxHeartbeats 1600000 in
set_option maxRecDepth 100000 in
theorem read_any {R : Ending → World → Prop} {W w : World} {g : Hl} {H : List HP} {b : Nat} {d : Dk} {name : List UInt8} (hs : Sat W w g (disk b d :: H))
    (hOK : ∀ p a c w' g', d.read name = .ok p → p.length ≤ 1000000000 → Hl.le g g' → Pr 1 g' (.slice a p.length c) p.length (bs p) → Sat W w' g' (disk b d :: H) → R (.returned (.tuple #[.slice a p.length c, .int .i64 0])) w')
    (hE : ∀ e w', d.read name = .error e → e ≠ 0 → Sat W w' g (disk b d :: H) → R (.returned (.tuple #[.slice none 0 0, .int .i64 e])) w') : Calls Try.prog 14 #[ptr b, str name] w R := by
  have HOK := Lib.hid hOK
  have HE := Lib.hid hE
  clear hOK hE
  refine C.calls (args := [ptr b, str name]) Try.func14 rfl rfl rfl ?_
  refine go ?_
  obtain ⟨mb, L, hL, hok, hs⟩ := disk_open hs
  refine E.callf Try.func29 rfl ?_
  refine on_dsk hs ?_
  have hto := hok.total
  have hrd : d.read name = (if d.off then .error 7 else match aget name (Fs.plain L) with | none => .error 2 | some f => .ok f.p) := by rw [hL]; rfl
  have hc0 := disk_close hL hok hs
  simp only [dsk] at hs
  cases hoff : d.off with
  | true =>
    refine go ?_
    refine A.r2 ?_
    exact HE.out 7 _ (by rw [hrd, hoff]; rfl) (by decide) hc0
  | false =>
    rw [hoff] at hrd
    simp only [Bool.false_eq_true, if_false, al_plain] at hrd
    refine go ?_
    refine E.lookd hs (.there .here) (fun h0 => ?_) (fun fb f h1 => ?_)
    · refine go ?_
      refine A.r2 ?_
      exact HE.out 2 _ (by rw [hrd, h0]; rfl) (by decide) hc0
    · rw [h1] at hrd
      rw [← hL] at hto
      obtain ⟨L1, L2, rfl, h2, -⟩ := al_split h1
      have hfl : f.p.length ≤ 1000000000 := by
        simp only [Fs.plain, List.map_append, List.map_cons, tk_append, tk_cons] at hto; omega
      obtain ⟨a, c, hs⟩ := file_open (files_out (q := (name, (fb, f))) hs.pull2)
      simp only at hs
      refine go ?_
      refine E.callf Try.func30 rfl ?_
      refine clone_any hs (fun w' h => h.swap.wrow) (by omega) ?_
      intro a' c' w2 hs
      obtain ⟨g', hg', hp, hs⟩ := hs.wpublish
      refine go ?_
      refine A.r2 ?_
      refine HOK.out f.p a' c' _ g' hrd hfl hg' hp ?_
      exact disk_close hL hok (files_in (q := (name, (fb, f))) (file_close (l := f.p) rfl rfl hs)).push2

set_option maxHeartbeats 1600000 in
set_option maxRecDepth 100000 in
theorem widen_any {R : Ending → World → Prop} {W w : World} {g : Hl} {H : List HP} {b : Nat} {d : Dk} {room : Int} (hr : -1000000000 ≤ room ∧ room ≤ 1000000000) (hs : Sat W w g (disk b d :: H))
    (hR : ∀ w', Sat W w' g (disk b { d with room := room } :: H) → R (.returned (.tuple #[])) w') : Calls Try.prog 21 #[ptr b, .int .i64 room] w R := by
  have HR := Lib.hid hR
  clear hR
  obtain ⟨mb, L, hL, hok, hs⟩ := disk_open hs
  simp only [dsk] at hs
  refine C.calls (args := [ptr b, .int .i64 room]) Try.func21 rfl rfl rfl ?_
  refine go ?_
  refine E.sto hs ?_
  intro w1 hs
  refine go ?_
  refine A.e0 ?_
  exact HR.out _ (disk_close (d := { d with room := room }) hL ⟨hok.total, hr, hok.fuse, hok.torn, hok.safe, hok.keys⟩ hs)

end Go.Proofs.Ytcfbmmlgdopbmaa
