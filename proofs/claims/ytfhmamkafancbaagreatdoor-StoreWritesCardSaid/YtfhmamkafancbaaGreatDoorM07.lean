/-
  Layer 4 (disk): Cut, Move, Read, Widen.
-/
import Derived.Test.YtfhmamkafancbaaGreatDoorM06
import Derived.Test.YtfhmamkafancbaaGreatDoorM04
import Derived.Test.YtfhmamkafancbaaGreatDoorM05
namespace Go.Proofs.YtfhmamkafancbaaGreatDoor
open Go.RowKit
set_option linter.unusedVariables false
set_option linter.unusedSimpArgs false
section
variable {P : Program} {W w w' : World} {g g' : Hl} {H H' : List HP} {t e ty : TypeId} {z : Value} {size bytes : Nat} {n : Fm} {ρ : List (Nat × Value)} {Q : Exit → Act → World → Prop} {ops : Array Oper} {rest : List Oper} {d : Option Tmp} {ps : String} {af : Array Edge} {x y : Operand} {lo hi mx : Option Operand} {vl vh vm : Option Value}
/-- s[:k:k] of an own row: it may not grow any more. -/
theorem E.cutw {a : Option Addr} {m c : Nat} {xs : List Value} (he : ElemOf P t e z size bytes) (hs : Sat W w g (ownw e size (.slice a m c) m xs :: H)) (k : Nat) (hk : k ≤ m) (h : ∀ a', Sat W w g (ownw e size (.slice a' k k) k (xs.take (k * size)) :: H) → E P n ops rest (pushv d (.slice a' k k) ρ) w Q)
    (hx : evo n ρ x = some (.slice a m c) := by exact rfl) (h1 : evm n ρ lo = some none := by exact rfl) (h2 : evm n ρ hi = some vh := by exact rfl) (h3 : evm n ρ mx = some vm := by exact rfl) (hhi : Hi vh m k := by exact .inr ⟨_, _, rfl, by omega⟩) (hmx : Mx vm vh c k := by exact .inr ⟨rfl, _, _, rfl, by omega⟩) :
    E P n ops (⟨d, .slice t x lo hi mx, ty, ps, af, none⟩ :: rest) ρ w Q := by
  obtain ⟨_, _, _, e0, hmc, hcm, hN⟩ := hs.wlen
  simp only [Value.slice.injEq] at e0
  obtain ⟨rfl, -, rfl⟩ := e0
  have hr := fun w => run_slice_any (P := P) (a := a) (vl := none) he (.inl ⟨rfl, rfl⟩) hhi hmx hmc (Nat.zero_le k) (Nat.le_refl k) (by omega) (fun _ => Nat.le_refl k) w
  refine E.pv (v := .slice a k k) (Pv.slice hx h1 h2 h3 (fun w => ?_)) (h a (hs.wcut hk))
  rw [hr w]
  congr 1
  simp only [Nat.sub_zero, Nat.zero_mul, Value.slice.injEq, and_true]
  split
  · rfl
  · cases a with
    | none => rfl
    | some q => obtain ⟨b, o, s⟩ := q; simp [Addr.add]
end
set_option maxHeartbeats 1600000 in
set_option maxRecDepth 100000 in
theorem cut_any {R : Ending → World → Prop} {W w : World} {g : Hl} {H : List HP} {b : Nat} {d : Dk} {name : List UInt8} {k : Int} (hs : Sat W w g (disk b d :: H))
    (hR : ∀ w', Sat W w' g (disk b (d.cut name k).2 :: H) → R (.returned (.int .i64 (d.cut name k).1)) w') : Calls Tryz.prog 243 #[ptr b, str name, .int .i64 k] w R := by
  have HR := Lib.hid hR
  clear hR
  refine C.calls (args := [ptr b, str name, .int .i64 k]) Tryz.func243 rfl rfl rfl ?_
  refine go ?_
  obtain ⟨mb, L, hL, hok, hs⟩ := disk_open hs
  refine E.callf Tryz.func93 rfl ?_
  refine act_dsk hs hok ?_
  intro w1 hs
  obtain ⟨ok1, e1, -, -⟩ := Dk.act_ok hok
  have key := HR.out
  simp only [Dk.cut, ← hL] at key
  generalize d.act = q at hs ok1 e1 key ⊢
  obtain ⟨er, d1⟩ := q
  simp only at hs ok1 e1 key ⊢
  by_cases her : er = 0
  · subst her
    simp only [if_true, al_plain] at key
    have hs0 := hs
    simp only [dsk] at hs
    refine go ?_
    refine E.lookd hs (.there .here) (fun h0 => ?_) (fun fb f h1 => ?_)
    · refine go ?_
      refine A.r1 ?_
      simp only [h0, Option.map_none] at key
      exact key _ (disk_close (hL.trans e1.symm) ok1 hs0)
    · simp only [h1, Option.map_some] at key
      have bad : (k < 0 ∨ (f.p.length : Int) < k) → R (.returned (.int .i64 1)) w1 := fun h => by
        rw [if_pos h] at key
        exact key _ (disk_close (hL.trans e1.symm) ok1 hs0)
      obtain ⟨L1, L2, rfl, h2, -⟩ := al_split h1
      obtain ⟨a, c, hs⟩ := file_open (files_out (q := (name, (fb, f))) hs.pull2)
      simp only at hs
      refine go ?_
      cases hk0 : decide (k < 0)
      · refine go ?_
        refine C.cond_dec (p := (f.p.length : Int) < k) rfl (fun hb => ?_) (fun hb => ?_)
        · refine go ?_
          refine A.r1 ?_
          exact bad (.inr hb)
        · have hk0' : ¬ k < 0 := by simpa using hk0
          obtain ⟨q, rfl⟩ : ∃ q : Nat, k = q := ⟨k.toNat, by omega⟩
          refine go ?_
          refine E.cutw el_u8 hs.swap q (by omega) ?_
          intro a' hs
          have hs := hs.swap
          refine go ?_
          refine E.sto hs ?_
          intro w2 hs
          refine go ?_
          refine E.sto hs ?_
          intro w3 hs
          refine go ?_
          refine A.r1 ?_
          have h3 := as_plain name (fb, ⟨f.p.take q, q⟩) (L1 ++ (name, (fb, f)) :: L2)
          rw [h2] at h3
          rw [if_neg (by omega)] at key
          have ql : (f.p.take q).length = q := by rw [List.length_take]; omega
          refine key _ (disk_close (L := L1 ++ (name, (fb, ⟨f.p.take q, q⟩)) :: L2) (mb := mb) (by simpa using h3.symm) ?_ ?_)
          · have := upd_ok (f' := ⟨f.p.take q, q⟩) hok ok1 (name := name) (f := f) (by rw [← hL, al_plain, h1]; rfl) (by simp only [ql]; omega) (by simp only [ql]; omega)
            rw [← hL] at this
            simpa using this
          · rw [dmap_mid (f' := ⟨f.p.take q, q⟩)] at hs
            rw [Nat.mul_one, ← bs_take] at hs
            exact (files_in (q := (name, (fb, ⟨f.p.take q, q⟩))) (file_close (l := f.p.take q) ql rfl hs)).push2
      · refine go ?_
        refine A.r1 ?_
        exact bad (.inl (by simpa using hk0))
  · have hd : (!decide (er = 0)) = true := by simp [her]
    simp only [her, if_false] at key
    refine go ?_
    refine C.cond rfl (fun _ => ?_) (fun h => by rw [hd] at h; cases h)
    refine go ?_
    refine A.r1 ?_
    exact key _ (disk_close (hL.trans e1.symm) ok1 hs)
theorem aput_mem {β : Type} {k : List UInt8} {v : β} {l : List (List UInt8 × β)} : ∀ q ∈ aput k v l, q = (k, v) ∨ q ∈ l := by
  intro q hq
  cases ha : aget k l with
  | none =>
    rw [(as_none ha).1] at hq
    simp only [List.mem_append, List.mem_singleton] at hq
    exact hq.symm
  | some f =>
    obtain ⟨l1, l2, rfl, h2, -⟩ := al_split ha
    rw [h2] at hq
    simp only [List.mem_append, List.mem_cons] at hq ⊢
    rcases hq with h | h | h <;> simp [h]
theorem aput_tk {name : List UInt8} {f : Fl} {fs : List (List UInt8 × Fl)} : tk (aput name f fs) ≤ tk fs + f.p.length := by
  cases ha : aget name fs with
  | none => rw [(as_none ha).1, tk_append]; simp [tk]
  | some h =>
    obtain ⟨l1, l2, rfl, h2, -⟩ := al_split ha
    rw [h2]
    simp only [tk_append, tk_cons]
    omega
theorem move_ok {d d1 : Dk} {src dst : List UInt8} {f : Fl} (h : d.ok) (h1 : d1.ok) (ha : aget src d.fs = some f) : ({ d1 with fs := aput dst f (adrop src d.fs) } : Dk).ok := by
  obtain ⟨l1, l2, e, -, h2⟩ := al_split ha
  have hd := drop_ok (name := src) h h1
  have hm : (src, f) ∈ d.fs := by rw [e]; simp
  refine ⟨?_, h1.room, h1.fuse, h1.torn, ?_, put_keys hd.keys⟩
  · have ht := h.total
    have h3 := aput_tk (name := dst) (f := f) (fs := adrop src d.fs)
    have : tk (adrop src d.fs) + f.p.length ≤ 1000000000 := by
      rw [h2]
      rw [e] at ht
      simp only [tk_append, tk_cons] at ht ⊢
      omega
    simp only
    omega
  · intro q hq
    rcases aput_mem q hq with rfl | hq
    · exact (h.safe (src, f) hm : f.safe ≤ f.p.length)
    · exact hd.safe q hq
set_option maxHeartbeats 1600000 in
set_option maxRecDepth 100000 in
theorem move_any {R : Ending → World → Prop} {W w : World} {g : Hl} {H : List HP} {b : Nat} {d : Dk} {src dst : List UInt8} (hs : Sat W w g (disk b d :: H))
    (hR : ∀ w', Sat W w' g (disk b (d.move src dst).2 :: H) → R (.returned (.int .i64 (d.move src dst).1)) w') : Calls Tryz.prog 194 #[ptr b, str src, str dst] w R := by
  have HR := Lib.hid hR
  clear hR
  refine C.calls (args := [ptr b, str src, str dst]) Tryz.func194 rfl rfl rfl ?_
  refine go ?_
  refine E.callf Tryz.func92 rfl ?_
  refine named_any dst hs ?_
  intro w0 hs
  cases hN : namedB dst with
  | false =>
    refine go ?_
    refine A.r1 ?_
    have := HR.out w0
    simp only [Dk.move, hN, if_true] at this
    exact this hs
  | true =>
  refine go ?_
  obtain ⟨mb, L, hL, hok, hs⟩ := disk_open hs
  refine E.callf Tryz.func93 rfl ?_
  refine act_dsk hs hok ?_
  intro w1 hs
  obtain ⟨ok1, e1, -, -⟩ := Dk.act_ok hok
  have key := HR.out
  simp only [Dk.move, ← hL, hN, Bool.true_eq_false, if_false] at key
  generalize d.act = q at hs ok1 e1 key ⊢
  obtain ⟨er, d1⟩ := q
  simp only at hs ok1 e1 key ⊢
  by_cases her : er = 0
  · subst her
    simp only [if_true, al_plain] at key
    have hs0 := hs
    simp only [dsk] at hs
    refine go ?_
    refine E.lookd hs (.there .here) (fun h0 => ?_) (fun fb f h1 => ?_)
    · refine go ?_
      refine A.r1 ?_
      simp only [h0, Option.map_none] at key
      exact key _ (disk_close (hL.trans e1.symm) ok1 hs0)
    · simp only [h1, Option.map_some] at key
      have hok2 := move_ok (dst := dst) hok ok1 (src := src) (f := f) (by rw [← hL, al_plain, h1]; rfl)
      rw [← hL] at hok2
      refine go ?_
      refine E.deld hs (.there .here) ?_
      intro w2 hs
      refine go ?_
      refine E.setd (f := f) hs (.there .here) ?_
      intro w3 hs
      refine go ?_
      refine A.r1 ?_
      obtain ⟨L1, L2, rfl, -, h2⟩ := al_split h1
      rw [h2] at hs
      have hs := files_out (q := (src, (fb, f))) hs.pull2
      simp only at hs
      generalize L1 ++ L2 = M at hs h2
      have hfin : Fs.plain (aput dst (fb, f) M) = aput dst f (adrop src (Fs.plain (L1 ++ (src, (fb, f)) :: L2))) := by
        rw [ad_plain, h2, ← as_plain dst (fb, f)]
      refine key _ (disk_close (L := aput dst (fb, f) M) (mb := mb) hfin hok2 ?_)
      cases ha : aget dst M with
      | none =>
        rw [(as_none ha).1] at hs ⊢
        have e0 : dfiles M = dfiles (M ++ []) := by simp
        rw [e0] at hs
        exact (files_in (q := (dst, (fb, f))) hs).push2
      | some q =>
        obtain ⟨M1, M2, rfl, h4, -⟩ := al_split ha
        rw [h4] at hs ⊢
        have h5 := (files_out (q := (dst, q)) hs.swap).drop
        exact (files_in (q := (dst, (fb, f))) h5.swap).push2
  · have hd : (!decide (er = 0)) = true := by simp [her]
    simp only [her, if_false] at key
    refine go ?_
    refine C.cond rfl (fun _ => ?_) (fun h => by rw [hd] at h; cases h)
    refine go ?_
    refine A.r1 ?_
    exact key _ (disk_close (hL.trans e1.symm) ok1 hs)
set_option maxHeartbeats 1600000 in
set_option maxRecDepth 100000 in
theorem clone_any {R : Ending → World → Prop} {W w : World} {g : Hl} {H : List HP} {D : Nat → Prop} {a : Option Addr} {n c : Nat} {l : List UInt8} (hs : Sat W w g H) (hrow : ∀ w', Sat W w' g H → Row 1 w' D (.slice a n c) n (bs l)) (hn : n ≤ 140737488355328)
    (hR : ∀ a' c' w', Sat W w' g (ownw 5 1 (.slice a' n c') n (bs l) :: H) → R (.returned (.slice a' n c')) w') : Calls Tryz.prog 236 #[.slice a n c] w R := by
  have HR := Lib.hid hR
  clear hR
  cases a with
  | none =>
    obtain ⟨h1, a0, c0, e, _, _, hN, _⟩ := hrow w hs
    simp only [Value.slice.injEq] at e
    obtain ⟨rfl, -, rfl⟩ := e
    obtain ⟨rfl, rfl⟩ := hN rfl
    have : bs l = [] := List.eq_nil_of_length_eq_zero (by simpa using h1)
    refine C.calls (args := [.slice none 0 0]) Tryz.func236 rfl rfl rfl ?_
    refine go ?_
    refine A.r1 ?_
    rw [this] at HR
    exact HR.out none 0 _ hs.wnil
  | some ad =>
    refine C.calls (args := [.slice (some ad) n c]) Tryz.func236 rfl rfl rfl ?_
    refine go ?_
    refine E.bsl hs ?_
    intro b w1 hs
    refine go ?_
    refine E.appw el_u8 hs.wempty (hrow w1 hs.drop) ?_
    intro a' c' w2 hs
    refine go ?_
    refine A.r1 ?_
    simp only [Nat.zero_add, List.nil_append] at hs ⊢
    exact HR.out _ _ _ hs
set_option maxHeartbeats 1600000 in
set_option maxRecDepth 100000 in
theorem read_any {R : Ending → World → Prop} {W w : World} {g : Hl} {H : List HP} {b : Nat} {d : Dk} {name : List UInt8} (hs : Sat W w g (disk b d :: H))
    (hOK : ∀ p a c w' g', d.read name = .ok p → p.length ≤ 1000000000 → Hl.le g g' → Pr 1 g' (.slice a p.length c) p.length (bs p) → Sat W w' g' (disk b d :: H) → R (.returned (.tuple #[.slice a p.length c, .int .i64 0])) w')
    (hE : ∀ e w', d.read name = .error e → e ≠ 0 → Sat W w' g (disk b d :: H) → R (.returned (.tuple #[.slice none 0 0, .int .i64 e])) w') : Calls Tryz.prog 203 #[ptr b, str name] w R := by
  have HOK := Lib.hid hOK
  have HE := Lib.hid hE
  clear hOK hE
  refine C.calls (args := [ptr b, str name]) Tryz.func203 rfl rfl rfl ?_
  refine go ?_
  obtain ⟨mb, L, hL, hok, hs⟩ := disk_open hs
  refine E.callf Tryz.func32 rfl ?_
  refine on_dsk hs ?_
  have hto := hok.total
  have hrd : d.read name = (if d.off then .error 7 else match aget name (Fs.plain L) with | none => .error 2 | some f => .ok f.p) := by rw [hL]; rfl
  have hc0 := disk_close hL hok hs
  simp only [dsk] at hs
  cases hoff : d.off with
  | true =>
    refine go ?_
    refine A.r2 ?_
    exact HE.out 7 _ (by rw [hrd, hoff]; rfl) (by decide) hc0
  | false =>
    rw [hoff] at hrd
    simp only [Bool.false_eq_true, if_false, al_plain] at hrd
    refine go ?_
    refine E.lookd hs (.there .here) (fun h0 => ?_) (fun fb f h1 => ?_)
    · refine go ?_
      refine A.r2 ?_
      exact HE.out 2 _ (by rw [hrd, h0]; rfl) (by decide) hc0
    · rw [h1] at hrd
      rw [← hL] at hto
      obtain ⟨L1, L2, rfl, h2, -⟩ := al_split h1
      have hfl : f.p.length ≤ 1000000000 := by
        simp only [Fs.plain, List.map_append, List.map_cons, tk_append, tk_cons] at hto; omega
      obtain ⟨a, c, hs⟩ := file_open (files_out (q := (name, (fb, f))) hs.pull2)
      simp only at hs
      refine go ?_
      refine E.callf Tryz.func236 rfl ?_
      refine clone_any hs (fun w' h => h.swap.wrow) (by omega) ?_
      intro a' c' w2 hs
      obtain ⟨g', hg', hp, hs⟩ := hs.wpublish
      refine go ?_
      refine A.r2 ?_
      refine HOK.out f.p a' c' _ g' hrd hfl hg' hp ?_
      exact disk_close hL hok (files_in (q := (name, (fb, f))) (file_close (l := f.p) rfl rfl hs)).push2
end Go.Proofs.YtfhmamkafancbaaGreatDoor

/-
  Layer 5 (sheet): the record with which a sheet begins.
-/
namespace Go.Proofs.YtfhmamkafancbaaGreatDoor
open Go.RowKit
set_option linter.unusedVariables false
set_option linter.unusedSimpArgs false
structure Ti where
  kind : UInt8
  a : Nat
  b : Nat
def Ti.ok (t : Ti) : Prop := t.a < 18446744073709551616 ∧ t.b < 18446744073709551616
def Ti.val (t : Ti) : Value := .agg #[.int .u8 t.kind.toNat, .int .u64 t.a, .int .u64 t.b]
def titleB (t : Ti) : List UInt8 := [97, 110, 97, 49, t.kind] ++ layN t.a ++ layN t.b
def headB (t : Ti) : List UInt8 := wrapB (titleB t)
set_option maxHeartbeats 1600000 in
set_option maxRecDepth 100000 in
theorem head_any {R : Ending → World → Prop} {W w : World} {g : Hl} {H : List HP} {t : Ti} (hs : Sat W w g H) (ht : t.ok)
    (hR : ∀ a' c' w' g', Hl.le g g' → Sat W w' g' (own 5 1 (.slice a' (headB t).length c') (headB t).length (bs (headB t)) :: H) → R (.returned (.slice a' (headB t).length c')) w') :
    Calls Tryz.prog 192 #[t.val] w R := by
  have HR := Lib.hid hR
  clear hR
  obtain ⟨hta, htb⟩ := ht
  have hla := layN_ten hta
  have hlb := layN_ten htb
  have hkb := t.kind.toNat_lt
  refine C.calls (args := [t.val]) Tryz.func192 rfl rfl rfl ?_
  refine go ?_
  refine E.bx hs ?_
  intro b1 w1 hs
  refine go ?_
  refine E.bsl hs ?_
  intro b2 w2 hs
  refine go ?_
  apply E.cons
  apply St.markBytes hs
  · exact rfl
  · exact Tryz.underlying23
  · exact Tryz.underlying5
  · exact rfl
  · decide
  intro w3 g3 hg3 hs hp
  refine go ?_
  refine E.bsl hs ?_
  intro b3 w4 hs
  refine E.appendFull el_u8 hs (hp.row hs) (hs.rowOf (size := 1) 1 rfl (by decide)) ?_ (by decide) (by decide) (by decide) rfl rfl ?_
  · intro u hu
    simp only [List.mem_singleton] at hu
    subst hu
    rfl
  intro a4 c4 w5 _ _ hs
  refine go ?_
  have htl : (titleB t).length ≤ 25 := by simp [titleB]; omega
  apply C.any hs
  · kernel_rfl
  intro w6 hs
  repeat (first
    | (apply EA.take 0; decide +kernel; exact rfl; kernel_rfl; decide +kernel; exact fun _ _ _ _ h => h; (first | (apply Pg.off; exact rfl) | (apply Pg.any; exact rfl; (first | (apply Pv.auto; exact rfl) | ((first | apply Pv.add | apply Pv.sub | apply Pv.mul64 | apply Pv.rem | apply Pv.quo) <;> first | exact rfl | omega) | (apply Pv.conv; exact rfl; (intro w; go_simp <;> first | exact rfl | exact ⟨rfl, rfl⟩); (first | exact wrapu64_id (by omega) (by omega) | exact wrap64_id (by omega) (by omega) | exact wrapu8_id (by omega) (by omega) | exact wrapu32_id (by omega) (by omega) | exact wrapu16_id (by omega) (by omega) | exact u8_mod _ | exact u32_mod _ | exact u64_mod _ | exact rfl)) | ((first | apply Pv.beq | apply Pv.bne); exact rfl; exact rfl; kernel_rfl) | ((first | apply Pv.xor | apply Pv.and | apply Pv.or | apply Pv.shr | apply Pv.shl) <;> first | exact rfl | (simp only [IntKind.bits, Nat.and_one_is_mod]; omega)) | ((first | apply Pv.muln | apply Pv.notn) <;> first | exact rfl | (simp only [IntKind.bits, Nat.and_one_is_mod]; omega)) | ((first | apply Pv.fieldAddr | apply Pv.len | apply Pv.indexAddr | apply Pv.build | apply Pv.field | apply Pv.convert | apply Pv.addw | apply Pv.subw | apply Pv.mulw | apply Pv.binOp) <;> first | exact rfl | (intro w; go_simp <;> first | exact rfl | exact ⟨rfl, rfl⟩))))))
    | (apply EA.take 1; decide +kernel; exact rfl; kernel_rfl; decide +kernel; exact fun _ _ _ _ h => h; (first | (apply Pg.off; exact rfl) | (apply Pg.any; exact rfl; (first | (apply Pv.auto; exact rfl) | ((first | apply Pv.add | apply Pv.sub | apply Pv.mul64 | apply Pv.rem | apply Pv.quo) <;> first | exact rfl | omega) | (apply Pv.conv; exact rfl; (intro w; go_simp <;> first | exact rfl | exact ⟨rfl, rfl⟩); (first | exact wrapu64_id (by omega) (by omega) | exact wrap64_id (by omega) (by omega) | exact wrapu8_id (by omega) (by omega) | exact wrapu32_id (by omega) (by omega) | exact wrapu16_id (by omega) (by omega) | exact u8_mod _ | exact u32_mod _ | exact u64_mod _ | exact rfl)) | ((first | apply Pv.beq | apply Pv.bne); exact rfl; exact rfl; kernel_rfl) | ((first | apply Pv.xor | apply Pv.and | apply Pv.or | apply Pv.shr | apply Pv.shl) <;> first | exact rfl | (simp only [IntKind.bits, Nat.and_one_is_mod]; omega)) | ((first | apply Pv.muln | apply Pv.notn) <;> first | exact rfl | (simp only [IntKind.bits, Nat.and_one_is_mod]; omega)) | ((first | apply Pv.fieldAddr | apply Pv.len | apply Pv.indexAddr | apply Pv.build | apply Pv.field | apply Pv.convert | apply Pv.addw | apply Pv.subw | apply Pv.mulw | apply Pv.binOp) <;> first | exact rfl | (intro w; go_simp <;> first | exact rfl | exact ⟨rfl, rfl⟩))))))
    | (apply EA.take 2; decide +kernel; exact rfl; kernel_rfl; decide +kernel; exact fun _ _ _ _ h => h; (first | (apply Pg.off; exact rfl) | (apply Pg.any; exact rfl; (first | (apply Pv.auto; exact rfl) | ((first | apply Pv.add | apply Pv.sub | apply Pv.mul64 | apply Pv.rem | apply Pv.quo) <;> first | exact rfl | omega) | (apply Pv.conv; exact rfl; (intro w; go_simp <;> first | exact rfl | exact ⟨rfl, rfl⟩); (first | exact wrapu64_id (by omega) (by omega) | exact wrap64_id (by omega) (by omega) | exact wrapu8_id (by omega) (by omega) | exact wrapu32_id (by omega) (by omega) | exact wrapu16_id (by omega) (by omega) | exact u8_mod _ | exact u32_mod _ | exact u64_mod _ | exact rfl)) | ((first | apply Pv.beq | apply Pv.bne); exact rfl; exact rfl; kernel_rfl) | ((first | apply Pv.xor | apply Pv.and | apply Pv.or | apply Pv.shr | apply Pv.shl) <;> first | exact rfl | (simp only [IntKind.bits, Nat.and_one_is_mod]; omega)) | ((first | apply Pv.muln | apply Pv.notn) <;> first | exact rfl | (simp only [IntKind.bits, Nat.and_one_is_mod]; omega)) | ((first | apply Pv.fieldAddr | apply Pv.len | apply Pv.indexAddr | apply Pv.build | apply Pv.field | apply Pv.convert | apply Pv.addw | apply Pv.subw | apply Pv.mulw | apply Pv.binOp) <;> first | exact rfl | (intro w; go_simp <;> first | exact rfl | exact ⟨rfl, rfl⟩))))))
    | (apply EA.take 3; decide +kernel; exact rfl; kernel_rfl; decide +kernel; exact fun _ _ _ _ h => h; (first | (apply Pg.off; exact rfl) | (apply Pg.any; exact rfl; (first | (apply Pv.auto; exact rfl) | ((first | apply Pv.add | apply Pv.sub | apply Pv.mul64 | apply Pv.rem | apply Pv.quo) <;> first | exact rfl | omega) | (apply Pv.conv; exact rfl; (intro w; go_simp <;> first | exact rfl | exact ⟨rfl, rfl⟩); (first | exact wrapu64_id (by omega) (by omega) | exact wrap64_id (by omega) (by omega) | exact wrapu8_id (by omega) (by omega) | exact wrapu32_id (by omega) (by omega) | exact wrapu16_id (by omega) (by omega) | exact u8_mod _ | exact u32_mod _ | exact u64_mod _ | exact rfl)) | ((first | apply Pv.beq | apply Pv.bne); exact rfl; exact rfl; kernel_rfl) | ((first | apply Pv.xor | apply Pv.and | apply Pv.or | apply Pv.shr | apply Pv.shl) <;> first | exact rfl | (simp only [IntKind.bits, Nat.and_one_is_mod]; omega)) | ((first | apply Pv.muln | apply Pv.notn) <;> first | exact rfl | (simp only [IntKind.bits, Nat.and_one_is_mod]; omega)) | ((first | apply Pv.fieldAddr | apply Pv.len | apply Pv.indexAddr | apply Pv.build | apply Pv.field | apply Pv.convert | apply Pv.addw | apply Pv.subw | apply Pv.mulw | apply Pv.binOp) <;> first | exact rfl | (intro w; go_simp <;> first | exact rfl | exact ⟨rfl, rfl⟩))))))
    | (apply EA.take 4; decide +kernel; exact rfl; kernel_rfl; decide +kernel; exact fun _ _ _ _ h => h; (first | (apply Pg.off; exact rfl) | (apply Pg.any; exact rfl; (first | (apply Pv.auto; exact rfl) | ((first | apply Pv.add | apply Pv.sub | apply Pv.mul64 | apply Pv.rem | apply Pv.quo) <;> first | exact rfl | omega) | (apply Pv.conv; exact rfl; (intro w; go_simp <;> first | exact rfl | exact ⟨rfl, rfl⟩); (first | exact wrapu64_id (by omega) (by omega) | exact wrap64_id (by omega) (by omega) | exact wrapu8_id (by omega) (by omega) | exact wrapu32_id (by omega) (by omega) | exact wrapu16_id (by omega) (by omega) | exact u8_mod _ | exact u32_mod _ | exact u64_mod _ | exact rfl)) | ((first | apply Pv.beq | apply Pv.bne); exact rfl; exact rfl; kernel_rfl) | ((first | apply Pv.xor | apply Pv.and | apply Pv.or | apply Pv.shr | apply Pv.shl) <;> first | exact rfl | (simp only [IntKind.bits, Nat.and_one_is_mod]; omega)) | ((first | apply Pv.muln | apply Pv.notn) <;> first | exact rfl | (simp only [IntKind.bits, Nat.and_one_is_mod]; omega)) | ((first | apply Pv.fieldAddr | apply Pv.len | apply Pv.indexAddr | apply Pv.build | apply Pv.field | apply Pv.convert | apply Pv.addw | apply Pv.subw | apply Pv.mulw | apply Pv.binOp) <;> first | exact rfl | (intro w; go_simp <;> first | exact rfl | exact ⟨rfl, rfl⟩))))))
    | (apply EA.take 5; decide +kernel; exact rfl; kernel_rfl; decide +kernel; exact fun _ _ _ _ h => h; (first | (apply Pg.off; exact rfl) | (apply Pg.any; exact rfl; (first | (apply Pv.auto; exact rfl) | ((first | apply Pv.add | apply Pv.sub | apply Pv.mul64 | apply Pv.rem | apply Pv.quo) <;> first | exact rfl | omega) | (apply Pv.conv; exact rfl; (intro w; go_simp <;> first | exact rfl | exact ⟨rfl, rfl⟩); (first | exact wrapu64_id (by omega) (by omega) | exact wrap64_id (by omega) (by omega) | exact wrapu8_id (by omega) (by omega) | exact wrapu32_id (by omega) (by omega) | exact wrapu16_id (by omega) (by omega) | exact u8_mod _ | exact u32_mod _ | exact u64_mod _ | exact rfl)) | ((first | apply Pv.beq | apply Pv.bne); exact rfl; exact rfl; kernel_rfl) | ((first | apply Pv.xor | apply Pv.and | apply Pv.or | apply Pv.shr | apply Pv.shl) <;> first | exact rfl | (simp only [IntKind.bits, Nat.and_one_is_mod]; omega)) | ((first | apply Pv.muln | apply Pv.notn) <;> first | exact rfl | (simp only [IntKind.bits, Nat.and_one_is_mod]; omega)) | ((first | apply Pv.fieldAddr | apply Pv.len | apply Pv.indexAddr | apply Pv.build | apply Pv.field | apply Pv.convert | apply Pv.addw | apply Pv.subw | apply Pv.mulw | apply Pv.binOp) <;> first | exact rfl | (intro w; go_simp <;> first | exact rfl | exact ⟨rfl, rfl⟩))))))
    | (apply EA.take 6; decide +kernel; exact rfl; kernel_rfl; decide +kernel; exact fun _ _ _ _ h => h; (first | (apply Pg.off; exact rfl) | (apply Pg.any; exact rfl; (first | (apply Pv.auto; exact rfl) | ((first | apply Pv.add | apply Pv.sub | apply Pv.mul64 | apply Pv.rem | apply Pv.quo) <;> first | exact rfl | omega) | (apply Pv.conv; exact rfl; (intro w; go_simp <;> first | exact rfl | exact ⟨rfl, rfl⟩); (first | exact wrapu64_id (by omega) (by omega) | exact wrap64_id (by omega) (by omega) | exact wrapu8_id (by omega) (by omega) | exact wrapu32_id (by omega) (by omega) | exact wrapu16_id (by omega) (by omega) | exact u8_mod _ | exact u32_mod _ | exact u64_mod _ | exact rfl)) | ((first | apply Pv.beq | apply Pv.bne); exact rfl; exact rfl; kernel_rfl) | ((first | apply Pv.xor | apply Pv.and | apply Pv.or | apply Pv.shr | apply Pv.shl) <;> first | exact rfl | (simp only [IntKind.bits, Nat.and_one_is_mod]; omega)) | ((first | apply Pv.muln | apply Pv.notn) <;> first | exact rfl | (simp only [IntKind.bits, Nat.and_one_is_mod]; omega)) | ((first | apply Pv.fieldAddr | apply Pv.len | apply Pv.indexAddr | apply Pv.build | apply Pv.field | apply Pv.convert | apply Pv.addw | apply Pv.subw | apply Pv.mulw | apply Pv.binOp) <;> first | exact rfl | (intro w; go_simp <;> first | exact rfl | exact ⟨rfl, rfl⟩))))))
    | (apply EA.take 7; decide +kernel; exact rfl; kernel_rfl; decide +kernel; exact fun _ _ _ _ h => h; (first | (apply Pg.off; exact rfl) | (apply Pg.any; exact rfl; (first | (apply Pv.auto; exact rfl) | ((first | apply Pv.add | apply Pv.sub | apply Pv.mul64 | apply Pv.rem | apply Pv.quo) <;> first | exact rfl | omega) | (apply Pv.conv; exact rfl; (intro w; go_simp <;> first | exact rfl | exact ⟨rfl, rfl⟩); (first | exact wrapu64_id (by omega) (by omega) | exact wrap64_id (by omega) (by omega) | exact wrapu8_id (by omega) (by omega) | exact wrapu32_id (by omega) (by omega) | exact wrapu16_id (by omega) (by omega) | exact u8_mod _ | exact u32_mod _ | exact u64_mod _ | exact rfl)) | ((first | apply Pv.beq | apply Pv.bne); exact rfl; exact rfl; kernel_rfl) | ((first | apply Pv.xor | apply Pv.and | apply Pv.or | apply Pv.shr | apply Pv.shl) <;> first | exact rfl | (simp only [IntKind.bits, Nat.and_one_is_mod]; omega)) | ((first | apply Pv.muln | apply Pv.notn) <;> first | exact rfl | (simp only [IntKind.bits, Nat.and_one_is_mod]; omega)) | ((first | apply Pv.fieldAddr | apply Pv.len | apply Pv.indexAddr | apply Pv.build | apply Pv.field | apply Pv.convert | apply Pv.addw | apply Pv.subw | apply Pv.mulw | apply Pv.binOp) <;> first | exact rfl | (intro w; go_simp <;> first | exact rfl | exact ⟨rfl, rfl⟩))))))
    | (apply EA.take 8; decide +kernel; exact rfl; kernel_rfl; decide +kernel; exact fun _ _ _ _ h => h; (first | (apply Pg.off; exact rfl) | (apply Pg.any; exact rfl; (first | (apply Pv.auto; exact rfl) | ((first | apply Pv.add | apply Pv.sub | apply Pv.mul64 | apply Pv.rem | apply Pv.quo) <;> first | exact rfl | omega) | (apply Pv.conv; exact rfl; (intro w; go_simp <;> first | exact rfl | exact ⟨rfl, rfl⟩); (first | exact wrapu64_id (by omega) (by omega) | exact wrap64_id (by omega) (by omega) | exact wrapu8_id (by omega) (by omega) | exact wrapu32_id (by omega) (by omega) | exact wrapu16_id (by omega) (by omega) | exact u8_mod _ | exact u32_mod _ | exact u64_mod _ | exact rfl)) | ((first | apply Pv.beq | apply Pv.bne); exact rfl; exact rfl; kernel_rfl) | ((first | apply Pv.xor | apply Pv.and | apply Pv.or | apply Pv.shr | apply Pv.shl) <;> first | exact rfl | (simp only [IntKind.bits, Nat.and_one_is_mod]; omega)) | ((first | apply Pv.muln | apply Pv.notn) <;> first | exact rfl | (simp only [IntKind.bits, Nat.and_one_is_mod]; omega)) | ((first | apply Pv.fieldAddr | apply Pv.len | apply Pv.indexAddr | apply Pv.build | apply Pv.field | apply Pv.convert | apply Pv.addw | apply Pv.subw | apply Pv.mulw | apply Pv.binOp) <;> first | exact rfl | (intro w; go_simp <;> first | exact rfl | exact ⟨rfl, rfl⟩))))))
    | (apply EA.take 9; decide +kernel; exact rfl; kernel_rfl; decide +kernel; exact fun _ _ _ _ h => h; (first | (apply Pg.off; exact rfl) | (apply Pg.any; exact rfl; (first | (apply Pv.auto; exact rfl) | ((first | apply Pv.add | apply Pv.sub | apply Pv.mul64 | apply Pv.rem | apply Pv.quo) <;> first | exact rfl | omega) | (apply Pv.conv; exact rfl; (intro w; go_simp <;> first | exact rfl | exact ⟨rfl, rfl⟩); (first | exact wrapu64_id (by omega) (by omega) | exact wrap64_id (by omega) (by omega) | exact wrapu8_id (by omega) (by omega) | exact wrapu32_id (by omega) (by omega) | exact wrapu16_id (by omega) (by omega) | exact u8_mod _ | exact u32_mod _ | exact u64_mod _ | exact rfl)) | ((first | apply Pv.beq | apply Pv.bne); exact rfl; exact rfl; kernel_rfl) | ((first | apply Pv.xor | apply Pv.and | apply Pv.or | apply Pv.shr | apply Pv.shl) <;> first | exact rfl | (simp only [IntKind.bits, Nat.and_one_is_mod]; omega)) | ((first | apply Pv.muln | apply Pv.notn) <;> first | exact rfl | (simp only [IntKind.bits, Nat.and_one_is_mod]; omega)) | ((first | apply Pv.fieldAddr | apply Pv.len | apply Pv.indexAddr | apply Pv.build | apply Pv.field | apply Pv.convert | apply Pv.addw | apply Pv.subw | apply Pv.mulw | apply Pv.binOp) <;> first | exact rfl | (intro w; go_simp <;> first | exact rfl | exact ⟨rfl, rfl⟩))))))
    | (apply EA.take 10; decide +kernel; exact rfl; kernel_rfl; decide +kernel; exact fun _ _ _ _ h => h; (first | (apply Pg.off; exact rfl) | (apply Pg.any; exact rfl; (first | (apply Pv.auto; exact rfl) | ((first | apply Pv.add | apply Pv.sub | apply Pv.mul64 | apply Pv.rem | apply Pv.quo) <;> first | exact rfl | omega) | (apply Pv.conv; exact rfl; (intro w; go_simp <;> first | exact rfl | exact ⟨rfl, rfl⟩); (first | exact wrapu64_id (by omega) (by omega) | exact wrap64_id (by omega) (by omega) | exact wrapu8_id (by omega) (by omega) | exact wrapu32_id (by omega) (by omega) | exact wrapu16_id (by omega) (by omega) | exact u8_mod _ | exact u32_mod _ | exact u64_mod _ | exact rfl)) | ((first | apply Pv.beq | apply Pv.bne); exact rfl; exact rfl; kernel_rfl) | ((first | apply Pv.xor | apply Pv.and | apply Pv.or | apply Pv.shr | apply Pv.shl) <;> first | exact rfl | (simp only [IntKind.bits, Nat.and_one_is_mod]; omega)) | ((first | apply Pv.muln | apply Pv.notn) <;> first | exact rfl | (simp only [IntKind.bits, Nat.and_one_is_mod]; omega)) | ((first | apply Pv.fieldAddr | apply Pv.len | apply Pv.indexAddr | apply Pv.build | apply Pv.field | apply Pv.convert | apply Pv.addw | apply Pv.subw | apply Pv.mulw | apply Pv.binOp) <;> first | exact rfl | (intro w; go_simp <;> first | exact rfl | exact ⟨rfl, rfl⟩))))))
    | (apply EA.take 11; decide +kernel; exact rfl; kernel_rfl; decide +kernel; exact fun _ _ _ _ h => h; (first | (apply Pg.off; exact rfl) | (apply Pg.any; exact rfl; (first | (apply Pv.auto; exact rfl) | ((first | apply Pv.add | apply Pv.sub | apply Pv.mul64 | apply Pv.rem | apply Pv.quo) <;> first | exact rfl | omega) | (apply Pv.conv; exact rfl; (intro w; go_simp <;> first | exact rfl | exact ⟨rfl, rfl⟩); (first | exact wrapu64_id (by omega) (by omega) | exact wrap64_id (by omega) (by omega) | exact wrapu8_id (by omega) (by omega) | exact wrapu32_id (by omega) (by omega) | exact wrapu16_id (by omega) (by omega) | exact u8_mod _ | exact u32_mod _ | exact u64_mod _ | exact rfl)) | ((first | apply Pv.beq | apply Pv.bne); exact rfl; exact rfl; kernel_rfl) | ((first | apply Pv.xor | apply Pv.and | apply Pv.or | apply Pv.shr | apply Pv.shl) <;> first | exact rfl | (simp only [IntKind.bits, Nat.and_one_is_mod]; omega)) | ((first | apply Pv.muln | apply Pv.notn) <;> first | exact rfl | (simp only [IntKind.bits, Nat.and_one_is_mod]; omega)) | ((first | apply Pv.fieldAddr | apply Pv.len | apply Pv.indexAddr | apply Pv.build | apply Pv.field | apply Pv.convert | apply Pv.addw | apply Pv.subw | apply Pv.mulw | apply Pv.binOp) <;> first | exact rfl | (intro w; go_simp <;> first | exact rfl | exact ⟨rfl, rfl⟩)))))))
  apply EA.two 2 5
  · decide +kernel
  · exact rfl
  · exact rfl
  · apply St.load hs
    · exact rfl
    · repeat (first | exact Fd.here | apply Fd.there)
    · exact rfl
    · go_simp
    apply EA.two 3 5
    · decide +kernel
    · exact rfl
    · exact rfl
    · refine St.callf Tryz.func126 rfl ?_
      refine lay_any hs hta (by omega) ?_
      intro a5 c5 w7 hs
      apply EA.one 5
      · decide +kernel
      · exact rfl
      apply St.load hs
      · exact rfl
      · repeat (first | exact Fd.here | apply Fd.there)
      · exact rfl
      · go_simp
      apply EA.one 6
      · decide +kernel
      · exact rfl
      refine St.callf Tryz.func126 rfl ?_
      refine lay_any hs htb (by omega) ?_
      intro a6 c6 w8 hs
      apply EA.one 7
      · decide +kernel
      · exact rfl
      have e1 : 4 + 1 + (layN t.a).length + (layN t.b).length = (titleB t).length := by simp [titleB]; omega
      have e2 : [Value.int .u8 97, .int .u8 110, .int .u8 97, .int .u8 49] ++ [.int .u8 (t.kind.toNat : Int)] ++ bs (layN t.a) ++ bs (layN t.b) = bs (titleB t) := by simp [titleB, bs]
      rw [e1, e2] at hs
      rw [e1]
      obtain ⟨g4, hg4, hp4, hs⟩ := hs.publishOwn
      refine St.callf Tryz.func193 rfl ?_
      refine wrap_any hs hp4 rfl (by omega) ?_
      intro a7 c7 w9 hs
      repeat (first
        | (apply EA.take 0; decide +kernel; exact rfl; kernel_rfl; decide +kernel; exact fun _ _ _ _ h => h; (first | (apply Pg.off; exact rfl) | (apply Pg.any; exact rfl; (first | (apply Pv.auto; exact rfl) | ((first | apply Pv.add | apply Pv.sub | apply Pv.mul64 | apply Pv.rem | apply Pv.quo) <;> first | exact rfl | omega) | (apply Pv.conv; exact rfl; (intro w; go_simp <;> first | exact rfl | exact ⟨rfl, rfl⟩); (first | exact wrapu64_id (by omega) (by omega) | exact wrap64_id (by omega) (by omega) | exact wrapu8_id (by omega) (by omega) | exact wrapu32_id (by omega) (by omega) | exact wrapu16_id (by omega) (by omega) | exact u8_mod _ | exact u32_mod _ | exact u64_mod _ | exact rfl)) | ((first | apply Pv.beq | apply Pv.bne); exact rfl; exact rfl; kernel_rfl) | ((first | apply Pv.xor | apply Pv.and | apply Pv.or | apply Pv.shr | apply Pv.shl) <;> first | exact rfl | (simp only [IntKind.bits, Nat.and_one_is_mod]; omega)) | ((first | apply Pv.muln | apply Pv.notn) <;> first | exact rfl | (simp only [IntKind.bits, Nat.and_one_is_mod]; omega)) | ((first | apply Pv.fieldAddr | apply Pv.len | apply Pv.indexAddr | apply Pv.build | apply Pv.field | apply Pv.convert | apply Pv.addw | apply Pv.subw | apply Pv.mulw | apply Pv.binOp) <;> first | exact rfl | (intro w; go_simp <;> first | exact rfl | exact ⟨rfl, rfl⟩))))))
        | (apply EA.take 1; decide +kernel; exact rfl; kernel_rfl; decide +kernel; exact fun _ _ _ _ h => h; (first | (apply Pg.off; exact rfl) | (apply Pg.any; exact rfl; (first | (apply Pv.auto; exact rfl) | ((first | apply Pv.add | apply Pv.sub | apply Pv.mul64 | apply Pv.rem | apply Pv.quo) <;> first | exact rfl | omega) | (apply Pv.conv; exact rfl; (intro w; go_simp <;> first | exact rfl | exact ⟨rfl, rfl⟩); (first | exact wrapu64_id (by omega) (by omega) | exact wrap64_id (by omega) (by omega) | exact wrapu8_id (by omega) (by omega) | exact wrapu32_id (by omega) (by omega) | exact wrapu16_id (by omega) (by omega) | exact u8_mod _ | exact u32_mod _ | exact u64_mod _ | exact rfl)) | ((first | apply Pv.beq | apply Pv.bne); exact rfl; exact rfl; kernel_rfl) | ((first | apply Pv.xor | apply Pv.and | apply Pv.or | apply Pv.shr | apply Pv.shl) <;> first | exact rfl | (simp only [IntKind.bits, Nat.and_one_is_mod]; omega)) | ((first | apply Pv.muln | apply Pv.notn) <;> first | exact rfl | (simp only [IntKind.bits, Nat.and_one_is_mod]; omega)) | ((first | apply Pv.fieldAddr | apply Pv.len | apply Pv.indexAddr | apply Pv.build | apply Pv.field | apply Pv.convert | apply Pv.addw | apply Pv.subw | apply Pv.mulw | apply Pv.binOp) <;> first | exact rfl | (intro w; go_simp <;> first | exact rfl | exact ⟨rfl, rfl⟩))))))
        | (apply EA.take 2; decide +kernel; exact rfl; kernel_rfl; decide +kernel; exact fun _ _ _ _ h => h; (first | (apply Pg.off; exact rfl) | (apply Pg.any; exact rfl; (first | (apply Pv.auto; exact rfl) | ((first | apply Pv.add | apply Pv.sub | apply Pv.mul64 | apply Pv.rem | apply Pv.quo) <;> first | exact rfl | omega) | (apply Pv.conv; exact rfl; (intro w; go_simp <;> first | exact rfl | exact ⟨rfl, rfl⟩); (first | exact wrapu64_id (by omega) (by omega) | exact wrap64_id (by omega) (by omega) | exact wrapu8_id (by omega) (by omega) | exact wrapu32_id (by omega) (by omega) | exact wrapu16_id (by omega) (by omega) | exact u8_mod _ | exact u32_mod _ | exact u64_mod _ | exact rfl)) | ((first | apply Pv.beq | apply Pv.bne); exact rfl; exact rfl; kernel_rfl) | ((first | apply Pv.xor | apply Pv.and | apply Pv.or | apply Pv.shr | apply Pv.shl) <;> first | exact rfl | (simp only [IntKind.bits, Nat.and_one_is_mod]; omega)) | ((first | apply Pv.muln | apply Pv.notn) <;> first | exact rfl | (simp only [IntKind.bits, Nat.and_one_is_mod]; omega)) | ((first | apply Pv.fieldAddr | apply Pv.len | apply Pv.indexAddr | apply Pv.build | apply Pv.field | apply Pv.convert | apply Pv.addw | apply Pv.subw | apply Pv.mulw | apply Pv.binOp) <;> first | exact rfl | (intro w; go_simp <;> first | exact rfl | exact ⟨rfl, rfl⟩))))))
        | (apply EA.take 3; decide +kernel; exact rfl; kernel_rfl; decide +kernel; exact fun _ _ _ _ h => h; (first | (apply Pg.off; exact rfl) | (apply Pg.any; exact rfl; (first | (apply Pv.auto; exact rfl) | ((first | apply Pv.add | apply Pv.sub | apply Pv.mul64 | apply Pv.rem | apply Pv.quo) <;> first | exact rfl | omega) | (apply Pv.conv; exact rfl; (intro w; go_simp <;> first | exact rfl | exact ⟨rfl, rfl⟩); (first | exact wrapu64_id (by omega) (by omega) | exact wrap64_id (by omega) (by omega) | exact wrapu8_id (by omega) (by omega) | exact wrapu32_id (by omega) (by omega) | exact wrapu16_id (by omega) (by omega) | exact u8_mod _ | exact u32_mod _ | exact u64_mod _ | exact rfl)) | ((first | apply Pv.beq | apply Pv.bne); exact rfl; exact rfl; kernel_rfl) | ((first | apply Pv.xor | apply Pv.and | apply Pv.or | apply Pv.shr | apply Pv.shl) <;> first | exact rfl | (simp only [IntKind.bits, Nat.and_one_is_mod]; omega)) | ((first | apply Pv.muln | apply Pv.notn) <;> first | exact rfl | (simp only [IntKind.bits, Nat.and_one_is_mod]; omega)) | ((first | apply Pv.fieldAddr | apply Pv.len | apply Pv.indexAddr | apply Pv.build | apply Pv.field | apply Pv.convert | apply Pv.addw | apply Pv.subw | apply Pv.mulw | apply Pv.binOp) <;> first | exact rfl | (intro w; go_simp <;> first | exact rfl | exact ⟨rfl, rfl⟩))))))
        | (apply EA.take 4; decide +kernel; exact rfl; kernel_rfl; decide +kernel; exact fun _ _ _ _ h => h; (first | (apply Pg.off; exact rfl) | (apply Pg.any; exact rfl; (first | (apply Pv.auto; exact rfl) | ((first | apply Pv.add | apply Pv.sub | apply Pv.mul64 | apply Pv.rem | apply Pv.quo) <;> first | exact rfl | omega) | (apply Pv.conv; exact rfl; (intro w; go_simp <;> first | exact rfl | exact ⟨rfl, rfl⟩); (first | exact wrapu64_id (by omega) (by omega) | exact wrap64_id (by omega) (by omega) | exact wrapu8_id (by omega) (by omega) | exact wrapu32_id (by omega) (by omega) | exact wrapu16_id (by omega) (by omega) | exact u8_mod _ | exact u32_mod _ | exact u64_mod _ | exact rfl)) | ((first | apply Pv.beq | apply Pv.bne); exact rfl; exact rfl; kernel_rfl) | ((first | apply Pv.xor | apply Pv.and | apply Pv.or | apply Pv.shr | apply Pv.shl) <;> first | exact rfl | (simp only [IntKind.bits, Nat.and_one_is_mod]; omega)) | ((first | apply Pv.muln | apply Pv.notn) <;> first | exact rfl | (simp only [IntKind.bits, Nat.and_one_is_mod]; omega)) | ((first | apply Pv.fieldAddr | apply Pv.len | apply Pv.indexAddr | apply Pv.build | apply Pv.field | apply Pv.convert | apply Pv.addw | apply Pv.subw | apply Pv.mulw | apply Pv.binOp) <;> first | exact rfl | (intro w; go_simp <;> first | exact rfl | exact ⟨rfl, rfl⟩))))))
        | (apply EA.take 5; decide +kernel; exact rfl; kernel_rfl; decide +kernel; exact fun _ _ _ _ h => h; (first | (apply Pg.off; exact rfl) | (apply Pg.any; exact rfl; (first | (apply Pv.auto; exact rfl) | ((first | apply Pv.add | apply Pv.sub | apply Pv.mul64 | apply Pv.rem | apply Pv.quo) <;> first | exact rfl | omega) | (apply Pv.conv; exact rfl; (intro w; go_simp <;> first | exact rfl | exact ⟨rfl, rfl⟩); (first | exact wrapu64_id (by omega) (by omega) | exact wrap64_id (by omega) (by omega) | exact wrapu8_id (by omega) (by omega) | exact wrapu32_id (by omega) (by omega) | exact wrapu16_id (by omega) (by omega) | exact u8_mod _ | exact u32_mod _ | exact u64_mod _ | exact rfl)) | ((first | apply Pv.beq | apply Pv.bne); exact rfl; exact rfl; kernel_rfl) | ((first | apply Pv.xor | apply Pv.and | apply Pv.or | apply Pv.shr | apply Pv.shl) <;> first | exact rfl | (simp only [IntKind.bits, Nat.and_one_is_mod]; omega)) | ((first | apply Pv.muln | apply Pv.notn) <;> first | exact rfl | (simp only [IntKind.bits, Nat.and_one_is_mod]; omega)) | ((first | apply Pv.fieldAddr | apply Pv.len | apply Pv.indexAddr | apply Pv.build | apply Pv.field | apply Pv.convert | apply Pv.addw | apply Pv.subw | apply Pv.mulw | apply Pv.binOp) <;> first | exact rfl | (intro w; go_simp <;> first | exact rfl | exact ⟨rfl, rfl⟩))))))
        | (apply EA.take 6; decide +kernel; exact rfl; kernel_rfl; decide +kernel; exact fun _ _ _ _ h => h; (first | (apply Pg.off; exact rfl) | (apply Pg.any; exact rfl; (first | (apply Pv.auto; exact rfl) | ((first | apply Pv.add | apply Pv.sub | apply Pv.mul64 | apply Pv.rem | apply Pv.quo) <;> first | exact rfl | omega) | (apply Pv.conv; exact rfl; (intro w; go_simp <;> first | exact rfl | exact ⟨rfl, rfl⟩); (first | exact wrapu64_id (by omega) (by omega) | exact wrap64_id (by omega) (by omega) | exact wrapu8_id (by omega) (by omega) | exact wrapu32_id (by omega) (by omega) | exact wrapu16_id (by omega) (by omega) | exact u8_mod _ | exact u32_mod _ | exact u64_mod _ | exact rfl)) | ((first | apply Pv.beq | apply Pv.bne); exact rfl; exact rfl; kernel_rfl) | ((first | apply Pv.xor | apply Pv.and | apply Pv.or | apply Pv.shr | apply Pv.shl) <;> first | exact rfl | (simp only [IntKind.bits, Nat.and_one_is_mod]; omega)) | ((first | apply Pv.muln | apply Pv.notn) <;> first | exact rfl | (simp only [IntKind.bits, Nat.and_one_is_mod]; omega)) | ((first | apply Pv.fieldAddr | apply Pv.len | apply Pv.indexAddr | apply Pv.build | apply Pv.field | apply Pv.convert | apply Pv.addw | apply Pv.subw | apply Pv.mulw | apply Pv.binOp) <;> first | exact rfl | (intro w; go_simp <;> first | exact rfl | exact ⟨rfl, rfl⟩))))))
        | (apply EA.take 7; decide +kernel; exact rfl; kernel_rfl; decide +kernel; exact fun _ _ _ _ h => h; (first | (apply Pg.off; exact rfl) | (apply Pg.any; exact rfl; (first | (apply Pv.auto; exact rfl) | ((first | apply Pv.add | apply Pv.sub | apply Pv.mul64 | apply Pv.rem | apply Pv.quo) <;> first | exact rfl | omega) | (apply Pv.conv; exact rfl; (intro w; go_simp <;> first | exact rfl | exact ⟨rfl, rfl⟩); (first | exact wrapu64_id (by omega) (by omega) | exact wrap64_id (by omega) (by omega) | exact wrapu8_id (by omega) (by omega) | exact wrapu32_id (by omega) (by omega) | exact wrapu16_id (by omega) (by omega) | exact u8_mod _ | exact u32_mod _ | exact u64_mod _ | exact rfl)) | ((first | apply Pv.beq | apply Pv.bne); exact rfl; exact rfl; kernel_rfl) | ((first | apply Pv.xor | apply Pv.and | apply Pv.or | apply Pv.shr | apply Pv.shl) <;> first | exact rfl | (simp only [IntKind.bits, Nat.and_one_is_mod]; omega)) | ((first | apply Pv.muln | apply Pv.notn) <;> first | exact rfl | (simp only [IntKind.bits, Nat.and_one_is_mod]; omega)) | ((first | apply Pv.fieldAddr | apply Pv.len | apply Pv.indexAddr | apply Pv.build | apply Pv.field | apply Pv.convert | apply Pv.addw | apply Pv.subw | apply Pv.mulw | apply Pv.binOp) <;> first | exact rfl | (intro w; go_simp <;> first | exact rfl | exact ⟨rfl, rfl⟩))))))
        | (apply EA.take 8; decide +kernel; exact rfl; kernel_rfl; decide +kernel; exact fun _ _ _ _ h => h; (first | (apply Pg.off; exact rfl) | (apply Pg.any; exact rfl; (first | (apply Pv.auto; exact rfl) | ((first | apply Pv.add | apply Pv.sub | apply Pv.mul64 | apply Pv.rem | apply Pv.quo) <;> first | exact rfl | omega) | (apply Pv.conv; exact rfl; (intro w; go_simp <;> first | exact rfl | exact ⟨rfl, rfl⟩); (first | exact wrapu64_id (by omega) (by omega) | exact wrap64_id (by omega) (by omega) | exact wrapu8_id (by omega) (by omega) | exact wrapu32_id (by omega) (by omega) | exact wrapu16_id (by omega) (by omega) | exact u8_mod _ | exact u32_mod _ | exact u64_mod _ | exact rfl)) | ((first | apply Pv.beq | apply Pv.bne); exact rfl; exact rfl; kernel_rfl) | ((first | apply Pv.xor | apply Pv.and | apply Pv.or | apply Pv.shr | apply Pv.shl) <;> first | exact rfl | (simp only [IntKind.bits, Nat.and_one_is_mod]; omega)) | ((first | apply Pv.muln | apply Pv.notn) <;> first | exact rfl | (simp only [IntKind.bits, Nat.and_one_is_mod]; omega)) | ((first | apply Pv.fieldAddr | apply Pv.len | apply Pv.indexAddr | apply Pv.build | apply Pv.field | apply Pv.convert | apply Pv.addw | apply Pv.subw | apply Pv.mulw | apply Pv.binOp) <;> first | exact rfl | (intro w; go_simp <;> first | exact rfl | exact ⟨rfl, rfl⟩))))))
        | (apply EA.take 9; decide +kernel; exact rfl; kernel_rfl; decide +kernel; exact fun _ _ _ _ h => h; (first | (apply Pg.off; exact rfl) | (apply Pg.any; exact rfl; (first | (apply Pv.auto; exact rfl) | ((first | apply Pv.add | apply Pv.sub | apply Pv.mul64 | apply Pv.rem | apply Pv.quo) <;> first | exact rfl | omega) | (apply Pv.conv; exact rfl; (intro w; go_simp <;> first | exact rfl | exact ⟨rfl, rfl⟩); (first | exact wrapu64_id (by omega) (by omega) | exact wrap64_id (by omega) (by omega) | exact wrapu8_id (by omega) (by omega) | exact wrapu32_id (by omega) (by omega) | exact wrapu16_id (by omega) (by omega) | exact u8_mod _ | exact u32_mod _ | exact u64_mod _ | exact rfl)) | ((first | apply Pv.beq | apply Pv.bne); exact rfl; exact rfl; kernel_rfl) | ((first | apply Pv.xor | apply Pv.and | apply Pv.or | apply Pv.shr | apply Pv.shl) <;> first | exact rfl | (simp only [IntKind.bits, Nat.and_one_is_mod]; omega)) | ((first | apply Pv.muln | apply Pv.notn) <;> first | exact rfl | (simp only [IntKind.bits, Nat.and_one_is_mod]; omega)) | ((first | apply Pv.fieldAddr | apply Pv.len | apply Pv.indexAddr | apply Pv.build | apply Pv.field | apply Pv.convert | apply Pv.addw | apply Pv.subw | apply Pv.mulw | apply Pv.binOp) <;> first | exact rfl | (intro w; go_simp <;> first | exact rfl | exact ⟨rfl, rfl⟩))))))
        | (apply EA.take 10; decide +kernel; exact rfl; kernel_rfl; decide +kernel; exact fun _ _ _ _ h => h; (first | (apply Pg.off; exact rfl) | (apply Pg.any; exact rfl; (first | (apply Pv.auto; exact rfl) | ((first | apply Pv.add | apply Pv.sub | apply Pv.mul64 | apply Pv.rem | apply Pv.quo) <;> first | exact rfl | omega) | (apply Pv.conv; exact rfl; (intro w; go_simp <;> first | exact rfl | exact ⟨rfl, rfl⟩); (first | exact wrapu64_id (by omega) (by omega) | exact wrap64_id (by omega) (by omega) | exact wrapu8_id (by omega) (by omega) | exact wrapu32_id (by omega) (by omega) | exact wrapu16_id (by omega) (by omega) | exact u8_mod _ | exact u32_mod _ | exact u64_mod _ | exact rfl)) | ((first | apply Pv.beq | apply Pv.bne); exact rfl; exact rfl; kernel_rfl) | ((first | apply Pv.xor | apply Pv.and | apply Pv.or | apply Pv.shr | apply Pv.shl) <;> first | exact rfl | (simp only [IntKind.bits, Nat.and_one_is_mod]; omega)) | ((first | apply Pv.muln | apply Pv.notn) <;> first | exact rfl | (simp only [IntKind.bits, Nat.and_one_is_mod]; omega)) | ((first | apply Pv.fieldAddr | apply Pv.len | apply Pv.indexAddr | apply Pv.build | apply Pv.field | apply Pv.convert | apply Pv.addw | apply Pv.subw | apply Pv.mulw | apply Pv.binOp) <;> first | exact rfl | (intro w; go_simp <;> first | exact rfl | exact ⟨rfl, rfl⟩))))))
        | (apply EA.take 11; decide +kernel; exact rfl; kernel_rfl; decide +kernel; exact fun _ _ _ _ h => h; (first | (apply Pg.off; exact rfl) | (apply Pg.any; exact rfl; (first | (apply Pv.auto; exact rfl) | ((first | apply Pv.add | apply Pv.sub | apply Pv.mul64 | apply Pv.rem | apply Pv.quo) <;> first | exact rfl | omega) | (apply Pv.conv; exact rfl; (intro w; go_simp <;> first | exact rfl | exact ⟨rfl, rfl⟩); (first | exact wrapu64_id (by omega) (by omega) | exact wrap64_id (by omega) (by omega) | exact wrapu8_id (by omega) (by omega) | exact wrapu32_id (by omega) (by omega) | exact wrapu16_id (by omega) (by omega) | exact u8_mod _ | exact u32_mod _ | exact u64_mod _ | exact rfl)) | ((first | apply Pv.beq | apply Pv.bne); exact rfl; exact rfl; kernel_rfl) | ((first | apply Pv.xor | apply Pv.and | apply Pv.or | apply Pv.shr | apply Pv.shl) <;> first | exact rfl | (simp only [IntKind.bits, Nat.and_one_is_mod]; omega)) | ((first | apply Pv.muln | apply Pv.notn) <;> first | exact rfl | (simp only [IntKind.bits, Nat.and_one_is_mod]; omega)) | ((first | apply Pv.fieldAddr | apply Pv.len | apply Pv.indexAddr | apply Pv.build | apply Pv.field | apply Pv.convert | apply Pv.addw | apply Pv.subw | apply Pv.mulw | apply Pv.binOp) <;> first | exact rfl | (intro w; go_simp <;> first | exact rfl | exact ⟨rfl, rfl⟩)))))))
      apply EA.done
      · decide +kernel
      refine go ?_
      refine A.r1 ?_
      exact HR.out _ _ _ g4 (hg3.trans hg4) hs.swap.drop.swap.drop
    · apply St.load hs
      · exact rfl
      · repeat (first | exact Fd.here | apply Fd.there)
      · exact rfl
      · go_simp
      apply EA.one 3
      · decide +kernel
      · exact rfl
      refine St.callf Tryz.func126 rfl ?_
      refine lay_any hs hta (by omega) ?_
      intro a5 c5 w7 hs
      apply EA.one 6
      · decide +kernel
      · exact rfl
      refine St.callf Tryz.func126 rfl ?_
      refine lay_any hs htb (by omega) ?_
      intro a6 c6 w8 hs
      apply EA.one 7
      · decide +kernel
      · exact rfl
      have e1 : 4 + 1 + (layN t.a).length + (layN t.b).length = (titleB t).length := by simp [titleB]; omega
      have e2 : [Value.int .u8 97, .int .u8 110, .int .u8 97, .int .u8 49] ++ [.int .u8 (t.kind.toNat : Int)] ++ bs (layN t.a) ++ bs (layN t.b) = bs (titleB t) := by simp [titleB, bs]
      rw [e1, e2] at hs
      rw [e1]
      obtain ⟨g4, hg4, hp4, hs⟩ := hs.publishOwn
      refine St.callf Tryz.func193 rfl ?_
      refine wrap_any hs hp4 rfl (by omega) ?_
      intro a7 c7 w9 hs
      repeat (first
        | (apply EA.take 0; decide +kernel; exact rfl; kernel_rfl; decide +kernel; exact fun _ _ _ _ h => h; (first | (apply Pg.off; exact rfl) | (apply Pg.any; exact rfl; (first | (apply Pv.auto; exact rfl) | ((first | apply Pv.add | apply Pv.sub | apply Pv.mul64 | apply Pv.rem | apply Pv.quo) <;> first | exact rfl | omega) | (apply Pv.conv; exact rfl; (intro w; go_simp <;> first | exact rfl | exact ⟨rfl, rfl⟩); (first | exact wrapu64_id (by omega) (by omega) | exact wrap64_id (by omega) (by omega) | exact wrapu8_id (by omega) (by omega) | exact wrapu32_id (by omega) (by omega) | exact wrapu16_id (by omega) (by omega) | exact u8_mod _ | exact u32_mod _ | exact u64_mod _ | exact rfl)) | ((first | apply Pv.beq | apply Pv.bne); exact rfl; exact rfl; kernel_rfl) | ((first | apply Pv.xor | apply Pv.and | apply Pv.or | apply Pv.shr | apply Pv.shl) <;> first | exact rfl | (simp only [IntKind.bits, Nat.and_one_is_mod]; omega)) | ((first | apply Pv.muln | apply Pv.notn) <;> first | exact rfl | (simp only [IntKind.bits, Nat.and_one_is_mod]; omega)) | ((first | apply Pv.fieldAddr | apply Pv.len | apply Pv.indexAddr | apply Pv.build | apply Pv.field | apply Pv.convert | apply Pv.addw | apply Pv.subw | apply Pv.mulw | apply Pv.binOp) <;> first | exact rfl | (intro w; go_simp <;> first | exact rfl | exact ⟨rfl, rfl⟩))))))
        | (apply EA.take 1; decide +kernel; exact rfl; kernel_rfl; decide +kernel; exact fun _ _ _ _ h => h; (first | (apply Pg.off; exact rfl) | (apply Pg.any; exact rfl; (first | (apply Pv.auto; exact rfl) | ((first | apply Pv.add | apply Pv.sub | apply Pv.mul64 | apply Pv.rem | apply Pv.quo) <;> first | exact rfl | omega) | (apply Pv.conv; exact rfl; (intro w; go_simp <;> first | exact rfl | exact ⟨rfl, rfl⟩); (first | exact wrapu64_id (by omega) (by omega) | exact wrap64_id (by omega) (by omega) | exact wrapu8_id (by omega) (by omega) | exact wrapu32_id (by omega) (by omega) | exact wrapu16_id (by omega) (by omega) | exact u8_mod _ | exact u32_mod _ | exact u64_mod _ | exact rfl)) | ((first | apply Pv.beq | apply Pv.bne); exact rfl; exact rfl; kernel_rfl) | ((first | apply Pv.xor | apply Pv.and | apply Pv.or | apply Pv.shr | apply Pv.shl) <;> first | exact rfl | (simp only [IntKind.bits, Nat.and_one_is_mod]; omega)) | ((first | apply Pv.muln | apply Pv.notn) <;> first | exact rfl | (simp only [IntKind.bits, Nat.and_one_is_mod]; omega)) | ((first | apply Pv.fieldAddr | apply Pv.len | apply Pv.indexAddr | apply Pv.build | apply Pv.field | apply Pv.convert | apply Pv.addw | apply Pv.subw | apply Pv.mulw | apply Pv.binOp) <;> first | exact rfl | (intro w; go_simp <;> first | exact rfl | exact ⟨rfl, rfl⟩))))))
        | (apply EA.take 2; decide +kernel; exact rfl; kernel_rfl; decide +kernel; exact fun _ _ _ _ h => h; (first | (apply Pg.off; exact rfl) | (apply Pg.any; exact rfl; (first | (apply Pv.auto; exact rfl) | ((first | apply Pv.add | apply Pv.sub | apply Pv.mul64 | apply Pv.rem | apply Pv.quo) <;> first | exact rfl | omega) | (apply Pv.conv; exact rfl; (intro w; go_simp <;> first | exact rfl | exact ⟨rfl, rfl⟩); (first | exact wrapu64_id (by omega) (by omega) | exact wrap64_id (by omega) (by omega) | exact wrapu8_id (by omega) (by omega) | exact wrapu32_id (by omega) (by omega) | exact wrapu16_id (by omega) (by omega) | exact u8_mod _ | exact u32_mod _ | exact u64_mod _ | exact rfl)) | ((first | apply Pv.beq | apply Pv.bne); exact rfl; exact rfl; kernel_rfl) | ((first | apply Pv.xor | apply Pv.and | apply Pv.or | apply Pv.shr | apply Pv.shl) <;> first | exact rfl | (simp only [IntKind.bits, Nat.and_one_is_mod]; omega)) | ((first | apply Pv.muln | apply Pv.notn) <;> first | exact rfl | (simp only [IntKind.bits, Nat.and_one_is_mod]; omega)) | ((first | apply Pv.fieldAddr | apply Pv.len | apply Pv.indexAddr | apply Pv.build | apply Pv.field | apply Pv.convert | apply Pv.addw | apply Pv.subw | apply Pv.mulw | apply Pv.binOp) <;> first | exact rfl | (intro w; go_simp <;> first | exact rfl | exact ⟨rfl, rfl⟩))))))
        | (apply EA.take 3; decide +kernel; exact rfl; kernel_rfl; decide +kernel; exact fun _ _ _ _ h => h; (first | (apply Pg.off; exact rfl) | (apply Pg.any; exact rfl; (first | (apply Pv.auto; exact rfl) | ((first | apply Pv.add | apply Pv.sub | apply Pv.mul64 | apply Pv.rem | apply Pv.quo) <;> first | exact rfl | omega) | (apply Pv.conv; exact rfl; (intro w; go_simp <;> first | exact rfl | exact ⟨rfl, rfl⟩); (first | exact wrapu64_id (by omega) (by omega) | exact wrap64_id (by omega) (by omega) | exact wrapu8_id (by omega) (by omega) | exact wrapu32_id (by omega) (by omega) | exact wrapu16_id (by omega) (by omega) | exact u8_mod _ | exact u32_mod _ | exact u64_mod _ | exact rfl)) | ((first | apply Pv.beq | apply Pv.bne); exact rfl; exact rfl; kernel_rfl) | ((first | apply Pv.xor | apply Pv.and | apply Pv.or | apply Pv.shr | apply Pv.shl) <;> first | exact rfl | (simp only [IntKind.bits, Nat.and_one_is_mod]; omega)) | ((first | apply Pv.muln | apply Pv.notn) <;> first | exact rfl | (simp only [IntKind.bits, Nat.and_one_is_mod]; omega)) | ((first | apply Pv.fieldAddr | apply Pv.len | apply Pv.indexAddr | apply Pv.build | apply Pv.field | apply Pv.convert | apply Pv.addw | apply Pv.subw | apply Pv.mulw | apply Pv.binOp) <;> first | exact rfl | (intro w; go_simp <;> first | exact rfl | exact ⟨rfl, rfl⟩))))))
        | (apply EA.take 4; decide +kernel; exact rfl; kernel_rfl; decide +kernel; exact fun _ _ _ _ h => h; (first | (apply Pg.off; exact rfl) | (apply Pg.any; exact rfl; (first | (apply Pv.auto; exact rfl) | ((first | apply Pv.add | apply Pv.sub | apply Pv.mul64 | apply Pv.rem | apply Pv.quo) <;> first | exact rfl | omega) | (apply Pv.conv; exact rfl; (intro w; go_simp <;> first | exact rfl | exact ⟨rfl, rfl⟩); (first | exact wrapu64_id (by omega) (by omega) | exact wrap64_id (by omega) (by omega) | exact wrapu8_id (by omega) (by omega) | exact wrapu32_id (by omega) (by omega) | exact wrapu16_id (by omega) (by omega) | exact u8_mod _ | exact u32_mod _ | exact u64_mod _ | exact rfl)) | ((first | apply Pv.beq | apply Pv.bne); exact rfl; exact rfl; kernel_rfl) | ((first | apply Pv.xor | apply Pv.and | apply Pv.or | apply Pv.shr | apply Pv.shl) <;> first | exact rfl | (simp only [IntKind.bits, Nat.and_one_is_mod]; omega)) | ((first | apply Pv.muln | apply Pv.notn) <;> first | exact rfl | (simp only [IntKind.bits, Nat.and_one_is_mod]; omega)) | ((first | apply Pv.fieldAddr | apply Pv.len | apply Pv.indexAddr | apply Pv.build | apply Pv.field | apply Pv.convert | apply Pv.addw | apply Pv.subw | apply Pv.mulw | apply Pv.binOp) <;> first | exact rfl | (intro w; go_simp <;> first | exact rfl | exact ⟨rfl, rfl⟩))))))
        | (apply EA.take 5; decide +kernel; exact rfl; kernel_rfl; decide +kernel; exact fun _ _ _ _ h => h; (first | (apply Pg.off; exact rfl) | (apply Pg.any; exact rfl; (first | (apply Pv.auto; exact rfl) | ((first | apply Pv.add | apply Pv.sub | apply Pv.mul64 | apply Pv.rem | apply Pv.quo) <;> first | exact rfl | omega) | (apply Pv.conv; exact rfl; (intro w; go_simp <;> first | exact rfl | exact ⟨rfl, rfl⟩); (first | exact wrapu64_id (by omega) (by omega) | exact wrap64_id (by omega) (by omega) | exact wrapu8_id (by omega) (by omega) | exact wrapu32_id (by omega) (by omega) | exact wrapu16_id (by omega) (by omega) | exact u8_mod _ | exact u32_mod _ | exact u64_mod _ | exact rfl)) | ((first | apply Pv.beq | apply Pv.bne); exact rfl; exact rfl; kernel_rfl) | ((first | apply Pv.xor | apply Pv.and | apply Pv.or | apply Pv.shr | apply Pv.shl) <;> first | exact rfl | (simp only [IntKind.bits, Nat.and_one_is_mod]; omega)) | ((first | apply Pv.muln | apply Pv.notn) <;> first | exact rfl | (simp only [IntKind.bits, Nat.and_one_is_mod]; omega)) | ((first | apply Pv.fieldAddr | apply Pv.len | apply Pv.indexAddr | apply Pv.build | apply Pv.field | apply Pv.convert | apply Pv.addw | apply Pv.subw | apply Pv.mulw | apply Pv.binOp) <;> first | exact rfl | (intro w; go_simp <;> first | exact rfl | exact ⟨rfl, rfl⟩))))))
        | (apply EA.take 6; decide +kernel; exact rfl; kernel_rfl; decide +kernel; exact fun _ _ _ _ h => h; (first | (apply Pg.off; exact rfl) | (apply Pg.any; exact rfl; (first | (apply Pv.auto; exact rfl) | ((first | apply Pv.add | apply Pv.sub | apply Pv.mul64 | apply Pv.rem | apply Pv.quo) <;> first | exact rfl | omega) | (apply Pv.conv; exact rfl; (intro w; go_simp <;> first | exact rfl | exact ⟨rfl, rfl⟩); (first | exact wrapu64_id (by omega) (by omega) | exact wrap64_id (by omega) (by omega) | exact wrapu8_id (by omega) (by omega) | exact wrapu32_id (by omega) (by omega) | exact wrapu16_id (by omega) (by omega) | exact u8_mod _ | exact u32_mod _ | exact u64_mod _ | exact rfl)) | ((first | apply Pv.beq | apply Pv.bne); exact rfl; exact rfl; kernel_rfl) | ((first | apply Pv.xor | apply Pv.and | apply Pv.or | apply Pv.shr | apply Pv.shl) <;> first | exact rfl | (simp only [IntKind.bits, Nat.and_one_is_mod]; omega)) | ((first | apply Pv.muln | apply Pv.notn) <;> first | exact rfl | (simp only [IntKind.bits, Nat.and_one_is_mod]; omega)) | ((first | apply Pv.fieldAddr | apply Pv.len | apply Pv.indexAddr | apply Pv.build | apply Pv.field | apply Pv.convert | apply Pv.addw | apply Pv.subw | apply Pv.mulw | apply Pv.binOp) <;> first | exact rfl | (intro w; go_simp <;> first | exact rfl | exact ⟨rfl, rfl⟩))))))
        | (apply EA.take 7; decide +kernel; exact rfl; kernel_rfl; decide +kernel; exact fun _ _ _ _ h => h; (first | (apply Pg.off; exact rfl) | (apply Pg.any; exact rfl; (first | (apply Pv.auto; exact rfl) | ((first | apply Pv.add | apply Pv.sub | apply Pv.mul64 | apply Pv.rem | apply Pv.quo) <;> first | exact rfl | omega) | (apply Pv.conv; exact rfl; (intro w; go_simp <;> first | exact rfl | exact ⟨rfl, rfl⟩); (first | exact wrapu64_id (by omega) (by omega) | exact wrap64_id (by omega) (by omega) | exact wrapu8_id (by omega) (by omega) | exact wrapu32_id (by omega) (by omega) | exact wrapu16_id (by omega) (by omega) | exact u8_mod _ | exact u32_mod _ | exact u64_mod _ | exact rfl)) | ((first | apply Pv.beq | apply Pv.bne); exact rfl; exact rfl; kernel_rfl) | ((first | apply Pv.xor | apply Pv.and | apply Pv.or | apply Pv.shr | apply Pv.shl) <;> first | exact rfl | (simp only [IntKind.bits, Nat.and_one_is_mod]; omega)) | ((first | apply Pv.muln | apply Pv.notn) <;> first | exact rfl | (simp only [IntKind.bits, Nat.and_one_is_mod]; omega)) | ((first | apply Pv.fieldAddr | apply Pv.len | apply Pv.indexAddr | apply Pv.build | apply Pv.field | apply Pv.convert | apply Pv.addw | apply Pv.subw | apply Pv.mulw | apply Pv.binOp) <;> first | exact rfl | (intro w; go_simp <;> first | exact rfl | exact ⟨rfl, rfl⟩))))))
        | (apply EA.take 8; decide +kernel; exact rfl; kernel_rfl; decide +kernel; exact fun _ _ _ _ h => h; (first | (apply Pg.off; exact rfl) | (apply Pg.any; exact rfl; (first | (apply Pv.auto; exact rfl) | ((first | apply Pv.add | apply Pv.sub | apply Pv.mul64 | apply Pv.rem | apply Pv.quo) <;> first | exact rfl | omega) | (apply Pv.conv; exact rfl; (intro w; go_simp <;> first | exact rfl | exact ⟨rfl, rfl⟩); (first | exact wrapu64_id (by omega) (by omega) | exact wrap64_id (by omega) (by omega) | exact wrapu8_id (by omega) (by omega) | exact wrapu32_id (by omega) (by omega) | exact wrapu16_id (by omega) (by omega) | exact u8_mod _ | exact u32_mod _ | exact u64_mod _ | exact rfl)) | ((first | apply Pv.beq | apply Pv.bne); exact rfl; exact rfl; kernel_rfl) | ((first | apply Pv.xor | apply Pv.and | apply Pv.or | apply Pv.shr | apply Pv.shl) <;> first | exact rfl | (simp only [IntKind.bits, Nat.and_one_is_mod]; omega)) | ((first | apply Pv.muln | apply Pv.notn) <;> first | exact rfl | (simp only [IntKind.bits, Nat.and_one_is_mod]; omega)) | ((first | apply Pv.fieldAddr | apply Pv.len | apply Pv.indexAddr | apply Pv.build | apply Pv.field | apply Pv.convert | apply Pv.addw | apply Pv.subw | apply Pv.mulw | apply Pv.binOp) <;> first | exact rfl | (intro w; go_simp <;> first | exact rfl | exact ⟨rfl, rfl⟩))))))
        | (apply EA.take 9; decide +kernel; exact rfl; kernel_rfl; decide +kernel; exact fun _ _ _ _ h => h; (first | (apply Pg.off; exact rfl) | (apply Pg.any; exact rfl; (first | (apply Pv.auto; exact rfl) | ((first | apply Pv.add | apply Pv.sub | apply Pv.mul64 | apply Pv.rem | apply Pv.quo) <;> first | exact rfl | omega) | (apply Pv.conv; exact rfl; (intro w; go_simp <;> first | exact rfl | exact ⟨rfl, rfl⟩); (first | exact wrapu64_id (by omega) (by omega) | exact wrap64_id (by omega) (by omega) | exact wrapu8_id (by omega) (by omega) | exact wrapu32_id (by omega) (by omega) | exact wrapu16_id (by omega) (by omega) | exact u8_mod _ | exact u32_mod _ | exact u64_mod _ | exact rfl)) | ((first | apply Pv.beq | apply Pv.bne); exact rfl; exact rfl; kernel_rfl) | ((first | apply Pv.xor | apply Pv.and | apply Pv.or | apply Pv.shr | apply Pv.shl) <;> first | exact rfl | (simp only [IntKind.bits, Nat.and_one_is_mod]; omega)) | ((first | apply Pv.muln | apply Pv.notn) <;> first | exact rfl | (simp only [IntKind.bits, Nat.and_one_is_mod]; omega)) | ((first | apply Pv.fieldAddr | apply Pv.len | apply Pv.indexAddr | apply Pv.build | apply Pv.field | apply Pv.convert | apply Pv.addw | apply Pv.subw | apply Pv.mulw | apply Pv.binOp) <;> first | exact rfl | (intro w; go_simp <;> first | exact rfl | exact ⟨rfl, rfl⟩))))))
        | (apply EA.take 10; decide +kernel; exact rfl; kernel_rfl; decide +kernel; exact fun _ _ _ _ h => h; (first | (apply Pg.off; exact rfl) | (apply Pg.any; exact rfl; (first | (apply Pv.auto; exact rfl) | ((first | apply Pv.add | apply Pv.sub | apply Pv.mul64 | apply Pv.rem | apply Pv.quo) <;> first | exact rfl | omega) | (apply Pv.conv; exact rfl; (intro w; go_simp <;> first | exact rfl | exact ⟨rfl, rfl⟩); (first | exact wrapu64_id (by omega) (by omega) | exact wrap64_id (by omega) (by omega) | exact wrapu8_id (by omega) (by omega) | exact wrapu32_id (by omega) (by omega) | exact wrapu16_id (by omega) (by omega) | exact u8_mod _ | exact u32_mod _ | exact u64_mod _ | exact rfl)) | ((first | apply Pv.beq | apply Pv.bne); exact rfl; exact rfl; kernel_rfl) | ((first | apply Pv.xor | apply Pv.and | apply Pv.or | apply Pv.shr | apply Pv.shl) <;> first | exact rfl | (simp only [IntKind.bits, Nat.and_one_is_mod]; omega)) | ((first | apply Pv.muln | apply Pv.notn) <;> first | exact rfl | (simp only [IntKind.bits, Nat.and_one_is_mod]; omega)) | ((first | apply Pv.fieldAddr | apply Pv.len | apply Pv.indexAddr | apply Pv.build | apply Pv.field | apply Pv.convert | apply Pv.addw | apply Pv.subw | apply Pv.mulw | apply Pv.binOp) <;> first | exact rfl | (intro w; go_simp <;> first | exact rfl | exact ⟨rfl, rfl⟩))))))
        | (apply EA.take 11; decide +kernel; exact rfl; kernel_rfl; decide +kernel; exact fun _ _ _ _ h => h; (first | (apply Pg.off; exact rfl) | (apply Pg.any; exact rfl; (first | (apply Pv.auto; exact rfl) | ((first | apply Pv.add | apply Pv.sub | apply Pv.mul64 | apply Pv.rem | apply Pv.quo) <;> first | exact rfl | omega) | (apply Pv.conv; exact rfl; (intro w; go_simp <;> first | exact rfl | exact ⟨rfl, rfl⟩); (first | exact wrapu64_id (by omega) (by omega) | exact wrap64_id (by omega) (by omega) | exact wrapu8_id (by omega) (by omega) | exact wrapu32_id (by omega) (by omega) | exact wrapu16_id (by omega) (by omega) | exact u8_mod _ | exact u32_mod _ | exact u64_mod _ | exact rfl)) | ((first | apply Pv.beq | apply Pv.bne); exact rfl; exact rfl; kernel_rfl) | ((first | apply Pv.xor | apply Pv.and | apply Pv.or | apply Pv.shr | apply Pv.shl) <;> first | exact rfl | (simp only [IntKind.bits, Nat.and_one_is_mod]; omega)) | ((first | apply Pv.muln | apply Pv.notn) <;> first | exact rfl | (simp only [IntKind.bits, Nat.and_one_is_mod]; omega)) | ((first | apply Pv.fieldAddr | apply Pv.len | apply Pv.indexAddr | apply Pv.build | apply Pv.field | apply Pv.convert | apply Pv.addw | apply Pv.subw | apply Pv.mulw | apply Pv.binOp) <;> first | exact rfl | (intro w; go_simp <;> first | exact rfl | exact ⟨rfl, rfl⟩)))))))
      apply EA.done
      · decide +kernel
      refine go ?_
      refine A.r1 ?_
      exact HR.out _ _ _ g4 (hg3.trans hg4) hs.swap.drop.swap.drop
  · apply St.load hs
    · exact rfl
    · repeat (first | exact Fd.here | apply Fd.there)
    · exact rfl
    · go_simp
    apply EA.one 2
    · decide +kernel
    · exact rfl
    apply St.load hs
    · exact rfl
    · repeat (first | exact Fd.here | apply Fd.there)
    · exact rfl
    · go_simp
    apply EA.one 3
    · decide +kernel
    · exact rfl
    refine St.callf Tryz.func126 rfl ?_
    refine lay_any hs hta (by omega) ?_
    intro a5 c5 w7 hs
    apply EA.one 6
    · decide +kernel
    · exact rfl
    refine St.callf Tryz.func126 rfl ?_
    refine lay_any hs htb (by omega) ?_
    intro a6 c6 w8 hs
    apply EA.one 7
    · decide +kernel
    · exact rfl
    have e1 : 4 + 1 + (layN t.a).length + (layN t.b).length = (titleB t).length := by simp [titleB]; omega
    have e2 : [Value.int .u8 97, .int .u8 110, .int .u8 97, .int .u8 49] ++ [.int .u8 (t.kind.toNat : Int)] ++ bs (layN t.a) ++ bs (layN t.b) = bs (titleB t) := by simp [titleB, bs]
    rw [e1, e2] at hs
    rw [e1]
    obtain ⟨g4, hg4, hp4, hs⟩ := hs.publishOwn
    refine St.callf Tryz.func193 rfl ?_
    refine wrap_any hs hp4 rfl (by omega) ?_
    intro a7 c7 w9 hs
    repeat (first
      | (apply EA.take 0; decide +kernel; exact rfl; kernel_rfl; decide +kernel; exact fun _ _ _ _ h => h; (first | (apply Pg.off; exact rfl) | (apply Pg.any; exact rfl; (first | (apply Pv.auto; exact rfl) | ((first | apply Pv.add | apply Pv.sub | apply Pv.mul64 | apply Pv.rem | apply Pv.quo) <;> first | exact rfl | omega) | (apply Pv.conv; exact rfl; (intro w; go_simp <;> first | exact rfl | exact ⟨rfl, rfl⟩); (first | exact wrapu64_id (by omega) (by omega) | exact wrap64_id (by omega) (by omega) | exact wrapu8_id (by omega) (by omega) | exact wrapu32_id (by omega) (by omega) | exact wrapu16_id (by omega) (by omega) | exact u8_mod _ | exact u32_mod _ | exact u64_mod _ | exact rfl)) | ((first | apply Pv.beq | apply Pv.bne); exact rfl; exact rfl; kernel_rfl) | ((first | apply Pv.xor | apply Pv.and | apply Pv.or | apply Pv.shr | apply Pv.shl) <;> first | exact rfl | (simp only [IntKind.bits, Nat.and_one_is_mod]; omega)) | ((first | apply Pv.muln | apply Pv.notn) <;> first | exact rfl | (simp only [IntKind.bits, Nat.and_one_is_mod]; omega)) | ((first | apply Pv.fieldAddr | apply Pv.len | apply Pv.indexAddr | apply Pv.build | apply Pv.field | apply Pv.convert | apply Pv.addw | apply Pv.subw | apply Pv.mulw | apply Pv.binOp) <;> first | exact rfl | (intro w; go_simp <;> first | exact rfl | exact ⟨rfl, rfl⟩))))))
      | (apply EA.take 1; decide +kernel; exact rfl; kernel_rfl; decide +kernel; exact fun _ _ _ _ h => h; (first | (apply Pg.off; exact rfl) | (apply Pg.any; exact rfl; (first | (apply Pv.auto; exact rfl) | ((first | apply Pv.add | apply Pv.sub | apply Pv.mul64 | apply Pv.rem | apply Pv.quo) <;> first | exact rfl | omega) | (apply Pv.conv; exact rfl; (intro w; go_simp <;> first | exact rfl | exact ⟨rfl, rfl⟩); (first | exact wrapu64_id (by omega) (by omega) | exact wrap64_id (by omega) (by omega) | exact wrapu8_id (by omega) (by omega) | exact wrapu32_id (by omega) (by omega) | exact wrapu16_id (by omega) (by omega) | exact u8_mod _ | exact u32_mod _ | exact u64_mod _ | exact rfl)) | ((first | apply Pv.beq | apply Pv.bne); exact rfl; exact rfl; kernel_rfl) | ((first | apply Pv.xor | apply Pv.and | apply Pv.or | apply Pv.shr | apply Pv.shl) <;> first | exact rfl | (simp only [IntKind.bits, Nat.and_one_is_mod]; omega)) | ((first | apply Pv.muln | apply Pv.notn) <;> first | exact rfl | (simp only [IntKind.bits, Nat.and_one_is_mod]; omega)) | ((first | apply Pv.fieldAddr | apply Pv.len | apply Pv.indexAddr | apply Pv.build | apply Pv.field | apply Pv.convert | apply Pv.addw | apply Pv.subw | apply Pv.mulw | apply Pv.binOp) <;> first | exact rfl | (intro w; go_simp <;> first | exact rfl | exact ⟨rfl, rfl⟩))))))
      | (apply EA.take 2; decide +kernel; exact rfl; kernel_rfl; decide +kernel; exact fun _ _ _ _ h => h; (first | (apply Pg.off; exact rfl) | (apply Pg.any; exact rfl; (first | (apply Pv.auto; exact rfl) | ((first | apply Pv.add | apply Pv.sub | apply Pv.mul64 | apply Pv.rem | apply Pv.quo) <;> first | exact rfl | omega) | (apply Pv.conv; exact rfl; (intro w; go_simp <;> first | exact rfl | exact ⟨rfl, rfl⟩); (first | exact wrapu64_id (by omega) (by omega) | exact wrap64_id (by omega) (by omega) | exact wrapu8_id (by omega) (by omega) | exact wrapu32_id (by omega) (by omega) | exact wrapu16_id (by omega) (by omega) | exact u8_mod _ | exact u32_mod _ | exact u64_mod _ | exact rfl)) | ((first | apply Pv.beq | apply Pv.bne); exact rfl; exact rfl; kernel_rfl) | ((first | apply Pv.xor | apply Pv.and | apply Pv.or | apply Pv.shr | apply Pv.shl) <;> first | exact rfl | (simp only [IntKind.bits, Nat.and_one_is_mod]; omega)) | ((first | apply Pv.muln | apply Pv.notn) <;> first | exact rfl | (simp only [IntKind.bits, Nat.and_one_is_mod]; omega)) | ((first | apply Pv.fieldAddr | apply Pv.len | apply Pv.indexAddr | apply Pv.build | apply Pv.field | apply Pv.convert | apply Pv.addw | apply Pv.subw | apply Pv.mulw | apply Pv.binOp) <;> first | exact rfl | (intro w; go_simp <;> first | exact rfl | exact ⟨rfl, rfl⟩))))))
      | (apply EA.take 3; decide +kernel; exact rfl; kernel_rfl; decide +kernel; exact fun _ _ _ _ h => h; (first | (apply Pg.off; exact rfl) | (apply Pg.any; exact rfl; (first | (apply Pv.auto; exact rfl) | ((first | apply Pv.add | apply Pv.sub | apply Pv.mul64 | apply Pv.rem | apply Pv.quo) <;> first | exact rfl | omega) | (apply Pv.conv; exact rfl; (intro w; go_simp <;> first | exact rfl | exact ⟨rfl, rfl⟩); (first | exact wrapu64_id (by omega) (by omega) | exact wrap64_id (by omega) (by omega) | exact wrapu8_id (by omega) (by omega) | exact wrapu32_id (by omega) (by omega) | exact wrapu16_id (by omega) (by omega) | exact u8_mod _ | exact u32_mod _ | exact u64_mod _ | exact rfl)) | ((first | apply Pv.beq | apply Pv.bne); exact rfl; exact rfl; kernel_rfl) | ((first | apply Pv.xor | apply Pv.and | apply Pv.or | apply Pv.shr | apply Pv.shl) <;> first | exact rfl | (simp only [IntKind.bits, Nat.and_one_is_mod]; omega)) | ((first | apply Pv.muln | apply Pv.notn) <;> first | exact rfl | (simp only [IntKind.bits, Nat.and_one_is_mod]; omega)) | ((first | apply Pv.fieldAddr | apply Pv.len | apply Pv.indexAddr | apply Pv.build | apply Pv.field | apply Pv.convert | apply Pv.addw | apply Pv.subw | apply Pv.mulw | apply Pv.binOp) <;> first | exact rfl | (intro w; go_simp <;> first | exact rfl | exact ⟨rfl, rfl⟩))))))
      | (apply EA.take 4; decide +kernel; exact rfl; kernel_rfl; decide +kernel; exact fun _ _ _ _ h => h; (first | (apply Pg.off; exact rfl) | (apply Pg.any; exact rfl; (first | (apply Pv.auto; exact rfl) | ((first | apply Pv.add | apply Pv.sub | apply Pv.mul64 | apply Pv.rem | apply Pv.quo) <;> first | exact rfl | omega) | (apply Pv.conv; exact rfl; (intro w; go_simp <;> first | exact rfl | exact ⟨rfl, rfl⟩); (first | exact wrapu64_id (by omega) (by omega) | exact wrap64_id (by omega) (by omega) | exact wrapu8_id (by omega) (by omega) | exact wrapu32_id (by omega) (by omega) | exact wrapu16_id (by omega) (by omega) | exact u8_mod _ | exact u32_mod _ | exact u64_mod _ | exact rfl)) | ((first | apply Pv.beq | apply Pv.bne); exact rfl; exact rfl; kernel_rfl) | ((first | apply Pv.xor | apply Pv.and | apply Pv.or | apply Pv.shr | apply Pv.shl) <;> first | exact rfl | (simp only [IntKind.bits, Nat.and_one_is_mod]; omega)) | ((first | apply Pv.muln | apply Pv.notn) <;> first | exact rfl | (simp only [IntKind.bits, Nat.and_one_is_mod]; omega)) | ((first | apply Pv.fieldAddr | apply Pv.len | apply Pv.indexAddr | apply Pv.build | apply Pv.field | apply Pv.convert | apply Pv.addw | apply Pv.subw | apply Pv.mulw | apply Pv.binOp) <;> first | exact rfl | (intro w; go_simp <;> first | exact rfl | exact ⟨rfl, rfl⟩))))))
      | (apply EA.take 5; decide +kernel; exact rfl; kernel_rfl; decide +kernel; exact fun _ _ _ _ h => h; (first | (apply Pg.off; exact rfl) | (apply Pg.any; exact rfl; (first | (apply Pv.auto; exact rfl) | ((first | apply Pv.add | apply Pv.sub | apply Pv.mul64 | apply Pv.rem | apply Pv.quo) <;> first | exact rfl | omega) | (apply Pv.conv; exact rfl; (intro w; go_simp <;> first | exact rfl | exact ⟨rfl, rfl⟩); (first | exact wrapu64_id (by omega) (by omega) | exact wrap64_id (by omega) (by omega) | exact wrapu8_id (by omega) (by omega) | exact wrapu32_id (by omega) (by omega) | exact wrapu16_id (by omega) (by omega) | exact u8_mod _ | exact u32_mod _ | exact u64_mod _ | exact rfl)) | ((first | apply Pv.beq | apply Pv.bne); exact rfl; exact rfl; kernel_rfl) | ((first | apply Pv.xor | apply Pv.and | apply Pv.or | apply Pv.shr | apply Pv.shl) <;> first | exact rfl | (simp only [IntKind.bits, Nat.and_one_is_mod]; omega)) | ((first | apply Pv.muln | apply Pv.notn) <;> first | exact rfl | (simp only [IntKind.bits, Nat.and_one_is_mod]; omega)) | ((first | apply Pv.fieldAddr | apply Pv.len | apply Pv.indexAddr | apply Pv.build | apply Pv.field | apply Pv.convert | apply Pv.addw | apply Pv.subw | apply Pv.mulw | apply Pv.binOp) <;> first | exact rfl | (intro w; go_simp <;> first | exact rfl | exact ⟨rfl, rfl⟩))))))
      | (apply EA.take 6; decide +kernel; exact rfl; kernel_rfl; decide +kernel; exact fun _ _ _ _ h => h; (first | (apply Pg.off; exact rfl) | (apply Pg.any; exact rfl; (first | (apply Pv.auto; exact rfl) | ((first | apply Pv.add | apply Pv.sub | apply Pv.mul64 | apply Pv.rem | apply Pv.quo) <;> first | exact rfl | omega) | (apply Pv.conv; exact rfl; (intro w; go_simp <;> first | exact rfl | exact ⟨rfl, rfl⟩); (first | exact wrapu64_id (by omega) (by omega) | exact wrap64_id (by omega) (by omega) | exact wrapu8_id (by omega) (by omega) | exact wrapu32_id (by omega) (by omega) | exact wrapu16_id (by omega) (by omega) | exact u8_mod _ | exact u32_mod _ | exact u64_mod _ | exact rfl)) | ((first | apply Pv.beq | apply Pv.bne); exact rfl; exact rfl; kernel_rfl) | ((first | apply Pv.xor | apply Pv.and | apply Pv.or | apply Pv.shr | apply Pv.shl) <;> first | exact rfl | (simp only [IntKind.bits, Nat.and_one_is_mod]; omega)) | ((first | apply Pv.muln | apply Pv.notn) <;> first | exact rfl | (simp only [IntKind.bits, Nat.and_one_is_mod]; omega)) | ((first | apply Pv.fieldAddr | apply Pv.len | apply Pv.indexAddr | apply Pv.build | apply Pv.field | apply Pv.convert | apply Pv.addw | apply Pv.subw | apply Pv.mulw | apply Pv.binOp) <;> first | exact rfl | (intro w; go_simp <;> first | exact rfl | exact ⟨rfl, rfl⟩))))))
      | (apply EA.take 7; decide +kernel; exact rfl; kernel_rfl; decide +kernel; exact fun _ _ _ _ h => h; (first | (apply Pg.off; exact rfl) | (apply Pg.any; exact rfl; (first | (apply Pv.auto; exact rfl) | ((first | apply Pv.add | apply Pv.sub | apply Pv.mul64 | apply Pv.rem | apply Pv.quo) <;> first | exact rfl | omega) | (apply Pv.conv; exact rfl; (intro w; go_simp <;> first | exact rfl | exact ⟨rfl, rfl⟩); (first | exact wrapu64_id (by omega) (by omega) | exact wrap64_id (by omega) (by omega) | exact wrapu8_id (by omega) (by omega) | exact wrapu32_id (by omega) (by omega) | exact wrapu16_id (by omega) (by omega) | exact u8_mod _ | exact u32_mod _ | exact u64_mod _ | exact rfl)) | ((first | apply Pv.beq | apply Pv.bne); exact rfl; exact rfl; kernel_rfl) | ((first | apply Pv.xor | apply Pv.and | apply Pv.or | apply Pv.shr | apply Pv.shl) <;> first | exact rfl | (simp only [IntKind.bits, Nat.and_one_is_mod]; omega)) | ((first | apply Pv.muln | apply Pv.notn) <;> first | exact rfl | (simp only [IntKind.bits, Nat.and_one_is_mod]; omega)) | ((first | apply Pv.fieldAddr | apply Pv.len | apply Pv.indexAddr | apply Pv.build | apply Pv.field | apply Pv.convert | apply Pv.addw | apply Pv.subw | apply Pv.mulw | apply Pv.binOp) <;> first | exact rfl | (intro w; go_simp <;> first | exact rfl | exact ⟨rfl, rfl⟩))))))
      | (apply EA.take 8; decide +kernel; exact rfl; kernel_rfl; decide +kernel; exact fun _ _ _ _ h => h; (first | (apply Pg.off; exact rfl) | (apply Pg.any; exact rfl; (first | (apply Pv.auto; exact rfl) | ((first | apply Pv.add | apply Pv.sub | apply Pv.mul64 | apply Pv.rem | apply Pv.quo) <;> first | exact rfl | omega) | (apply Pv.conv; exact rfl; (intro w; go_simp <;> first | exact rfl | exact ⟨rfl, rfl⟩); (first | exact wrapu64_id (by omega) (by omega) | exact wrap64_id (by omega) (by omega) | exact wrapu8_id (by omega) (by omega) | exact wrapu32_id (by omega) (by omega) | exact wrapu16_id (by omega) (by omega) | exact u8_mod _ | exact u32_mod _ | exact u64_mod _ | exact rfl)) | ((first | apply Pv.beq | apply Pv.bne); exact rfl; exact rfl; kernel_rfl) | ((first | apply Pv.xor | apply Pv.and | apply Pv.or | apply Pv.shr | apply Pv.shl) <;> first | exact rfl | (simp only [IntKind.bits, Nat.and_one_is_mod]; omega)) | ((first | apply Pv.muln | apply Pv.notn) <;> first | exact rfl | (simp only [IntKind.bits, Nat.and_one_is_mod]; omega)) | ((first | apply Pv.fieldAddr | apply Pv.len | apply Pv.indexAddr | apply Pv.build | apply Pv.field | apply Pv.convert | apply Pv.addw | apply Pv.subw | apply Pv.mulw | apply Pv.binOp) <;> first | exact rfl | (intro w; go_simp <;> first | exact rfl | exact ⟨rfl, rfl⟩))))))
      | (apply EA.take 9; decide +kernel; exact rfl; kernel_rfl; decide +kernel; exact fun _ _ _ _ h => h; (first | (apply Pg.off; exact rfl) | (apply Pg.any; exact rfl; (first | (apply Pv.auto; exact rfl) | ((first | apply Pv.add | apply Pv.sub | apply Pv.mul64 | apply Pv.rem | apply Pv.quo) <;> first | exact rfl | omega) | (apply Pv.conv; exact rfl; (intro w; go_simp <;> first | exact rfl | exact ⟨rfl, rfl⟩); (first | exact wrapu64_id (by omega) (by omega) | exact wrap64_id (by omega) (by omega) | exact wrapu8_id (by omega) (by omega) | exact wrapu32_id (by omega) (by omega) | exact wrapu16_id (by omega) (by omega) | exact u8_mod _ | exact u32_mod _ | exact u64_mod _ | exact rfl)) | ((first | apply Pv.beq | apply Pv.bne); exact rfl; exact rfl; kernel_rfl) | ((first | apply Pv.xor | apply Pv.and | apply Pv.or | apply Pv.shr | apply Pv.shl) <;> first | exact rfl | (simp only [IntKind.bits, Nat.and_one_is_mod]; omega)) | ((first | apply Pv.muln | apply Pv.notn) <;> first | exact rfl | (simp only [IntKind.bits, Nat.and_one_is_mod]; omega)) | ((first | apply Pv.fieldAddr | apply Pv.len | apply Pv.indexAddr | apply Pv.build | apply Pv.field | apply Pv.convert | apply Pv.addw | apply Pv.subw | apply Pv.mulw | apply Pv.binOp) <;> first | exact rfl | (intro w; go_simp <;> first | exact rfl | exact ⟨rfl, rfl⟩))))))
      | (apply EA.take 10; decide +kernel; exact rfl; kernel_rfl; decide +kernel; exact fun _ _ _ _ h => h; (first | (apply Pg.off; exact rfl) | (apply Pg.any; exact rfl; (first | (apply Pv.auto; exact rfl) | ((first | apply Pv.add | apply Pv.sub | apply Pv.mul64 | apply Pv.rem | apply Pv.quo) <;> first | exact rfl | omega) | (apply Pv.conv; exact rfl; (intro w; go_simp <;> first | exact rfl | exact ⟨rfl, rfl⟩); (first | exact wrapu64_id (by omega) (by omega) | exact wrap64_id (by omega) (by omega) | exact wrapu8_id (by omega) (by omega) | exact wrapu32_id (by omega) (by omega) | exact wrapu16_id (by omega) (by omega) | exact u8_mod _ | exact u32_mod _ | exact u64_mod _ | exact rfl)) | ((first | apply Pv.beq | apply Pv.bne); exact rfl; exact rfl; kernel_rfl) | ((first | apply Pv.xor | apply Pv.and | apply Pv.or | apply Pv.shr | apply Pv.shl) <;> first | exact rfl | (simp only [IntKind.bits, Nat.and_one_is_mod]; omega)) | ((first | apply Pv.muln | apply Pv.notn) <;> first | exact rfl | (simp only [IntKind.bits, Nat.and_one_is_mod]; omega)) | ((first | apply Pv.fieldAddr | apply Pv.len | apply Pv.indexAddr | apply Pv.build | apply Pv.field | apply Pv.convert | apply Pv.addw | apply Pv.subw | apply Pv.mulw | apply Pv.binOp) <;> first | exact rfl | (intro w; go_simp <;> first | exact rfl | exact ⟨rfl, rfl⟩))))))
      | (apply EA.take 11; decide +kernel; exact rfl; kernel_rfl; decide +kernel; exact fun _ _ _ _ h => h; (first | (apply Pg.off; exact rfl) | (apply Pg.any; exact rfl; (first | (apply Pv.auto; exact rfl) | ((first | apply Pv.add | apply Pv.sub | apply Pv.mul64 | apply Pv.rem | apply Pv.quo) <;> first | exact rfl | omega) | (apply Pv.conv; exact rfl; (intro w; go_simp <;> first | exact rfl | exact ⟨rfl, rfl⟩); (first | exact wrapu64_id (by omega) (by omega) | exact wrap64_id (by omega) (by omega) | exact wrapu8_id (by omega) (by omega) | exact wrapu32_id (by omega) (by omega) | exact wrapu16_id (by omega) (by omega) | exact u8_mod _ | exact u32_mod _ | exact u64_mod _ | exact rfl)) | ((first | apply Pv.beq | apply Pv.bne); exact rfl; exact rfl; kernel_rfl) | ((first | apply Pv.xor | apply Pv.and | apply Pv.or | apply Pv.shr | apply Pv.shl) <;> first | exact rfl | (simp only [IntKind.bits, Nat.and_one_is_mod]; omega)) | ((first | apply Pv.muln | apply Pv.notn) <;> first | exact rfl | (simp only [IntKind.bits, Nat.and_one_is_mod]; omega)) | ((first | apply Pv.fieldAddr | apply Pv.len | apply Pv.indexAddr | apply Pv.build | apply Pv.field | apply Pv.convert | apply Pv.addw | apply Pv.subw | apply Pv.mulw | apply Pv.binOp) <;> first | exact rfl | (intro w; go_simp <;> first | exact rfl | exact ⟨rfl, rfl⟩)))))))
    apply EA.done
    · decide +kernel
    refine go ?_
    refine A.r1 ?_
    exact HR.out _ _ _ g4 (hg3.trans hg4) hs.swap.drop.swap.drop
end Go.Proofs.YtfhmamkafancbaaGreatDoor

/-
  Layer 5 (sheet): a title, of any bytes.
-/
namespace Go.Proofs.YtfhmamkafancbaaGreatDoor
open Go.RowKit
set_option linter.unusedVariables false
set_option linter.unusedSimpArgs false
theorem ag_title : AggOf Tryz.prog 185 3 := ⟨_, Tryz.underlying185, rfl, by kernel_rfl⟩
/-- The bytes ahead are these. -/
def rdThese : List UInt8 → List UInt8 → Except Int (List UInt8)
  | [], l => .ok l
  | c :: cs, l => match rdByte l with
    | .error e => .error e
    | .ok (u, r) => if u = c then rdThese cs r else .error 4
def rdTitle (l : List UInt8) : Except Int Ti :=
  match rdThese [97, 110, 97, 49] l with
  | .error e => .error e
  | .ok l => match rdByte l with
    | .error e => .error e
    | .ok (k, l) => match rdNum 18446744073709551615 l with
      | .error e => .error e
      | .ok (a, l) => match rdNum 18446744073709551615 l with
        | .error e => .error e
        | .ok (b, l) => if l = [] then .ok ⟨k, a, b⟩ else .error 4
set_option maxHeartbeats 1600000 in
set_option maxRecDepth 100000 in
theorem title_any {R : Ending → World → Prop} {W w : World} {g : Hl} {H : List HP} {a : Option Addr} {n c : Nat} {l : List UInt8} (hs : Sat W w g H) (hp : Pr 1 g (.slice a n c) n (bs l)) (hl : l.length = n)
    (hOK : ∀ t w' g', Hl.le g g' → rdTitle l = .ok t → t.ok → Sat W w' g' H → R (.returned (.tuple #[t.val, .int .i64 0])) w')
    (hE : ∀ e (x y z : Int) w' g', Hl.le g g' → rdTitle l = .error e → e ≠ 0 → Sat W w' g' H → R (.returned (.tuple #[.agg #[.int .u8 x, .int .u64 y, .int .u64 z], .int .i64 e])) w') :
    Calls Tryz.prog 238 #[.slice a n c] w R := by
  have HOK := Lib.hid hOK
  have HE := Lib.hid hE
  clear hOK hE
  refine C.callsD (args := [.slice a n c]) Tryz.func238 rfl rfl rfl ?_
  refine go ?_
  refine E.al hs ?_
  intro b1 w1 hs
  refine go ?_
  refine E.al hs ?_
  intro b2 w2 hs
  refine go ?_
  refine E.callf Tryz.func179 rfl ?_
  refine newTape_any hl hs hp ?_
  intro b3 w3 hs
  refine go ?_
  refine E.bsl hs ?_
  intro b4 w4 hs
  refine go ?_
  apply E.cons
  apply St.markBytes hs
  · exact rfl
  · exact Tryz.underlying23
  · exact Tryz.underlying5
  · exact rfl
  · decide
  intro w5 g5 hg5 hs hp5
  generalize (some ⟨b4, 0, none⟩ : Option Addr) = a5 at hp5 ⊢
  refine gob ?_
  refine C.block ?_
  have hana : ∀ i < 4, ∃ u, ([97, 110, 97, 49] : List UInt8)[i]? = some u ∧ [Value.int .u8 97, .int .u8 110, .int .u8 97, .int .u8 49][i]? = some (.int .u8 u.toNat) ∧ ([97, 110, 97, 49] : List UInt8).drop i = u :: ([97, 110, 97, 49] : List UInt8).drop (i + 1) := by
    intro i hi
    match i, hi with
    | 0, _ => exact ⟨_, rfl, rfl, rfl⟩
    | 1, _ => exact ⟨_, rfl, rfl, rfl⟩
    | 2, _ => exact ⟨_, rfl, rfl, rfl⟩
    | 3, _ => exact ⟨_, rfl, rfl, rfl⟩
  have HA := Lib.hid hana
  clear hana
  refine C.lp (fun x : Nat × List UInt8 => [(2, .pointer (some ⟨b1, 0, none⟩)), (3, .pointer (some ⟨b2, 0, none⟩)), (4, .pointer (some ⟨b3, 0, none⟩)), (10, .slice a5 4 4), (11, .int .i64 4), (12, .int .i64 x.1)])
    (fun gk x w => gk = 4 - x.1 ∧ x.1 ≤ 4 ∧ rdThese (([97, 110, 97, 49] : List UInt8).drop x.1) x.2 = rdThese [97, 110, 97, 49] l ∧ Sat W w g5 (tape b3 x.2 :: blk b2 [.int .i64 0] 32 :: blk b1 [.int .u8 0, .int .u64 0, .int .u64 0] 185 :: H)) 4 (0, l) ⟨rfl, by simp only; omega, rfl, hs⟩ ?_
  clear hs
  rintro gk ⟨i, r⟩ w6 ⟨rfl, hi, ht, hs⟩
  simp only at hi ht hs ⊢
  refine go ?_
  refine C.cond_dec (p := (i : Int) < 4) rfl (fun hlt => ?_) (fun hlt => ?_)
  · obtain ⟨u, hu1, hu2, hu3⟩ := HA.out i (by omega)
    rw [hu3, rdThese] at ht
    refine go ?_
    refine E.ix el_u8 hs hp5 i hu2 ?_
    intro b5 o5 hc5
    refine go ?_
    refine E.callf Tryz.func185 rfl ?_
    refine byte_any hs ?_ ?_
    · intro u' r' w7 he hs
      rw [he] at ht
      simp only [rdByte] at ht
      refine go ?_
      by_cases hu : u' = u
      · subst hu
        refine C.cond rfl (fun h => by simp at h) (fun _ => ?_)
        refine go ?_
        rw [if_pos rfl] at ht
        exact A.rd (4 - (i + 1)) (i + 1, r') ⟨rfl, by simp only; omega, ht, hs⟩
      · have hne : ¬ ((u'.toNat : Int) = u.toNat) := fun h => hu (UInt8.toNat_inj.1 (by omega))
        refine C.cond rfl (fun _ => ?_) (fun h => by simp [hne] at h)
        rw [if_neg hu] at ht
        refine go ?_
        refine E.sto hs ?_
        intro w8 hs
        refine go ?_
        refine E.sto hs ?_
        intro w9 hs
        refine go ?_
        refine L.callf Tryz.func178 (caught_none ?_)
        refine L.c2 rfl rfl rfl (run_lda hs ag_title) (run_ld hs) ?_
        exact HE.out 4 _ _ _ _ _ hg5 (by simp only [rdTitle, ← ht]) (by decide) hs.drop.drop.drop
    · intro he
      rw [he] at ht
      simp only [rdByte] at ht
      refine go ?_
      refine L.callf Tryz.func178 (caught_fault hs up_ ?_)
      intro w7 hs
      refine L.c2 rfl rfl rfl (run_lda hs ag_title) (run_ld hs) ?_
      exact HE.out 5 _ _ _ _ _ hg5 (by simp only [rdTitle, ← ht]) (by decide) hs.drop.drop.drop
  · have h4 : i = 4 := by omega
    subst h4
    have ht : rdThese [97, 110, 97, 49] l = .ok r := ht.symm
    clear hi hlt
    refine go ?_
    refine E.callf Tryz.func185 rfl ?_
    refine byte_any hs ?_ ?_
    rotate_left
    · intro he
      subst he
      refine go ?_
      refine L.callf Tryz.func178 (caught_fault hs up_ ?_)
      intro w7 hs
      refine L.c2 rfl rfl rfl (run_lda hs ag_title) (run_ld hs) ?_
      exact HE.out 5 _ _ _ _ _ hg5 (by simp [rdTitle, ht, rdByte]) (by decide) hs.drop.drop.drop
    intro k r2 w7 he hs
    rw [he] at ht
    refine go ?_
    refine E.callf Tryz.func181 rfl ?_
    refine num_any 18446744073709551615 rfl hs ?_ ?_
    rotate_left
    · intro e w8 h1 hne hs
      refine go ?_
      refine L.callf Tryz.func178 (caught_fault hs up_ ?_)
      intro w7 hs
      refine L.c2 rfl rfl rfl (run_lda hs ag_title) (run_ld hs) ?_
      exact HE.out e _ _ _ _ _ hg5 (by simp [rdTitle, ht, rdByte, h1]) hne hs.drop.drop
    intro x r3 w8 h1 _ hx hs
    refine go ?_
    refine E.callf Tryz.func181 rfl ?_
    refine num_any 18446744073709551615 rfl hs ?_ ?_
    rotate_left
    · intro e w8 h2 hne hs
      refine go ?_
      refine L.callf Tryz.func178 (caught_fault hs up_ ?_)
      intro w7 hs
      refine L.c2 rfl rfl rfl (run_lda hs ag_title) (run_ld hs) ?_
      exact HE.out e _ _ _ _ _ hg5 (by simp [rdTitle, ht, rdByte, h1, h2]) hne hs.drop.drop
    intro y r4 w9 h2 _ hy hs
    refine go ?_
    refine E.sto hs ?_
    intro w10 hs
    refine go ?_
    refine E.callf Tryz.func187 rfl ?_
    refine done_any hs ?_ ?_
    rotate_left
    · intro hne
      refine go ?_
      refine L.callf Tryz.func178 (caught_fault hs up_ ?_)
      intro w7 hs
      refine L.c2 rfl rfl rfl (run_lda hs ag_title) (run_ld hs) ?_
      exact HE.out 4 _ _ _ _ _ hg5 (by simp [rdTitle, ht, rdByte, h1, h2, hne]) (by decide) hs.drop.drop.drop
    intro he
    rw [he] at h2
    refine go ?_
    refine E.lda hs ag_title ?_
    refine go ?_
    refine E.sto hs ?_
    intro w11 hs
    refine go ?_
    refine E.sto hs ?_
    intro w12 hs
    refine go ?_
    refine L.callf Tryz.func178 (caught_none ?_)
    refine L.c2 rfl rfl rfl (run_lda hs ag_title) (run_ld hs) ?_
    exact HOK.out ⟨k, x, y⟩ _ _ hg5 (by simp [rdTitle, ht, rdByte, h1, h2]) ⟨hx, hy⟩ hs.drop.drop.drop
theorem rdTitle_titleB (t : Ti) (ht : t.ok) : rdTitle (titleB t) = .ok t := by
  obtain ⟨h1, h2⟩ := ht
  have e1 := rdNum_lay 18446744073709551615 t.a h1 (by omega) (layN t.b)
  have e2 := rdNum_lay 18446744073709551615 t.b h2 (by omega) []
  simp only [List.append_nil] at e2
  simp [rdTitle, titleB, rdThese, rdByte, e1, e2]
end Go.Proofs.YtfhmamkafancbaaGreatDoor

/-
  Layer 3 (check): the walk of the records ahead.
-/
namespace Go.Proofs.YtfhmamkafancbaaGreatDoor
open Go.RowKit
set_option linter.unusedVariables false
set_option linter.unusedSimpArgs false
structure AS where
  ps : List (Value × List UInt8)
  la : Option Addr
  lc : Nat
  ra : Option Addr
  rn : Nat
  rc : Nat
  g : Hl
set_option maxHeartbeats 1600000 in
set_option maxRecDepth 100000 in
theorem all_any {R : Ending → World → Prop} {W w : World} {g : Hl} {H : List HP} {a : Option Addr} {n c : Nat} {l : List UInt8} (most : Nat) {mi : Int} (hmi : mi = most) (hmost : most ≤ 1000000000) (hs : Sat W w g H) (hp : Pr 1 g (.slice a n c) n (bs l)) (hl : l.length = n) (hn : n ≤ 1000000000)
    (hR : ∀ ps k e a' c' g' w', Hl.le g g' → Rws g' ps → allB most (n + 1) l = (ps.map Prod.snd, k, e) → k ≤ n → (e = 0 ∨ e = 4 ∨ e = 5 ∨ e = 6) → Sat W w' g' (own 23 1 (.slice a' ps.length c') ps.length (ps.map Prod.fst) :: H) → R (.returned (.tuple #[.slice a' ps.length c', .int .i64 (k : Nat), .int .i64 e])) w') :
    Calls Tryz.prog 239 #[.slice a n c, .int .i64 mi] w R := by
  subst hmi
  have HR := Lib.hid hR
  clear hR
  refine C.calls (args := [.slice a n c, .int .i64 most]) Tryz.func239 rfl rfl rfl ?_
  refine go ?_
  have rw0 : Rws g ([] : List (Value × List UInt8)) := fun p hp => by simp at hp
  have al0 : ∀ r k e, allB most (n + 1) (l.drop (n - n)) = (r, k, e) → allB most (n + 1) l = (([] : List (Value × List UInt8)).map Prod.snd ++ r, n - n + k, e) := fun r k e h => by simpa using h
  refine C.loop (fun x : AS => [(0, .slice a n c), (1, .int .i64 most), (7, .slice x.la x.ps.length x.lc), (8, .slice x.ra x.rn x.rc)])
    (fun gk x w => gk = x.rn ∧ Hl.le g x.g ∧ Rws x.g x.ps ∧ x.rn + x.ps.length ≤ n ∧ Pr 1 x.g (.slice x.ra x.rn x.rc) x.rn (bs (l.drop (n - x.rn))) ∧ Sat W w x.g (own 23 1 (.slice x.la x.ps.length x.lc) x.ps.length (x.ps.map Prod.fst) :: H) ∧
      (∀ r k e, allB most (x.rn + 1) (l.drop (n - x.rn)) = (r, k, e) → allB most (n + 1) l = (x.ps.map Prod.snd ++ r, n - x.rn + k, e))) n ⟨[], none, 0, a, n, c, g⟩ wk_ ⟨rfl, Hl.le_refl g, rw0, by simp, by simpa using hp, hs.nilOwn, al0⟩ ?_
  clear hs
  rintro rn ⟨ps, la, lc, ra, rn, rc, g1⟩ w1 ⟨rfl, hg1, hps, hrl, hpr, hs, hall⟩
  simp only at hg1 hps hrl hpr hs hall ⊢
  refine go ?_
  refine C.cond_dec (p := (0 : Int) < rn) rfl (fun hlt => ?_) (fun hlt => ?_)
  · have hrl2 : (l.drop (n - rn)).length = rn := by rw [List.length_drop]; omega
    have hne : l.drop (n - rn) ≠ [] := fun e => by rw [e] at hrl2; simp at hrl2; omega
    refine go ?_
    refine E.callf Tryz.func237 rfl ?_
    refine open_any most rfl hmost hs hpr hrl2 (by omega) ?_ ?_
    · intro v k b' o' c' a2 c2 w2 ho hk hkv hv hs hp2
      obtain ⟨g2, hg2, hpb, hs⟩ := hs.publishOwn
      refine go ?_
      refine E.bsl hs ?_
      intro b3 w3 hs
      apply E.cons
      apply St.append el_row hs.swap (hs.rowOf (size := 1) 1 rfl (by decide)) (by intro u hu; simp only [List.mem_singleton] at hu; subst hu; rfl) (by omega) (by omega)
      · exact rfl
      · exact rfl
      intro a4 c4 w4 _ _ hs
      refine go ?_
      have hv2 : ((l.drop (n - rn)).drop k).take v = (l.drop (n - rn + k)).take v := by rw [List.drop_drop]
      have hd2 : (l.drop (n - rn)).drop (k + v + 4) = l.drop (n - (rn - (k + v + 4))) := by
        rw [List.drop_drop]
        congr 1
        omega
      have hbl : (((l.drop (n - rn)).drop k).take v).length = v := by rw [List.length_take, List.length_drop, hrl2]; omega
      have e3 : ps.length + 1 = (ps ++ [(Value.slice a2 v c2, ((l.drop (n - rn)).drop k).take v)]).length := by simp
      have e1 : ps.map Prod.fst ++ [Value.slice a2 v c2] = (ps ++ [(Value.slice a2 v c2, ((l.drop (n - rn)).drop k).take v)]).map Prod.fst := by simp
      have hs := hs.swap.drop
      rw [e1, e3] at hs
      rw [e3]
      rw [hd2] at hp2
      refine A.round (rn - (k + v + 4)) ⟨_, a4, c4, _, rn - (k + v + 4), _, g2⟩ (by omega) wk_ ⟨rfl, hg1.trans hg2, ?_, ?_, hp2.mono hg2, hs, ?_⟩
      · intro p hp
        rcases List.mem_append.1 hp with hp | hp
        · exact (hps p hp).mono hg2
        · simp only [List.mem_singleton] at hp
          subst hp
          simp only [hbl]
          exact hpb
      · simp only [List.length_append, List.length_cons, List.length_nil]
        omega
      · intro r k2 e2 h2
        simp only at h2 ⊢
        have h3 : allB most rn (l.drop (n - (rn - (k + v + 4)))) = (r, k2, e2) := by
          rw [← h2]
          refine allB_fuel most _ _ _ ?_ ?_ <;> (rw [List.length_drop]; omega)
        have := hall ((((l.drop (n - rn)).drop k).take v) :: r) (k + v + 4 + k2) e2 (by
          simp only [allB]
          rw [if_neg hne, ho]
          simp only
          rw [hd2, h3])
        rw [this]
        simp only [List.map_append, List.map_cons, List.map_nil, List.append_assoc, List.singleton_append, Prod.mk.injEq, true_and, and_true]
        omega
    · intro e w2 ho he hs
      have hall' := hall [] 0 e (by simp only [allB]; rw [if_neg hne, ho])
      rcases he with rfl | rfl | rfl
      all_goals
        refine go ?_
        refine A.r3 ?_
        rw [show (n : Int) - rn = ((n - rn + 0 : Nat) : Int) by omega]
        refine HR.out ps (n - rn + 0) _ _ _ g1 _ hg1 hps ?_ (by omega) (by omega) hs
        simpa using hall'
  · refine go ?_
    refine A.r3 ?_
    have h0 : rn = 0 := by omega
    have hd : l.drop (n - rn) = [] := List.drop_eq_nil_of_le (by omega)
    have hall' := hall [] 0 0 (by simp only [allB]; rw [if_pos hd])
    refine HR.out ps n _ _ _ g1 _ hg1 hps ?_ (by omega) (by omega) hs
    rw [hall', h0]
    simp
end Go.Proofs.YtfhmamkafancbaaGreatDoor
