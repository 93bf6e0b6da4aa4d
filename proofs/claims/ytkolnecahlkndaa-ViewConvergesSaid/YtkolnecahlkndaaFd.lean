/-
  Layer 11 (fold): a fold as bytes.
-/
import Derived.Test.YtkolnecahlkndaaFc
import Derived.Test.YtkolnecahlkndaaFi
import Derived.Test.YtkolnecahlkndaaIz
namespace Go.Proofs.Ytkolnecahlkndaa
open Go.RowKit
set_option linter.unusedVariables false
set_option linter.unusedSimpArgs false

/-- What a key has, as bytes. -/
def cellB (k : List UInt8) (c : Ce) : List UInt8 := textB k ++ [UInt8.ofNat c.kd] ++ (if c.kd = 1 then textB c.text else fixB (bitsF c.num))
def Fo.row (f : Fo) (k : List UInt8) : List UInt8 := cellB k ((f.cell k).getD ⟨0, [], 0⟩)
def Fo.wrN (f : Fo) : Nat := (f.wr % 18446744073709551616).toNat
def Fo.headB (f : Fo) : List UInt8 := vecB f.vec ++ layN f.tm ++ layN f.wrN ++ fixB (maskN f.mem 64) ++ fixB (maskN f.ret 64) ++ fixB f.mark ++ layN f.cells.length
/-- A fold as bytes. -/
def Fo.enc (f : Fo) : List UInt8 := f.headB ++ f.keys.flatMap f.row
theorem el_strs : ElemOf Try.prog 74 9 (.string ⟨#[]⟩) 1 16 := .of Try.underlying74 (by kernel_rfl) rfl (by decide)

set_option maxHeartbeats 3200000 in
set_option maxRecDepth 100000 in
theorem foldEncode_any {R : Ending → World → Prop} {W w : World} {g : Hl} {H : List HP} {b : Nat} {f : Fo} (hb : f.enc.length ≤ 10000000) (hl : f.cells.length ≤ 10000000) (hs : Sat W w g (fold b f :: H))
    (hR : ∀ a' c' w' g', Hl.le g g' → Sat W w' g' (own 5 1 (.slice a' f.enc.length c') f.enc.length (bs f.enc) :: fold b f :: H) → R (.returned (.slice a' f.enc.length c')) w') : Calls Try.prog 16 #[ptr b] w R := by
  have HR := Lib.hid hR
  clear hR
  obtain ⟨i, hi, hs⟩ := fold_open hs
  have h1 := hi.ok.mem
  have h2 := hi.ok.ret
  have htm := hi.ok.tm
  have hmk := hi.ok.mark
  have hvl := hi.ok.vec
  have hkl := f.keys_length
  simp only [foB] at hs
  have lv := vecB_len f.vec hvl hi.ok.vlt
  have lt := layN_ten htm
  have hwn : f.wrN < 18446744073709551616 := by unfold Fo.wrN; omega
  have lw := layN_ten hwn
  have ewr : IntKind.u64.wrap f.wr = (f.wrN : Int) := by
    simp [IntKind.wrap, IntKind.bits, IntKind.signed, Fo.wrN]
    omega
  refine C.calls (args := [.pointer (some ⟨b, 0, none⟩)]) Try.func16 rfl rfl rfl ?_
  refine go ?_
  refine E.ld hs ?_ (hj := foC_129 h1 h2)
  refine go ?_
  refine E.callf Try.func29 rfl ?_
  refine vlay_any hs.nilOwn hi.vec rfl hvl hi.ok.vlt (by decide) ?_
  intro a2 c2 w2 g2 hg2 hs
  simp only [Nat.zero_add, List.nil_append] at hs ⊢
  refine go ?_
  refine C.held1 b hs ?_
  intro w3 hk hs
  have rd1 : Rd (Keeps g2 [(b, foC i.mb (i.hv f) f, 69)]) b 130 (.int .u64 f.tm) := Rd.blk .here (foC_130 h1 h2)
  have rd2 : Rd (Keeps g2 [(b, foC i.mb (i.hv f) f, 69)]) b 131 (.int .i64 f.wr) := Rd.blk .here (foC_131 h1 h2)
  refine goh ?_
  refine EH.one (St.callf Try.func30 rfl ?_)
  refine lay_any hs htm (by omega) ?_
  intro a3 c3 w4 hs
  refine kept1 hs (fun hk => ?_)
  refine goh ?_
  refine EH.one (St.callf Try.func30 rfl ?_)
  refine lay_any hs hwn (by omega) ?_
  intro a4 c4 w5 hs
  refine kept1 hs (fun hk => ?_)
  refine goh ?_
  refine EH.done ?_
  clear rd1 rd2 hk
  refine go ?_
  refine C.held1 b hs ?_
  intro w6 hk hs
  have rd3 : Rd (Keeps g2 [(b, foC i.mb (i.hv f) f, 69)]) b 132 (.int .u64 f.mark) := Rd.blk .here (foC_132 h1 h2)
  refine goh ?_
  refine EH.one (St.callf Try.func32 rfl ?_)
  refine list_any (l := f.mem) (fun q hq => foC_mem h1 hq) (by omega) hs ?_
  intro a7 c7 w7 hs
  refine kept1 hs (fun hk => ?_)
  refine goh ?_
  refine EH.one (St.callf Try.func32 rfl ?_)
  refine list_any (l := f.ret) (fun q hq => foC_ret h1 h2 hq) (by omega) hs ?_
  intro a8 c8 w8 hs
  refine kept1 hs (fun hk => ?_)
  refine goh ?_
  refine EH.one (St.callf Try.func31 rfl ?_)
  refine fixed_any hs hmk (by omega) ?_
  intro a9 c9 w9 hs
  refine kept1 hs (fun hk => ?_)
  refine goh ?_
  refine EH.done ?_
  clear rd3 hk
  refine go ?_
  refine E.lenm Try.underlying65 hs (.there (.there .here)) ?_
  have eln : (i.L.map fun p => (p.1, ceV p.2.1 p.2.2)).length = f.cells.length := by
    rw [← hi.plain]
    simp [Cs.plain]
  rw [eln]
  have lc := layN_ten (n := f.cells.length) (by omega)
  refine go ?_
  refine E.callf Try.func30 rfl ?_
  refine lay_any hs (by omega) (by omega) ?_
  intro a10 c10 w10 hs
  have eN : (vecB f.vec).length + (layN f.tm).length + (layN f.wrN).length + 8 + 8 + 8 + (layN f.cells.length).length = f.headB.length := by
    simp only [Fo.headB, List.length_append, fixB_len]
  have eX : bs (vecB f.vec) ++ bs (layN f.tm) ++ bs (layN f.wrN) ++ bs (fixB (maskN f.mem 64)) ++ bs (fixB (maskN f.ret 64)) ++ bs (fixB f.mark) ++ bs (layN f.cells.length) = bs f.headB := by
    simp only [Fo.headB, bs_append]
  rw [eN, eX] at hs
  rw [eN]
  have hhl : f.headB.length ≤ 10000000 := by
    have := hb
    simp only [Fo.enc, List.length_append] at this
    omega
  clear eN eX lv lt lw lc ewr
  refine go ?_
  refine E.callf Try.func33 rfl ?_
  refine foldKeys_any (i := i) (f := f) (hi.mono hg2) (by omega) hs.swap.pull2.swap ?_
  intro ak ck w11 g3 hg3 hpk hs
  have hs2 := hs.pull2
  clear hs
  have hs := hs2
  clear hs2
  simp only [foB] at hs
  refine gob ?_
  refine C.cut (fun x : Option Addr × Nat => [(3, .slice x.1 f.enc.length x.2)]) (fun x w => ∃ g', Hl.le g3 g' ∧ Sat W w g' (own 5 1 (.slice x.1 f.enc.length x.2) f.enc.length (bs f.enc) :: blk b (foC i.mb (i.hv f) f) 69 :: cmap i.mb i.L :: H)) ?_ ?_
  · refine C.block ?_
    refine C.lp (fun x : Nat × Option Addr × Nat => [(0, .pointer (some ⟨b, 0, none⟩)), (3, .slice x.2.1 (f.headB ++ (f.keys.take x.1).flatMap f.row).length x.2.2), (51, .slice ak f.cells.length ck), (52, .int .i64 f.cells.length), (53, .int .i64 x.1)])
      (fun gk x w => gk = f.cells.length - x.1 ∧ x.1 ≤ f.cells.length ∧ ∃ g', Hl.le g3 g' ∧ Sat W w g' (own 5 1 (.slice x.2.1 (f.headB ++ (f.keys.take x.1).flatMap f.row).length x.2.2) (f.headB ++ (f.keys.take x.1).flatMap f.row).length (bs (f.headB ++ (f.keys.take x.1).flatMap f.row)) :: blk b (foC i.mb (i.hv f) f) 69 :: cmap i.mb i.L :: H)) f.cells.length (0, a10, c10) ⟨rfl, Nat.zero_le _, g3, Hl.le_refl _, ?_⟩ ?_ (hw := ?_)
    · simp only [List.take_zero, List.flatMap_nil, List.append_nil]
      exact hs
    · clear hs
      rintro gk ⟨j, a4, c4⟩ w4 ⟨hgk, hj, g4, hg4, hs⟩
      simp only at hgk hj hs ⊢
      have hsucc : ∀ h : j < f.keys.length, f.headB ++ (f.keys.take (j + 1)).flatMap f.row = (f.headB ++ (f.keys.take j).flatMap f.row) ++ f.row f.keys[j] := fun h => by
        rw [List.take_succ_eq_append_getElem h, List.flatMap_append, List.append_assoc]
        simp
      have hBl : (f.headB ++ (f.keys.take j).flatMap f.row).length ≤ 10000000 := by
        have h3 : f.keys.flatMap f.row = (f.keys.take j).flatMap f.row ++ (f.keys.drop j).flatMap f.row := by rw [← List.flatMap_append, List.take_append_drop]
        have h4 := hb
        rw [Fo.enc, h3] at h4
        simp only [List.length_append] at h4 ⊢
        omega
      generalize hB : f.headB ++ (f.keys.take j).flatMap f.row = B at hs hBl hsucc ⊢
      replace hB := Lib.hid hB
      refine go ?_
      refine C.cond_dec (p := (j : Int) < f.cells.length) rfl (fun h => ?_) (fun h => ?_)
      · have hjk : j < f.keys.length := by omega
        have hsucc := Lib.hid (hsucc hjk)
        have hpk4 := hpk.mono hg4
        have hkey : f.keys[j].length ≤ 100000000 := by
          have h3 : f.keys[j] ∈ f.cells.map Prod.fst := (rising_perm _).mem_iff.1 (List.getElem_mem hjk)
          obtain ⟨p, hp, e3⟩ := List.mem_map.1 h3
          rw [← e3]
          exact (hi.ok.cells p hp).2
        have hi4 := hi.mono (hg2.trans (hg3.trans hg4))
        have hget : (f.keys.map str)[j]? = some (.string ⟨f.keys[j].toArray⟩) := by rw [List.getElem?_map, List.getElem?_eq_getElem hjk]; rfl
        have hrow : f.row f.keys[j] = cellB f.keys[j] ((f.cell f.keys[j]).getD ⟨0, [], 0⟩) := rfl
        generalize f.keys[j] = k at hkey hget hrow hsucc
        obtain ⟨cc, at_, ct, hcc, hcell, hptv, hck⟩ : ∃ (cc : Ce) (a : Option Addr) (c : Nat), (f.cell k).getD ⟨0, [], 0⟩ = cc ∧ (alook k (i.L.map fun p => (p.1, ceV p.2.1 p.2.2))).getD (.agg #[.int .u8 0, .slice none 0 0, .float .f64 0]) = .agg #[.int .u8 cc.kd, .slice a cc.text.length c, .float .f64 cc.num] ∧ Pr 1 g4 (.slice a cc.text.length c) cc.text.length (bs cc.text) ∧ cc.ok := by
          have e1 := alook_map (fun p : Ce × Value => ceV p.1 p.2) k i.L
          have e2 := al_map (Prod.fst : Ce × Value → Ce) k i.L
          rw [e1]
          have e3 : f.cell k = (aget k i.L).map Prod.fst := by rw [Fo.cell, ← hi4.plain]; exact e2
          rw [e3]
          cases hL : aget k i.L with
          | none => exact ⟨⟨0, [], 0⟩, none, 0, rfl, rfl, Pr.nil, ⟨by decide, by decide, by simp⟩⟩
          | some p =>
            have h5 := hi4.tvs _ (aget_mem hL)
            obtain ⟨a, c, ep, _⟩ := h5.len
            simp only at ep h5
            have h6 : (k, p.1) ∈ f.cells := by rw [← hi4.plain]; exact List.mem_map.2 ⟨(k, p), aget_mem hL, rfl⟩
            refine ⟨p.1, a, c, rfl, ?_, by rw [← ep]; exact h5, (hi4.ok.cells _ h6).1⟩
            simp only [Option.map_some, Option.getD_some, ceV, ep]
        rw [hcc] at hrow
        replace hrow := Lib.hid hrow
        clear hcc
        have ckd := hck.kd
        have cnum := hck.num
        have ctext := hck.text
        refine go ?_
        refine E.ix el_strs hs hpk4 j hget ?_
        intro b5 o5 hc5
        clear hget
        refine go ?_
        refine E.cons (St.lookup (z := .agg #[.int .u8 0, .slice none 0 0, .float .f64 0]) (k := k) ky_str Try.underlying65 (by go_simp; first | done | rfl) hs (.there (.there .here)) rfl rfl ?_)
        simp only [Bool.false_eq_true, if_false, hcell]
        clear hcell
        refine E.al hs ?_
        intro b6 w6 hs
        refine E.sto (vs := [.int .u8 cc.kd, .slice at_ cc.text.length ct, .float .f64 cc.num]) (ys := [.int .u8 cc.kd, .slice at_ cc.text.length ct, .float .f64 cc.num]) hs ?_ (hv := rfl) (hsp := rfl)
        intro w7 hs
        have hkt := textB_len k (by omega)
        have htt := textB_len cc.text (by omega)
        have e8 : (UInt8.ofNat cc.kd).toNat = cc.kd := by simp; omega
        refine go ?_
        refine C.cut (fun x : Option Addr × Nat => [(0, .pointer (some ⟨b, 0, none⟩)), (3, .slice x.1 (B ++ textB k ++ [UInt8.ofNat cc.kd]).length x.2), (6, .pointer (some ⟨b6, 0, none⟩)), (51, .slice ak f.cells.length ck), (52, .int .i64 f.cells.length), (53, .int .i64 j)])
          (fun x w => ∃ g', Hl.le g4 g' ∧ Sat W w g' (own 5 1 (.slice x.1 (B ++ textB k ++ [UInt8.ofNat cc.kd]).length x.2) (B ++ textB k ++ [UInt8.ofNat cc.kd]).length (bs (B ++ textB k ++ [UInt8.ofNat cc.kd])) :: blk b6 [.int .u8 cc.kd, .slice at_ cc.text.length ct, .float .f64 cc.num] 77 :: blk b (foC i.mb (i.hv f) f) 69 :: cmap i.mb i.L :: H)) ?_ ?_
        · refine C.held1 b6 hs ?_
          intro w8 hk hs
          refine goh ?_
          refine EH.orb hs (St.bytes (l := k) Try.underlying9 Try.underlying40 Try.underlying5 hs (by omega) ?_ (hx := rfl)) ?_
          · intro b9 c9 w9 g9 hg9 hs hp9
            refine kept1 hs (fun hk => ?_) hg9
            refine goh ?_
            refine EH.orb hs (St.callf Try.func34 rfl ?_) ?_
            · refine layText_any hs.swap hp9 rfl (by omega) (by omega) ?_
              intro a12 c12 w12 hs
              refine kept1 hs (fun hk => ?_) hg9
              refine goh ?_
              refine EH.bsl hs ?_
              intro b13 w13 hs
              refine kept1 hs (fun hk => ?_) hg9
              refine goh ?_
              refine EH.app el_u8 hs.swap (hs.rowOf (size := 1) 1 rfl (by decide)) ?_
              intro a14 c14 w14 _ _ hs
              refine kept1 hs (fun hk => ?_)
              refine goh ?_
              refine EH.done ?_
              refine A.mt (a14, c14) ⟨g9, hg9, ?_⟩ (hw := ?_)
              · have := hs.swap.drop
                simpa [bs_append, bs, e8, Nat.add_assoc] using this
              · simp only [List.length_append, List.length_cons, List.length_nil, Nat.add_assoc]
                exact wk_
            · intro b13 w13 hs
              refine kept1 hs (fun hk => ?_) hg9
              refine goh ?_
              refine EH.one (St.callf Try.func34 rfl ?_)
              refine layText_any hs.pull2 hp9 rfl (by omega) (by omega) ?_
              intro a12 c12 w12 hs
              refine kept1 hs (fun hk => ?_) hg9
              refine goh ?_
              refine EH.app el_u8 hs (hs.swap.rowOf (size := 1) 1 rfl (by decide)) ?_
              intro a14 c14 w14 _ _ hs
              refine kept1 hs (fun hk => ?_)
              refine goh ?_
              refine EH.done ?_
              refine A.mt (a14, c14) ⟨g9, hg9, ?_⟩ (hw := ?_)
              · have := hs.swap.drop
                simpa [bs_append, bs, e8, Nat.add_assoc] using this
              · simp only [List.length_append, List.length_cons, List.length_nil, Nat.add_assoc]
                exact wk_
          · intro b13 w13 hs
            refine kept1 hs (fun hk => ?_)
            refine goh ?_
            refine EH.one (St.bytes (l := k) Try.underlying9 Try.underlying40 Try.underlying5 hs (by omega) ?_ (hx := rfl))
            intro b9 c9 w9 g9 hg9 hs hp9
            refine kept1 hs (fun hk => ?_) hg9
            refine goh ?_
            refine EH.one (St.callf Try.func34 rfl ?_)
            refine layText_any hs.pull2 hp9 rfl (by omega) (by omega) ?_
            intro a12 c12 w12 hs
            refine kept1 hs (fun hk => ?_) hg9
            refine goh ?_
            refine EH.app el_u8 hs (hs.swap.rowOf (size := 1) 1 rfl (by decide)) ?_
            intro a14 c14 w14 _ _ hs
            refine kept1 hs (fun hk => ?_)
            refine goh ?_
            refine EH.done ?_
            refine A.mt (a14, c14) ⟨g9, hg9, ?_⟩ (hw := ?_)
            · have := hs.swap.drop
              simpa [bs_append, bs, e8, Nat.add_assoc] using this
            · simp only [List.length_append, List.length_cons, List.length_nil, Nat.add_assoc]
              exact wk_
        clear hs
        rintro ⟨a15, c15⟩ w15 ⟨g5, hg5, hs⟩
        simp only at hs ⊢
        have hBl2 : (B ++ textB k ++ [UInt8.ofNat cc.kd]).length ≤ 200000000 := by simp only [List.length_append, List.length_cons, List.length_nil]; omega
        have hrow2 : f.row k = (textB k ++ [UInt8.ofNat cc.kd]) ++ (if cc.kd = 1 then textB cc.text else fixB (bitsF cc.num)) := hrow.out
        have hB2 : B ++ f.row k = (B ++ textB k ++ [UInt8.ofNat cc.kd]) ++ (if cc.kd = 1 then textB cc.text else fixB (bitsF cc.num)) := by rw [hrow2]; simp only [List.append_assoc]
        replace hB2 := Lib.hid hB2
        clear hrow2 hrow
        generalize B ++ textB k ++ [UInt8.ofNat cc.kd] = C0 at hs hBl2 hB2 ⊢
        refine go ?_
        cases hq : decide ((cc.kd : Int) = 1) with
        | true =>
          have hq : cc.kd = 1 := by have := of_decide_eq_true hq; omega
          refine go ?_
          refine E.callf Try.func34 rfl ?_
          refine layText_any hs (hptv.mono hg5) rfl (by omega) (by omega) ?_
          intro a16 c16 w16 hs
          refine go ?_
          have hB2 := hB2.out
          have e1 : (C0 ++ textB cc.text).length = C0.length + (textB cc.text).length := List.length_append
          rw [if_pos hq] at hB2
          refine A.rd (f.cells.length - (j + 1)) (j + 1, a16, c16) ⟨rfl, by omega, g5, hg4.trans hg5, ?_⟩ (hw := ?_)
          · simp only [hsucc.out, hB2, e1, bs_append]
            exact hs.swap.drop
          · simp only [hsucc.out, hB2, e1]
            exact wk_
        | false =>
          have hq : ¬ cc.kd = 1 := by have := of_decide_eq_false hq; omega
          refine go ?_
          refine E.callf Try.func35 rfl ?_
          refine bits_any ?_
          refine go ?_
          refine E.callf Try.func31 rfl ?_
          refine fixed_any hs (bitsF_lt cnum) (by omega) ?_
          intro a16 c16 w16 hs
          refine go ?_
          have hB2 := hB2.out
          have e1 : (C0 ++ fixB (bitsF cc.num)).length = C0.length + 8 := by rw [List.length_append, fixB_len]
          rw [if_neg hq] at hB2
          refine A.rd (f.cells.length - (j + 1)) (j + 1, a16, c16) ⟨rfl, by omega, g5, hg4.trans hg5, ?_⟩ (hw := ?_)
          · simp only [hsucc.out, hB2, e1, bs_append]
            exact hs.swap.drop
          · simp only [hsucc.out, hB2, e1]
            exact wk_
      · have hB := hB.out
        have hje : j = f.keys.length := by omega
        rw [hje, List.take_length] at hB
        have hB3 : B = f.enc := hB.symm
        subst hB3
        refine go ?_
        exact A.mt (a4, c4) ⟨g4, hg4, hs⟩
    · simp only [List.take_zero, List.flatMap_nil, List.append_nil]
      exact wk_
  clear hs
  rintro ⟨a17, c17⟩ w17 ⟨g17, hg17, hs⟩
  simp only at hs ⊢
  refine go ?_
  refine A.r1 ?_
  have hgl := hg2.trans (hg3.trans hg17)
  refine HR.out a17 c17 _ g17 hgl ?_
  exact (fold_close i (hi.mono hgl) hs.push2).swap
end Go.Proofs.Ytkolnecahlkndaa
