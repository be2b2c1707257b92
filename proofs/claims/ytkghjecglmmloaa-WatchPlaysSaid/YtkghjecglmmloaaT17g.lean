/- Package watch: falls. -/
import Derived.Test.YtkghjecglmmloaaT17f
namespace Xe
open Go Tp Go.Proofs
set_option maxRecDepth 16000
set_option maxHeartbeats 2000000

section
variable {h : Heap} {bb : Nat} {p : BP} {s : WS}

@[go_sem] theorem slice_from2 {m len cap b o : Nat} {kd : IntKind} {i : Int} (h0 : 0 ≤ i) (h1 : i ≤ len) (h2 : len ≤ cap) : sliceV (some (m, none)) (.slice (some ⟨b, o, none⟩) len cap) (some (.int kd i)) none =
    some (.slice (some ⟨b, if cap = i.toNat then o else o + i.toNat * m, none⟩) (len - i.toNat) (cap - i.toNat)) := by
  unfold sliceV boundV
  simp only [Option.bind_some, if_pos (And.intro h0 h1), Option.map_some]
  by_cases e : cap = i.toNat
  · simp [e]
  · simp [e, add_n]

theorem RowAt.drop {bk off cap i : Nat} {vs : List Value} (R : RowAt h (some ⟨bk, off, none⟩) vs) (hc : vs.length ≤ cap) : RowAt h (some ⟨bk, if cap = i then off else off + i * 1, none⟩) (vs.drop i) := by
  rcases R with rfl | ⟨bk', off', e, hcell⟩
  · exact .inl (by simp)
  · cases e
    by_cases hci : cap = i
    · exact .inl (List.drop_eq_nil_of_le (by omega))
    · rw [if_neg hci]
      refine .inr ⟨bk, off + i * 1, rfl, fun j v hv => ?_⟩
      rw [List.getElem?_drop] at hv
      have := hcell _ _ hv
      rwa [show off + i * 1 + j = off + (i + j) by omega]

/-- the loop's state -/
structure Fal (h1 h' : Heap) (bb : Nat) (p p' : BP) (s s' : WS) (lit : Int) (A0 : Option Addr) (L : List Nat) (i : Nat) : Prop where
  M : BaseM h' bb p' s'
  F : FInv s' lit (L.drop i)
  st : Stp p p' h1 h'
  adv : Adv s s'
  hd : s'.head = s.head
  eb : p'.eb = p.eb
  R : RowAt h' A0 (ids L)
  cur : ∀ A n c, (p'.f lit).getD (.slice none 0 0) = .slice A n c → ∀ y, blk A y → h1.size ≤ y

theorem falls_m (M : BaseM h bb p s) (I : WInv s) (ht : s.todo = []) {lit : Int} (hh : (lits s.l)[s.head]? = some (-lit)) (hlr : 1 ≤ lit.natAbs ∧ lit.natAbs ≤ 16777216) :
    CallsH Try.prog 87 [.pointer (some ⟨bb, 0, none⟩), .int .i64 lit] h fun r h' =>
      ∃ p' s', BaseM h' bb p' s' ∧ Stp p p' h h' ∧ s'.todo = [] ∧ s'.head = s.head ∧ Adv s s' ∧
        ((∃ id e, r = .tuple #[.int .i64 (id : Nat), .bool false] ∧ s'.cs[id]? = some e ∧ e.gone = false ∧ FailAt s'.l e.lits ∧ WInv s') ∨ (r = .tuple #[.int .i64 (-1), .bool true] ∧ WInv { s' with head := s.head + 1 })) := by
  have hsm := M.sm.1
  have hvv := I.hv
  have s2 := M.B.at' 2 _ rfl
  obtain ⟨A0, cap0, hcur, SA, hcA⟩ := (M.W lit).cur
  have lk := M.look lit
  rw [hcur] at lk
  have hwl := I.wlen lit
  refine calls_of 156 [.tmp 4, .tmp 5] Go.Proofs.Try.func87 rfl rfl rfl (by kernel_rfl) (Nat.le_of_ble_eq_true rfl) ?_
  simp -implicitDefEqProofs (disch := omega) [go_sem, s2, lk]
  refine M.M.del mapT_w fun h1 M1 f1 => ?_
  simp -implicitDefEqProofs (disch := omega) [go_sem]
  have MB1 := M.unwat (f' := fun y => if y = lit then none else p.f y) (W' := updW s.W lit []) M1 f1 (fun x => by
    by_cases e : x = lit
    · subst e; exact .inr ⟨if_pos rfl, updW_same _ _ _⟩
    · exact .inl ⟨if_neg e, updW_other _ _ e⟩)
  have st1 : Stp p { p with f := fun y => if y = lit then none else p.f y } h h1 := stp_map M f1
  have SA1 := SA.fr f1 (fun y hy e => by subst e; have := hcA _ hy; rw [M.cM] at this; cases this)
  have hb0 : ∀ y, blk A0 y → y < h1.size := fun y hy => SA1.blk_lt hy
  have F0 := I.begin ht hh
  obtain ⟨L, hL⟩ : ∃ L, L = s.W lit := ⟨_, rfl⟩
  rw [← hL] at hwl SA1 F0
  obtain ⟨p1, hp1⟩ : ∃ p1 : BP, p1 = { p with f := fun y => if y = lit then none else p.f y } := ⟨_, rfl⟩
  rw [← hp1] at MB1 st1
  have hcA1 : ∀ y, blk A0 y → p1.c y = some (.wat lit) := fun y hy => by rw [hp1]; exact hcA y hy
  have hcap0 := SA1.len
  rw [ids_len] at hcap0
  rw [← hL]
  refine loopK (fun ρ h' => ρ 0 = .pointer (some ⟨bb, 0, none⟩) ∧ ρ 1 = .int .i64 lit ∧ ρ 6 = .slice A0 L.length cap0 ∧ ρ 23 = .slice A0 L.length cap0 ∧ ρ 24 = .int .i64 L.length ∧
      ∃ (i : Nat) (p' : BP) (s' : WS), ρ 25 = .int .i64 i ∧ i ≤ L.length ∧ Fal h1 h' bb p1 p' { s with W := updW s.W lit [] } s' lit A0 L i) (fun ρ _ => L.length - (intOf (ρ 25)).toNat) (by kernel_rfl) ?_ ?_
  · refine ⟨rfl, rfl, rfl, rfl, rfl, 0, p1, _, rfl, by omega, ⟨MB1, F0, Stp.refl, Adv.refl _, rfl, rfl, SA1.row, fun A n c hA => ?_⟩⟩
    rw [hp1] at hA
    simp only [if_true, Option.getD_none] at hA
    cases hA
    exact fun y ⟨_, h, _⟩ => (nomatch h)
  · clear F0 MB1 SA1 M1 s2 lk
    rintro ρ h2 ⟨r0, r1, r6, r23, r24, i, p', s', r25, hi, FL⟩
    have hgood := FL.F.inv.good
    have hadv : Adv s s' := ⟨FL.adv.vars, FL.adv.level, FL.adv.cs, FL.adv.us⟩
    have hvs' : s'.vars = s.vars := FL.adv.vars
    have hfal : trI s'.l lit = -1 := by
      rw [tr_m1]
      have hm := List.mem_of_getElem? FL.F.hd
      exact ⟨fun h => good_cons hgood h hm, hm⟩
    by_cases him : i = L.length
    · subst him
      have Fd := FL.F
      rw [List.drop_length] at Fd
      simp -implicitDefEqProofs (disch := omega) [go_sem, r0, r1, r6, r23, r24, r25]
      exact ⟨p', s', FL.M, st1.trans FL.st, Fd.td, FL.hd, hadv, by have := Fd.done; rw [FL.hd] at this; exact this⟩
    · obtain ⟨bk0, off0, rfl, hc0⟩ := FL.R.get (by rw [ids_len]; omega)
      obtain ⟨id, hid⟩ : ∃ id, L[i]? = some id := ⟨_, List.getElem?_eq_getElem (by omega)⟩
      have c0 := hc0 i _ (ids_at hid)
      have hdrop : L.drop i = id :: L.drop (i + 1) := by
        rw [List.drop_eq_getElem_cons (by omega)]
        rw [List.getElem?_eq_getElem (by omega), Option.some.injEq] at hid
        rw [hid]
      have F := FL.F
      rw [hdrop] at F
      have hidl : id < s'.cs.length := (F.inv.wL lit id (F.mem.2 (.inr ⟨rfl, List.mem_cons_self ..⟩))).1
      obtain ⟨e, he⟩ : ∃ e, s'.cs[id]? = some e := ⟨_, List.getElem?_eq_getElem hidl⟩
      have hsm' := FL.M.sm.1
      have M2 := FL.M
      have heb := FL.eb
      simp -implicitDefEqProofs (disch := omega) [go_sem, r0, r1, r6, r23, r24, r25, c0]
      cases hg : e.gone with
      | true =>
        refine useC (there_none M2 (id := (id : Int)) (by omega) (by omega) (fun _ e' he' => by rw [Int.toNat_natCast, he] at he'; cases he'; exact hg)) ?_
        rintro _ h3 ⟨rfl, rfl⟩
        simp -implicitDefEqProofs (disch := omega) [go_sem, r0, r1, r6, r23, r24, r25]
        exact ⟨⟨i + 1, by omega, by omega, p', s', ⟨FL.M, F.gone (fun e' he' => by rw [he] at he'; cases he'; exact hg), FL.st, FL.adv, FL.hd, FL.eb, FL.R, FL.cur⟩⟩, by omega⟩
      | false =>
        refine useC (there_some M2 he hg) ?_
        rintro _ h3 ⟨rfl, rfl⟩
        have hclr := F.inv.cl e (List.mem_of_getElem? he)
        obtain ⟨y, z, hne, hy, hz, hyz, hlit, hyW, hzW⟩ := F.pair he hg
        obtain ⟨EA, Ecap, EB, ER, Ec⟩ := (M2.E id e he).ex
        have hcb := (M2.E id e he).cb
        have hla := (M2.E id e he).la
        have hlen := (M2.E id e he).len
        have e0 := EB.at' 0 _ rfl
        have e1 := EB.at' 1 _ rfl
        have hyl := (List.getElem?_eq_some_iff.1 hy).1
        have hzl := (List.getElem?_eq_some_iff.1 hz).1
        obtain ⟨ebk, eoff, rfl, ehc⟩ := ER.get (by rw [ints_len]; omega)
        have cy := ehc _ _ (ints_at hy)
        have cz := ehc _ _ (ints_at hz)
        have ccon := Ec ebk ⟨_, rfl, rfl⟩
        simp -implicitDefEqProofs (disch := omega) [go_sem, r0, r1, r6, r23, r24, r25]
        refine drawK [(0, 0), (1, 0), (2, 0), (3, 1), (4, 0), (5, 0), (6, 0), (7, 1), (8, 0), (9, 0), (10, 0), (11, 1), (12, 0)] mixed (by kernel_rfl) ?_
        simp -implicitDefEqProofs (disch := omega) [go_sem, r0, r1, r6, r23, r24, r25, e0, e1, cy]
        have hoth : ∃ (o : Int) (io : Nat), e.lits[io]? = some o ∧ o ≠ lit ∧ id ∈ s'.W o ∧ (o = y ∨ o = z) ∧ ((y = lit ∧ o = z ∧ io = e.a2) ∨ (y ≠ lit ∧ o = y ∧ io = e.a1)) ∧ (∀ w, (e.lits[e.a1]? = some w ∨ e.lits[e.a2]? = some w) → w = lit ∨ w = o) := by
          have hw : ∀ w, (e.lits[e.a1]? = some w ∨ e.lits[e.a2]? = some w) → w = y ∨ w = z := fun w hw => by
            rw [hy, hz] at hw
            exact hw.imp (fun h => (Option.some.inj h).symm) (fun h => (Option.some.inj h).symm)
          by_cases e5 : y = lit
          · have hzl2 : z ≠ lit := fun h => hyz (e5.trans h.symm)
            exact ⟨z, e.a2, hz, hzl2, hzW hzl2, .inr rfl, .inl ⟨e5, rfl, rfl⟩, fun w h => (hw w h).imp_left fun h => h.trans e5⟩
          · have hzl2 : z = lit := (hlit.resolve_left (fun h => e5 h.symm)).symm
            exact ⟨y, e.a1, hy, e5, hyW e5, .inl rfl, .inr ⟨e5, rfl, rfl⟩, fun w h => (hw w h).symm.imp_left fun h => h.trans hzl2⟩
        obtain ⟨o, io, ho, hol, hoW, hoyz, hocase, hpairw⟩ := hoth
        refine condCut (fun ρ h' => h' = h3 ∧ ρ 0 = .pointer (some ⟨bb, 0, none⟩) ∧ ρ 1 = .int .i64 lit ∧ ρ 6 = .slice (some ⟨bk0, off0, none⟩) L.length cap0 ∧ ρ 7 = .int .i64 i ∧ ρ 8 = .int .i64 id ∧ ρ 9 = .pointer (some ⟨p'.eb id, 0, none⟩) ∧ ρ 10 = .int .i64 o ∧
          ρ 23 = .slice (some ⟨bk0, off0, none⟩) L.length cap0 ∧ ρ 24 = .int .i64 L.length ∧ ρ 25 = .int .i64 i) ?_ ?_
        · rcases hocase with ⟨h5, rfl, rfl⟩ | ⟨h5, rfl, rfl⟩
          · rw [decide_eq_true h5]
            simp -implicitDefEqProofs (disch := omega) [go_sem, r0, r1, r6, r23, r24, r25]
            refine drawK [(0, 0), (1, 0), (2, 0), (3, 1), (4, 0), (5, 0), (6, 0), (7, 1), (8, 0), (9, 0), (10, 0), (11, 1), (12, 0)] mixed (by kernel_rfl) ?_
            simp -implicitDefEqProofs (disch := omega) [go_sem, r0, r1, r6, r23, r24, r25, e0, e1, cz]
          · rw [decide_eq_false h5]
            simp -implicitDefEqProofs (disch := omega) [go_sem, r0, r1, r6, r23, r24, r25]
        · have hr25o : (intOf (ρ 25)).toNat = i := by rw [r25]; rfl
          clear r0 r1 r6 r23 r24 r25
          rintro ρ h3 ⟨rfl, r0, r1, r6, r7, r8, r9, r10, r23, r24, r25⟩
          have hor := hclr.2 o (List.mem_of_getElem? ho)
          have hv' : s'.vars ≤ 16777216 := by rw [hvs']; exact hvv
          have hor1 : 1 ≤ o.natAbs ∧ o.natAbs ≤ s'.vars := hor
          have hr25 : (intOf (ρ 25)).toNat = i := by rw [r25]; rfl
          simp -implicitDefEqProofs (disch := omega) [go_sem, r0, r1, r6, r7, r8, r9, r10, r23, r24, r25]
          refine useC (find_m M2 (by rw [hvs']; exact hvv) he hclr.2 o) ?_
          rintro _ h4 ⟨rfl, f4⟩
          have M4 := M2.fr0 f4
          have R4 := FL.R.fr0 f4
          have e04 := (f4.cell (o := 0) (hcell_lt e0) (fun h => h)).trans e0
          have oin := List.mem_of_getElem? ho
          have hc0' : p'.c bk0 = some (.wat lit) := FL.st.ext _ _ (hcA1 bk0 ⟨_, rfl, rfl⟩)
          have hbk0 := hb0 bk0 ⟨_, rfl, rfl⟩
          have f24 : Fr (fun _ => False) h3 h4 := f4
          have z4 := f4.size
          have z12 := FL.st.fr.size
          rcases idxF_cases (freeP s'.l o) e.lits with ⟨hj, hno⟩ | ⟨j, zz, hj, hzz, hpz⟩
          · rw [hj]
            have hno' : ∀ x ∈ e.lits, x ≠ o → trI s'.l x = -1 := fun x hx hne => by
              have h1 := hno x hx
              unfold freeP at h1
              rw [Bool.and_eq_false_iff, decide_eq_false_iff_not, decide_eq_false_iff_not] at h1
              rcases trI_cases s'.l x with h | h | h <;> omega
            obtain ⟨A, cap, hcu, SA4, hcA4⟩ := (M4.W lit).cur
            have s24 := M4.B.at' 2 _ rfl
            have lk4 := M4.look lit
            rw [hcu] at lk4
            have hwl4 : (s'.W lit).length + (1 + (L.drop (i + 1)).length) ≤ s'.cs.length := by
              have := F.inv.wlen lit
              have h2 : (updW s'.W lit (s'.W lit ++ id :: L.drop (i + 1)) lit).length ≤ s'.cs.length := this
              rw [updW_same, List.length_append, List.length_cons] at h2
              omega
            simp -implicitDefEqProofs (disch := omega) [go_sem, r0, r1, r6, r7, r8, r9, r10, r23, r24, r25]
            refine drawC [(0, 0), (1, 0), (2, 0), (3, 2), (4, 0), (5, 0), (6, 0), (7, 0), (8, 2), (9, 0), (10, 2), (11, 0), (12, 3), (13, 3), (14, 4)] (fun h' => hcell h' ⟨bb, 2, none⟩ = some (.map (some p'.mb)) ∧ lookV Try.prog 108 (.map (some p'.mb)) (.int .i64 lit) false h' = some (.slice A (s'.W lit).length cap)) mixed (by kernel_rfl) ⟨s24, lk4⟩ ?_
            simp -implicitDefEqProofs (disch := omega) [go_sem, r0, r1, r8]
            refine float2 (.map (some p'.mb)) (fun h' hC => by obtain ⟨q1, q4⟩ := hC; simp -implicitDefEqProofs (disch := omega) [go_sem, r0, r1, q1]) ?_
            simp -implicitDefEqProofs (disch := omega) [go_sem, r0, r1, r8]
            refine float2 (.map (some p'.mb)) (fun h' hC => by obtain ⟨q1, q4⟩ := hC; simp -implicitDefEqProofs (disch := omega) [go_sem, r0, r1, q1]) ?_
            simp -implicitDefEqProofs (disch := omega) [go_sem, r0, r1, r8]
            refine float2 (.slice A (s'.W lit).length cap) (fun h' hC => by obtain ⟨q1, q4⟩ := hC; simp -implicitDefEqProofs (disch := omega) [go_sem, r0, r1, q4]) ?_
            simp -implicitDefEqProofs (disch := omega) [go_sem, r0, r1, r8]
            refine build1 rfl rfl ?_
            have hC' : ∀ h', Fr (fun y => p'.c y = some (.wat lit)) h4 h' → hcell h' ⟨bb, 2, none⟩ = some (.map (some p'.mb)) ∧ lookV Try.prog 108 (.map (some p'.mb)) (.int .i64 lit) false h' = some (.slice A (s'.W lit).length cap) := fun h' f =>
              ⟨(f.cell (hcell_lt s24) (by rw [M4.cB]; exact fun h => (nomatch h))).trans s24, by rw [← hcu]; exact (M4.M.fr f (by rw [M4.cM]; exact fun h => (nomatch h))).look mapT_w zero_w lit⟩
            have f6 : Fr (fun y => p'.c y = some (.wat lit)) h4 (h4.push (.cells #[.int .i64 id] 3)) := (Fr.refl _ _).push
            refine ⟨hC' _ f6, ?_⟩
            simp -implicitDefEqProofs (disch := omega) [go_sem, r0, r1, r8]
            refine appendQ (vs := ids (s'.W lit)) (ws := [.int .i64 (id : Int)]) (SA4.fr ((Fr.refl (fun _ => False) h4).push) (fun _ _ h => h)) (by rw [ids_len]) (SlAt.new (vs := [.int .i64 (id : Int)])).row rfl (by simp [Value.oneCell']) (by omega) (by omega) ?_
            intro A7 cap7 h7 S7 f7 hA7
            have f67 : Fr (fun y => p'.c y = some (.wat lit)) h4 h7 := f6.trans (f7.mono fun y _ hy => hcA4 y hy)
            have hAn : ∀ y, blk A y → h1.size ≤ y := FL.cur A _ _ hcu
            have R7 : RowAt h7 (some ⟨bk0, off0, none⟩) (ids L) := (R4.fr0 ((Fr.refl (fun _ => False) h4).push)).fr f7 fun y hy hb => by
              obtain ⟨a, ha, rfl⟩ := hy
              cases ha
              have := hAn _ hb; simp at this; omega
            refine ⟨hC' _ f67, ?_⟩
            simp -implicitDefEqProofs (disch := omega) [go_sem, r0, r1, r8]
            have M7 := M4.M.fr f67 (by rw [M4.cM]; exact fun h => (nomatch h))
            refine M7.up mapT_w fun h8 M8 f8 => ?_
            have ei : ids (s'.W lit) ++ [.int .i64 (id : Int)] = ids (s'.W lit ++ [id]) := by rw [ids_append]; rfl
            rw [ei] at S7
            have hlen7 : (s'.W lit ++ [id]).length = (s'.W lit).length + 1 := by simp
            have R8 : RowAt h8 (some ⟨bk0, off0, none⟩) (ids L) := R7.fr f8 fun y hy hb => by
              obtain ⟨a, ha, rfl⟩ := hy
              cases ha
              have hb' : bk0 = p'.mb := hb
              rw [hb', M4.cM] at hc0'; cases hc0'
            have hA7n : ∀ y, blk A7 y → h1.size ≤ y := fun y hy => (hA7 y hy).elim (hAn y) fun h => by rw [push_size] at h; omega
            obtain ⟨p8, MB8, st8, heb8, hf8, hmb8⟩ := M4.wat (x := lit) (w := s'.W lit ++ [id]) f67 S7 (fun y hy => (hA7 y hy).elim (fun h => .inl (hcA4 y h)) fun h => .inr (by rw [push_size] at h; omega)) (by rw [hlen7]; exact M8) f8
            have st48 : Stp p' p8 h3 h8 := (Stp.fr0 f4).trans st8
            simp -implicitDefEqProofs (disch := omega) [go_sem, r0, r1, r6, r7, r8, r9, r10, r23, r24, r25]
            have s08 := MB8.B.at' 0 _ rfl
            simp -implicitDefEqProofs (disch := omega) [go_sem, r0, r1, r6, r7, r8, r9, r10, r23, r24, r25, s08]
            refine useC (ttruth_ok MB8.T (x := o) (by omega) (by omega)) ?_
            rintro _ h9 ⟨rfl, rfl⟩
            have hcur8 : ∀ A n c, (p8.f lit).getD (.slice none 0 0) = .slice A n c → ∀ y, blk A y → h1.size ≤ y := fun A n c hA y hy => by
              rw [hf8] at hA
              simp only [if_true, Option.getD_some] at hA
              cases hA
              exact hA7n y hy
            have hhd : s'.head = s.head := FL.hd
            rcases trI_cases s'.l o with t1 | t1 | t1
            · have Fk := F.keep he ⟨o, oin, t1⟩
              have t1' : trI { s' with W := updW s'.W lit (s'.W lit ++ [id]) }.l o = 1 := t1
              simp -implicitDefEqProofs (disch := omega) [go_sem, r0, r1, r6, r7, r8, r9, r10, r23, r24, r25, t1]
              exact ⟨⟨i + 1, by omega, by omega, p8, _, ⟨MB8, Fk, FL.st.trans st48, FL.adv.trans ⟨rfl, rfl, rfl, .refl _⟩, FL.hd, heb8.trans FL.eb, R8, hcur8⟩⟩, by omega⟩
            · have R9 := R8.drop (cap := cap0) (i := i + 1) (by rw [ids_len]; exact hcap0)
              have s28 := MB8.B.at' 2 _ rfl
              obtain ⟨A9, cap9, hcu9, SA9, hcA9⟩ := (MB8.W lit).cur
              have hW9 : ({ s' with W := updW s'.W lit (s'.W lit ++ [id]) } : WS).W lit = s'.W lit ++ [id] := updW_same _ _ _
              rw [hW9] at hcu9 SA9
              have lk9 := MB8.look lit
              rw [hcu9] at lk9
              have hfail : FailAt s'.l e.lits := fun x hx => by
                by_cases ex : x = o
                · rw [ex]; exact t1
                · exact hno' x hx ex
              have hdl : (L.drop (i + 1)).length = L.length - (i + 1) := List.length_drop ..
              simp -implicitDefEqProofs (disch := omega) [go_sem, r0, r1, r6, r7, r8, r9, r10, r23, r24, r25, t1]
              refine drawC [(0, 0), (1, 0), (2, 0), (3, 2), (4, 0), (5, 0), (6, 0), (7, 0), (8, 1), (9, 0), (10, 1), (11, 0), (12, 0), (13, 0), (14, 0), (15, 3), (16, 4)] (fun h' => hcell h' ⟨bb, 2, none⟩ = some (.map (some p8.mb))) mixed (by kernel_rfl) s28 ?_
              simp -implicitDefEqProofs (disch := omega) [go_sem, r0, r1, r6, r7, r8]
              refine float2 (.map (some p8.mb)) (fun h' hC => by simp -implicitDefEqProofs (disch := omega) [go_sem, r0, r1, hC]) ?_
              simp -implicitDefEqProofs (disch := omega) [go_sem, r0, r1, r6, r7, r8, s28, lk9]
              have e13 : ((i : Int) + 1).toNat = i + 1 := by omega
              simp only [Nat.mul_one] at R9
              have e14 : ids (L.drop (i + 1)) = (ids L).drop (i + 1) := by unfold ids; rw [List.map_drop]
              have R9' := R9
              rw [← e14] at R9'
              refine appendQ (vs := ids (s'.W lit ++ [id])) (ws := ids (L.drop (i + 1))) SA9 (by rw [ids_len]; simp) R9' (by rw [ids_len, hdl]) ids_one (by omega) (by omega) ?_
              intro A11 cap11 h11 S11 f11 hA11
              have g11 : Fr (fun y => p8.c y = some (.wat lit)) h9 h11 := f11.mono fun y _ hy => hcA9 y hy
              refine ⟨(g11.cell (hcell_lt s28) (by rw [MB8.cB]; exact fun h => (nomatch h))).trans s28, ?_⟩
              simp -implicitDefEqProofs (disch := omega) [go_sem, r0, r1, r6, r7, r8]
              have M11 := MB8.M.fr g11 (by rw [MB8.cM]; exact fun h => (nomatch h))
              refine M11.up mapT_w fun h12 M12 f12 => ?_
              rw [← ids_append] at S11
              have hl12 : ((s'.W lit ++ [id]) ++ L.drop (i + 1)).length = (s'.W lit).length + 1 + (L.length - (i + 1)) := by rw [List.length_append, List.length_append, hdl]; rfl
              obtain ⟨p12, MB12, st12, heb12, _⟩ := MB8.wat (x := lit) (w := (s'.W lit ++ [id]) ++ L.drop (i + 1)) g11 S11 (fun y hy => (hA11 y hy).imp_left (hcA9 y)) (by rw [hl12]; simpa using M12) f12
              have If := F.fail
              simp -implicitDefEqProofs (disch := omega) [go_sem, r0, r1, r6, r7, r8, r9, r10, r23, r24, r25]
              exact ⟨p12, _, MB12, ((st1.trans FL.st).trans st48).trans st12, F.td, FL.hd, hadv.trans ⟨rfl, rfl, rfl, .refl _⟩, by first | exact ⟨id, rfl, e, he, hg, hfail, If⟩ | exact ⟨id, e, rfl, he, hg, hfail, If⟩ | exact ⟨id, ⟨rfl, e, he, hg, hfail⟩, If⟩⟩
            · have hu : UnitAt s'.l e.lits o := ⟨oin, t1, hno'⟩
              simp -implicitDefEqProofs (disch := omega) [go_sem, r0, r1, r6, r7, r8, r9, r10, r23, r24, r25, t1, s08]
              refine useC (tpush_ok MB8.T (x := o) (r := (id : Int)) (by omega) (by omega)) ?_
              rintro _ h10 ⟨rfl, O5, T5, nx5⟩
              have hfn : find s'.l o.natAbs = none := by
                cases h : find s'.l o.natAbs with
                | none => rfl
                | some k =>
                  obtain ⟨t, ht', h2, _⟩ := find_some h
                  have := tr_at hgood ht' (x := o) h2.symm
                  rw [t1] at this
                  split at this <;> omega
              have hpe : pushE s'.vars s'.l o (id : Int) = 0 := by
                unfold pushE varI
                rw [if_pos hor, if_neg (by omega), hfn]; rfl
              have T5' : TrailOk h10 p8.tb O5 s'.vars (s'.l ++ [⟨o, id, s'.level⟩]) s'.level := by
                rw [← show pushL s'.vars s'.l o (id : Int) s'.level = s'.l ++ [⟨o, id, s'.level⟩] from if_pos hpe]; exact T5
              obtain ⟨p10, M10, st10, heb10, hf10, hmb10⟩ := MB8.trail T5' nx5
              have Fk := F.keepPush he hg hu (by omega)
              have R10 : RowAt h10 (some ⟨bk0, off0, none⟩) (ids L) := R8.fr nx5.fr fun y hy hb => by
                obtain ⟨a, ha, rfl⟩ := hy
                cases ha
                have h1 := st48.ext _ _ hc0'
                rw [MB8.cT _ hb] at h1; cases h1
              simp -implicitDefEqProofs (disch := omega) [go_sem, r0, r1, r6, r7, r8, r9, r10, r23, r24, r25]
              exact ⟨⟨i + 1, by omega, by omega, p10, _, ⟨M10, Fk, (FL.st.trans st48).trans st10, FL.adv.trans ⟨rfl, rfl, rfl, .step (.refl _) (by have := absC_at he; rw [hg] at this; exact this) hu⟩, FL.hd, (heb10.trans heb8).trans FL.eb, R10, by rw [hf10]; exact hcur8⟩⟩, by omega⟩
          · rw [hj]
            unfold freeP at hpz
            rw [Bool.and_eq_true, decide_eq_true_eq, decide_eq_true_eq] at hpz
            have hzzl : zz ≠ lit := fun h => by rw [h, hfal] at hpz; omega
            have hjl := (List.getElem?_eq_some_iff.1 hzz).1
            have ER4 : RowAt h4 (some ⟨ebk, eoff, none⟩) (ints e.lits) := (RowAt.fr0 (.inr ⟨ebk, eoff, rfl, ehc⟩) f4)
            simp -implicitDefEqProofs (disch := omega) [go_sem, r0, r1, r6, r7, r8, r9, r10, r23, r24, r25, e04]
            refine useC (index_ok ER4 rfl (by omega) o) ?_
            rintro _ h5 ⟨rfl, rfl⟩
            rcases idxF_cases (fun y => decide (o = y)) e.lits with ⟨_, hn⟩ | ⟨i', x', hi', hx', hpx⟩
            · have := hn o oin; simp at this
            · rw [hi']
              have hox : o = x' := of_decide_eq_true hpx
              rw [← hox] at hx'
              have hil' := (List.getElem?_eq_some_iff.1 hx').1
              obtain ⟨EA4, Ecap4, EB4, _, _⟩ := (M4.E id e he).ex
              have e1c := EB4.at' 1 _ rfl
              have eBf := EB4.fz
              have M5 := M4.setA he (i := i') (j := j) (by omega) (by omega)
              have st5 : Stp p' p' h3 (hset h5 ⟨p'.eb id, 1, none⟩ (.complex .f64 (Fx.enc i') (Fx.enc j))) := (Stp.fr0 f4).trans (stp_set M4 hcb)
              have R5 : RowAt (hset h5 ⟨p'.eb id, 1, none⟩ (.complex .f64 (Fx.enc i') (Fx.enc j))) (some ⟨bk0, off0, none⟩) (ids L) := R4.fr (S := fun y => y = p'.eb id) ((Fr.refl _ _).set rfl) fun y hy hb => by
                obtain ⟨a, ha, rfl⟩ := hy
                cases ha
                have hb' : bk0 = p'.eb id := hb
                rw [hb', hcb] at hc0'; cases hc0'
              obtain ⟨h6, e6⟩ : ∃ h6, h6 = hset h5 ⟨p'.eb id, 1, none⟩ (.complex .f64 (Fx.enc i') (Fx.enc j)) := ⟨_, rfl⟩
              have z56 : h6.size = h5.size := by rw [e6, hset_size]
              have he5 : (setE s'.cs id i' j)[id]? = some { e with a1 := i', a2 := j } := by rw [setE_at he, if_pos rfl]
              have e06 : hcell h6 ⟨p'.eb id, 0, none⟩ = some (.slice (some ⟨ebk, eoff, none⟩) e.lits.length Ecap) := by
                rw [e6, hcell_hset, if_neg (by omega)]; exact e04
              have ebne : ebk ≠ p'.eb id := fun h => by rw [h, hcb] at ccon; cases ccon
              have cw : hcell h6 ⟨ebk, eoff + j, none⟩ = some (.int .i64 zz) := by
                rw [e6, hcell_hset, if_neg (fun h => ebne h.1)]
                exact (f4.cell (hcell_lt (ehc j _ (ints_at hzz))) (fun h => h)).trans (ehc j _ (ints_at hzz))
              rw [← e6] at M5 st5 R5
              have s26 := M5.B.at' 2 _ rfl
              obtain ⟨A, cap, hcu, SA6, hcA6⟩ := (M5.W zz).cur
              have lk6 := M5.look zz
              rw [hcu] at lk6
              have hWz : ({ s' with cs := setE s'.cs id i' j } : WS).W zz = s'.W zz := rfl
              rw [hWz] at hcu SA6 lk6
              have hwz : (s'.W zz).length ≤ s'.cs.length := by
                have := F.inv.wlen zz
                have h2 : (updW s'.W lit (s'.W lit ++ id :: L.drop (i + 1)) zz).length ≤ s'.cs.length := this
                rwa [updW_other _ _ hzzl] at h2
              simp -implicitDefEqProofs (disch := omega) [go_sem, r0, r1, r6, r7, r8, r9, r10, r23, r24, r25, e1c, eBf]
              refine drawC [(0, 0), (1, 0), (2, 0), (3, 2), (4, 0), (5, 0), (6, 0), (7, 2), (8, 0), (9, 0), (10, 2), (11, 0), (12, 0), (13, 0), (14, 2), (15, 0), (16, 0), (17, 0), (18, 2), (19, 0), (20, 0), (21, 2), (22, 2), (23, 0), (24, 3), (25, 3), (26, 4)] (fun h' => hcell h' ⟨bb, 2, none⟩ = some (.map (some p'.mb)) ∧ hcell h' ⟨p'.eb id, 0, none⟩ = some (.slice (some ⟨ebk, eoff, none⟩) e.lits.length Ecap) ∧ hcell h' ⟨ebk, eoff + j, none⟩ = some (.int .i64 zz) ∧
                lookV Try.prog 108 (.map (some p'.mb)) (.int .i64 zz) false h' = some (.slice A (s'.W zz).length cap)) mixed (by kernel_rfl) (by rw [← e6]; exact ⟨s26, e06, cw, lk6⟩) ?_
              rw [← e6]
              simp -implicitDefEqProofs (disch := omega) [go_sem, r0, r1, r8, r9]
              refine float2 (.map (some p'.mb)) (fun h' hC => by obtain ⟨q1, q2, q3, q4⟩ := hC; simp -implicitDefEqProofs (disch := omega) [go_sem, r0, r1, r8, r9, q1]) ?_
              simp -implicitDefEqProofs (disch := omega) [go_sem, r0, r1, r8, r9]
              refine float2 (.slice (some ⟨ebk, eoff, none⟩) e.lits.length Ecap) (fun h' hC => by obtain ⟨q1, q2, q3, q4⟩ := hC; simp -implicitDefEqProofs (disch := omega) [go_sem, r0, r1, r8, r9, q2]) ?_
              simp -implicitDefEqProofs (disch := omega) [go_sem, r0, r1, r8, r9]
              refine float2 (.int .i64 zz) (fun h' hC => by obtain ⟨q1, q2, q3, q4⟩ := hC; simp -implicitDefEqProofs (disch := omega) [go_sem, r0, r1, r8, r9, q3]) ?_
              simp -implicitDefEqProofs (disch := omega) [go_sem, r0, r1, r8, r9]
              refine float2 (.map (some p'.mb)) (fun h' hC => by obtain ⟨q1, q2, q3, q4⟩ := hC; simp -implicitDefEqProofs (disch := omega) [go_sem, r0, r1, r8, r9, q1]) ?_
              simp -implicitDefEqProofs (disch := omega) [go_sem, r0, r1, r8, r9]
              refine float2 (.slice (some ⟨ebk, eoff, none⟩) e.lits.length Ecap) (fun h' hC => by obtain ⟨q1, q2, q3, q4⟩ := hC; simp -implicitDefEqProofs (disch := omega) [go_sem, r0, r1, r8, r9, q2]) ?_
              simp -implicitDefEqProofs (disch := omega) [go_sem, r0, r1, r8, r9]
              refine float2 (.int .i64 zz) (fun h' hC => by obtain ⟨q1, q2, q3, q4⟩ := hC; simp -implicitDefEqProofs (disch := omega) [go_sem, r0, r1, r8, r9, q3]) ?_
              simp -implicitDefEqProofs (disch := omega) [go_sem, r0, r1, r8, r9]
              refine float2 (.slice A (s'.W zz).length cap) (fun h' hC => by obtain ⟨q1, q2, q3, q4⟩ := hC; simp -implicitDefEqProofs (disch := omega) [go_sem, r0, r1, r8, r9, q4]) ?_
              simp -implicitDefEqProofs (disch := omega) [go_sem, r0, r1, r8, r9]
              refine build1 rfl rfl ?_
              have hC' : ∀ h', Fr (fun y => p'.c y = some (.wat zz)) h6 h' → hcell h' ⟨bb, 2, none⟩ = some (.map (some p'.mb)) ∧ hcell h' ⟨p'.eb id, 0, none⟩ = some (.slice (some ⟨ebk, eoff, none⟩) e.lits.length Ecap) ∧ hcell h' ⟨ebk, eoff + j, none⟩ = some (.int .i64 zz) ∧
                  lookV Try.prog 108 (.map (some p'.mb)) (.int .i64 zz) false h' = some (.slice A (s'.W zz).length cap) := fun h' f =>
                ⟨(f.cell (hcell_lt s26) (by rw [M5.cB]; exact fun h => (nomatch h))).trans s26, (f.cell (hcell_lt e06) (by rw [hcb]; exact fun h => (nomatch h))).trans e06, (f.cell (hcell_lt cw) (by rw [ccon]; exact fun h => (nomatch h))).trans cw,
                  by rw [← hcu]; exact (M5.M.fr f (by rw [M5.cM]; exact fun h => (nomatch h))).look mapT_w zero_w zz⟩
              have f6 : Fr (fun y => p'.c y = some (.wat zz)) h6 (h6.push (.cells #[.int .i64 id] 3)) := (Fr.refl _ _).push
              refine ⟨hC' _ f6, ?_⟩
              simp -implicitDefEqProofs (disch := omega) [go_sem, r0, r1, r8, r9]
              refine appendQ (vs := ids (s'.W zz)) (ws := [.int .i64 (id : Int)]) (SA6.fr ((Fr.refl (fun _ => False) h6).push) (fun _ _ h => h)) (by rw [ids_len]) (SlAt.new (vs := [.int .i64 (id : Int)])).row rfl (by simp [Value.oneCell']) (by omega) (by omega) ?_
              intro A7 cap7 h7 S7 f7 hA7
              have f67 : Fr (fun y => p'.c y = some (.wat zz)) h6 h7 := f6.trans (f7.mono fun y _ hy => hcA6 y hy)
              have R7 : RowAt h7 (some ⟨bk0, off0, none⟩) (ids L) := R5.fr f67 fun y hy hb => by
                obtain ⟨a, ha, rfl⟩ := hy
                cases ha
                have hb' : p'.c bk0 = some (.wat zz) := hb
                rw [hc0'] at hb'
                have := Option.some.inj hb'
                cases this
                exact hzzl rfl
              refine ⟨hC' _ f67, ?_⟩
              simp -implicitDefEqProofs (disch := omega) [go_sem, r0, r1, r8, r9]
              have M7 := M5.M.fr f67 (by rw [M5.cM]; exact fun h => (nomatch h))
              refine M7.up mapT_w fun h8 M8 f8 => ?_
              have ei : ids (s'.W zz) ++ [.int .i64 (id : Int)] = ids (s'.W zz ++ [id]) := by rw [ids_append]; rfl
              rw [ei] at S7
              have hlen7 : (s'.W zz ++ [id]).length = (s'.W zz).length + 1 := by simp
              have R8 : RowAt h8 (some ⟨bk0, off0, none⟩) (ids L) := R7.fr f8 fun y hy hb => by
                obtain ⟨a, ha, rfl⟩ := hy
                cases ha
                have hb' : bk0 = p'.mb := hb
                rw [hb', M4.cM] at hc0'; cases hc0'
              obtain ⟨p8, MB8, st8, heb8, hf8, hmb8⟩ := M5.wat (x := zz) (w := s'.W zz ++ [id]) f67 S7 (fun y hy => (hA7 y hy).elim (fun h => .inl (hcA6 y h)) fun h => .inr (by rw [push_size] at h; omega)) (by rw [hlen7]; exact M8) f8
              have Fm := F.move he hg hx' hzz (Ne.symm hpz.2) hol hzzl hoW (fun w hw => by
                rcases hpairw w hw with h | h
                · rw [h]; exact Ne.symm hzzl
                · rw [h]; exact Ne.symm hpz.2) (by omega)
              simp -implicitDefEqProofs (disch := omega) [go_sem, r0, r1, r6, r7, r8, r9, r10, r23, r24, r25]
              exact ⟨⟨i + 1, by omega, by omega, p8, _, ⟨MB8, Fm, (FL.st.trans st5).trans st8, FL.adv.trans ⟨rfl, rfl, absC_setE _ _ _ _, .refl _⟩, FL.hd, heb8.trans FL.eb, R8, by
                rw [hf8]
                simp only [if_neg (Ne.symm hzzl)]
                exact FL.cur⟩⟩, by omega⟩
end
end Xe
